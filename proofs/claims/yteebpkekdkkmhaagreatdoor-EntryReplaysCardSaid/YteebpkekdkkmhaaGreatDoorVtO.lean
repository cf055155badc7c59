/- Arrays: built, indexed, in boxes. No conditions. -/
import Derived.Test.YteebpkekdkkmhaaGreatDoorVtN
namespace Go.Vt
theorem ldv_of {i : TI} {cs es : List Value} {base f : Nat} {v : Value} (h2 : ∀ j, j < es.length → cs[base + j]? = es[j]?) (hv : ldv i es f = some v) : ldv i cs (base + f) = some v := by
  unfold ldv at hv ⊢
  cases hi : isA i with
  | true =>
    simp only [hi] at hv ⊢
    cases hs' : seg es f i.size with
    | none => simp [hs'] at hv
    | some vs =>
      simp [hs'] at hv; subst hv
      have key : ∀ (k o : Nat) (us : List Value), seg es o k = some us → seg cs (base + o) k = some us := by
        intro k
        induction k with
        | zero => intro o us h; simpa [seg] using h
        | succ k ih =>
          intro o us h
          simp only [seg] at h ⊢
          cases hc : es[o]? with
          | none => rw [hc] at h; cases h
          | some u =>
            rw [hc] at h
            have ho : o < es.length := (List.getElem?_eq_some_iff.1 hc).1
            rw [h2 o ho, hc]
            cases hr : seg es (o + 1) k with
            | none => simp [hr] at h
            | some us' =>
              simp [hr] at h
              have := ih (o + 1) us' hr
              rw [← Nat.add_assoc] at this
              simp [this, h]
      rw [key _ _ _ hs']
  | false =>
    simp only [hi] at hv ⊢
    have ho : f < es.length := (List.getElem?_eq_some_iff.1 hv).1
    rw [h2 f ho]; exact hv
section
variable {E : Env} {ro : Option Nat} {N : Nat} {ds : List Deferred} {T : List (Nat × Value)} {H R : List HP} {g : Gw} {K : Value → List HP → Prop} {d : Option Tmp} {ty : TypeId} {pos : String} {af : Array Edge} {gd : Option (Nat × Bool)}
theorem o_buildA {t el n : Nat} {parts : List (Nat × Operand)} {pvs : List (Nat × Value)} {i j : TI} {cs : List Value} (ht : lk E.tt t = some i) (hu : i.und = .array n el) (hj : lk E.tt el = some j)
    (hx : evp T parts = some pvs) (hc : fillL (fun q => some (q * j.size, j.size)) i.zero.cells.toList pvs = some cs) (k : K (.agg cs.toArray) H) : OPW E ro N ds T H g ⟨d, .build t parts.toArray, ty, pos, af, gd⟩ K := by
  refine opw_value rfl fun a w t' s => ⟨_, w, H, ?_, k, s⟩
  have he : (parts.toArray.map fun (i, x) => (i, a.eval x)).toList = pvs := by rw [← evp_eval t' hx]; simp
  have hf : Instr.fill (fun q => some (q * j.size, j.size)) i.zero.cells pvs = some cs.toArray := fill_of pvs _ _ (by simpa using hc)
  simp only [execOp, Instr.build, Sem.run_bind, run_zero E ht, run_und E ht, Result.andThen, hu, run_size E hj, he, hf, Sem.run_pure]
theorem flat_seg {τ : Type} [Inhabited τ] {e : En τ} {l : List τ} {n : Int} (hb : (0 : Int) ≤ n ∧ n < l.length) : ∀ j, j < (e.enc (rd l n)).length → (l.flatMap e.enc)[n.toNat * e.sz + j]? = (e.enc (rd l n))[j]? := fun j hj =>
  flat_at e l n.toNat j _ (rd_eq hb) (by rw [← e.len (rd l n)]; exact hj)
theorem o_aidx {τ : Type} [Inhabited τ] {e : En τ} {l : List τ} {t el m : Nat} {x y : Operand} {i j : TI} {cs : List Value} {k' : IntKind} {n : Int} {v : Value} (hx : ev T x = some (.agg cs.toArray)) (hcs : cs = l.flatMap e.enc) (hy : ev T y = some (.int k' n)) (ht : lk E.tt t = some i) (hi : i.und = .array m el) (hm : m = l.length) (hj : lk E.tt el = some j) (hz : j.size = e.sz)
    (hb : (0 : Int) ≤ n ∧ n < (l.length : Int)) (hv : ldv j (e.enc (rd l n)) 0 = some v) (k : K v H) : OPW E ro N ds T H g ⟨d, .index t x y, ty, pos, af, gd⟩ K := by
  refine opw_value rfl fun a w t' s => ⟨_, w, H, ?_, k, s⟩
  subst hcs hm
  have h1 := ldv_of (cs := l.flatMap e.enc) (flat_seg hb) hv
  simp only [execOp, t'.ev hx, t'.ev hy, Instr.index, asIntOf, Sem.run_bind, Sem.run_pure, Result.andThen, run_und E ht, hi, if_pos hb, run_size E hj, hz]
  rw [run_part E hj (off := n.toNat * e.sz) (by simpa using h1)]
theorem o_ixA {τ : Type} {e : En τ} {t el m b off : Nat} {x y : Operand} {i j : TI} {k' : IntKind} {n : Int} (hx : ev T x = some (.pointer (some ⟨b, off, none⟩))) (hy : ev T y = some (.int k' n)) (ht : lk E.tt t = some i) (hi : i.und = .array m el) (hj : lk E.tt el = some j) (hz : j.size = e.sz)
    (hb : (0 : Int) ≤ n ∧ n < (m : Int)) (k : K (.pointer (some ⟨b, off + n.toNat * e.sz, none⟩)) H) : OPW E ro N ds T H g ⟨d, .indexAddr t x y, ty, pos, af, gd⟩ K := by
  refine opw_value rfl fun a w t' s => ⟨_, w, H, ?_, k, s⟩
  simp only [execOp, t'.ev hx, t'.ev hy, Instr.indexAt, asIntOf, Sem.run_bind, Sem.run_pure, Result.andThen, run_und E ht, hi, Instr.sureAddr, if_pos hb, run_size E hj, hz, addr_add]
theorem o_ldA {τ : Type} [Inhabited τ] {e : En τ} {l : List τ} {t b off f : Nat} {x : Operand} {el : TypeId} {fr : Nat × Nat} {c1 c2 : List Value} {i : TI} {n : Int} {v : Value} (hx : ev T x = some (.pointer (some ⟨b, off + n.toNat * e.sz + f, none⟩))) (ho : c1.length = off) (hm : Rem (blk b (.cells (c1 ++ l.flatMap e.enc ++ c2).toArray el fr)) H R)
    (hb : (0 : Int) ≤ n ∧ n < (l.length : Int)) (ht : lk E.tt t = some i) (hv : ldv i (e.enc (rd l n)) f = some v) (k : K v H) : OPW E ro N ds T H g ⟨d, .load t x, ty, pos, af, gd⟩ K := by
  refine opw_value rfl fun a w t' s => ⟨v, w, H, ?_, k, s⟩
  have hbw := HS.at (s.perm hm.perm)
  have hlt : ∀ j, j < (e.enc (rd l n)).length → (c1 ++ l.flatMap e.enc ++ c2)[off + n.toNat * e.sz + j]? = (e.enc (rd l n))[j]? := fun j hj => by
    have h1 := flat_seg (e := e) hb j hj
    have hin : n.toNat * e.sz + j < (l.flatMap e.enc).length := by
      have : (l.flatMap e.enc)[n.toNat * e.sz + j]? = some (e.enc (rd l n))[j] := by rw [h1]; simp [hj]
      exact (List.getElem?_eq_some_iff.1 this).1
    rw [List.append_assoc, Nat.add_assoc, List.getElem?_append_right (by omega), ho, Nat.add_sub_cancel_left, List.getElem?_append_left hin]
    exact h1
  have h1 := ldv_of hlt hv
  simp only [execOp, t'.ev hx, Instr.loadAt, Instr.sureAddr, Sem.run_bind, Sem.run_pure, Result.andThen, run_loadVar E ht hbw h1]
end
end Go.Vt
