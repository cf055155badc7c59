/- Boxes: loads, stores, new blocks, structs by value. No conditions. -/
import Derived.Test.YteebpkekdkkmhaaGreatDoorVtC
namespace Go.Vt
/-! ### memory, plainly -/
theorem run_load_at {P : Program} {w : World} {a : Addr} {v : Value} (h : w.cell? a = some v) : (load a).run P w = .ok v w := by
  simp [load, Sem.run, h]
theorem run_store_at {P : Program} {w : World} {a : Addr} {v u : Value} (h : w.cell? a = some u) (hf : w.frozen? a = false) (hv : v.oneCell' = true) : (store a v).run P w = .ok () (w.setCell a v) := by
  cases v <;> first | (cases hv; done) | simp [store, Sem.run, h, hf]
theorem addr_add (b off n : Nat) : (Addr.add ⟨b, off, none⟩ n) = ⟨b, off + n, none⟩ := by
  unfold Addr.add; split <;> simp_all
def seg (cs : List Value) (off : Nat) : Nat → Option (List Value)
  | 0 => some []
  | n + 1 => match cs[off]? with
    | some v => match seg cs (off + 1) n with
      | some r => some (v :: r)
      | none => none
    | none => none
theorem run_loadCellsFrom {P : Program} {w : World} {b off : Nat} {f : Nat × Nat} {cs : List Value} {e : TypeId} (hb : w.heap[b]? = some (.cells cs.toArray e f)) :
    ∀ (n i : Nat) (acc : Array Value) (vs : List Value), seg cs (off + i) n = some vs → (loadCellsFrom ⟨b, off, none⟩ i n acc).run P w = .ok (acc ++ vs.toArray) w
  | 0, i, acc, vs, h => by simp [seg] at h; simp [loadCellsFrom, ← h]
  | n + 1, i, acc, vs, h => by
    simp only [seg] at h
    cases hc : cs[off + i]? with
    | none => rw [hc] at h; cases h
    | some v =>
      rw [hc] at h
      cases hr : seg cs (off + i + 1) n with
      | none => simp [hr] at h
      | some r =>
        simp [hr] at h
        subst h
        have h1 : w.cell? ⟨b, off + i, none⟩ = some v := by rw [cell_of w b _ _ _ _ hb]; simpa using hc
        simp only [loadCellsFrom, addr_add, Sem.run_bind, run_load_at h1, Result.andThen]
        rw [run_loadCellsFrom hb n (i + 1) _ r (by rw [← hr]; rfl)]
        simp
theorem run_loadCells {P : Program} {w : World} {b off n : Nat} {f : Nat × Nat} {cs vs : List Value} {e : TypeId} (hb : w.heap[b]? = some (.cells cs.toArray e f)) (h : seg cs off n = some vs) :
    (loadCells ⟨b, off, none⟩ n).run P w = .ok vs.toArray w := by
  unfold loadCells; rw [run_loadCellsFrom hb n 0 #[] vs h]; simp
def ldv (i : TI) (cs : List Value) (off : Nat) : Option Value := match isA i with
  | true => match seg cs off i.size with
    | some s => some (.agg s.toArray)
    | none => none
  | false => cs[off]?
theorem run_loadVar (E : Env) {t : Nat} {i : TI} (ht : lk E.tt t = some i) {w : World} {b off : Nat} {f : Nat × Nat} {cs : List Value} {e : TypeId} {v : Value} (hb : w.heap[b]? = some (.cells cs.toArray e f))
    (h : ldv i cs off = some v) : (loadVar t ⟨b, off, none⟩).run E.P w = .ok v w := by
  simp only [loadVar, Sem.run_bind, run_isAgg E ht, Result.andThen]
  unfold ldv at h
  cases hi : isA i with
  | true =>
    simp only [hi] at h
    cases hs : seg cs off i.size with
    | none => simp [hs] at h
    | some vs =>
      simp [hs] at h; subst h
      simp [run_size E ht, Result.andThen, run_loadCells hb hs]
  | false =>
    simp only [hi] at h
    have h1 : w.cell? ⟨b, off, none⟩ = some v := by rw [cell_of w b _ _ _ _ hb]; simpa using h
    simp [run_load_at h1]
def putSeg (cs : List Value) (off : Nat) : List Value → List Value
  | [] => cs
  | v :: r => putSeg (cs.set off v) (off + 1) r
theorem putSeg_length : ∀ (vs cs : List Value) (off : Nat), (putSeg cs off vs).length = cs.length
  | [], _, _ => rfl
  | v :: r, cs, off => by simp [putSeg, putSeg_length r]
theorem run_storeCells {P : Program} {b off : Nat} {e : TypeId} : ∀ (vs cs : List Value) (i : Nat) (w : World), w.heap[b]? = some (.cells cs.toArray e (0, 0)) → off + i + vs.length ≤ cs.length → (vs.all (·.oneCell')) = true →
    ∃ w', (storeCells ⟨b, off, none⟩ vs i).run P w = .ok () w' ∧ w'.heap = w.heap.setIfInBounds b (.cells (putSeg cs (off + i) vs).toArray e (0, 0)) ∧ Out w w'
  | [], cs, i, w, hb, _, _ => ⟨w, rfl, ⟨by
      obtain ⟨h1, h2⟩ := Array.getElem?_eq_some_iff.1 hb
      apply Array.ext
      · simp
      · intro j hj1 hj2
        rw [Array.getElem_setIfInBounds hj1]
        by_cases hbj : b = j
        · subst hbj; simp [h2, putSeg]
        · simp [hbj], Out.refl _⟩⟩
  | v :: r, cs, i, w, hb, hl, ho => by
    simp only [List.length_cons] at hl
    have hlt : off + i < cs.length := by omega
    have h1 : w.cell? ⟨b, off + i, none⟩ = some (cs[off + i]) := by rw [cell_of w b _ _ _ _ hb]; simp [hlt]
    simp only [List.all_cons, Bool.and_eq_true] at ho
    have hs : (w.setCell ⟨b, off + i, none⟩ v).heap = w.heap.setIfInBounds b (.cells (cs.set (off + i) v).toArray e (0, 0)) := by
      rw [heap_setCell w ⟨b, off + i, none⟩ v _ _ _ hb rfl]; simp
    have hb' : (w.setCell ⟨b, off + i, none⟩ v).heap[b]? = some (.cells (cs.set (off + i) v).toArray e (0, 0)) := by
      rw [hs]; have := (Array.getElem?_eq_some_iff.1 hb).1; simp [this]
    obtain ⟨w', hr, hw, hot⟩ := run_storeCells (P := P) (off := off) r (cs.set (off + i) v) (i + 1) _ hb' (by rw [List.length_set]; omega) ho.2
    refine ⟨w', ?_, ?_, Out.trans (b := w.setCell ⟨b, off + i, none⟩ v) ⟨rfl, rfl, rfl⟩ hot⟩
    · simp only [storeCells, addr_add, Sem.run_bind, run_store_at h1 (frozen_of w b _ _ _ hb) ho.1, Result.andThen]
      exact hr
    · rw [hw, hs, Array.setIfInBounds_setIfInBounds]; simp [putSeg, Nat.add_assoc]
theorem run_storeVar (E : Env) {t : Nat} {i : TI} (ht : lk E.tt t = some i) {w : World} {b off : Nat} {cs vs : List Value} {e : TypeId} {v : Value} (hb : w.heap[b]? = some (.cells cs.toArray e (0, 0)))
    (hv : v.cells = vs.toArray) (hs : vs.length = i.size) (hl : off + vs.length ≤ cs.length) (ho : (vs.all (·.oneCell')) = true) :
    ∃ w', (storeVar t ⟨b, off, none⟩ v).run E.P w = .ok () w' ∧ w'.heap = w.heap.setIfInBounds b (.cells (putSeg cs off vs).toArray e (0, 0)) ∧ Out w w' := by
  obtain ⟨w', h1, h2⟩ := run_storeCells (P := E.P) (off := off) vs cs 0 w hb (by omega) ho
  refine ⟨w', ?_, h2⟩
  have : ¬ v.cells.size ≠ i.size := by rw [hv]; simp [hs]
  simp only [storeVar, Sem.run_bind, run_size E ht, Result.andThen]
  rw [if_neg this, hv]; simpa using h1
/-! ### fields -/
def fieldOf (i : TI) (f : Nat) : Option Field := match i.und with
  | .struct fs => fs.toList[f]?
  | _ => none
theorem fieldOf_spec {i : TI} {f : Nat} {x : Field} (h : fieldOf i f = some x) : ∃ fs, i.und = .struct fs ∧ fs[f]? = some x := by
  unfold fieldOf at h
  split at h
  · rename_i fs he; exact ⟨fs, he, by rw [← Array.getElem?_toList]; exact h⟩
  · cases h
section
variable {E : Env} {ro : Option Nat} {N : Nat} {ds : List Deferred} {T : List (Nat × Value)} {H H' R : List HP} {g : Gw} {K : Value → List HP → Prop}
  {d : Option Tmp} {ty : TypeId} {pos : String} {af : Array Edge} {gd : Option (Nat × Bool)}
theorem o_fa {s : TypeId} {x : Operand} {f b off : Nat} {i j : TI} {fd : Field} (hx : ev T x = some (.pointer (some ⟨b, off, none⟩))) (hs : lk E.tt s = some i) (hf : fieldOf i f = some fd) (hj : lk E.tt fd.type = some j)
    (hz : Nat.beq j.size 0 = false) (k : K (.pointer (some ⟨b, off + fd.offset, none⟩)) H) : OPW E ro N ds T H g ⟨d, .fieldAddr s x f, ty, pos, af, gd⟩ K := by
  refine opw_value rfl fun a w t s' => ⟨_, w, H, ?_, k, s'⟩
  obtain ⟨fs, h1, h2⟩ := fieldOf_spec hf
  have hz' : ¬ j.size = 0 := fun e => by rw [e] at hz; cases hz
  simp only [execOp, t.ev hx, Instr.fieldAt, Sem.run_bind, run_und E hs, Result.andThen, h1, h2, Instr.sureAddr, Sem.run_pure, fieldPlace, run_size E hj, if_neg hz', addr_add]
theorem o_ld {x : Operand} {t b off : Nat} {e : TypeId} {f : Nat × Nat} {cs : List Value} {i : TI} {v : Value} (hx : ev T x = some (.pointer (some ⟨b, off, none⟩))) (hm : Rem (blk b (.cells cs.toArray e f)) H R)
    (ht : lk E.tt t = some i) (hv : ldv i cs off = some v) (k : K v H) : OPW E ro N ds T H g ⟨d, .load t x, ty, pos, af, gd⟩ K := by
  refine opw_value rfl fun a w t' s => ⟨v, w, H, ?_, k, s⟩
  have hb := HS.at (s.perm hm.perm)
  simp only [execOp, t'.ev hx, Instr.loadAt, Instr.sureAddr, Sem.run_bind, Sem.run_pure, Result.andThen, run_loadVar E ht hb hv]
theorem o_st {x y : Operand} {t b off : Nat} {e : TypeId} {cs cs' vs : List Value} {i : TI} {v : Value} (hx : ev T x = some (.pointer (some ⟨b, off, none⟩))) (hy : ev T y = some v)
    (hm : Rep (blk b (.cells cs.toArray e (0, 0))) (blk b (.cells cs'.toArray e (0, 0))) H H') (ht : lk E.tt t = some i) (hv : v.cells = vs.toArray) (hs : vs.length = i.size) (hl : Nat.ble (off + vs.length) cs.length = true)
    (ho : (vs.all (·.oneCell')) = true) (hp : putSeg cs off vs = cs') (k : K undef H') : OPW E ro N ds T H g ⟨d, .store t x y, ty, pos, af, gd⟩ K := by
  refine opw_skip rfl fun a w t' s => ?_
  obtain ⟨r, p1, p2⟩ := hm.perm
  have s1 := s.perm p1
  obtain ⟨w', h1, h2, h3⟩ := run_storeVar E ht (HS.at s1) hv hs (Nat.le_of_ble_eq_true hl) ho
  refine ⟨w', H', ?_, k, ?_⟩
  · simp only [execOp, t'.ev hx, t'.ev hy, Instr.storeAt, Instr.sureAddr, Sem.run_bind, Sem.run_pure, Result.andThen, h1]
  · rw [hp] at h2; exact (s1.put h2 h3).perm p2.symm
theorem o_alloc {t : Nat} {i : TI} {cs : List Value} (ht : lk E.tt t = some i) (hz : i.zero.cells = cs.toArray) (k : ∀ b, K (.pointer (some ⟨b, 0, none⟩)) (blk b (.cells cs.toArray t (0, 0)) :: H)) :
    OPW E ro N ds T H g ⟨d, .alloc t, ty, pos, af, gd⟩ K := by
  refine opw_value rfl fun a w t' s => ⟨.pointer (some ⟨w.heap.size, 0, none⟩), w.alloc (.cells cs.toArray t (0, 0)), _, ?_, k _, s.alloc _⟩
  simp only [execOp, Instr.alloc, Sem.run_bind, run_zero E ht, Result.andThen, newVar, newRow, hz, run_newObj, Sem.run_pure]
  rfl
theorem o_box {x : Operand} {t : Nat} {v : Value} {cs : List Value} (hx : ev T x = some v) (hv : v.cells = cs.toArray) (k : ∀ b, K (.pointer (some ⟨b, 0, none⟩)) (blk b (.cells cs.toArray t (0, 0)) :: H)) :
    OPW E ro N ds T H g ⟨d, .box t x, ty, pos, af, gd⟩ K := by
  refine opw_value rfl fun a w t' s => ⟨.pointer (some ⟨w.heap.size, 0, none⟩), w.alloc (.cells cs.toArray t (0, 0)), _, ?_, k _, s.alloc _⟩
  simp only [execOp, t'.ev hx, Instr.box, Sem.run_bind, Result.andThen, newVar, newRow, hv, run_newObj, Sem.run_pure]
  rfl
/-! ### structs by value -/
def fillL (place : Nat → Option (Nat × Nat)) (cs : List Value) : List (Nat × Value) → Option (List Value)
  | [] => some cs
  | (i, v) :: rest => match place i with
    | none => none
    | some (off, n) => match Nat.beq v.cells.toList.length n, Nat.ble (off + v.cells.toList.length) cs.length with
      | true, true => fillL place (putSeg cs off v.cells.toList) rest
      | _, _ => none
theorem foldl_put (vs : List Value) : ∀ (cs : Array Value) (off j : Nat), off + j + vs.length ≤ cs.size →
    (vs.zipIdx j).foldl (fun cs (x : Value × Nat) => cs.setIfInBounds (off + x.2) x.1) cs = (putSeg cs.toList (off + j) vs).toArray := by
  induction vs with
  | nil => intro cs off j _; simp [putSeg]
  | cons v r ih =>
    intro cs off j h
    simp only [List.length_cons] at h
    simp only [List.zipIdx_cons, List.foldl_cons]
    rw [ih _ off (j + 1) (by simp; omega)]
    simp [putSeg, Nat.add_assoc]
theorem fill_of {place : Nat → Option (Nat × Nat)} : ∀ (parts : List (Nat × Value)) (cs : Array Value) (out : List Value), fillL place cs.toList parts = some out → Instr.fill place cs parts = some out.toArray
  | [], cs, out, h => by simp [fillL] at h; simp [Instr.fill, ← h]
  | (i, v) :: rest, cs, out, h => by
    simp only [fillL] at h
    simp only [Instr.fill]
    cases hp : place i with
    | none => rw [hp] at h; cases h
    | some on =>
      obtain ⟨off, n⟩ := on
      rw [hp] at h
      simp only at h ⊢
      split at h
      · rename_i h1 h2
        have h1' : v.cells.size = n := by simpa using Nat.eq_of_beq_eq_true h1
        have h2' : off + v.cells.size ≤ cs.size := by simpa using Nat.le_of_ble_eq_true h2
        have hc : (decide (v.cells.size ≠ n) || decide (off + v.cells.size > cs.size)) = false := by simp [h1']; omega
        rw [hc]
        simp only [Bool.false_eq_true, if_false]
        have := foldl_put v.cells.toList cs off 0 (by simpa using h2')
        have e : (v.cells.zipIdx.foldl (fun cs x => match x with | (c, j) => cs.setIfInBounds (off + j) c) cs) = (putSeg cs.toList off v.cells.toList).toArray := by
          rw [← Array.foldl_toList, Array.toList_zipIdx]; exact this
        rw [e]
        exact fill_of rest _ out (by simpa using h)
      · cases h
def places (tt : List (Nat × TI)) : List Field → Option (List (Nat × Nat))
  | [] => some []
  | f :: r => match lk tt f.type with
    | some j => match places tt r with
      | some p => some ((f.offset, j.size) :: p)
      | none => none
    | none => none
theorem run_places (E : Env) (w : World) : ∀ (fs : List Field) (ps : List (Nat × Nat)), places E.tt fs = some ps → (fs.mapM (fun f => do pure (f.offset, ← sizeOf f.type)) : Sem (List (Nat × Nat))).run E.P w = .ok ps w
  | [], ps, h => by simp [places] at h; simp [← h]
  | f :: r, ps, h => by
    simp only [places] at h
    cases hj : lk E.tt f.type with
    | none => rw [hj] at h; cases h
    | some j =>
      rw [hj] at h
      cases hp : places E.tt r with
      | none => simp [hp] at h
      | some p =>
        simp [hp] at h
        subst h
        have ih := run_places E w r p hp
        simp only [List.mapM_cons, Sem.run_bind, run_size E hj, Result.andThen, Sem.run_pure, ih]
def evp (T : List (Nat × Value)) : List (Nat × Operand) → Option (List (Nat × Value))
  | [] => some []
  | (i, x) :: r => match ev T x with
    | some v => match evp T r with
      | some vs => some ((i, v) :: vs)
      | none => none
    | none => none
theorem evp_eval {N : Nat} {ds : List Deferred} {T : List (Nat × Value)} {a : Act} (t : TS N ds T a) : ∀ {xs : List (Nat × Operand)} {vs : List (Nat × Value)}, evp T xs = some vs → xs.map (fun (i, x) => (i, a.eval x)) = vs
  | [], vs, h => by simp [evp] at h; simp [h]
  | (i, x) :: r, vs, h => by
    simp only [evp] at h
    cases hx : ev T x with
    | none => rw [hx] at h; cases h
    | some v =>
      rw [hx] at h
      cases hr : evp T r with
      | none => simp [hr] at h
      | some vs' => simp [hr] at h; simp [t.ev hx, evp_eval t hr, ← h]
theorem o_build {t : Nat} {parts : List (Nat × Operand)} {pvs : List (Nat × Value)} {i : TI} {fs : List Field} {ps : List (Nat × Nat)} {cs : List Value} (ht : lk E.tt t = some i) (hu : i.und = .struct fs.toArray) (hp : places E.tt fs = some ps)
    (hx : evp T parts = some pvs) (hc : fillL (fun j => ps[j]?) i.zero.cells.toList pvs = some cs) (k : K (.agg cs.toArray) H) : OPW E ro N ds T H g ⟨d, .build t parts.toArray, ty, pos, af, gd⟩ K := by
  refine opw_value rfl fun a w t' s => ⟨_, w, H, ?_, k, s⟩
  have hpl := run_places E w fs ps hp
  have hm : (fs.toArray.mapM (fun f => do pure (f.offset, ← sizeOf f.type)) : Sem (Array (Nat × Nat))).run E.P w = .ok ps.toArray w := by
    rw [List.mapM_toArray]; simp only [Sem.run_map, hpl, Result.andThen]
  have he : (parts.toArray.map fun (i, x) => (i, a.eval x)).toList = pvs := by rw [← evp_eval t' hx]; simp
  have hf : Instr.fill (fun j => ps.toArray[j]?) i.zero.cells pvs = some cs.toArray := fill_of pvs _ _ (by simpa using hc)
  simp only [execOp, Instr.build, Sem.run_bind, run_zero E ht, run_und E ht, Result.andThen, hu, hm, he, hf, Sem.run_pure]
def fldv (tt : List (Nat × TI)) (i : TI) (f : Nat) (cs : List Value) : Option Value := match fieldOf i f with
  | some fd => match lk tt fd.type with
    | some j => ldv j cs fd.offset
    | none => none
  | none => none
theorem seg_extract {cs vs : List Value} {off n : Nat} (h : seg cs off n = some vs) : (cs.toArray.extract off (off + n)) = vs.toArray := by
  induction n generalizing off vs with
  | zero => simp [seg] at h; simp [← h]
  | succ n ih =>
    simp only [seg] at h
    cases hc : cs[off]? with
    | none => rw [hc] at h; cases h
    | some v =>
      rw [hc] at h
      cases hr : seg cs (off + 1) n with
      | none => simp [hr] at h
      | some r =>
        simp [hr] at h
        subst h
        have := ih hr
        have hlt : off < cs.length := (List.getElem?_eq_some_iff.1 hc).1
        have hv : cs[off] = v := (List.getElem?_eq_some_iff.1 hc).2
        simp only [List.extract_toArray, List.extract_eq_take_drop] at this ⊢
        rw [show off + (n + 1) - off = n + 1 by omega, List.drop_eq_getElem_cons hlt, List.take_succ_cons, hv]
        rw [show off + 1 + n - (off + 1) = n by omega] at this
        rw [List.toArray_inj this]
theorem run_part (E : Env) {t : Nat} {j : TI} (ht : lk E.tt t = some j) {cs : List Value} {off : Nat} {v : Value} (h : ldv j cs off = some v) (w : World) : (part t cs.toArray off).run E.P w = .ok v w := by
  simp only [part, Sem.run_bind, run_isAgg E ht, Result.andThen]
  unfold ldv at h
  cases hi : isA j with
  | true =>
    simp only [hi] at h
    cases hs : seg cs off j.size with
    | none => simp [hs] at h
    | some vs => simp [hs] at h; subst h; simp [run_size E ht, Result.andThen]; exact (by have := seg_extract hs; simpa using this)
  | false =>
    simp only [hi] at h
    simp [h]
end
end Go.Vt
