/- Slices that are made: literals, make, append; strings. No conditions. -/
import Derived.Test.YteebpkekdkkmhaaGreatDoorVtE
import Derived.Laws.BytesString
import Derived.Laws.Slices
import Derived.Laws.Strings2
import Derived.Laws.Strings3
namespace Go.Vt
theorem range_mod (z : List Value) (hz : 0 < z.length) : ∀ n : Nat, ((List.range (n * z.length)).map fun i => z.toArray[i % z.toArray.size]!) = (List.replicate n z).flatten
  | 0 => by simp
  | n + 1 => by
    rw [Nat.add_mul, Nat.one_mul, List.range_add, List.map_append, range_mod z hz n, List.map_map, List.replicate_succ', List.flatten_append]
    congr 1
    simp only [List.flatten_cons, List.flatten_nil, List.append_nil]
    apply List.ext_getElem
    · simp
    · intro i h1 h2
      simp only [List.length_map, List.length_range] at h1
      simp only [List.getElem_map, List.getElem_range, Function.comp, List.size_toArray]
      rw [Nat.add_comm, Nat.add_mul_mod_self_right, Nat.mod_eq_of_lt h1]
      simp [h1]
theorem made_row (zero : Value) (n : Nat) (zs : List Value) (hz : zero.cells = zs.toArray) (hp : 0 < zs.length) :
    ((Array.range (n * zs.length)).map fun i => zero.cells[i % zero.cells.size]!) = (List.replicate n zs).flatten.toArray := by
  rw [← range_mod zs hp n]
  apply Array.toList_inj.1
  simp [hz]
theorem flat_replicate {τ : Type} (e : En τ) (x : τ) (n : Nat) : (List.replicate n x).flatMap e.enc = (List.replicate n (e.enc x)).flatten := by
  induction n with
  | zero => rfl
  | succ n ih => simp [List.replicate_succ, ih]
section
variable {E : Env} {ro : Option Nat} {N : Nat} {ds : List Deferred} {T : List (Nat × Value)} {H H' R R' : List HP} {g : Gw} {K : Value → List HP → Prop}
  {d : Option Tmp} {ty : TypeId} {pos : String} {af : Array Edge} {gd : Option (Nat × Bool)}
/-- a block just laid is a slice of one's own -/
theorem HS.allocSl {τ : Type} {w : World} (s : HS H g w) (t : TypeId) (e : En τ) (l : List τ) (cap : Nat) (cs : Array Value) (hl : l.length ≤ cap) (hs : cs.size = cap * e.sz) (hc : ∀ j, j < l.length * e.sz → cs[j]? = (l.flatMap e.enc)[j]?) :
    HS (slO ⟨some ⟨w.heap.size, 0, none⟩, l.length, cap⟩ t e l :: H) g (w.alloc (.cells cs t (0, 0))) :=
  (s.alloc (.cells cs t (0, 0))).imp fun _ p => ⟨rfl, hl, .inr ⟨_, cs, rfl, p, hs, hc⟩⟩
theorem o_bs {τ : Type} {e : En τ} {l : List τ} {st t n : Nat} {parts : List (Nat × Operand)} {pvs : List (Nat × Value)} {i j : TI} {zs : List Value} (ht : lk E.tt st = some i) (hi : i.und = .slice t) (hj : lk E.tt t = some j) (hz : j.size = e.sz)
    (hzs : j.zero.cells = zs.toArray) (hzl : zs.length = e.sz) (hn : l.length = n) (hb : Nat.ble (n * e.sz) 16777216 = true) (hx : evp T parts = some pvs)
    (hc : fillL (fun q => some (q * e.sz, e.sz)) (List.replicate n zs).flatten pvs = some (l.flatMap e.enc)) (k : ∀ s : SV, K s.val (slO s t e l :: H)) :
    OPW E ro N ds T H g ⟨d, .buildSlice st n parts.toArray, ty, pos, af, gd⟩ K := by
  refine opw_value rfl fun a w t' s => ?_
  have hb' : ¬ n * e.sz > 2 ^ 24 := by have := Nat.le_of_ble_eq_true hb; omega
  have he : (parts.toArray.map fun (i, x) => (i, a.eval x)).toList = pvs := by rw [← evp_eval t' hx]; simp
  have hrow := made_row j.zero n zs hzs (by rw [hzl]; exact e.pos)
  rw [hzl] at hrow
  have hf : Instr.fill (fun q => some (q * e.sz, e.sz)) (List.replicate n zs).flatten.toArray pvs = some (l.flatMap e.enc).toArray := fill_of pvs _ _ (by simpa using hc)
  refine ⟨SV.val ⟨some ⟨w.heap.size, 0, none⟩, l.length, l.length⟩, w.alloc (.cells (l.flatMap e.enc).toArray t (0, 0)), _, ?_, k _, s.allocSl t e l l.length _ (Nat.le_refl _) (by rw [List.size_toArray, flat_length]) (fun j _ => by simp)⟩
  by_cases h0 : n * e.sz = 0
  · have hn0 : n = 0 := by rcases Nat.mul_eq_zero.1 h0 with h | h; exact h; have := e.pos; omega
    subst hn0
    have hl : l = [] := by simpa using hn
    subst hl
    simp only [List.replicate_zero, List.flatten_nil, List.flatMap_nil] at hf
    simp only [execOp, Instr.buildSlice, Sem.run_bind, run_und E ht, hi, Result.andThen, run_size E hj, hz, he, h0, if_true, Sem.run_pure]
    have r0 : Array.range 0 = #[] := rfl
    simp [r0, hf, newRow, SV.val]
  · simp only [execOp, Instr.buildSlice, Sem.run_bind, run_und E ht, hi, Result.andThen, run_size E hj, hz, hb', if_false, he, h0, run_zero E hj, Sem.run_pure, hrow, hf]
    simp [newRow, SV.val, Result.andThen, hn]
theorem o_mk {τ : Type} {e : En τ} {z : τ} {st t : Nat} {x y : Operand} {i j : TI} {zs : List Value} {kk k2 : IntKind} {n : Int} (hx : ev T x = some (.int kk n)) (hy : ev T y = some (.int k2 n)) (ht : lk E.tt st = some i) (hi : i.und = .slice t) (hj : lk E.tt t = some j)
    (hz : j.size = e.sz) (hzs : j.zero.cells = zs.toArray) (hze : e.enc z = zs) (hbj : Nat.ble j.bytes 1024 = true) (hn : 0 ≤ n ∧ n ≤ 68719476736) (k : ∀ s : SV, K s.val (slO s t e (List.replicate n.toNat z) :: H)) :
    OPW E ro N ds T H g ⟨d, .makeSlice st x y, ty, pos, af, gd⟩ K := by
  refine opw_value rfl fun a w t' s => ?_
  have hzl : zs.length = e.sz := by rw [← hze, e.len]
  obtain ⟨xi, g1, _, _, g4⟩ := run_ti E hj w
  have hw : IntKind.i64.wrap n = n := by
    unfold IntKind.wrap; simp only [IntKind.bits, IntKind.signed, Bool.true_and]
    rw [if_neg (by simp; omega)]; omega
  have hb2 : (j.bytes : Int) * n ≤ 2 ^ 48 := by
    have h1 : (j.bytes : Int) ≤ 1024 := by have := Nat.le_of_ble_eq_true hbj; omega
    calc (j.bytes : Int) * n ≤ 1024 * n := Int.mul_le_mul_of_nonneg_right h1 hn.1
      _ ≤ 2 ^ 48 := by omega
  have hrow := made_row j.zero n.toNat zs hzs (by rw [hzl]; exact e.pos)
  rw [hzl] at hrow
  refine ⟨SV.val ⟨some ⟨w.heap.size, 0, none⟩, (List.replicate n.toNat z).length, n.toNat⟩, w.alloc (.cells ((List.replicate n.toNat z).flatMap e.enc).toArray t (0, 0)), _, ?_, k _, s.allocSl t e _ n.toNat _ (by simp) (by rw [List.size_toArray, flat_length, List.length_replicate]) (fun j _ => by simp)⟩
  have c1 : (decide (n < 0) || decide ((j.bytes : Int) * n > 2 ^ 48)) = false := by simp; omega
  have c2 : ((decide (n < 0) || decide ((j.bytes : Int) * n > 2 ^ 48)) || decide (n < 0) || decide (n > n)) = false := by rw [c1]; simp; omega
  simp only [execOp, t'.ev hx, t'.ev hy, Instr.makeSlice, Sem.run_bind, run_und E ht, hi, Result.andThen, asInt, asIntOf, Sem.run_pure, g1, g4, hw, Sem.run_ite, c2, Bool.false_eq_true, if_false, run_askRoom, run_size E hj, hz]
  by_cases h0 : n.toNat * e.sz = 0
  · have hn0 : n.toNat = 0 := by rcases Nat.mul_eq_zero.1 h0 with h | h; exact h; have := e.pos; omega
    have r0 : Array.range 0 = #[] := rfl
    simp [hn0, r0, newRow, SV.val, Result.andThen]
  · simp only [h0, if_false, run_zero E hj]
    simp only [hrow, newRow, Sem.run_bind, run_newObj, Result.andThen, Sem.run_pure, flat_replicate, hze]
    simp [SV.val]
theorem cap_le (need cap : Nat) (h : cap < need) : Builtin.nextslicecap need cap ≤ 3 * need + 1200 := by
  unfold Builtin.nextslicecap
  split
  · omega
  · split
    · omega
    · simp only [Builtin.growBy]
      repeat' split
      all_goals omega
theorem run_firstCells {τ : Type} {P : Program} {w : World} {s : SV} {t : TypeId} {e : En τ} {l : List τ} (h : RdH (hpOf w) s t (l.flatMap e.enc) e.sz l.length) : (Builtin.firstCells e.sz l.length s.val).run P w = .ok (l.flatMap e.enc).toArray w := by
  rcases h.at_ with h2 | ⟨b, off, cs, fr, t', h1, h2, h3⟩
  · have : l = [] := List.length_eq_zero_iff.1 h2
    subst this
    cases ha : s.a with
    | none => simp [SV.val, ha, Builtin.firstCells]
    | some x => simp [SV.val, ha, Builtin.firstCells, loadCells, loadCellsFrom]
  · have h2' : w.heap[b]? = some (.cells cs.toList.toArray t' fr) := by simpa [hpOf] using h2
    simp only [SV.val, h1, Builtin.firstCells]
    exact run_loadCells h2' (seg_of _ _ (flat_length e l) fun j hj => by rw [Array.getElem?_toList]; exact h3 j hj)
theorem ge_len {α : Type} (a b : List α) (j : Nat) : (a ++ b)[j]? = if j < a.length then a[j]? else b[j - a.length]? := by
  split
  · rename_i h; exact List.getElem?_append_left h
  · rename_i h; exact List.getElem?_append_right (by omega)
/-- append of a slice to one's own -/
theorem o_app {τ : Type} {e : En τ} {l l2 : List τ} {s r : SV} {X : HP} {st st2 t : Nat} {x y : Operand} {i i2 j : TI} {zs : List Value} (hx : ev T x = some s.val) (hy : ev T y = some r.val) (ht : lk E.tt st = some i) (hi : i.und = .slice t)
    (ht2 : lk E.tt st2 = some i2) (hi2 : isSl i2 = true) (hj : lk E.tt t = some j) (hz : j.size = e.sz) (hzs : j.zero.cells = zs.toArray) (hzl : zs.length = e.sz) (hbj : Nat.ble j.bytes 1024 = true) (hm : Rem (slO s t e l) H R) (hr : Rem X R R') (hX : Rd X r t e l2)
    (hb : l.length + l2.length ≤ 68719476736) (k : ∀ s' : SV, K s'.val (slO s' t e (l ++ l2) :: R)) :
    OPW E ro N ds T H g ⟨d, .call ⟨.builtin .append, #[x, y], #[st, st2]⟩, ty, pos, af, gd⟩ K := by
  refine opw_value rfl fun a w t' hs => ?_
  have s1 := hs.perm hm.perm
  have hr2 : RdH (hpOf w) r t (l2.flatMap e.enc) e.sz l2.length := HS.rdh hr hX s1.tail
  have hr1 : RdH (hpOf w) s t (l.flatMap e.enc) e.sz l.length := HS.rdh (.head _) (rd_own s t e l) s1
  have hf2 := run_firstCells (P := E.P) hr2
  have hf1 := run_firstCells (P := E.P) hr1
  have hnz : ∃ yy, i2.und = .slice yy := by unfold isSl at hi2; split at hi2 <;> first | exact ⟨_, by assumption⟩ | cases hi2
  obtain ⟨yy, hnz⟩ := hnz
  obtain ⟨h, ⟨q1, q2, q3⟩, _, q4, _⟩ := s1.head
  have hlen : r.len = l2.length := hr2.len
  have lenr : (Builtin.lenOf r.val).run E.P w = .ok l2.length w := by simp [Builtin.lenOf, hlen]
  have base : ∀ v w', (Builtin.append_ #[st, st2] ty #[a.eval x, a.eval y]).run E.P w = .ok v w' → (execOp a.eval ⟨d, .call ⟨.builtin .append, #[x, y], #[st, st2]⟩, ty, pos, af, gd⟩).run E.P w = .ok (.value v) w' := fun v w' he => by
    simp only [execOp, resolve, Sem.run_bind, Sem.run_pure, Result.andThen, invoke, builtin]
    simp [he]
  by_cases hcap : l.length + l2.length ≤ s.cap
  · -- in place
    have hcap' : s.len + l2.length ≤ s.cap := by rw [q1]; exact hcap
    rcases q3 with ⟨q5, q6⟩ | ⟨b, cs, q5, q6, q7, q8⟩
    · -- nothing onto nil
      subst q5 q6
      have hl2 : l2 = [] := by simp [SV.nil] at hcap; exact hcap
      subst hl2
      refine ⟨SV.nil.val, w, slO SV.nil t e ([] ++ []) :: R, base _ _ ?_, k _, s1⟩
      have hl0 : r.len = 0 := by simpa using hlen
      simp only [Builtin.append_, t'.ev hx, t'.ev hy, List.getElem?_toArray, List.getElem?_cons_zero, List.getElem?_cons_succ, Sem.run_bind, run_und E ht, hi, Result.andThen, run_size E hj, run_und E ht2, hnz, Sem.run_pure]
      simp only [Bool.false_eq_true, if_false, lenr, Bool.not_false, if_true]
      have hf2' : (Builtin.firstCells e.sz 0 r.val).run E.P w = .ok #[] w := hf2
      have lenr' : (Builtin.lenOf r.val).run E.P w = .ok 0 w := lenr
      simp only [lenr', Sem.run_bind, SV.nil, Nat.add_zero, Nat.le_refl, if_true, hz, hf2', Result.andThen, Sem.run_pure, Nat.zero_add]
    · have hbw : w.heap[b]? = some (.cells cs.toList.toArray t (0, 0)) := by simpa [hpOf] using q4 b _ q6
      have hsz : (l.length + l2.length) * e.sz ≤ cs.size := by rw [q7]; exact Nat.mul_le_mul_right _ hcap
      have hone : ((l2.flatMap e.enc).all (·.oneCell')) = true := by
        rw [List.all_flatMap]; simp only [List.all_eq_true]; intro y _; have := e.one y; rw [List.all_eq_true] at this; exact this
      obtain ⟨w', hr', hw, hot⟩ := run_storeCells (P := E.P) (off := l.length * e.sz) (l2.flatMap e.enc) cs.toList 0 w hbw (by rw [flat_length, Array.length_toList, Nat.add_zero, ← Nat.add_mul]; exact hsz) hone
      refine ⟨SV.val ⟨s.a, l.length + l2.length, s.cap⟩, w', slO ⟨s.a, l.length + l2.length, s.cap⟩ t e (l ++ l2) :: R, base _ _ ?_, k _, ?_⟩
      · simp only [Builtin.append_, t'.ev hx, t'.ev hy, List.getElem?_toArray, List.getElem?_cons_zero, List.getElem?_cons_succ, Sem.run_bind, run_und E ht, hi, Result.andThen, run_size E hj, run_und E ht2, hnz, Sem.run_pure]
        simp only [Bool.false_eq_true, if_false, lenr, Bool.not_false, if_true, hcap', Sem.run_bind, hz, hf2, Result.andThen, q5, addr_add, Nat.zero_add]
        rw [q1, hr']
        simp [Result.andThen, SV.val]
      · refine s1.step (w' := w') (ot := hot) fun h1 x1 l1 => ?_
        obtain ⟨x1, x2, x3⟩ := x1
        refine ⟨fun r => if r = b then some (.cells (putSeg cs.toList (l.length * e.sz) (l2.flatMap e.enc)).toArray t (0, 0)) else h1 r, ?_, ?_, ?_, ?_⟩
        · refine ⟨by simp, by simpa using hcap, .inr ⟨b, _, q5, by simp; rfl, by simp [putSeg_length, q7], fun j hj => ?_⟩⟩
          have key : ∀ (us : List Value) (cs : List Value) (o j : Nat), o + us.length ≤ cs.length → (putSeg cs o us)[j]? = if o ≤ j ∧ j < o + us.length then us[j - o]? else cs[j]? := by
            intro us
            induction us with
            | nil => intro cs o j _; rw [if_neg (by simp only [List.length_nil]; omega)]; rfl
            | cons u r ih =>
              intro cs o j hlen
              simp only [List.length_cons] at hlen
              simp only [putSeg, List.length_cons]
              rw [ih _ _ _ (by rw [List.length_set]; omega)]
              by_cases hj0 : j = o
              · subst hj0
                rw [if_neg (by omega), if_pos (by omega)]
                simp only [Nat.sub_self, List.getElem?_cons_zero]
                rw [List.getElem?_set_self (by omega)]
              · by_cases h1 : o + 1 ≤ j ∧ j < o + 1 + r.length
                · rw [if_pos h1, if_pos (by omega), show j - o = (j - (o + 1)) + 1 by omega]; simp
                · rw [if_neg h1, if_neg (by omega), List.getElem?_set_ne (by omega)]
          simp only [List.getElem?_toArray, List.flatMap_append]
          rw [key _ _ _ _ (by rw [flat_length, ← Nat.add_mul]; simpa using hsz), ge_len, flat_length, flat_length]
          rw [List.length_append, Nat.add_mul] at hj
          by_cases hjl : j < l.length * e.sz
          · rw [if_neg (by omega), if_pos hjl, Array.getElem?_toList]; exact q8 j hjl
          · rw [if_pos (by omega), if_neg hjl]
        · intro r x e'
          have hbs : b < w.heap.size := (Array.getElem?_eq_some_iff.1 hbw).1
          simp only [Nat.add_zero] at hw
          rw [hpOf_set w w' b _ hw]
          by_cases hr' : r = b
          · simp only [hr', if_true] at e'; rw [if_pos ⟨hr', hbs⟩]; exact e'
          · simp only [hr', if_false] at e'; rw [if_neg (fun z => hr' z.1)]; exact l1 r x e'
        · intro r e'
          by_cases hr' : r = b
          · left; subst hr'
            rcases x3 with ⟨x3, _⟩ | ⟨b', cs', x5, x6, _, _⟩
            · rw [x3] at q5; cases q5
            · rw [q5] at x5
              have : r = b' := by simpa using x5
              subst this; rw [x6]; simp
          · left; simpa [hr'] using e'
        · intro r e' _
          simp only [Nat.add_zero] at hw
          rw [hpOf_set w w' b _ hw, if_neg]
          rintro ⟨rfl, _⟩
          rcases x3 with ⟨x3, _⟩ | ⟨b', cs', x5, x6, _, _⟩
          · rw [x3] at q5; cases q5
          · rw [q5] at x5
            have : r = b' := by simpa using x5
            subst this; rw [x6] at e'; cases e'
  · -- a new array
    have hcap' : ¬ s.len + l2.length ≤ s.cap := by rw [q1]; exact hcap
    have hne : s.len + l2.length = l.length + l2.length := by rw [q1]
    obtain ⟨xi, g1, _, _, g4⟩ := run_ti E hj w
    have hnb : ¬ Builtin.nextslicecap (l.length + l2.length) s.cap * j.bytes > 2 ^ 48 := by
      have h1 := cap_le (l.length + l2.length) s.cap (by omega)
      have h2 := Nat.le_of_ble_eq_true hbj
      have : Builtin.nextslicecap (l.length + l2.length) s.cap * j.bytes ≤ (3 * 68719476736 + 1200) * 1024 := Nat.mul_le_mul (by omega) h2
      have h3 : (3 * 68719476736 + 1200) * 1024 ≤ 2 ^ 48 := by decide
      omega
    have hnb1 : ¬ (((l.length + l2.length : Nat) : Int) > IntKind.i64.max ∧ (false = true ∨ j.bytes = 0)) := by
      rintro ⟨h1, _⟩
      have : IntKind.i64.max = 9223372036854775807 := rfl
      rw [this] at h1; omega
    obtain ⟨nc, hnc, hnq⟩ : ∃ nc, l.length + l2.length ≤ nc ∧ (choose (.appendCap (l.length + l2.length) s.cap t)).run E.P w = .ok nc w.drew := by
      exact ⟨l.length + l2.length + w.tape w.drawn (.appendCap (l.length + l2.length) s.cap t) % (2 ^ 63 - (l.length + l2.length)), Nat.le_add_right _ _, rfl⟩
    have hdrew : ∀ {z : SV} {ll : List τ}, RdH (hpOf w) z t (ll.flatMap e.enc) e.sz ll.length → RdH (hpOf w.drew) z t (ll.flatMap e.enc) e.sz ll.length := fun h => h
    refine ⟨SV.val ⟨some ⟨w.heap.size, 0, none⟩, (l ++ l2).length, nc⟩, w.drew.alloc (.cells ((l.flatMap e.enc).toArray ++ (l2.flatMap e.enc).toArray ++ Builtin.zeroCells j.zero.cells (nc - (l.length + l2.length))) t (0, 0)),
      slO ⟨some ⟨w.heap.size, 0, none⟩, (l ++ l2).length, nc⟩ t e (l ++ l2) :: R, base _ _ ?_, k _, ?_⟩
    · simp only [Builtin.append_, t'.ev hx, t'.ev hy, List.getElem?_toArray, List.getElem?_cons_zero, List.getElem?_cons_succ, Sem.run_bind, run_und E ht, hi, Result.andThen, run_size E hj, run_und E ht2, hnz, Sem.run_pure]
      simp only [Bool.false_eq_true, if_false, lenr, Bool.not_false, if_true, hne, hcap, Sem.run_bind, hz, Result.andThen, g1, g4, Sem.run_ite]
      rw [if_neg (by simpa using hnb1), if_neg hnb]
      simp only [Sem.run_bind, hnq, Result.andThen, run_askRoom]
      have e1 := run_firstCells (P := E.P) (hdrew hr1)
      have e2 := run_firstCells (P := E.P) (hdrew hr2)
      have e3 : (typeInfo t).run E.P w.drew = .ok xi w.drew := by
        obtain ⟨x2, k1, _⟩ := run_ti E hj w.drew
        have : x2 = xi := by
          have a1 := g1; have a2 := k1
          simp only [typeInfo, Sem.run_bind, run_program, Result.andThen] at a1 a2
          cases hinf : E.P.info? t with
          | none => rw [hinf] at a1; simp at a1
          | some z => rw [hinf] at a1 a2; simp at a1 a2; rw [← a1, ← a2]
        rw [← this]; exact k1
      simp only [Sem.run_pure, e3, Result.andThen, run_askRoom, q1, e1, e2, run_zero E hj]
      simp [newRow, SV.val]
    · have s2 : HS (slO s t e l :: R) g w.drew := s1.same rfl
      refine HS.allocSl (w := w.drew) s2.tail t e (l ++ l2) nc _ (by simpa using hnc) ?_ ?_
      · simp only [Array.size_append, List.size_toArray, flat_length, Builtin.zeroCells, Array.size_map, Array.size_range, hzs, hzl]
        rw [← Nat.add_mul, ← Nat.add_mul]; congr 1; omega
      · intro q hq
        rw [List.length_append, Nat.add_mul] at hq
        rw [Array.getElem?_append_left (by rw [Array.size_append, List.size_toArray, List.size_toArray, flat_length, flat_length]; omega)]
        rw [List.append_toArray, List.getElem?_toArray, List.flatMap_append]
/-! ### strings -/
def bstr (l : List Int) : ByteArray := l.foldl (fun r n => r.push (UInt8.ofNat n.toNat)) ByteArray.empty
def enI (k : IntKind) : En Int := ⟨1, fun x => [.int k x], fun _ => rfl, by decide, fun _ => rfl⟩
theorem o_b2s {l : List Int} {s : SV} {X : HP} {src dst t : Nat} {x : Operand} {i j e : TI} (hx : ev T x = some s.val) (hs : lk E.tt src = some i) (hi : i.und = .slice t) (ht : lk E.tt t = some e) (he : e.und = .int .u8) (hd : lk E.tt dst = some j) (hj : j.und = .string)
    (hm : Rem X H R) (hX : Rd X s t (enI .u8) l) (k : K (.string (bstr l)) H) : OPW E ro N ds T H g ⟨d, .convert src dst x, ty, pos, af, gd⟩ K := by
  refine opw_value rfl fun a w t' hs' => ⟨_, w, H, ?_, k, hs'⟩
  have hr := HS.rdh hm hX hs'
  have hc : (convert src dst s.val).run E.P w = .ok (.string (bstr l)) w := by
    rw [SV.val, run_convert_bytes_string w src dst t _ _ _ (by rw [E.und hs, hi]) (by rw [E.und ht, he]) (by rw [E.und hd, hj])]
    rcases hr.at_ with h2 | ⟨b, off, cs, fr, t', h1, h2, h3⟩
    · have : l = [] := List.length_eq_zero_iff.1 h2
      subst this
      have hl := hr.len
      simp only [List.length_nil] at hl
      rw [hl]
      cases ha : s.a with
      | none => simp [Conv.bytesToString, bstr]
      | some x =>
        refine run_bytesToString w _ _ _ [] ?_
        simp [loadCells, loadCellsFrom]
    · rw [h1]
      have h2' : w.heap[b]? = some (.cells cs.toList.toArray t' fr) := by simpa [hpOf] using h2
      have hfl : l.flatMap (enI .u8).enc = l.map (Value.int .u8) := by
        clear hr h3 hX k; induction l with
        | nil => rfl
        | cons z r ih => simp only [List.flatMap_cons, ih, List.map_cons]; rfl
      refine run_bytesToString w _ _ _ l ?_
      rw [hr.len, ← hfl]
      exact run_loadCells h2' (seg_of _ _ (by rw [flat_length]; simp [enI]) fun j hj => by rw [Array.getElem?_toList]; exact h3 j (by simpa [enI] using hj))
  simp only [execOp, t'.ev hx, Sem.run_bind, hc, Result.andThen, Sem.run_pure]
end
end Go.Vt
