/- Slices: those of one's own, those that are read. No conditions. -/
import Derived.Test.YteebpkekdkkmhaaGreatDoorVtD
namespace Go.Vt
structure SV where
  a : Option Addr
  len : Nat
  cap : Nat
abbrev SV.val (s : SV) : Value := .slice s.a s.len s.cap
def SV.nil : SV := ⟨none, 0, 0⟩
def SV.blk (s : SV) : Nat := match s.a with | some a => a.block | none => 0
def SV.off (s : SV) : Nat := match s.a with | some a => a.off | none => 0
structure En (τ : Type) where
  sz : Nat
  enc : τ → List Value
  len : ∀ x, (enc x).length = sz
  pos : 0 < sz
  one : ∀ x, ((enc x).all (·.oneCell')) = true
def rd {τ : Type} [Inhabited τ] (l : List τ) (i : Int) : τ := l.getD i.toNat default
theorem rd_eq {τ : Type} [Inhabited τ] {l : List τ} {i : Int} (h : 0 ≤ i ∧ i < l.length) : l[i.toNat]? = some (rd l i) := by
  have : i.toNat < l.length := by omega
  simp [rd, this]
theorem flat_length {τ : Type} (e : En τ) : ∀ l : List τ, (l.flatMap e.enc).length = l.length * e.sz
  | [] => by simp
  | x :: r => by simp only [List.flatMap_cons, List.length_append, e.len, List.length_cons, flat_length e r]; rw [Nat.add_mul]; omega
theorem flat_at {τ : Type} (e : En τ) : ∀ (l : List τ) (i j : Nat) (x : τ), l[i]? = some x → j < e.sz → (l.flatMap e.enc)[i * e.sz + j]? = (e.enc x)[j]?
  | [], i, j, x, h, _ => by simp at h
  | y :: r, 0, j, x, h, hj => by
    simp at h; subst h
    simp only [List.flatMap_cons, Nat.zero_mul, Nat.zero_add]
    rw [List.getElem?_append_left (by rw [e.len]; exact hj)]
  | y :: r, i + 1, j, x, h, hj => by
    simp only [List.flatMap_cons]
    rw [List.getElem?_append_right (by rw [e.len, Nat.add_mul]; omega), e.len]
    rw [show (i + 1) * e.sz + j - e.sz = i * e.sz + j by rw [Nat.add_mul]; omega]
    exact flat_at e r i j x (by simpa using h) hj
structure RdH (m : Hp) (s : SV) (ty : TypeId) (cells : List Value) (sz n : Nat) : Prop where
  len : s.len = n
  cap : s.len ≤ s.cap
  nil : s.a = none → s = SV.nil
  at_ : n = 0 ∨ ∃ b off cs fr t', s.a = some ⟨b, off, none⟩ ∧ m b = some (.cells cs t' fr) ∧ ∀ j, j < n * sz → cs[off + j]? = cells[j]?
theorem RdH.le {m m' : Hp} {s : SV} {ty : TypeId} {cells : List Value} {sz n : Nat} (h : RdH m s ty cells sz n) (k : Hp.le m m') : RdH m' s ty cells sz n :=
  ⟨h.len, h.cap, h.nil, h.at_.imp id fun ⟨b, off, cs, fr, t', h1, h2, h3⟩ => ⟨b, off, cs, fr, t', h1, k _ _ h2, h3⟩⟩
/-- what reads as the list l -/
def Rd {τ : Type} (X : HP) (s : SV) (ty : TypeId) (e : En τ) (l : List τ) : Prop := ∀ h g m, X h g → Hp.le h m → Hp.le g m → RdH m s ty (l.flatMap e.enc) e.sz l.length
/-- a slice of one's own: its array is nobody else's -/
def slO {τ : Type} (s : SV) (ty : TypeId) (e : En τ) (l : List τ) : HP := fun h _ =>
  s.len = l.length ∧ s.len ≤ s.cap ∧ ((s = SV.nil ∧ l = []) ∨ ∃ b cs, s.a = some ⟨b, 0, none⟩ ∧ h b = some (.cells cs ty (0, 0)) ∧ cs.size = s.cap * e.sz ∧ ∀ j, j < l.length * e.sz → cs[j]? = (l.flatMap e.enc)[j]?)
theorem rd_own {τ : Type} (s : SV) (ty : TypeId) (e : En τ) (l : List τ) : Rd (slO s ty e l) s ty e l := fun h g m x k _ => by
  obtain ⟨h1, h2, h3⟩ := x
  refine ⟨h1, h2, fun e0 => by rcases h3 with ⟨h3, _⟩ | ⟨b, cs, h3, _⟩ <;> simp_all, ?_⟩
  rcases h3 with ⟨h3, h4⟩ | ⟨b, cs, h3, h4, _, h6⟩
  · exact .inl (by simp [h4])
  · exact .inr ⟨b, 0, cs, (0, 0), ty, h3, k _ _ h4, fun j hj => by rw [Nat.zero_add]; exact h6 j hj⟩
/-- a slice of what lay there before -/
def slB {τ : Type} (s : SV) (ty : TypeId) (e : En τ) (l : List τ) : HP := fun _ g => RdH g s ty (l.flatMap e.enc) e.sz l.length
theorem slO_nil {τ : Type} (ty : TypeId) (e : En τ) : ∀ h g, slO SV.nil ty e ([] : List τ) h g := fun _ _ => ⟨rfl, Nat.le_refl _, .inl ⟨rfl, rfl⟩⟩
theorem HS.add {Pp : HP} {H : List HP} {g : Gw} {w : World} (s : HS H g w) (h : Pp (fun _ => none) g) : HS (Pp :: H) g w := by
  obtain ⟨x, s, r⟩ := s
  exact ⟨x, ⟨fun _ => none, x, fun _ => .inl rfl, fun _ _ e => (by cases e), Hp.le_refl _, h, s⟩, r⟩
section
variable {E : Env} {ro : Option Nat} {N : Nat} {ds : List Deferred} {T : List (Nat × Value)} {H H' R R' : List HP} {g : Gw} {K : Value → List HP → Prop}
  {d : Option Tmp} {ty : TypeId} {pos : String} {af : Array Edge} {gd : Option (Nat × Bool)}
/-! ### an assertion that holds of nothing is added -/
theorem o_add {l rest : List Oper} {Q : Qt} (Pp : HP) (h : ∀ g, Pp (fun _ => none) g) (k : GO E ro N ds T (Pp :: H) g l rest Q) : GO E ro N ds T H g l rest Q := fun a w t s => k a w t (s.add (h g))
theorem e_add {Q : Qt} {e : Exit} (Pp : HP) (h : ∀ g, Pp (fun _ => none) g) (k : GE N ds T (Pp :: H) g Q e) : GE N ds T H g Q e := fun a w t s => k a w t (s.add (h g))
theorem c_add {c : Code} {Q : Qt} (Pp : HP) (h : ∀ g, Pp (fun _ => none) g) (k : GC E ro N ds T (Pp :: H) g c Q) : GC E ro N ds T H g c Q := fun a w t s => k a w t (s.add (h g))
/-! ### length, elements -/
theorem HS.rdh {τ : Type} {X : HP} {s : SV} {t : TypeId} {e : En τ} {l : List τ} {w : World} (hm : Rem X H R) (hX : Rd X s t e l) (hs : HS H g w) : RdH (hpOf w) s t (l.flatMap e.enc) e.sz l.length := by
  obtain ⟨h, p, _, l1, l2⟩ := (hs.perm hm.perm).head
  exact hX h g _ p l1 l2
theorem o_len {τ : Type} {X : HP} {s : SV} {t st : TypeId} {e : En τ} {l : List τ} {x : Operand} {i : TI} (hx : ev T x = some s.val) (ht : lk E.tt st = some i) (hi : isSl i = true) (hm : Rem X H R) (hX : Rd X s t e l) (k : K (.int .i64 l.length) H) :
    OPW E ro N ds T H g ⟨d, .call ⟨.builtin .len, #[x], #[st]⟩, ty, pos, af, gd⟩ K := by
  refine opw_value rfl fun a w t' hs => ⟨_, w, H, ?_, k, hs⟩
  have hr := hs.rdh hm hX
  have hu : ∃ y, i.und = .slice y := by unfold isSl at hi; split at hi <;> first | exact ⟨_, by assumption⟩ | cases hi
  obtain ⟨y, hu⟩ := hu
  simp [execOp, resolve, t'.ev hx, invoke, builtin, Builtin.len_, run_und E ht, hu, Result.andThen, goInt, hr.len]
theorem o_lens {s : ByteArray} {st : TypeId} {x : Operand} {i : TI} (hx : ev T x = some (.string s)) (ht : lk E.tt st = some i) (hi : i.und = .string) (k : K (.int .i64 s.size) H) :
    OPW E ro N ds T H g ⟨d, .call ⟨.builtin .len, #[x], #[st]⟩, ty, pos, af, gd⟩ K := by
  refine opw_value rfl fun a w t' hs => ⟨_, w, H, ?_, k, hs⟩
  simp [execOp, resolve, t'.ev hx, invoke, builtin, Builtin.len_, run_und E ht, hi, Result.andThen, goInt]
theorem o_ix {τ : Type} {X : HP} {s : SV} {t st : TypeId} {e : En τ} {l : List τ} {x y : Operand} {i j : TI} {kk : IntKind} {n : Int} (hx : ev T x = some s.val) (hy : ev T y = some (.int kk n)) (ht : lk E.tt st = some i) (hi : i.und = .slice t)
    (hj : lk E.tt t = some j) (hz : j.size = e.sz) (hm : Rem X H R) (hX : Rd X s t e l) (hb : 0 ≤ n ∧ n < l.length) (k : K (.pointer (some ⟨s.blk, s.off + n.toNat * e.sz, none⟩)) H) :
    OPW E ro N ds T H g ⟨d, .indexAddr st x y, ty, pos, af, gd⟩ K := by
  refine opw_value rfl fun a w t' hs => ⟨_, w, H, ?_, k, hs⟩
  have hr := hs.rdh hm hX
  rcases hr.at_ with h0 | ⟨b, off, cs, fr, _, h1, _, _⟩
  · omega
  · have hl : n < (s.len : Int) := by rw [hr.len]; exact hb.2
    simp only [execOp, t'.ev hx, t'.ev hy, Instr.indexAt, asIntOf, Sem.run_bind, Sem.run_pure, Result.andThen, run_und E ht, hi, h1]
    simp [hb.1, hl, addr_add, SV.blk, SV.off, h1]
    rw [run_size E hj]; simp [hz]
theorem seg_of {cs vs : List Value} : ∀ (n off : Nat), vs.length = n → (∀ j, j < n → cs[off + j]? = vs[j]?) → seg cs off n = some vs := by
  induction vs generalizing cs with
  | nil => intro n off h _; simp at h; subst h; rfl
  | cons v r ih =>
    intro n off h hj
    obtain ⟨m, rfl⟩ : ∃ m, n = m + 1 := ⟨n - 1, by simp at h; omega⟩
    have h0 := hj 0 (by omega)
    simp at h0
    have h1 := ih (cs := cs) m (off + 1) (by simpa using h) (fun j hjm => by
      have := hj (j + 1) (by omega)
      rw [show off + 1 + j = off + (j + 1) by omega]; simpa using this)
    simp [seg, h0, h1]
/-- an element's cells, as they lie -/
theorem RdH.cells {τ : Type} {m : Hp} {s : SV} {t : TypeId} {e : En τ} {l : List τ} [Inhabited τ] {n : Int} (h : RdH m s t (l.flatMap e.enc) e.sz l.length) (hb : 0 ≤ n ∧ n < l.length) :
    ∃ cs fr t', m s.blk = some (.cells cs t' fr) ∧ ∀ j, j < e.sz → cs[s.off + n.toNat * e.sz + j]? = (e.enc (rd l n))[j]? := by
  rcases h.at_ with h0 | ⟨b, off, cs, fr, t', h1, h2, h3⟩
  · omega
  · refine ⟨cs, fr, t', by simpa [SV.blk, h1] using h2, fun j hj => ?_⟩
    have : n.toNat * e.sz + j < l.length * e.sz := by
      have : n.toNat + 1 ≤ l.length := by omega
      calc n.toNat * e.sz + j < n.toNat * e.sz + e.sz := by omega
        _ = (n.toNat + 1) * e.sz := by rw [Nat.add_mul]; omega
        _ ≤ l.length * e.sz := Nat.mul_le_mul_right _ this
    have h4 := h3 _ this
    rw [flat_at e l n.toNat j _ (rd_eq hb) hj] at h4
    simpa [SV.off, h1, Nat.add_assoc] using h4
theorem o_ldE {τ : Type} [Inhabited τ] {X : HP} {s : SV} {t lt : TypeId} {e : En τ} {l : List τ} {x : Operand} {i : TI} {n : Int} {f : Nat} {v : Value} (hx : ev T x = some (.pointer (some ⟨s.blk, s.off + n.toNat * e.sz + f, none⟩)))
    (hm : Rem X H R) (hX : Rd X s t e l) (hb : 0 ≤ n ∧ n < l.length) (ht : lk E.tt lt = some i) (hv : ldv i (e.enc (rd l n)) f = some v) (k : K v H) :
    OPW E ro N ds T H g ⟨d, .load lt x, ty, pos, af, gd⟩ K := by
  refine opw_value rfl fun a w t' hs => ⟨v, w, H, ?_, k, hs⟩
  obtain ⟨cs, fr, t'', h1, h2⟩ := (hs.rdh hm hX).cells hb
  have hv' : ldv i cs.toList (s.off + n.toNat * e.sz + f) = some v := by
    unfold ldv at hv ⊢
    cases hi : isA i with
    | true =>
      simp only [hi] at hv ⊢
      cases hs' : seg (e.enc (rd l n)) f i.size with
      | none => simp [hs'] at hv
      | some vs =>
        simp [hs'] at hv; subst hv
        have key : ∀ (k o : Nat) (us : List Value), seg (e.enc (rd l n)) o k = some us → seg cs.toList (s.off + n.toNat * e.sz + o) k = some us := by
          intro k
          induction k with
          | zero => intro o us h; simpa [seg] using h
          | succ k ih =>
            intro o us h
            simp only [seg] at h ⊢
            cases hc : (e.enc (rd l n))[o]? with
            | none => rw [hc] at h; cases h
            | some u =>
              rw [hc] at h
              have ho : o < e.sz := by rw [← e.len (rd l n)]; exact (List.getElem?_eq_some_iff.1 hc).1
              have h3 := h2 o ho
              rw [hc] at h3
              rw [Array.getElem?_toList, h3]
              cases hr : seg (e.enc (rd l n)) (o + 1) k with
              | none => simp [hr] at h
              | some us' =>
                simp [hr] at h
                have := ih (o + 1) us' hr
                rw [← Nat.add_assoc] at this
                simp [this, h]
        rw [key _ _ _ hs']
    | false =>
      simp only [hi] at hv ⊢
      have ho : f < e.sz := by rw [← e.len (rd l n)]; exact (List.getElem?_eq_some_iff.1 hv).1
      rw [Array.getElem?_toList, h2 f ho]; exact hv
  have h1' : w.heap[s.blk]? = some (.cells cs.toList.toArray t'' fr) := by simpa [hpOf] using h1
  simp only [execOp, t'.ev hx, Instr.loadAt, Instr.sureAddr, Sem.run_bind, Sem.run_pure, Result.andThen, run_loadVar E ht h1' hv']
/-- an element, or a part of it, is written -/
theorem o_stE {τ : Type} [Inhabited τ] {s : SV} {t st : TypeId} {e : En τ} {l : List τ} {x y : Operand} {i : TI} {n : Int} {f : Nat} {v : Value} {vs : List Value} {u : τ} (hx : ev T x = some (.pointer (some ⟨s.blk, s.off + n.toNat * e.sz + f, none⟩)))
    (hy : ev T y = some v) (hm : Rep (slO s t e l) (slO s t e (l.set n.toNat u)) H H') (hb : 0 ≤ n ∧ n < l.length) (ht : lk E.tt st = some i) (hv : v.cells = vs.toArray) (hs : vs.length = i.size)
    (hl : Nat.ble (f + vs.length) e.sz = true) (ho : (vs.all (·.oneCell')) = true) (hp : putSeg (e.enc (rd l n)) f vs = e.enc u) (k : K undef H') : OPW E ro N ds T H g ⟨d, .store st x y, ty, pos, af, gd⟩ K := by
  refine opw_skip rfl fun a w t' hs' => ?_
  obtain ⟨r, p1, p2⟩ := hm.perm
  have s1 := hs'.perm p1
  have hl' := Nat.le_of_ble_eq_true hl
  obtain ⟨h, ⟨q1, q2, q3⟩, _, q4, _⟩ := s1.head
  rcases q3 with ⟨_, q3⟩ | ⟨b, cs, q5, q6, q7, q8⟩
  · rw [q3] at hb; simp at hb; omega
  · have e1 : s.blk = b := by simp [SV.blk, q5]
    have e2 : s.off = 0 := by simp [SV.off, q5]
    have hbw : w.heap[b]? = some (.cells cs.toList.toArray t (0, 0)) := by simpa [hpOf] using q4 b _ q6
    have hn : n.toNat + 1 ≤ l.length := by omega
    have hle : n.toNat * e.sz + e.sz ≤ l.length * e.sz := by
      have := Nat.mul_le_mul_right e.sz hn; rw [Nat.add_mul] at this; omega
    have hcap : l.length * e.sz ≤ cs.size := by rw [q7]; exact Nat.mul_le_mul_right _ (by rw [← q1]; exact q2)
    obtain ⟨w', hr, hw, hot⟩ := run_storeVar E ht (off := n.toNat * e.sz + f) hbw hv hs (by simp; omega) ho
    refine ⟨w', H', ?_, k, ?_⟩
    · simp only [execOp, t'.ev hx, t'.ev hy, Instr.storeAt, Instr.sureAddr, Sem.run_bind, Sem.run_pure, Result.andThen, e1, e2, Nat.zero_add, hr]
    · refine (s1.step (w' := w') (ot := hot) fun h1 x1 l1 => ?_).perm p2.symm
      obtain ⟨x1, x2, x3⟩ := x1
      rcases x3 with ⟨_, x3⟩ | ⟨b', cs', x5, x6, x7, x8⟩
      · rw [x3] at hb; simp at hb; omega
      · rw [q5] at x5
        have : b = b' := by simpa using x5
        subst this
        have hcs : cs' = cs := by
          have := l1 b _ x6
          simp only [hpOf, hbw] at this
          simpa using this.symm
        subst hcs
        refine ⟨fun r => if r = b then some (.cells (putSeg cs'.toList (n.toNat * e.sz + f) vs).toArray t (0, 0)) else h1 r, ?_, ?_, ?_, ?_⟩
        · refine ⟨by simpa using x1, x2, .inr ⟨b, (putSeg cs'.toList (n.toNat * e.sz + f) vs).toArray, q5, by simp, by simp [putSeg_length, x7], fun j hj => ?_⟩⟩
          rw [List.length_set] at hj
          have key : ∀ (us : List Value) (cs : List Value) (o j : Nat), o + us.length ≤ cs.length → (putSeg cs o us)[j]? = if o ≤ j ∧ j < o + us.length then us[j - o]? else cs[j]? := by
            intro us
            induction us with
            | nil => intro cs o j _; rw [if_neg (by simp only [List.length_nil]; omega)]; rfl
            | cons u r ih =>
              intro cs o j hlen
              simp only [List.length_cons] at hlen
              simp only [putSeg, List.length_cons]
              rw [ih _ _ _ (by rw [List.length_set]; omega)]
              by_cases hj0 : j = o
              · subst hj0
                rw [if_neg (by omega), if_pos (by omega)]
                simp only [Nat.sub_self, List.getElem?_cons_zero]
                rw [List.getElem?_set_self (by omega)]
              · by_cases h1 : o + 1 ≤ j ∧ j < o + 1 + r.length
                · rw [if_pos h1, if_pos (by omega), show j - o = (j - (o + 1)) + 1 by omega]; simp
                · rw [if_neg h1, if_neg (by omega), List.getElem?_set_ne (by omega)]
          have hget : ∀ j, j < e.sz → (e.enc u)[j]? = if f ≤ j ∧ j < f + vs.length then vs[j - f]? else (e.enc (rd l n))[j]? := fun j hj => by
            rw [← hp, key vs (e.enc (rd l n)) f j (by rw [e.len]; exact hl')]
          simp only [List.getElem?_toArray]
          rw [key vs cs'.toList _ j (by simp; omega)]
          -- which element j lies in
          have hq : j = (j / e.sz) * e.sz + j % e.sz := by rw [Nat.mul_comm]; exact (Nat.div_add_mod j e.sz).symm
          have hm' : j % e.sz < e.sz := Nat.mod_lt _ e.pos
          have hd : j / e.sz < l.length := by
            rw [Nat.div_lt_iff_lt_mul e.pos]; exact hj
          generalize hq1 : j / e.sz = q at *
          generalize hq2 : j % e.sz = r' at *
          by_cases hqn : q = n.toNat
          · subst hqn
            have hset : (l.set n.toNat u)[n.toNat]? = some u := by simp [hd]
            rw [hq, flat_at e _ n.toNat r' u hset hm', hget r' hm']
            by_cases hin : f ≤ r' ∧ r' < f + vs.length
            · rw [if_pos (by omega), if_pos hin, show n.toNat * e.sz + r' - (n.toNat * e.sz + f) = r' - f by omega]
            · rw [if_neg (by omega), if_neg hin, Array.getElem?_toList, x8 _ (by omega), flat_at e l n.toNat r' _ (rd_eq hb) hm']
          · have hne : ¬ (n.toNat * e.sz + f ≤ j ∧ j < n.toNat * e.sz + f + vs.length) := by
              rintro ⟨g1, g2⟩
              apply hqn
              have a1 : n.toNat ≤ q := by rw [← hq1, Nat.le_div_iff_mul_le e.pos]; omega
              have a2 : q < n.toNat + 1 := by rw [← hq1, Nat.div_lt_iff_lt_mul e.pos, Nat.add_mul]; omega
              omega
            rw [if_neg hne, Array.getElem?_toList, x8 j hj]
            have hl1 : l[q]? = some l[q] := by simp [hd]
            have hl2 : (l.set n.toNat u)[q]? = some l[q] := by rw [List.getElem?_set_ne (Ne.symm hqn)]; exact hl1
            rw [hq, flat_at e l q r' _ hl1 hm', flat_at e _ q r' _ hl2 hm']
        · intro r x e'
          have hbs : b < w.heap.size := (Array.getElem?_eq_some_iff.1 hbw).1
          rw [hpOf_set w w' b _ hw]
          by_cases hr' : r = b
          · simp only [hr', if_true] at e'; rw [if_pos ⟨hr', hbs⟩]; exact e'
          · simp only [hr', if_false] at e'; rw [if_neg (fun z => hr' z.1)]; exact l1 r x e'
        · intro r e'
          by_cases hr' : r = b
          · left; subst hr'; rw [x6]; simp
          · left; simpa [hr'] using e'
        · intro r e' _
          rw [hpOf_set w w' b _ hw, if_neg]
          rintro ⟨rfl, _⟩
          rw [x6] at e'; cases e'
end
end Go.Vt
