/- What is read and written no more: a pool that grows; facts at joins and in loops; lists whose elements hold slices; slicing. No conditions. -/
import Derived.Test.YteebpkekdkkmhaaGreatDoorVtI
namespace Go.Vt
/-- the second holds at least what the first does -/
def Ext (X X' : HP) : Prop := ∀ h g, X' h g → ∃ h', Hp.le h' h ∧ X h' g
theorem Ext.refl (X : HP) : Ext X X := fun h _ x => ⟨h, Hp.le_refl h, x⟩
theorem Ext.trans {X Y Z : HP} (a : Ext X Y) (b : Ext Y Z) : Ext X Z := fun h g z => by
  obtain ⟨h1, l1, y⟩ := b h g z
  obtain ⟨h2, l2, x⟩ := a h1 g y
  exact ⟨h2, Hp.le_trans l2 l1, x⟩
theorem Rd.ext {τ : Type} {X X' : HP} {s : SV} {ty : TypeId} {e : En τ} {l : List τ} (h : Rd X s ty e l) (a : Ext X X') : Rd X' s ty e l := fun h1 g m x l1 l2 => by
  obtain ⟨h', l3, x'⟩ := a h1 g x
  exact h h' g m x' (Hp.le_trans l3 l1) l2
def st (A B : HP) : HP := fun h g => ∃ h1 h2, Hp.dj h1 h2 ∧ Hp.le h1 h ∧ Hp.le h2 h ∧ A h1 g ∧ B h2 g
theorem ext_l (A B : HP) : Ext A (st A B) := fun _ _ ⟨h1, _, _, l, _, a, _⟩ => ⟨h1, l, a⟩
theorem ext_r (A B : HP) : Ext B (st A B) := fun _ _ ⟨_, h2, _, _, l, _, b⟩ => ⟨h2, l, b⟩
theorem HS.fuse {A B : HP} {R : List HP} {g : Gw} {w : World} (s : HS (A :: B :: R) g w) : HS (st A B :: R) g w := by
  obtain ⟨h, ⟨h1, h2, d, l1, l2, p, h3, h4, d', l3, l4, q, s⟩, r⟩ := s
  refine ⟨h, ⟨Hp.un h1 h3, h4, ?_, Hp.un_le l1 (Hp.le_trans l3 l2), Hp.le_trans l4 l2, ?_, s⟩, r⟩
  · exact Hp.dj_comm (Hp.dj_un (Hp.dj_comm (Hp.dj_le d l4)) (Hp.dj_comm d'))
  · exact ⟨h1, h3, Hp.dj_le d l3, Hp.le_un_left _ _, Hp.le_un_right (Hp.dj_le d l3), p, q⟩
theorem HS.unfuse {A B : HP} {R : List HP} {g : Gw} {w : World} (s : HS (st A B :: R) g w) : HS (A :: B :: R) g w := by
  obtain ⟨h, ⟨h1, h2, d, l1, l2, ⟨h3, h4, d', l3, l4, a, b⟩, s⟩, r⟩ := s
  refine ⟨h, ⟨h3, Hp.un h4 h2, ?_, Hp.le_trans l3 l1, Hp.un_le (Hp.le_trans l4 l1) l2, a, h4, h2, Hp.dj_comm (Hp.dj_le (Hp.dj_comm d) l4), Hp.le_un_left _ _, Hp.le_un_right (Hp.dj_comm (Hp.dj_le (Hp.dj_comm d) l4)), b, s⟩, r⟩
  exact Hp.dj_un d' (Hp.dj_comm (Hp.dj_le (Hp.dj_comm d) l3))
section
variable {E : Env} {ro : Option Nat} {N : Nat} {ds : List Deferred} {T : List (Nat × Value)} {H H' R R' : List HP} {g : Gw} {K : Value → List HP → Prop} {Q : Qt}
/-! ### a slice of one's own is given to the pool -/
theorem HS.fz {τ : Type} {s : SV} {t : TypeId} {e : En τ} {l : List τ} {X : HP} {w : World} (m1 : Rem (slO s t e l) H R) (m2 : Rem X R R') (hs : HS H g w) : HS (st (slO s t e l) X :: R') g w :=
  ((hs.perm m1.perm).perm (m2.perm.cons _)).fuse
theorem o_fz {τ : Type} {s : SV} {t : TypeId} {e : En τ} {l : List τ} {X : HP} {lst rest : List Oper} (m1 : Rem (slO s t e l) H R) (m2 : Rem X R R') (k : ∀ X', Ext X X' → Rd X' s t e l → GO E ro N ds T (X' :: R') g lst rest Q) : GO E ro N ds T H g lst rest Q :=
  fun a w t' hs => k _ (ext_r _ _) ((rd_own s t e l).ext (ext_l _ _)) a w t' (hs.fz m1 m2)
theorem r_fz {τ : Type} {s : SV} {t : TypeId} {e : En τ} {l : List τ} {X : HP} {fn : Func} (m1 : Rem (slO s t e l) H R) (m2 : Rem X R R') (k : ∀ X', Ext X X' → Rd X' s t e l → GR E fn N ds T (X' :: R') g K) : GR E fn N ds T H g K :=
  fun a w t' hs => k _ (ext_r _ _) ((rd_own s t e l).ext (ext_l _ _)) a w t' (hs.fz m1 m2)
theorem r_add {fn : Func} (Pp : HP) (h : ∀ g, Pp (fun _ => none) g) (k : GR E fn N ds T (Pp :: H) g K) : GR E fn N ds T H g K := fun a w t s => k a w t (s.add (h g))
theorem rd_nil {τ : Type} (X : HP) (ty : TypeId) (e : En τ) : Rd X SV.nil ty e ([] : List τ) := fun _ _ _ _ _ _ => ⟨rfl, Nat.le_refl _, fun _ => rfl, .inl rfl⟩
/-! ### joins and loops, with facts -/
def JF {D ι : Type} (N : Nat) (ds : List Deferred) (P : D → ι → Prop) (TJ : D → ι → List (Nat × Value)) (HJ : D → ι → List HP) (g : Gw) (Q : Qt) : Qt := fun e a w => match e with
  | .normal => ∃ d i, P d i ∧ TS N ds (TJ d i) a ∧ HS (HJ d i) g w
  | e => Q e a w
theorem cj {D ι : Type} {c : Code} (P : D → ι → Prop) (TJ : D → ι → List (Nat × Value)) (HJ : D → ι → List HP) (hb : GC E ro N ds T H g c (JF N ds P TJ HJ g Q)) (hk : ∀ d i, P d i → GE N ds (TJ d i) (HJ d i) g Q .normal) : GC E ro N ds T H g c Q := fun a w t s =>
  wpIn_mono (hb a w t s) fun e a w q => by
    cases e with
    | normal => obtain ⟨d, i, p, t, s⟩ := q; exact hk d i p a w t s
    | _ => exact q
theorem ej {D ι : Type} {P : D → ι → Prop} {TJ : D → ι → List (Nat × Value)} {HJ : D → ι → List HP} (d : D) (i : ι) (p : P d i) (s : Sub (TJ d i) T) (k : Keep H (HJ d i)) : GE N ds T H g (JF N ds P TJ HJ g Q) .normal := fun _ _ t hs => ⟨d, i, p, t.sub s, hs.keep k⟩
theorem ej_ret {D ι : Type} {P : D → ι → Prop} {TJ : D → ι → List (Nat × Value)} {HJ : D → ι → List HP} (h : GE N ds T H g Q .ret) : GE N ds T H g (JF N ds P TJ HJ g Q) .ret := h
theorem ej_exit {D ι : Type} {P : D → ι → Prop} {TJ : D → ι → List (Nat × Value)} {HJ : D → ι → List HP} {i : Nat} (h : GE N ds T H g Q (.exit i)) : GE N ds T H g (JF N ds P TJ HJ g Q) (.exit i) := h
theorem lf {X ι O : Type} {c : Code} (L : Nat → X → Option O) (out : O) (F : X → ι → Prop) (TL : X → ι → List (Nat × Value)) (HL : X → ι → List HP) (hz : ∀ x, L 0 x = none)
    (step : ∀ k, (∀ x i, F x i → L k x = some out → GL E ro N ds (TL x i) (HL x i) g c Q) → ∀ x i, F x i → L (k + 1) x = some out → GL E ro N ds (TL x i) (HL x i) g c Q)
    (k : Nat) (x : X) (i : ι) (f : F x i) (h : L k x = some out) : GL E ro N ds (TL x i) (HL x i) g c Q := by
  induction k generalizing x i with
  | zero => rw [hz] at h; cases h
  | succ k ih => exact step k (fun x i f h => ih x i f h) x i f h
/-! ### lists whose elements hold slices: each element beside its slices -/
def NL {τ σ : Type} (D : τ × σ → Prop) (L : List (τ × σ)) (l : List τ) : Prop := L.map (·.1) = l ∧ ∀ y ∈ L, D y
section
variable {τ σ : Type} {D D' : τ × σ → Prop} {L L2 : List (τ × σ)} {l l2 : List τ}
theorem NL.nil : NL D [] [] := ⟨rfl, fun _ h => by cases h⟩
theorem NL.cons {x : τ} {s : σ} (h : D (x, s)) (k : NL D L l) : NL D ((x, s) :: L) (x :: l) := ⟨by simp [k.1], fun y hy => by
  cases hy with
  | head => exact h
  | tail _ hy => exact k.2 y hy⟩
theorem NL.app (h : NL D L l) (k : NL D L2 l2) : NL D (L ++ L2) (l ++ l2) := ⟨by simp [h.1, k.1], fun y hy => by
  rcases List.mem_append.1 hy with h1 | h1
  · exact h.2 y h1
  · exact k.2 y h1⟩
theorem NL.mono (h : NL D L l) (f : ∀ y, D y → D' y) : NL D' L l := ⟨h.1, fun y hy => f y (h.2 y hy)⟩
theorem NL.len (h : NL D L l) : L.length = l.length := by rw [← h.1]; simp
theorem NL.lt {n : Int} (h : NL D L l) (b : 0 ≤ n ∧ n < l.length) : 0 ≤ n ∧ n < L.length := by rw [h.len]; exact b
theorem NL.rd [Inhabited τ] [Inhabited σ] (h : NL D L l) {n : Int} (b : 0 ≤ n ∧ n < l.length) : ∃ s, Vt.rd L n = (Vt.rd l n, s) ∧ D (Vt.rd l n, s) := by
  have h1 := rd_eq (h.lt b)
  have h2 := rd_eq b
  have h3 : (Vt.rd L n).1 = Vt.rd l n := by
    have : (L.map (·.1))[n.toNat]? = some (Vt.rd L n).1 := by rw [List.getElem?_map, h1]; rfl
    rw [h.1, h2] at this; exact (Option.some.inj this).symm
  refine ⟨(Vt.rd L n).2, by rw [← h3], ?_⟩
  have := h.2 _ (List.mem_of_getElem? h1)
  rw [← h3]; exact this
theorem NL.set {n : Nat} {x : τ} {s : σ} (h : NL D L l) (d : D (x, s)) : NL D (L.set n (x, s)) (l.set n x) := ⟨by rw [← h.1, List.map_set], fun y hy => by
  rcases List.mem_or_eq_of_mem_set hy with h1 | h1
  · exact h.2 y h1
  · rw [h1]; exact d⟩
theorem NL.cut {a b : Nat} (h : NL D L l) : NL D ((L.take b).drop a) ((l.take b).drop a) := ⟨by rw [← h.1, List.map_drop, List.map_take], fun y hy => h.2 y (List.mem_of_mem_take (List.mem_of_mem_drop hy))⟩
end
def RdN {τ σ : Type} (X : HP) (s : SV) (ty : TypeId) (e : En (τ × σ)) (D : HP → τ × σ → Prop) (l : List τ) : Prop := ∃ L, Rd X s ty e L ∧ NL (D X) L l
theorem RdN.ext {τ σ : Type} {X X' : HP} {s : SV} {ty : TypeId} {e : En (τ × σ)} {D : HP → τ × σ → Prop} {l : List τ} (h : RdN X s ty e D l) (a : Ext X X') (f : ∀ y, D X y → D X' y) : RdN X' s ty e D l := by
  obtain ⟨L, h1, h2⟩ := h; exact ⟨L, h1.ext a, h2.mono f⟩
/-! ### slicing -/
def bnd (T : List (Nat × Value)) (o : Option Operand) (d : Int) : Option Int := match o with
  | none => some d
  | some x => match ev T x with
    | some (.int _ n) => some n
    | _ => none
def SV.cut (s : SV) (sz a b m : Nat) : SV := ⟨if m = a then s.a else s.a.map (·.add (a * sz)), b - a, m - a⟩
theorem Rd.cut {τ : Type} {X : HP} {s : SV} {t : TypeId} {e : En τ} {l : List τ} (h : Rd X s t e l) {a b m : Nat} (hb : a ≤ b ∧ b ≤ l.length) (hm : b ≤ m) (hm2 : s.cap = 0 → m = 0) : Rd X (s.cut e.sz a b m) t e ((l.take b).drop a) := fun h1 g mm x l1 l2 => by
  have r := h h1 g mm x l1 l2
  have hlen : ((l.take b).drop a).length = b - a := by simp; omega
  have hc := r.cap
  have hl := r.len
  refine ⟨by simp [SV.cut, hlen], by simp only [SV.cut]; omega, ?_, ?_⟩
  · intro e0
    have e1 : s.a = none := by
      simp only [SV.cut] at e0
      split at e0
      · exact e0
      · simpa using e0
    have e2 := r.nil e1
    have e3 : s.len = 0 := by rw [e2]; rfl
    have hm0 : m = 0 := hm2 (by rw [e2]; rfl)
    have ha : a = 0 := by omega
    have hb0 : b = 0 := by omega
    subst ha hb0 hm0
    rw [e2]; rfl
  rcases r.at_ with h3 | ⟨bb, off, cs, fr, t', h2, h3, h4⟩
  · left
    rw [hlen]; omega
  · right
    by_cases hca : m = a
    · refine ⟨bb, off, cs, fr, t', by simp [SV.cut, hca, h2], h3, fun j hj => ?_⟩
      rw [hlen, show b - a = 0 by omega] at hj; omega
    · refine ⟨bb, off + a * e.sz, cs, fr, t', by simp [SV.cut, hca, h2, addr_add], h3, fun j hj => ?_⟩
      rw [hlen] at hj
      have hj2 : a * e.sz + j < l.length * e.sz := by
        have h5 : (b - a) * e.sz + a * e.sz = b * e.sz := by rw [← Nat.add_mul]; congr 1; omega
        have h6 : b * e.sz ≤ l.length * e.sz := Nat.mul_le_mul_right _ hb.2
        omega
      rw [Nat.add_assoc, h4 _ hj2]
      have hq : j = (j / e.sz) * e.sz + j % e.sz := by rw [Nat.mul_comm]; exact (Nat.div_add_mod j e.sz).symm
      have hm : j % e.sz < e.sz := Nat.mod_lt _ e.pos
      have hd : j / e.sz < b - a := by rw [Nat.div_lt_iff_lt_mul e.pos]; exact hj
      generalize j / e.sz = q at hq hd
      generalize j % e.sz = r' at hq hm
      subst hq
      have g1 : l[a + q]? = some l[a + q] := by rw [List.getElem?_eq_getElem (by omega)]
      have g2 : ((l.take b).drop a)[q]? = some l[a + q] := by
        rw [List.getElem?_drop, List.getElem?_take, if_pos (by omega)]; exact g1
      rw [show a * e.sz + (q * e.sz + r') = (a + q) * e.sz + r' by rw [Nat.add_mul]; omega, flat_at e l _ _ _ g1 hm, flat_at e _ _ _ _ g2 hm]
/-- slicing up to a bound of the room, or to the end of the room -/
def mxv (s : SV) : Option Int → Nat
  | none => s.cap
  | some m => m.toNat
theorem Rd.cutv {τ : Type} {X : HP} {s : SV} {t : TypeId} {e : En τ} {l : List τ} (h : Rd X s t e l) {a b : Int} {m : Option Int} (hb : 0 ≤ a ∧ a ≤ b ∧ b ≤ l.length) (hm : ∀ z, m = some z → b ≤ z ∧ z ≤ l.length) : Rd X (s.cut e.sz a.toNat b.toNat (mxv s m)) t e ((l.take b.toNat).drop a.toNat) := fun h1 g mm x l1 l2 => by
  have r := h h1 g mm x l1 l2
  have hc := r.cap
  have hl := r.len
  refine h.cut (a := a.toNat) (b := b.toNat) (by omega) ?_ ?_ h1 g mm x l1 l2
  · cases m with
    | none => simp only [mxv]; omega
    | some z => have := hm z rfl; simp only [mxv]; omega
  · intro h0
    cases m with
    | none => exact h0
    | some z => have := hm z rfl; simp only [mxv]; omega
section
variable {d : Option Tmp} {ty : TypeId} {pos : String} {af : Array Edge} {gd : Option (Nat × Bool)}
theorem run_bound {P : Program} {w : World} {k : IntKind} {n : Int} {y : Nat} {c : BoundsCode} (h : 0 ≤ n ∧ n ≤ y) : (Instr.sliceBound (.int k n) y c).run P w = .ok n.toNat w := by
  simp [Instr.sliceBound, asIntOf, h]
def bndm (T : List (Nat × Value)) (o : Option Operand) : Option (Option Int) := match o with
  | none => some none
  | some x => match ev T x with
    | some (.int _ n) => some (some n)
    | _ => none
theorem o_slx {τ : Type} {X : HP} {s : SV} {t st : TypeId} {e : En τ} {l : List τ} {x : Operand} {lo hi mx : Option Operand} {i j : TI} {a b : Int} {m : Option Int} (hx : ev T x = some s.val) (ht : lk E.tt st = some i) (hi' : i.und = .slice t) (hj : lk E.tt t = some j) (hz : j.size = e.sz)
    (hm : Rem X H R) (hX : Rd X s t e l) (h1 : bnd T lo 0 = some a) (h2 : bnd T hi l.length = some b) (h3 : bndm T mx = some m) (hh : mx.isSome = true → hi.isSome = true) (hb : 0 ≤ a ∧ a ≤ b ∧ b ≤ l.length) (hmz : ∀ z, m = some z → b ≤ z ∧ z ≤ l.length) (k : K (SV.val (s.cut e.sz a.toNat b.toNat (mxv s m))) H) :
    OPW E ro N ds T H g ⟨d, .slice st x lo hi mx, ty, pos, af, gd⟩ K := by
  refine opw_value rfl fun ac w t' hs => ⟨_, w, H, ?_, k, hs⟩
  have hr := hs.rdh hm hX
  have hc := hr.cap
  have hl := hr.len
  have key : (Instr.slice st s.val (lo.map ac.eval) (hi.map ac.eval) (mx.map ac.eval)).run E.P w = .ok (SV.val (s.cut e.sz a.toNat b.toNat (mxv s m))) w := by
    have hh' : (hi = none ∧ s.len = b.toNat) ∨ ∃ y k', hi = some y ∧ ac.eval y = .int k' b := by
      cases hi with
      | none => simp only [bnd, Option.some.injEq] at h2; subst h2; exact .inl ⟨rfl, by simp [hl]⟩
      | some y =>
        simp only [bnd] at h2
        split at h2
        · rename_i hy; cases h2; exact .inr ⟨y, _, rfl, t'.ev hy⟩
        · cases h2
    have hlow : (lo = none ∧ 0 = a.toNat) ∨ ∃ y k', lo = some y ∧ ac.eval y = .int k' a := by
      cases lo with
      | none => simp only [bnd, Option.some.injEq] at h1; subst h1; exact .inl ⟨rfl, rfl⟩
      | some y =>
        simp only [bnd] at h1
        split at h1
        · rename_i hy; cases h1; exact .inr ⟨y, _, rfl, t'.ev hy⟩
        · cases h1
    have b2 : ∀ k' c, (Instr.sliceBound (.int k' a) b.toNat c).run E.P w = .ok a.toNat w := fun k' c => run_bound (by omega)
    cases mx with
    | none =>
      simp only [bndm, Option.some.injEq] at h3; subst h3
      have b1 : ∀ k' c, (Instr.sliceBound (.int k' b) s.cap c).run E.P w = .ok b.toNat w := fun k' c => run_bound (by omega)
      rcases hh' with ⟨rfl, hh'⟩ | ⟨y, k1, rfl, hh'⟩ <;> rcases hlow with ⟨rfl, hlow⟩ | ⟨z, k2, rfl, hlow⟩
      · simp [Instr.slice, SV.cut, mxv, SV.val, run_und E ht, hi', Result.andThen, Instr.sliceBounds, run_size E hj, hz, hh', ← hlow] <;> rfl
      · simp [Instr.slice, SV.cut, mxv, SV.val, run_und E ht, hi', Result.andThen, Instr.sliceBounds, run_size E hj, hz, hh', hlow, b2] <;> rfl
      · simp [Instr.slice, SV.cut, mxv, SV.val, run_und E ht, hi', Result.andThen, Instr.sliceBounds, run_size E hj, hz, hh', b1, ← hlow] <;> rfl
      · simp [Instr.slice, SV.cut, mxv, SV.val, run_und E ht, hi', Result.andThen, Instr.sliceBounds, run_size E hj, hz, hh', hlow, b1, b2] <;> rfl
    | some q =>
      simp only [bndm] at h3
      split at h3
      · rename_i kq z hq
        cases h3
        have hz' := hmz z rfl
        have eq := t'.ev hq
        have b0 : ∀ c, (Instr.sliceBound (.int kq z) s.cap c).run E.P w = .ok z.toNat w := fun c => run_bound (by omega)
        have b1 : ∀ k' c, (Instr.sliceBound (.int k' b) z.toNat c).run E.P w = .ok b.toNat w := fun k' c => run_bound (by omega)
        rcases hh' with ⟨rfl, hh'⟩ | ⟨y, k1, rfl, hh'⟩
        · simp at hh
        · rcases hlow with ⟨rfl, hlow⟩ | ⟨z', k2, rfl, hlow⟩
          · simp [Instr.slice, SV.cut, mxv, SV.val, run_und E ht, hi', Result.andThen, Instr.sliceBounds, run_size E hj, hz, hh', eq, b0, b1, ← hlow] <;> rfl
          · simp [Instr.slice, SV.cut, mxv, SV.val, run_und E ht, hi', Result.andThen, Instr.sliceBounds, run_size E hj, hz, hh', hlow, eq, b0, b1, b2] <;> rfl
      · cases h3
  have h3' : (Instr.sliceAt st s.val (lo.map ac.eval) (hi.map ac.eval) (mx.map ac.eval)).run E.P w = (Instr.slice st s.val (lo.map ac.eval) (hi.map ac.eval) (mx.map ac.eval)).run E.P w := by
    simp [Instr.sliceAt, run_und E ht, hi', Result.andThen]
  simp only [execOp, t'.ev hx, Sem.run_bind]
  first
    | rw [h3', key]; simp [Result.andThen]
    | rw [key]; simp [Result.andThen]
theorem o_sl {τ : Type} {X : HP} {s : SV} {t st : TypeId} {e : En τ} {l : List τ} {x : Operand} {lo hi mx : Option Operand} {i j : TI} {a b : Int} {m : Option Int} (hx : ev T x = some s.val) (ht : lk E.tt st = some i) (hi' : i.und = .slice t) (hj : lk E.tt t = some j) (hz : j.size = e.sz)
    (hm : Rem X H R) (hX : Rd X s t e l) (h1 : bnd T lo 0 = some a) (h2 : bnd T hi l.length = some b) (h3 : bndm T mx = some m) (hh : mx.isSome = true → hi.isSome = true) (hb : 0 ≤ a ∧ a ≤ b ∧ b ≤ l.length) (hmz : ∀ z, m = some z → b ≤ z ∧ z ≤ l.length) (k : ∀ s', Rd X s' t e ((l.take b.toNat).drop a.toNat) → K (SV.val s') H) :
    OPW E ro N ds T H g ⟨d, .slice st x lo hi mx, ty, pos, af, gd⟩ K := o_slx hx ht hi' hj hz hm hX h1 h2 h3 hh hb hmz (k _ (hX.cutv hb hmz))
theorem mx_none {b l : Int} : ∀ z, (none : Option Int) = some z → b ≤ z ∧ z ≤ l := fun _ h => by cases h
theorem mx_some {y b l : Int} (h : b ≤ y ∧ y ≤ l) : ∀ z, some y = some z → b ≤ z ∧ z ≤ l := fun z e => by cases e; exact h
theorem o_lenN {τ σ : Type} {D : τ × σ → Prop} {X : HP} {s : SV} {t st : TypeId} {e : En (τ × σ)} {L : List (τ × σ)} {l : List τ} {x : Operand} {i : TI} (hx : ev T x = some s.val) (ht : lk E.tt st = some i) (hi : isSl i = true) (hm : Rem X H R) (hX : Rd X s t e L) (hN : NL D L l) (k : K (.int .i64 l.length) H) :
    OPW E ro N ds T H g ⟨d, .call ⟨.builtin .len, #[x], #[st]⟩, ty, pos, af, gd⟩ K := o_len hx ht hi hm hX (by rw [hN.len]; exact k)
end
end
end Go.Vt
