/- What the printed walks use: places by number, joins, loops, models. No conditions. -/
import Derived.Test.YteebpkekdkkmhaaGreatDoorVtH
namespace Go.Vt
theorem rm0 {α : Type} {a : α} {l : List α} : Rem a (a :: l) l := .head _
theorem rm1 {α : Type} {a x0 : α} {l : List α} : Rem a (x0 ::  a :: l) (x0 ::  l) := (.tail _  (.head _))
theorem rm2 {α : Type} {a x0 x1 : α} {l : List α} : Rem a (x0 :: x1 ::  a :: l) (x0 :: x1 ::  l) := (.tail _ (.tail _  (.head _)))
theorem rm3 {α : Type} {a x0 x1 x2 : α} {l : List α} : Rem a (x0 :: x1 :: x2 ::  a :: l) (x0 :: x1 :: x2 ::  l) := (.tail _ (.tail _ (.tail _  (.head _))))
theorem rm4 {α : Type} {a x0 x1 x2 x3 : α} {l : List α} : Rem a (x0 :: x1 :: x2 :: x3 ::  a :: l) (x0 :: x1 :: x2 :: x3 ::  l) := (.tail _ (.tail _ (.tail _ (.tail _  (.head _)))))
theorem rm5 {α : Type} {a x0 x1 x2 x3 x4 : α} {l : List α} : Rem a (x0 :: x1 :: x2 :: x3 :: x4 ::  a :: l) (x0 :: x1 :: x2 :: x3 :: x4 ::  l) := (.tail _ (.tail _ (.tail _ (.tail _ (.tail _  (.head _))))))
theorem rm6 {α : Type} {a x0 x1 x2 x3 x4 x5 : α} {l : List α} : Rem a (x0 :: x1 :: x2 :: x3 :: x4 :: x5 ::  a :: l) (x0 :: x1 :: x2 :: x3 :: x4 :: x5 ::  l) := (.tail _ (.tail _ (.tail _ (.tail _ (.tail _ (.tail _  (.head _)))))))
theorem rm7 {α : Type} {a x0 x1 x2 x3 x4 x5 x6 : α} {l : List α} : Rem a (x0 :: x1 :: x2 :: x3 :: x4 :: x5 :: x6 ::  a :: l) (x0 :: x1 :: x2 :: x3 :: x4 :: x5 :: x6 ::  l) := (.tail _ (.tail _ (.tail _ (.tail _ (.tail _ (.tail _ (.tail _  (.head _))))))))
theorem rm8 {α : Type} {a x0 x1 x2 x3 x4 x5 x6 x7 : α} {l : List α} : Rem a (x0 :: x1 :: x2 :: x3 :: x4 :: x5 :: x6 :: x7 ::  a :: l) (x0 :: x1 :: x2 :: x3 :: x4 :: x5 :: x6 :: x7 ::  l) := (.tail _ (.tail _ (.tail _ (.tail _ (.tail _ (.tail _ (.tail _ (.tail _  (.head _)))))))))
theorem rm9 {α : Type} {a x0 x1 x2 x3 x4 x5 x6 x7 x8 : α} {l : List α} : Rem a (x0 :: x1 :: x2 :: x3 :: x4 :: x5 :: x6 :: x7 :: x8 ::  a :: l) (x0 :: x1 :: x2 :: x3 :: x4 :: x5 :: x6 :: x7 :: x8 ::  l) := (.tail _ (.tail _ (.tail _ (.tail _ (.tail _ (.tail _ (.tail _ (.tail _ (.tail _  (.head _))))))))))
theorem rm10 {α : Type} {a x0 x1 x2 x3 x4 x5 x6 x7 x8 x9 : α} {l : List α} : Rem a (x0 :: x1 :: x2 :: x3 :: x4 :: x5 :: x6 :: x7 :: x8 :: x9 ::  a :: l) (x0 :: x1 :: x2 :: x3 :: x4 :: x5 :: x6 :: x7 :: x8 :: x9 ::  l) := (.tail _ (.tail _ (.tail _ (.tail _ (.tail _ (.tail _ (.tail _ (.tail _ (.tail _ (.tail _  (.head _)))))))))))
theorem rm11 {α : Type} {a x0 x1 x2 x3 x4 x5 x6 x7 x8 x9 x10 : α} {l : List α} : Rem a (x0 :: x1 :: x2 :: x3 :: x4 :: x5 :: x6 :: x7 :: x8 :: x9 :: x10 ::  a :: l) (x0 :: x1 :: x2 :: x3 :: x4 :: x5 :: x6 :: x7 :: x8 :: x9 :: x10 ::  l) := (.tail _ (.tail _ (.tail _ (.tail _ (.tail _ (.tail _ (.tail _ (.tail _ (.tail _ (.tail _ (.tail _  (.head _))))))))))))
theorem rm12 {α : Type} {a x0 x1 x2 x3 x4 x5 x6 x7 x8 x9 x10 x11 : α} {l : List α} : Rem a (x0 :: x1 :: x2 :: x3 :: x4 :: x5 :: x6 :: x7 :: x8 :: x9 :: x10 :: x11 ::  a :: l) (x0 :: x1 :: x2 :: x3 :: x4 :: x5 :: x6 :: x7 :: x8 :: x9 :: x10 :: x11 ::  l) := (.tail _ (.tail _ (.tail _ (.tail _ (.tail _ (.tail _ (.tail _ (.tail _ (.tail _ (.tail _ (.tail _ (.tail _  (.head _)))))))))))))
theorem rm13 {α : Type} {a x0 x1 x2 x3 x4 x5 x6 x7 x8 x9 x10 x11 x12 : α} {l : List α} : Rem a (x0 :: x1 :: x2 :: x3 :: x4 :: x5 :: x6 :: x7 :: x8 :: x9 :: x10 :: x11 :: x12 ::  a :: l) (x0 :: x1 :: x2 :: x3 :: x4 :: x5 :: x6 :: x7 :: x8 :: x9 :: x10 :: x11 :: x12 ::  l) := (.tail _ (.tail _ (.tail _ (.tail _ (.tail _ (.tail _ (.tail _ (.tail _ (.tail _ (.tail _ (.tail _ (.tail _ (.tail _  (.head _))))))))))))))
theorem rm14 {α : Type} {a x0 x1 x2 x3 x4 x5 x6 x7 x8 x9 x10 x11 x12 x13 : α} {l : List α} : Rem a (x0 :: x1 :: x2 :: x3 :: x4 :: x5 :: x6 :: x7 :: x8 :: x9 :: x10 :: x11 :: x12 :: x13 ::  a :: l) (x0 :: x1 :: x2 :: x3 :: x4 :: x5 :: x6 :: x7 :: x8 :: x9 :: x10 :: x11 :: x12 :: x13 ::  l) := (.tail _ (.tail _ (.tail _ (.tail _ (.tail _ (.tail _ (.tail _ (.tail _ (.tail _ (.tail _ (.tail _ (.tail _ (.tail _ (.tail _  (.head _)))))))))))))))
theorem rm15 {α : Type} {a x0 x1 x2 x3 x4 x5 x6 x7 x8 x9 x10 x11 x12 x13 x14 : α} {l : List α} : Rem a (x0 :: x1 :: x2 :: x3 :: x4 :: x5 :: x6 :: x7 :: x8 :: x9 :: x10 :: x11 :: x12 :: x13 :: x14 ::  a :: l) (x0 :: x1 :: x2 :: x3 :: x4 :: x5 :: x6 :: x7 :: x8 :: x9 :: x10 :: x11 :: x12 :: x13 :: x14 ::  l) := (.tail _ (.tail _ (.tail _ (.tail _ (.tail _ (.tail _ (.tail _ (.tail _ (.tail _ (.tail _ (.tail _ (.tail _ (.tail _ (.tail _ (.tail _  (.head _))))))))))))))))
theorem rp0 {α : Type} {a b : α} {l : List α} : Rep a b (a :: l) (b :: l) := .head _
theorem rp1 {α : Type} {a b x0 : α} {l : List α} : Rep a b (x0 ::  a :: l) (x0 ::  b :: l) := (.tail _  (.head _))
theorem rp2 {α : Type} {a b x0 x1 : α} {l : List α} : Rep a b (x0 :: x1 ::  a :: l) (x0 :: x1 ::  b :: l) := (.tail _ (.tail _  (.head _)))
theorem rp3 {α : Type} {a b x0 x1 x2 : α} {l : List α} : Rep a b (x0 :: x1 :: x2 ::  a :: l) (x0 :: x1 :: x2 ::  b :: l) := (.tail _ (.tail _ (.tail _  (.head _))))
theorem rp4 {α : Type} {a b x0 x1 x2 x3 : α} {l : List α} : Rep a b (x0 :: x1 :: x2 :: x3 ::  a :: l) (x0 :: x1 :: x2 :: x3 ::  b :: l) := (.tail _ (.tail _ (.tail _ (.tail _  (.head _)))))
theorem rp5 {α : Type} {a b x0 x1 x2 x3 x4 : α} {l : List α} : Rep a b (x0 :: x1 :: x2 :: x3 :: x4 ::  a :: l) (x0 :: x1 :: x2 :: x3 :: x4 ::  b :: l) := (.tail _ (.tail _ (.tail _ (.tail _ (.tail _  (.head _))))))
theorem rp6 {α : Type} {a b x0 x1 x2 x3 x4 x5 : α} {l : List α} : Rep a b (x0 :: x1 :: x2 :: x3 :: x4 :: x5 ::  a :: l) (x0 :: x1 :: x2 :: x3 :: x4 :: x5 ::  b :: l) := (.tail _ (.tail _ (.tail _ (.tail _ (.tail _ (.tail _  (.head _)))))))
theorem rp9 {α : Type} {a b x0 x1 x2 x3 x4 x5 x6 x7 x8 : α} {l : List α} : Rep a b (x0 :: x1 :: x2 :: x3 :: x4 :: x5 :: x6 :: x7 :: x8 ::  a :: l) (x0 :: x1 :: x2 :: x3 :: x4 :: x5 :: x6 :: x7 :: x8 ::  b :: l) := (.tail _ (.tail _ (.tail _ (.tail _ (.tail _ (.tail _ (.tail _ (.tail _ (.tail _  (.head _))))))))))
theorem rp11 {α : Type} {a b x0 x1 x2 x3 x4 x5 x6 x7 x8 x9 x10 : α} {l : List α} : Rep a b (x0 :: x1 :: x2 :: x3 :: x4 :: x5 :: x6 :: x7 :: x8 :: x9 :: x10 ::  a :: l) (x0 :: x1 :: x2 :: x3 :: x4 :: x5 :: x6 :: x7 :: x8 :: x9 :: x10 ::  b :: l) := (.tail _ (.tail _ (.tail _ (.tail _ (.tail _ (.tail _ (.tail _ (.tail _ (.tail _ (.tail _ (.tail _  (.head _))))))))))))
theorem rp12 {α : Type} {a b x0 x1 x2 x3 x4 x5 x6 x7 x8 x9 x10 x11 : α} {l : List α} : Rep a b (x0 :: x1 :: x2 :: x3 :: x4 :: x5 :: x6 :: x7 :: x8 :: x9 :: x10 :: x11 ::  a :: l) (x0 :: x1 :: x2 :: x3 :: x4 :: x5 :: x6 :: x7 :: x8 :: x9 :: x10 :: x11 ::  b :: l) := (.tail _ (.tail _ (.tail _ (.tail _ (.tail _ (.tail _ (.tail _ (.tail _ (.tail _ (.tail _ (.tail _ (.tail _  (.head _)))))))))))))
theorem rp13 {α : Type} {a b x0 x1 x2 x3 x4 x5 x6 x7 x8 x9 x10 x11 x12 : α} {l : List α} : Rep a b (x0 :: x1 :: x2 :: x3 :: x4 :: x5 :: x6 :: x7 :: x8 :: x9 :: x10 :: x11 :: x12 ::  a :: l) (x0 :: x1 :: x2 :: x3 :: x4 :: x5 :: x6 :: x7 :: x8 :: x9 :: x10 :: x11 :: x12 ::  b :: l) := (.tail _ (.tail _ (.tail _ (.tail _ (.tail _ (.tail _ (.tail _ (.tail _ (.tail _ (.tail _ (.tail _ (.tail _ (.tail _  (.head _))))))))))))))
theorem sn {T : List (Nat × Value)} : Sub [] T := Sub.nil T
theorem sc {T' T : List (Nat × Value)} {t : Nat} {v : Value} (h : lk T t = some v) (s : Sub T' T) : Sub ((t, v) :: T') T := Sub.cons h s
theorem pn {α : Type} {l : List α} : Pick l [] l := .nil l
theorem pc {α : Type} {a : α} {l l' p r : List α} (h : Rem a l l') (k : Pick l' p r) : Pick l (a :: p) r := .cons h k
/-- what is kept of the assertions -/
inductive Keep {α : Type} : List α → List α → Prop
  | refl (l : List α) : Keep l l
  | cons {a : α} {l l' p : List α} : Rem a l l' → Keep l' p → Keep l (a :: p)
  | drop (x : α) {l p : List α} : Keep l p → Keep (x :: l) p
theorem kr {α : Type} {l : List α} : Keep l l := .refl l
theorem kc {α : Type} {a : α} {l l' p : List α} (h : Rem a l l') (k : Keep l' p) : Keep l (a :: p) := .cons h k
theorem kd {α : Type} {x : α} {l p : List α} (k : Keep l p) : Keep (x :: l) p := .drop x k
theorem SatE.keep {H p : List HP} (k : Keep H p) : ∀ {h g : Hp}, SatE H h g → SatE p h g := by
  induction k with
  | refl l => exact fun s => s
  | cons hr _ ih =>
    intro h g s
    obtain ⟨h1, h2, d, l1, l2, q, s⟩ := s.perm hr.perm
    exact ⟨h1, h2, d, l1, l2, q, ih s⟩
  | drop x _ ih =>
    intro h g s
    obtain ⟨h1, h2, d, l1, l2, q, s⟩ := s
    exact (ih s).mono l2
theorem HS.keep {H p : List HP} (k : Keep H p) {g : Gw} {w : World} (s : HS H g w) : HS p g w := by
  obtain ⟨h, s, r⟩ := s; exact ⟨h, s.keep k, r⟩
/-! ### models -/
theorem bsome {α β : Type} {x : Option α} {f : α → Option β} {r : β} (h : x.bind f = some r) : ∃ y, x = some y ∧ f y = some r := by
  cases x with
  | none => cases h
  | some y => exact ⟨y, rfl, h⟩
def gd {α : Type} (c : Prop) [Decidable c] (x : Option α) : Option α := if c then x else none
theorem gsome {α : Type} {c : Prop} [Decidable c] {x : Option α} {r : α} (h : gd c x = some r) : c ∧ x = some r := by
  unfold gd at h; split at h
  · rename_i hc; exact ⟨hc, h⟩
  · cases h
theorem cond_t {α : Type} {b : Bool} {x y z : α} (hb : b = true) (h : cond b x y = z) : x = z := by subst hb; exact h
theorem cond_f {α : Type} {b : Bool} {x y z : α} (hb : b = false) (h : cond b x y = z) : y = z := by subst hb; exact h
/-- a part that may leave what is around it -/
def jn {D O : Type} (M : Option (D ⊕ O)) (f : D → Option O) : Option O := match M with
  | none => none
  | some (.inl d) => f d
  | some (.inr o) => some o
def JK {D O : Type} (f : D → Option O) (r : O) : D ⊕ O → Prop
  | .inl d => f d = some r
  | .inr o => o = r
theorem jn_some {D O : Type} {M : Option (D ⊕ O)} {f : D → Option O} {r : O} (h : jn M f = some r) : ∃ y, M = some y ∧ JK f r y := by
  cases M with
  | none => cases h
  | some y => cases y with
    | inl d => exact ⟨_, rfl, h⟩
    | inr o => exact ⟨_, rfl, Option.some.inj h⟩
def esc {D O : Type} (M : Option O) : Option (D ⊕ O) := M.bind fun z => some (.inr z)
theorem esc_some {D O : Type} {M : Option O} {y : D ⊕ O} (h : esc M = some y) : ∃ z, M = some z ∧ Sum.inr z = y := by
  obtain ⟨z, h1, h2⟩ := bsome h
  exact ⟨z, h1, Option.some.inj h2⟩
def fuel : Nat := 18446744073709551616
abbrev lim : Nat := 68719476736
abbrev w64 (x : Int) : Int := IntKind.wrap .i64 x
section
variable {E : Env} {ro : Option Nat} {N : Nat} {ds : List Deferred} {T : List (Nat × Value)} {H H' R : List HP} {g : Gw} {K : Value → List HP → Prop} {Q : Qt}
/-! ### joins -/
def JQ {D ι : Type} (N : Nat) (ds : List Deferred) (P : D → Prop) (TJ : D → ι → List (Nat × Value)) (HJ : D → ι → List HP) (g : Gw) (Q : Qt) : Qt := fun e a w => match e with
  | .normal => ∃ d i, P d ∧ TS N ds (TJ d i) a ∧ HS (HJ d i) g w
  | e => Q e a w
/-! ### loops -/
theorem l_keep {c : Code} {p : List HP} (k : Keep H p) (h : GL E ro N ds T p g c Q) : GL E ro N ds T H g c Q := fun a w t s => h a w t (s.keep k)
theorem r_keep {fn : Func} {p : List HP} (k : Keep H p) (h : GR E fn N ds T p g K) : GR E fn N ds T H g K := fun a w t s => h a w t (s.keep k)
/-! ### rounds, their record known by a name -/
def rcOf (fc : FuncId) (tmps : Array Value) (ps : Array Tmp) (as bd : Code) (D : Nat) (s : LoopState) (p : Option Code) : Loop := ⟨s, p, fc, tmps, ps, as, bd, D⟩
theorem c_range' {x : Operand} {ps : Array Tmp} {as bd : Code} {gf : FuncId} {fn : Func} {cg : Code} {cap : List Value} {M : Nat} (hx : ev T x = some (.func (.func gf) #[] cap.toArray)) (hb : HasBody E.P gf) (hf : E.P.funcs[gf]? = some fn) (hbd : fn.body = some cg) (hn : fn.ntmps = M)
    (hl : Nat.ble (cap.length + 1) M = true)
    (h : ∀ (l D : Nat) (a : Act) (fc : FuncId) (rc : LoopState → Option Code → Loop), rc = rcOf fc a.tmps ps as bd D → TS N ds T a → GC E none M [] (zipT 0 (.func (.yield l) #[] #[] :: cap)) (blk l (.loop (rc .ready none)) :: blk D (.deferred (some [])) :: H) g cg
      (RQ E fn g (KE E none N (mk D :: ds) T g Q l))) : GC E none N ds T H g (.rangeFunc x ps as bd) Q :=
  c_range hx hb hf hbd hn hl fun l D a fc t => h l D a fc _ rfl t
theorem o_yield' {d : Option Tmp} {ty : TypeId} {pos : String} {af : Array Edge} {gd : Option (Nat × Bool)} {l D : Nat} {fc : FuncId} {a0 : Act} {N0 : Nat} {ds0 : List Deferred} {T0 : List (Nat × Value)} {pend : Option Code} {ps : List Tmp} {as bd : Code} {rc : LoopState → Option Code → Loop} {x : Operand} {xs : List Operand} {vs : List Value} {ats : Array TypeId}
    (hrc : rc = rcOf fc a0.tmps ps.toArray as bd D) (t0 : TS N0 ds0 T0 a0)
    (hx : ev T x = some (.func (.yield l) #[] #[])) (hv : evs T xs = some vs) (hlen : vs.length = ps.length) (hps : ltAll N0 ps = true) (hp : Rem (blk l (.loop (rc .ready pend))) H R)
    (h : GC E (some l) N0 [] (zipP ps vs T0) (blk l (.loop (rc .ready pend)) :: R) g as (YQ E l g bd K)) : OPW E ro N ds T H g ⟨d, .call ⟨.value x, xs.toArray, ats⟩, ty, pos, af, gd⟩ K := by
  subst hrc
  exact o_yield t0 hx hv hlen hps hp h
theorem e_begin' {l D : Nat} {fc : FuncId} {tm : Array Value} {ps : Array Tmp} {as bd bd' : Code} {p : Option Code} {rc : LoopState → Option Code → Loop} (hrc : rc = rcOf fc tm ps as bd D) (hp : Rem (blk l (.loop (rc .ready p))) H R)
    (h : GC E (some l) N ds T (blk l (.loop (rc .busy p)) :: R) g bd' (roundPost E.P l (RK K g))) : GE N ds T H g (YQ E l g bd' K) .normal := by
  subst hrc
  exact e_begin hp rfl h
theorem e_on' {l D : Nat} {fc : FuncId} {tm : Array Value} {ps : Array Tmp} {as bd : Code} {s : LoopState} {p : Option Code} {rc : LoopState → Option Code → Loop} (hrc : rc = rcOf fc tm ps as bd D) (hp : Rem (blk l (.loop (rc s p))) H R)
    (k : K (.bool true) (blk l (.loop (rc .ready none)) :: R)) : GE N ds T H g (roundPost E.P l (RK K g)) .normal := by
  subst hrc
  exact e_on hp k
theorem e_round_ret' {l D : Nat} {fc : FuncId} {tm : Array Value} {ps : Array Tmp} {as bd : Code} {s : LoopState} {p : Option Code} {rc : LoopState → Option Code → Loop} (hrc : rc = rcOf fc tm ps as bd D) (hp : Rem (blk l (.loop (rc s p))) H R)
    (k : K (.bool false) (blk l (.loop (rc .done (some .ret))) :: R)) : GE N ds T H g (roundPost E.P l (RK K g)) .ret := by
  subst hrc
  exact e_round_ret hp k
theorem ke' {l D : Nat} {v : Value} {fc : FuncId} {tm : Array Value} {ps : Array Tmp} {as bd : Code} {s : LoopState} {rc : LoopState → Option Code → Loop} (hrc : rc = rcOf fc tm ps as bd D) (hp : Rem (blk l (.loop (rc s none))) H R) (hs : s ≠ .busy) (h : GE N ds T R g Q .normal) : KE E ro N ds T g Q l v H := by
  subst hrc
  exact ke hp hs rfl h
theorem ke_jump' {l D : Nat} {v : Value} {fc : FuncId} {tm : Array Value} {ps : Array Tmp} {as bd : Code} {s : LoopState} {c : Code} {rc : LoopState → Option Code → Loop} (hrc : rc = rcOf fc tm ps as bd D) (hp : Rem (blk l (.loop (rc s (some c)))) H R) (hs : s ≠ .busy) (h : GC E ro N ds T R g c Q) : KE E ro N ds T g Q l v H := by
  subst hrc
  exact ke_jump hp hs rfl h
/-! ### a result that lies in a box -/
end
end Go.Vt
