/- The pen's look stays, but by one order. No conditions. -/
import Derived.Test.YtmemmonmlbfopaaGreatDoorVrK
import Derived.Test.YtmemmonmlbfopaaGreatDoorVrM
set_option linter.unusedVariables false
set_option linter.unusedSimpArgs false
set_option maxRecDepth 100000
namespace Go.Vt
/-- if there is an answer, P of it -/
def Par {α : Type} (x : Option α) (P : α → Prop) : Prop := ∀ r, x = some r → P r
theorem par_any {α : Type} {x : Option α} : Par x fun _ => True := fun _ _ => trivial
theorem par_some {α : Type} {v : α} {P : α → Prop} (h : P v) : Par (some v) P := fun r e => by cases e; exact h
theorem par_bind {α β : Type} {x : Option α} {f : α → Option β} {P : α → Prop} {Q : β → Prop} (h : Par x P) (k : ∀ d, P d → Par (f d) Q) : Par (x.bind f) Q := fun r e => by
  cases x with
  | none => cases e
  | some d => exact k d (h d rfl) r e
theorem par_cond {α : Type} {b : Bool} {x y : Option α} {Q : α → Prop} (h1 : b = true → Par x Q) (h2 : b = false → Par y Q) : Par (cond b x y) Q := by
  cases b with
  | true => exact h1 rfl
  | false => exact h2 rfl
theorem par_gd {α : Type} {c : Prop} [Decidable c] {x : Option α} {Q : α → Prop} (h : Par x Q) : Par (gd c x) Q := by
  unfold gd; split
  · exact h
  · intro r e; cases e
theorem par_esc {D O : Type} {M : Option O} {Q : D ⊕ O → Prop} (h : Par M fun o => Q (.inr o)) : Par (esc M : Option (D ⊕ O)) Q := par_bind h fun o ho => par_some ho
theorem par_jn {D O : Type} {M : Option (D ⊕ O)} {f : D → Option O} {P : D → Prop} {Q : O → Prop} (h : Par M fun r => match r with | .inl d => P d | .inr o => Q o) (k : ∀ d, P d → Par (f d) Q) : Par (jn M f) Q := fun r e => by
  cases M with
  | none => cases e
  | some x =>
    cases x with
    | inl d => exact k d (h _ rfl) r e
    | inr o => cases e; exact h _ rfl
theorem Par.mono {α : Type} {x : Option α} {P Q : α → Prop} (h : Par x P) (k : ∀ d, P d → Q d) : Par x Q := fun r e => k r (h r e)
section
variable {s : Vspace_Space} {q : Vwrite_pen}
theorem pnext_l : Par (m_write_pen_next q s) fun r => r.look = q.look := by
  unfold m_write_pen_next
  exact par_bind par_any fun _ _ => par_bind par_any fun _ _ => par_some rfl
theorem pput_l {c : Int} {b : Bool} : Par (m_write_pen_put q s c b) fun r => r.2.look = q.look := by
  unfold m_write_pen_put
  exact par_bind par_any fun _ _ => par_bind par_any fun _ _ => par_bind pnext_l fun _ h => par_some h
theorem pto_l {c : Int} : Par (m_write_pen_to q s c) fun r => r.1.look = q.look := by
  unfold m_write_pen_to
  exact par_bind par_any fun _ _ => par_bind par_any fun _ _ => par_cond (fun _ => par_some rfl) fun _ => par_some rfl
theorem pspan_l {o : Vorder_Op} : Par (m_write_pen_span q s o) fun r => r.2.1.look = q.look := by
  unfold m_write_pen_span
  exact par_bind pto_l fun d hd => par_cond (fun _ => par_some hd) fun _ => par_bind par_any fun _ _ => par_some hd
theorem pattr_l {c : Vapi_Cell} {l : List Vattr_Pair} : Par (m_write_pen_attribute q s c l) fun r => r.2.1.look = q.look := by
  unfold m_write_pen_attribute
  exact par_bind par_any fun _ _ => par_cond (fun _ => par_some rfl) fun _ => par_bind par_any fun _ _ => par_bind pnext_l fun _ h => par_some h
theorem ptab_l : Par (m_write_pen_tab q s) fun r => r.2.look = q.look := by
  unfold m_write_pen_tab
  exact par_bind par_any fun _ _ => par_bind par_any fun _ _ => par_bind par_any fun _ _ => par_cond (fun _ => par_some rfl) fun _ => par_some rfl
abbrev l15 (y : T15) : Vapi_Cell := ⟨y.2.2.2.2.2.2.2.2.1, y.2.2.2.2.2.2.2.2.2.1, y.2.2.2.2.2.2.2.2.2.2.1, y.2.2.2.2.2.2.2.2.2.2.2.1, y.2.2.2.2.2.2.2.2.2.2.2.2.1, y.2.2.2.2.2.2.2.2.2.2.2.2.2.1⟩
theorem do_text_l (o : Vorder_Op) (L : Vapi_Cell) : ∀ (k : Nat) (x : Int × Int × Int × Bool × Int × Int × Int × Int × Bool × Int × Bool × Int × Int × List Vapi_Cell × Int × Int), (⟨x.2.2.1, x.2.2.2.1, x.2.2.2.2.1, x.2.2.2.2.2.1, x.2.2.2.2.2.2.1, x.2.2.2.2.2.2.2.1⟩ : Vapi_Cell) = L → Par (write_pen_do_l4 o k x) fun r => l15 r = L
  | 0, x, _ => fun r e => by rw [write_pen_do_l4.eq_1] at e; cases e
  | k + 1, x, h => by
    rw [write_pen_do_l4.eq_2]
    refine par_cond (fun _ => par_gd (par_bind pput_l fun d hd => do_text_l o L k _ ?_)) fun _ => par_some h
    have : d.2.look = L := by rw [hd]; exact h
    exact this
def PL (L : Vapi_Cell) : T15 ⊕ (T15 ⊕ TP) → Prop
  | .inl y => l15 y = L
  | .inr (.inl y) => l15 y = L
  | .inr (.inr r) => r.2.1.look = L
theorem pdo_l {o : Vorder_Op} (h40 : o.Kind ≠ 40) : Par (m_write_pen_do q s o) fun r => r.2.1.look = q.look := by
  unfold m_write_pen_do
  refine par_jn (P := fun y => l15 y = q.look) (par_jn (P := fun y => l15 y = q.look) (Par.mono (P := PL q.look) ?_ fun r hr => ?_) fun y hy => par_some hy) fun y hy => par_some hy
  · refine par_cond (fun _ => par_bind (do_text_l o q.look _ _ rfl) fun r hr => par_some hr) fun _ => ?_
    refine par_cond (fun _ => par_bind pput_l fun r hr => par_some hr) fun _ => ?_
    refine par_cond (fun _ => par_bind pto_l fun r hr => par_esc (par_esc (par_some hr))) fun _ => ?_
    refine par_bind par_any fun _ _ => ?_
    refine par_cond (fun _ => par_bind pspan_l fun r hr => par_esc (par_esc (par_some hr))) fun _ => ?_
    refine par_cond (fun _ => par_bind pattr_l fun r hr => par_esc (par_esc (par_some hr))) fun _ => ?_
    refine par_cond (fun _ => par_bind pattr_l fun r hr => par_esc (par_esc (par_some hr))) fun _ => ?_
    refine par_cond (fun _ => par_bind par_any fun c _ => par_cond (fun _ => par_esc (par_esc (par_some rfl))) fun _ => par_bind pattr_l fun r hr => par_esc (par_esc (par_some hr))) fun _ => ?_
    refine par_cond (fun e => absurd (by simpa using e) h40) fun _ => ?_
    refine par_cond (fun _ => par_bind par_any fun u _ => par_some rfl) fun _ => ?_
    exact par_cond (fun _ => par_bind ptab_l fun u hu => par_some hu) fun _ => par_some rfl
  · match r, hr with
    | .inl y, hr => exact hr
    | .inr (.inl y), hr => exact hr
    | .inr (.inr y), hr => exact hr
end
/-! ### what a stream comes to -/
abbrev TA := Int × Bool × Int × Int × List Vapi_Cell × Int × Int × Int × Int × Int × Bool × Int × Int × Int × Int × Bool
abbrev TB := Int × Int × Bool × Int × Int × List Vapi_Cell × Int × Int × Int × Int × Bool × Int × Int × Int × Int × Bool
abbrev TC := Vspace_Space × Int × Int × Int
abbrev sA (y : TA) : Vspace_Space := ⟨y.1, y.2.1, ⟨y.2.2.1, y.2.2.2.1⟩, y.2.2.2.2.1, y.2.2.2.2.2.1, y.2.2.2.2.2.2.1⟩
abbrev sB (y : TB) : Vspace_Space := ⟨y.2.1, y.2.2.1, ⟨y.2.2.2.1, y.2.2.2.2.1⟩, y.2.2.2.2.2.1, y.2.2.2.2.2.2.1, y.2.2.2.2.2.2.2.1⟩
def fin : TA ⊕ (TB ⊕ (TB ⊕ TC)) → TC
  | .inl y => (sA y, y.2.2.2.2.2.2.2.2.1, y.2.2.2.2.2.2.2.1, 0)
  | .inr (.inl y) => (sB y, y.2.2.2.2.2.2.2.2.1, y.1, 0)
  | .inr (.inr (.inl y)) => (sB y, y.2.2.2.2.2.2.2.2.1, y.1, 0)
  | .inr (.inr (.inr r)) => r
def Ev (p : List Int) (u : Vspace_Space) (q : Vwrite_pen) (a : Vspace_Space) (n : Int) (j : Nat) (e : Int) : Prop :=
  ∀ k ct : Nat, p.length < k → ct + p.length ≤ 1000000000 → (write_Orders_l8 k (p, 0, u.model, u.alternate, u.size.Rows, u.size.Cols, u.cells, u.cursor, u.attrs, (ct : Int), q.n, q.look.Char, q.look.Attr, q.look.FA, q.look.High, q.look.Color, q.look.f_Set, q.texts)).map fin = some (a, n, ((ct + j : Nat) : Int), e)
section
variable {u : Vspace_Space} {q : Vwrite_pen}
theorem ev_nil : Ev [] u q u q.n 0 0 := fun k ct hk _ => by
  obtain ⟨k, rfl⟩ : ∃ j, k = j + 1 := ⟨k - 1, by omega⟩
  rw [write_Orders_l8.eq_2]; rfl
theorem ev_scan {p : List Int} {r : Vorder_scanner × Vorder_Op} (h0 : 0 < p.length) (h : m_order_scanner_op ⟨p, 0⟩ = some r) (hc : r.1.code ≠ 0) : Ev p u q u q.n 0 r.1.code := fun k ct hk _ => by
  obtain ⟨k, rfl⟩ : ∃ j, k = j + 1 := ⟨k - 1, by omega⟩
  rw [write_Orders_l8.eq_2]
  have d1 : decide ((p.length : Int) > 0) = true := decide_eq_true (by omega)
  simp only [d1, cond_true, h, Option.bind_some, bne_t hc, beq_f hc, cond_false, esc, Option.map_some]
  rfl
theorem ev_do {p : List Int} {r : Vorder_scanner} {o : Vorder_Op} {d : Vspace_Space × Vwrite_pen × Int} (h0 : 0 < p.length) (h : m_order_scanner_op ⟨p, 0⟩ = some (r, o)) (hc : r.code = 0) (hd : m_write_pen_do q u o = some d) (he : d.2.2 ≠ 0) : Ev p u q d.1 d.2.1.n 0 d.2.2 := fun k ct hk _ => by
  obtain ⟨k, rfl⟩ : ∃ j, k = j + 1 := ⟨k - 1, by omega⟩
  rw [write_Orders_l8.eq_2]
  have d1 : decide ((p.length : Int) > 0) = true := decide_eq_true (by omega)
  have hd' : m_write_pen_do ⟨q.n, ⟨q.look.Char, q.look.Attr, q.look.FA, q.look.High, q.look.Color, q.look.f_Set⟩, q.texts⟩ ⟨u.model, u.alternate, ⟨u.size.Rows, u.size.Cols⟩, u.cells, u.cursor, u.attrs⟩ ⟨o.Kind, o.Addr, o.Code, o.Graph, o.FA, o.Pairs, o.Text⟩ = some d := hd
  simp only [d1, cond_true, h, Option.bind_some, bne_f hc, cond_false, hd', bne_t he, esc, Option.map_some]
  rfl
def isT (o : Vorder_Op) : Bool := o.Kind == 0 || o.Kind == 8
theorem ev_step {p : List Int} {r : List Int} {o : Vorder_Op} {d : Vspace_Space × Vwrite_pen × Int} {a : Vspace_Space} {n e : Int} {j : Nat} (h0 : r.length < p.length) (h : m_order_scanner_op ⟨p, 0⟩ = some (⟨r, 0⟩, o)) (hd : m_write_pen_do q u o = some d) (he : d.2.2 = 0)
    (hr : Ev r d.1 ⟨d.2.1.n, d.2.1.look, isT o⟩ a n j e) : Ev p u q a n (j + 1) e := fun k ct hk hct => by
  obtain ⟨k, rfl⟩ : ∃ j, k = j + 1 := ⟨k - 1, by omega⟩
  rw [write_Orders_l8.eq_2]
  have d1 : decide ((p.length : Int) > 0) = true := decide_eq_true (by omega)
  have hd' : m_write_pen_do ⟨q.n, ⟨q.look.Char, q.look.Attr, q.look.FA, q.look.High, q.look.Color, q.look.f_Set⟩, q.texts⟩ ⟨u.model, u.alternate, ⟨u.size.Rows, u.size.Cols⟩, u.cells, u.cursor, u.attrs⟩ ⟨o.Kind, o.Addr, o.Code, o.Graph, o.FA, o.Pairs, o.Text⟩ = some d := hd
  have z : ((0 : Int) != 0) = false := rfl
  have ht : (cond (o.Kind == 0) (some true) (some (o.Kind == 8)) : Option Bool) = some (isT o) := by unfold isT; cases (o.Kind == 0) <;> rfl
  simp only [d1, cond_true, h, Option.bind_some, z, cond_false, hd', bne_f he, ht, w64_succ (show ct < 9223372036854775807 by omega)]
  have h1 := hr k (ct + 1) (by omega) (by omega)
  rw [show ct + 1 + j = ct + (j + 1) by omega] at h1
  exact h1
end
end Go.Vt
