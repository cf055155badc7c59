/- Heaps, assertions, frames: the ground of the walks: worlds seen as partial heaps, separated assertions, temporaries. No conditions. -/
import Derived.RangeFuncRecord
import Derived.RangeFuncCalls
import Derived.Laws.Sem
import Derived.Laws.World
namespace Go.Vt
abbrev Hp := Nat → Option Obj
abbrev HP := Hp → Hp → Prop
def Hp.le (h g : Hp) : Prop := ∀ r o, h r = some o → g r = some o
def Hp.dj (h g : Hp) : Prop := ∀ r, h r = none ∨ g r = none
def hpOf (w : World) : Hp := fun r => w.heap[r]?
def Hp.un (h g : Hp) : Hp := fun r => match h r with | some o => some o | none => g r
def Hp.one (b : Nat) (o : Obj) : Hp := fun r => if r = b then some o else none

theorem Hp.le_refl (h : Hp) : Hp.le h h := fun _ _ e => e
theorem Hp.le_trans {a b c : Hp} (h : Hp.le a b) (k : Hp.le b c) : Hp.le a c := fun r o e => k r o (h r o e)
theorem Hp.dj_comm {a b : Hp} (h : Hp.dj a b) : Hp.dj b a := fun r => (h r).symm
theorem Hp.dj_le {a b c : Hp} (h : Hp.dj a b) (k : Hp.le c b) : Hp.dj a c := fun r => by
  rcases h r with e | e
  · exact .inl e
  · right
    cases hc : c r with
    | none => rfl
    | some o => rw [k r o hc] at e; cases e
theorem Hp.le_un_left (a b : Hp) : Hp.le a (Hp.un a b) := fun r o e => by simp [Hp.un, e]
theorem Hp.le_un_right {a b : Hp} (h : Hp.dj a b) : Hp.le b (Hp.un a b) := fun r o e => by
  rcases h r with e' | e'
  · simp [Hp.un, e', e]
  · rw [e] at e'; cases e'
theorem Hp.un_le {a b c : Hp} (h : Hp.le a c) (k : Hp.le b c) : Hp.le (Hp.un a b) c := fun r o e => by
  unfold Hp.un at e
  split at e
  · rename_i o' h'; cases e; exact h r _ h'
  · exact k r o e
theorem Hp.dj_un {a b c : Hp} (h : Hp.dj c a) (k : Hp.dj c b) : Hp.dj c (Hp.un a b) := fun r => by
  rcases h r with e | e
  · exact .inl e
  · rcases k r with e' | e'
    · exact .inl e'
    · right; simp [Hp.un, e, e']

def SatE : List HP → Hp → Hp → Prop
  | [], _, _ => True
  | P :: Ps, h, g => ∃ h1 h2, Hp.dj h1 h2 ∧ Hp.le h1 h ∧ Hp.le h2 h ∧ P h1 g ∧ SatE Ps h2 g
theorem SatE.mono {H : List HP} {h h' g : Hp} (s : SatE H h g) (k : Hp.le h h') : SatE H h' g := by
  cases H with
  | nil => trivial
  | cons P Ps =>
    obtain ⟨h1, h2, d, l1, l2, p, s⟩ := s
    exact ⟨h1, h2, d, Hp.le_trans l1 k, Hp.le_trans l2 k, p, s⟩
theorem SatE.swap {P Q : HP} {H : List HP} {h g : Hp} (s : SatE (P :: Q :: H) h g) : SatE (Q :: P :: H) h g := by
  obtain ⟨h1, h2, d, l1, l2, p, h3, h4, d', l3, l4, q, s⟩ := s
  refine ⟨h3, Hp.un h1 h4, ?_, Hp.le_trans l3 l2, Hp.un_le l1 (Hp.le_trans l4 l2), q, h1, h4, Hp.dj_le d l4, Hp.le_un_left _ _, Hp.le_un_right (Hp.dj_le d l4), p, s⟩
  exact Hp.dj_un (Hp.dj_comm (Hp.dj_le d l3)) d'
theorem SatE.perm {H H' : List HP} (p : H.Perm H') : ∀ {h g : Hp}, SatE H h g → SatE H' h g := by
  induction p with
  | nil => exact fun s => s
  | cons P _ ih =>
    intro h g s
    obtain ⟨h1, h2, d, l1, l2, q, s⟩ := s
    exact ⟨h1, h2, d, l1, l2, q, ih s⟩
  | swap P Q l => exact fun s => s.swap
  | trans _ _ ih1 ih2 => exact fun s => ih2 (ih1 s)

/-- what is left alone: memory that lay there, the streams -/
structure Gw where
  hp : Hp
  w0 : World
instance : Coe Gw Hp := ⟨Gw.hp⟩
/-- the streams are as they were -/
def Out (w w' : World) : Prop := w'.os = w.os ∧ w'.tape = w.tape ∧ w'.output = w.output
theorem Out.refl (w : World) : Out w w := ⟨rfl, rfl, rfl⟩
theorem Out.trans {a b c : World} (h : Out a b) (k : Out b c) : Out a c := ⟨k.1.trans h.1, k.2.1.trans h.2.1, k.2.2.trans h.2.2⟩
def HS (H : List HP) (g : Gw) (w : World) : Prop := ∃ h, SatE H h g ∧ Hp.dj h g ∧ Hp.le h (hpOf w) ∧ Hp.le g (hpOf w) ∧ Out g.w0 w
theorem HS.perm {H H' : List HP} {g : Gw} {w : World} (p : H.Perm H') (s : HS H g w) : HS H' g w := by
  obtain ⟨h, s, r⟩ := s; exact ⟨h, s.perm p, r⟩
theorem HS.same {H : List HP} {g : Gw} {w w' : World} (s : HS H g w) (e : w'.heap = w.heap) (o : Out w w' := by exact ⟨rfl, rfl, rfl⟩) : HS H g w' := by
  have : hpOf w' = hpOf w := by unfold hpOf; rw [e]
  obtain ⟨h, s, d, l, k, q⟩ := s
  exact ⟨h, s, d, by rw [this]; exact l, by rw [this]; exact k, q.trans o⟩
theorem HS.tail {P : HP} {H : List HP} {g : Gw} {w : World} (s : HS (P :: H) g w) : HS H g w := by
  obtain ⟨h, s, d, l, k⟩ := s
  obtain ⟨h1, h2, d', l1, l2, p, s⟩ := s
  exact ⟨h2, s, Hp.dj_comm (Hp.dj_le (Hp.dj_comm d) l2), Hp.le_trans l2 l, k⟩
/-- What the first assertion holds of, and the world. -/
theorem HS.head {P : HP} {H : List HP} {g : Gw} {w : World} (s : HS (P :: H) g w) : ∃ h, P h g ∧ Hp.dj h g ∧ Hp.le h (hpOf w) ∧ Hp.le g (hpOf w) := by
  obtain ⟨h, s, d, l, k⟩ := s
  obtain ⟨h1, h2, d', l1, l2, p, s⟩ := s
  exact ⟨h1, p, Hp.dj_comm (Hp.dj_le (Hp.dj_comm d) l1), Hp.le_trans l1 l, k.1⟩
/-- One assertion turns, in a step that leaves what it doesn't hold. -/
theorem HS.step {P Q : HP} {H : List HP} {g : Gw} {w w' : World} (s : HS (P :: H) g w)
    (f : ∀ h1, P h1 g → Hp.le h1 (hpOf w) → ∃ h1', Q h1' g ∧ Hp.le h1' (hpOf w') ∧ (∀ r, h1' r ≠ none → h1 r ≠ none ∨ hpOf w r = none) ∧
      (∀ r, h1 r = none → hpOf w r ≠ none → hpOf w' r = hpOf w r)) (ot : Out w w' := by exact ⟨rfl, rfl, rfl⟩) : HS (Q :: H) g w' := by
  obtain ⟨h, s, d, l, k, kq⟩ := s
  obtain ⟨h1, h2, d', l1, l2, p, s⟩ := s
  obtain ⟨h1', q, m1, m2, m3⟩ := f h1 p (Hp.le_trans l1 l)
  have k2 : Hp.le h2 (hpOf w') := fun r o e => by
    have e1 : h1 r = none := (d' r).resolve_right (by rw [e]; simp)
    have e2 := l r o (l2 r o e)
    rw [m3 r e1 (by rw [e2]; simp)]; exact e2
  have kg : Hp.le g (hpOf w') := fun r o e => by
    have e0 : h r = none := (d r).resolve_right (by rw [e]; simp)
    have e1 : h1 r = none := by
      cases hh : h1 r with
      | none => rfl
      | some o' => rw [l1 r o' hh] at e0; cases e0
    have e2 := k r o e
    rw [m3 r e1 (by rw [e2]; simp)]; exact e2
  have fresh : ∀ {x : Hp}, Hp.le x (hpOf w) → Hp.dj h1 x → Hp.dj h1' x := fun {x} lx dx r => by
    cases hx : h1' r with
    | none => exact .inl rfl
    | some o =>
      right
      rcases m2 r (by rw [hx]; simp) with e | e
      · exact (dx r).resolve_left e
      · cases hy : x r with
        | none => rfl
        | some o' => rw [lx r o' hy] at e; cases e
  refine ⟨Hp.un h1' h2, ⟨h1', h2, fresh (Hp.le_trans l2 l) d', Hp.le_un_left _ _, Hp.le_un_right (fresh (Hp.le_trans l2 l) d'), q, s⟩, ?_, Hp.un_le m1 k2, kg, kq.trans ot⟩
  refine Hp.dj_comm (Hp.dj_un (Hp.dj_comm (fresh k ?_)) ?_)
  · exact Hp.dj_comm (Hp.dj_le (Hp.dj_comm d) l1)
  · exact Hp.dj_comm (Hp.dj_comm (Hp.dj_le (Hp.dj_comm d) l2))
theorem HS.imp {P Q : HP} {H : List HP} {g : Gw} {w : World} (s : HS (P :: H) g w) (f : ∀ h, P h g → Q h g) : HS (Q :: H) g w :=
  s.step fun h1 p l => ⟨h1, f h1 p, l, fun _ e => .inl e, fun _ _ _ => rfl⟩

/-! ### one block -/
def blk (b : Nat) (o : Obj) : HP := fun h _ => h b = some o
theorem hpOf_alloc (w : World) (o : Obj) (r : Nat) : hpOf (w.alloc o) r = if r = w.heap.size then some o else hpOf w r := by
  simp only [hpOf, World.alloc]
  rw [Array.getElem?_push]
theorem le_alloc (w : World) (o : Obj) : Hp.le (hpOf w) (hpOf (w.alloc o)) := fun r x e => by
  rw [hpOf_alloc]
  have : r < w.heap.size := (Array.getElem?_eq_some_iff.1 e).1
  rw [if_neg (by omega)]; exact e
theorem HS.alloc {H : List HP} {g : Gw} {w : World} (s : HS H g w) (o : Obj) : HS (blk w.heap.size o :: H) g (w.alloc o) := by
  have s0 : HS ((fun _ _ => True) :: H) g w := by
    obtain ⟨h, s, d, l, k⟩ := s
    exact ⟨h, ⟨fun _ => none, h, fun _ => .inl rfl, fun _ _ e => (by cases e), Hp.le_refl _, trivial, s⟩, d, l, k⟩
  refine s0.step (w' := w.alloc o) fun h1 _ l => ⟨Hp.un (Hp.one w.heap.size o) h1, ?_, ?_, ?_, ?_⟩
  · simp [blk, Hp.un, Hp.one]
  · exact Hp.un_le (fun r x e => by
      unfold Hp.one at e
      split at e
      · rename_i h'; cases e; rw [hpOf_alloc, if_pos h']
      · cases e) (Hp.le_trans l (le_alloc w o))
  · intro r e
    by_cases hr : r = w.heap.size
    · right; subst hr; simp [hpOf]
    · left; simpa [Hp.un, Hp.one, hr] using e
  · intro r _ e
    rw [hpOf_alloc, if_neg]
    intro hr; subst hr; simp [hpOf] at e
theorem hpOf_set (w w' : World) (b : Nat) (o : Obj) (hw : w'.heap = w.heap.setIfInBounds b o) (r : Nat) : hpOf w' r = if r = b ∧ b < w.heap.size then some o else hpOf w r := by
  simp only [hpOf, hw, Array.getElem?_setIfInBounds]
  by_cases h : b = r
  · subst h
    by_cases h2 : b < w.heap.size
    · simp [h2]
    · simp [h2]
  · have : ¬ r = b := fun e => h e.symm
    simp [h, this]
/-- A block is given another content. -/
theorem HS.put {H : List HP} {g : Gw} {w w' : World} {b : Nat} {o o' : Obj} (s : HS (blk b o :: H) g w) (hw : w'.heap = w.heap.setIfInBounds b o') (ot : Out w w' := by exact ⟨rfl, rfl, rfl⟩) : HS (blk b o' :: H) g w' := by
  refine s.step (ot := ot) fun h1 p l => ⟨fun r => if r = b then some o' else h1 r, by simp [blk], ?_, ?_, ?_⟩
  · intro r x e
    have hb : b < w.heap.size := (Array.getElem?_eq_some_iff.1 (l b o p)).1
    rw [hpOf_set w w' b o' hw]
    by_cases hr : r = b
    · simp only [hr, if_true] at e; rw [if_pos ⟨hr, hb⟩]; exact e
    · simp only [hr, if_false] at e; rw [if_neg (fun x => hr x.1)]; exact l r x e
  · intro r e
    by_cases hr : r = b
    · left; subst hr; rw [show h1 r = some o from p]; simp
    · left; simpa [hr] using e
  · intro r e _
    rw [hpOf_set w w' b o' hw, if_neg]
    rintro ⟨rfl, _⟩
    rw [show h1 r = some o from p] at e; cases e
theorem HS.at {H : List HP} {g : Gw} {w : World} {b : Nat} {o : Obj} (s : HS (blk b o :: H) g w) : w.heap[b]? = some o := by
  obtain ⟨h, p, _, l, _⟩ := s.head
  exact l b o p
theorem heap_setCell (w : World) (a : Addr) (v : Value) (c : Array Value) (e : TypeId) (f : Nat × Nat) (h : w.heap[a.block]? = some (.cells c e f)) (hs : a.spot = none) :
    (w.setCell a v).heap = w.heap.setIfInBounds a.block (.cells (c.setIfInBounds a.off v) e f) := by
  obtain ⟨hb, h'⟩ := Array.getElem?_eq_some_iff.1 h
  simp only [World.setCell]
  apply Array.ext
  · simp
  · intro i h1 h2
    by_cases hi : a.block = i
    · subst hi
      simp [Array.getElem_modify, h', hs]
    · rw [Array.getElem_modify, if_neg hi, Array.getElem_setIfInBounds, if_neg hi]
theorem cell_of (w : World) (b off : Nat) (c : Array Value) (e : TypeId) (f : Nat × Nat) (h : w.heap[b]? = some (.cells c e f)) : w.cell? ⟨b, off, none⟩ = c[off]? := by
  simp [World.cell?, h]
theorem frozen_of (w : World) (b off : Nat) (c : Array Value) (e : TypeId) (h : w.heap[b]? = some (.cells c e (0, 0))) : w.frozen? ⟨b, off, none⟩ = false := by
  simp [World.frozen?, h]

/-! ### places in a list -/
inductive Rep {α : Type} (a b : α) : List α → List α → Prop
  | head (l : List α) : Rep a b (a :: l) (b :: l)
  | tail (x : α) {l l' : List α} : Rep a b l l' → Rep a b (x :: l) (x :: l')
theorem Rep.perm {α : Type} {a b : α} {l l' : List α} (h : Rep a b l l') : ∃ r, l.Perm (a :: r) ∧ l'.Perm (b :: r) := by
  induction h with
  | head l => exact ⟨l, .refl _, .refl _⟩
  | tail x _ ih =>
    obtain ⟨r, h1, h2⟩ := ih
    exact ⟨x :: r, (h1.cons x).trans (.swap _ _ _), (h2.cons x).trans (.swap _ _ _)⟩
inductive Rem {α : Type} (a : α) : List α → List α → Prop
  | head (l : List α) : Rem a (a :: l) l
  | tail (x : α) {l l' : List α} : Rem a l l' → Rem a (x :: l) (x :: l')
theorem Rem.perm {α : Type} {a : α} {l l' : List α} (h : Rem a l l') : l.Perm (a :: l') := by
  induction h with
  | head l => exact .refl _
  | tail x _ ih => exact (ih.cons x).trans (.swap _ _ _)
inductive Pick {α : Type} : List α → List α → List α → Prop
  | nil (l : List α) : Pick l [] l
  | cons {a : α} {l l' p r : List α} : Rem a l l' → Pick l' p r → Pick l (a :: p) r
theorem Pick.perm {α : Type} {l p r : List α} (h : Pick l p r) : l.Perm (p ++ r) := by
  induction h with
  | nil l => exact .refl _
  | cons h1 _ ih => exact h1.perm.trans (ih.cons _)

/-! ### temporaries -/
def lk {α : Type} : List (Nat × α) → Nat → Option α
  | [], _ => none
  | (t, v) :: r, u => match Nat.beq t u with
    | true => some v
    | false => lk r u
structure TS (N : Nat) (ds : List Deferred) (T : List (Nat × Value)) (a : Act) : Prop where
  size : a.tmps.size = N
  defers : a.defers = ds
  at_ : ∀ t v, lk T t = some v → a.tmps[t]? = some v
theorem TS.put {N : Nat} {ds : List Deferred} {T : List (Nat × Value)} {a : Act} (h : TS N ds T a) (d : Nat) (v : Value) (hd : Nat.blt d N = true) : TS N ds ((d, v) :: T) (a.put (some d) v) := by
  have hd' : d < N := by unfold Nat.blt at hd; exact Nat.le_of_ble_eq_true hd
  refine ⟨by simp [Act.put, h.size], by simp [Act.put, h.defers], fun t u e => ?_⟩
  simp only [Act.put, Array.getElem?_setIfInBounds]
  simp only [lk] at e
  split at e
  · rename_i hb
    have : d = t := by simpa using hb
    subst this
    cases e
    simp [h.size, hd']
  · rename_i hb
    have : ¬ d = t := fun e => by subst e; simp at hb
    simp only [this, if_false]
    exact h.at_ t u e
theorem TS.none {N : Nat} {ds : List Deferred} {T : List (Nat × Value)} {a : Act} (h : TS N ds T a) (v : Value) : TS N ds T (a.put none v) := h
def Sub (T' T : List (Nat × Value)) : Prop := ∀ t v, lk T' t = some v → lk T t = some v
theorem TS.sub {N : Nat} {ds : List Deferred} {T T' : List (Nat × Value)} {a : Act} (h : TS N ds T a) (s : Sub T' T) : TS N ds T' a :=
  ⟨h.size, h.defers, fun t v e => h.at_ t v (s t v e)⟩
theorem Sub.nil (T : List (Nat × Value)) : Sub [] T := fun _ _ e => by cases e
theorem Sub.cons {T' T : List (Nat × Value)} {t : Nat} {v : Value} (h : lk T t = some v) (s : Sub T' T) : Sub ((t, v) :: T') T := fun u x e => by
  simp only [lk] at e
  split at e
  · rename_i hb
    have : t = u := by simpa using hb
    subst this; cases e; exact h
  · exact s u x e
def ev (T : List (Nat × Value)) : Operand → Option Value
  | .tmp t => lk T t
  | .const v => some v
  | .global g => some (.pointer (some ⟨g, 0, none⟩))
  | .func f => some (.func (.func f) #[] #[])
theorem TS.ev {N : Nat} {ds : List Deferred} {T : List (Nat × Value)} {a : Act} (h : TS N ds T a) {x : Operand} {v : Value} (e : ev T x = some v) : a.eval x = v := by
  cases x with
  | tmp t => simp only [Vt.ev] at e; simp [Act.eval, Array.getD_eq_getD_getElem?, h.at_ t v e]
  | const u => simp only [Vt.ev] at e; cases e; rfl
  | «global» g => simp only [Vt.ev] at e; cases e; rfl
  | func f => simp only [Vt.ev] at e; cases e; rfl
end Go.Vt
