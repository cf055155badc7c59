/- Regions that draw their order: quiet operations beside a row of others. No conditions. -/
import Derived.Test.YteebpkekdkkmhaaGreatDoorVtG
import Derived.OrdersIn
namespace Go.Vt
/-- the operations that one waits for, in any order that may be drawn -/
def preds (o : Oper) : List Nat := (o.after.toList.filter (Region.binds .any ·)).map (·.on)
def memN : Nat → List Nat → Bool
  | _, [] => false
  | n, m :: r => match Nat.beq n m with
    | true => true
    | false => memN n r
theorem memN_iff {n : Nat} : ∀ {l : List Nat}, memN n l = true ↔ n ∈ l
  | [] => by simp [memN]
  | m :: r => by
    simp only [memN]
    split
    · rename_i h; have := Nat.eq_of_beq_eq_true h; simp [this]
    · rename_i h
      have : ¬ n = m := fun e => by subst e; simp at h
      rw [memN_iff (l := r)]; simp [this]
def subN : List Nat → List Nat → Bool
  | [], _ => true
  | m :: r, l => match memN m l with
    | true => subN r l
    | false => false
theorem subN_spec {a l : List Nat} (h : subN a l = true) : ∀ x ∈ a, x ∈ l := by
  induction a with
  | nil => intro x hx; cases hx
  | cons m r ih =>
    simp only [subN] at h
    split at h
    · rename_i hm
      intro x hx
      cases hx with
      | head => exact memN_iff.1 hm
      | tail _ hx => exact ih h x hx
    · cases h
/-- all that one waits for, step by step backwards -/
def back (l : List Oper) : Nat → List Nat → List Nat
  | 0, s => s
  | f + 1, s => back l f (s ++ s.flatMap fun i => match l[i]? with | some o => preds o | none => [])
/-- edges lead backwards -/
def edgesOk (l : List Oper) : Nat → List Oper → Bool
  | _, [] => true
  | n, o :: r => ((preds o).all fun j => Nat.blt j n) && edgesOk l (n + 1) r
def keysOk (d : Nat) : List (Nat × Value) → Bool
  | [] => true
  | p :: r => match Nat.beq p.1 d with
    | true => false
    | false => keysOk d r
theorem keysOk_spec {d : Nat} : ∀ {T : List (Nat × Value)}, keysOk d T = true → ∀ t v, lk T t = some v → t ≠ d
  | [], _, t, v, h => by simp [lk] at h
  | p :: r, hk, t, v, h => by
    simp only [keysOk] at hk
    split at hk
    · cases hk
    · rename_i hb
      simp only [lk] at h
      split at h
      · rename_i hb'
        intro e; subst e
        rw [hb'] at hb; cases hb
      · exact keysOk_spec hk t v h
/-- the quiet operations whose values are known: index, temporary, value -/
abbrev Qs := List (Nat × Nat × Value)
def qT : Qs → List (Nat × Value)
  | [] => []
  | (_, d, v) :: r => (d, v) :: qT r
/-- of them those that one waits for -/
def qP (ps : List Nat) : Qs → List (Nat × Value)
  | [] => []
  | (i, d, v) :: r => match memN i ps with
    | true => (d, v) :: qP ps r
    | false => qP ps r
def dstsOk : Qs → Bool
  | [] => true
  | (_, d, _) :: r => keysOk d (qT r) && dstsOk r
def qIdx (q : Qs) : List Nat := q.map (·.1)
section
variable (E : Env) (ro : Option Nat) (N : Nat) (ds : List Deferred) (g : Gw) (l : List Oper)
def app {α : Type} : List α → List α → List α
  | [], b => b
  | x :: a, b => x :: app a b
/-- one quiet operation, in one state of memory -/
def Quiet1 (T : List (Nat × Value)) (q : Qs) (H : List HP) (i d : Nat) (v : Value) : Prop :=
  match l[i]? with
  | some o => o.dst = some d ∧ Nat.blt d N = true ∧ keysOk d T = true ∧ ((∃ (_ : o.guard = none), OPW E ro N ds (app (qP (preds o) q) T) H g o (fun u H' => u = v ∧ H' = H)) ∨
      (∃ j want dj b, o.guard = some (j, want) ∧ (l[j]?).bind (·.dst) = some dj ∧ lk (app (qP (preds o) q) T) dj = some b ∧ (match b with
        | .bool b => (b = want ∧ OPW E ro N ds (app (qP (preds o) q) T) H g o (fun u H' => u = v ∧ H' = H)) ∨ (b = !want ∧ v = undef)
        | .tuple _ => b = undef ∧ v = undef
        | _ => False)))
  | none => False
def QuietAll (T : List (Nat × Value)) (q : Qs) (H : List HP) (pend : List Nat) : Qs → Prop
  | [] => True
  | (i, d, v) :: r => (memN i pend = true → Quiet1 E ro N ds g l T q H i d v) ∧ QuietAll T q H pend r
def restOk (done qi cs : List Nat) : Nat → List Oper → Bool
  | _, [] => true
  | n, o :: r => (memN n done || memN n qi || memN n cs || !(subN (preds o) (app done qi))) && restOk done qi cs (n + 1) r
def allL (p : Nat → Prop) : List Nat → Prop
  | [] => True
  | b :: r => p b ∧ allL p r
def someL : List Nat → Bool
  | [] => false
  | _ :: _ => true
def newOk (done : List Nat) (q : Qs) (pend' : List Nat) : Qs → Bool
  | [] => true
  | p :: r => !(memN p.1 done) && !(memN p.1 (qIdx q)) && memN p.1 pend' && newOk done q pend' r
def pendOk (pend' bk : List Nat) : List Nat → Bool
  | [] => true
  | i :: r => (memN i pend' || memN i bk) && pendOk pend' bk r
/-- it is carried out -/
def Gd (T : List (Nat × Value)) (o : Oper) : Prop := o.guard = none ∨ ∃ j want dj b, o.guard = some (j, want) ∧ (l[j]?).bind (·.dst) = some dj ∧ lk T dj = some (.bool b) ∧ b = want
/-- n operations more that aren't quiet, in whatever order they may come up, quiet ones between -/
def Row (Q : Qt) : Nat → List Nat → List (Nat × Value) → Qs → List Nat → List HP → Prop
  | 0, done, T, q, pend, H => QuietAll E ro N ds g l T q H pend q ∧ dstsOk q = true ∧ restOk done (qIdx q) [] 0 l = true ∧ ltAll l.length (qIdx q) = true ∧ GE N ds (app (qT q) T) H g Q .normal
  | n + 1, done, T, q, pend, H => QuietAll E ro N ds g l T q H pend q ∧ dstsOk q = true ∧ ((restOk done (qIdx q) [] 0 l = true ∧ ltAll l.length (qIdx q) = true ∧ GE N ds (app (qT q) T) H g Q .normal) ∨
     ∃ cs, restOk done (qIdx q) cs 0 l = true ∧ someL cs = true ∧ allL (fun b => (memN b done || memN b (qIdx q)) = false ∧
      (match l[b]? with
        | some o => Gd l (app (qP (preds o) q) T) o ∧ OPW E ro N ds (app (qP (preds o) q) T) H g o (fun v H' => ∃ q' pend', newOk (b :: done) q pend' q' = true ∧ pendOk pend' (back l l.length (preds o)) pend = true ∧
            (match o.dst with
              | some d => Nat.blt d N = true ∧ keysOk d (qT (app q' q)) = true ∧ Row Q n (b :: done) ((d, v) :: T) (app q' q) pend' H'
              | none => Row Q n (b :: done) T (app q' q) pend' H'))
        | none => False)) cs)
end
theorem app_eq {α : Type} (a b : List α) : app a b = a ++ b := by induction a with
  | nil => rfl
  | cons x r ih => simp [app, ih]
section
variable {E : Env} {ro : Option Nat} {N : Nat} {ds : List Deferred} {g : Gw} {l : List Oper} {Q : Qt}
structure Facts (N : Nat) (ds : List Deferred) (T : List (Nat × Value)) (q : Qs) (D : Nat → Bool) (a : Act) : Prop where
  ts : TS N ds T a
  qs : ∀ i d v, (i, d, v) ∈ q → D i = true → a.tmps[d]? = some v
theorem ts_app {T A : List (Nat × Value)} {a : Act} (t : TS N ds T a) (h : ∀ d v, (d, v) ∈ A → a.tmps[d]? = some v) : TS N ds (app A T) a := by
  refine ⟨t.size, t.defers, ?_⟩
  induction A with
  | nil => exact t.at_
  | cons p r ih =>
    obtain ⟨d, v⟩ := p
    intro u x e
    simp only [app, lk] at e
    split at e
    · rename_i hb
      have : d = u := by simpa using hb
      subst this; cases e
      exact h d v (.head _)
    · exact ih (fun d' v' h' => h d' v' (.tail _ h')) u x e
theorem mem_qT {q : Qs} {d : Nat} {v : Value} (h : (d, v) ∈ qT q) : ∃ i, (i, d, v) ∈ q := by
  induction q with
  | nil => cases h
  | cons p r ih =>
    obtain ⟨i, d', v'⟩ := p
    simp only [qT] at h
    cases h with
    | head => exact ⟨i, .head _⟩
    | tail _ h => obtain ⟨j, hj⟩ := ih h; exact ⟨j, .tail _ hj⟩
theorem mem_qP {q : Qs} {ps : List Nat} {d : Nat} {v : Value} (h : (d, v) ∈ qP ps q) : ∃ i, (i, d, v) ∈ q ∧ i ∈ ps := by
  induction q with
  | nil => cases h
  | cons p r ih =>
    obtain ⟨i, d', v'⟩ := p
    simp only [qP] at h
    split at h
    · rename_i hm
      cases h with
      | head => exact ⟨i, .head _, memN_iff.1 hm⟩
      | tail _ h => obtain ⟨j, hj, hp⟩ := ih h; exact ⟨j, .tail _ hj, hp⟩
    · obtain ⟨j, hj, hp⟩ := ih h; exact ⟨j, .tail _ hj, hp⟩
theorem keysOk_mem {d : Nat} {T : List (Nat × Value)} (h : keysOk d T = true) : ∀ p ∈ T, p.1 ≠ d := by
  induction T with
  | nil => intro p hp; cases hp
  | cons x r ih =>
    simp only [keysOk] at h
    split at h
    · cases h
    · rename_i hb
      intro p hp
      cases hp with
      | head => intro e; rw [e] at hb; simp at hb
      | tail _ hp => exact ih h p hp
theorem qT_mem {q : Qs} {i d : Nat} {v : Value} (h : (i, d, v) ∈ q) : (d, v) ∈ qT q := by
  induction q with
  | nil => cases h
  | cons p r ih =>
    obtain ⟨i', d', v'⟩ := p
    simp only [qT]
    cases h with
    | head => exact .head _
    | tail _ h => exact .tail _ (ih h)
/-- two entries with one temporary are one -/
theorem dsts_uniq {q : Qs} (h : dstsOk q = true) : ∀ {i j d : Nat} {v u : Value}, (i, d, v) ∈ q → (j, d, u) ∈ q → i = j ∧ v = u := by
  induction q with
  | nil => intro i j d v u h1; cases h1
  | cons p r ih =>
    obtain ⟨i', d', v'⟩ := p
    simp only [dstsOk, Bool.and_eq_true] at h
    intro i j d v u h1 h2
    cases h1 with
    | head =>
      cases h2 with
      | head => exact ⟨rfl, rfl⟩
      | tail _ h2 => exact absurd rfl (keysOk_mem h.1 _ (qT_mem h2))
    | tail _ h1 =>
      cases h2 with
      | head => exact absurd rfl (keysOk_mem h.1 _ (qT_mem h1))
      | tail _ h2 => exact ih h.2 h1 h2
theorem quietAll_mem {T : List (Nat × Value)} {q : Qs} {H : List HP} {pend : List Nat} : ∀ {r : Qs}, QuietAll E ro N ds g l T q H pend r → ∀ {i d : Nat} {v : Value}, (i, d, v) ∈ r → memN i pend = true → Quiet1 E ro N ds g l T q H i d v
  | [], _, _, _, _, h, _ => by cases h
  | (i', d', v') :: r, hq, i, d, v, h, hm => by
    obtain ⟨h1, h2⟩ := hq
    cases h with
    | head => exact h1 hm
    | tail _ h => exact quietAll_mem h2 h hm
theorem mem_idx {q : Qs} {i : Nat} (h : i ∈ qIdx q) : ∃ d v, (i, d, v) ∈ q := by
  unfold qIdx at h
  obtain ⟨⟨i', d, v⟩, hp, rfl⟩ := List.mem_map.1 h
  exact ⟨d, v, hp⟩
theorem idx_mem {q : Qs} {i d : Nat} {v : Value} (h : (i, d, v) ∈ q) : i ∈ qIdx q := List.mem_map.2 ⟨_, h, rfl⟩
theorem restOk_at {done qi cs : List Nat} : ∀ {r : List Oper} {n : Nat}, restOk done qi cs n r = true → ∀ {i : Nat} {o : Oper}, r[i]? = some o →
    (n + i) ∈ done ∨ (n + i) ∈ qi ∨ (n + i) ∈ cs ∨ subN (preds o) (app done qi) = false
  | [], _, _, i, o, h => by simp at h
  | x :: r, n, hr, 0, o, h => by
    simp only [restOk, Bool.and_eq_true, Bool.or_eq_true] at hr
    simp at h; subst h
    rcases hr.1 with ((h1 | h1) | h1) | h1
    · exact .inl (memN_iff.1 h1)
    · exact .inr (.inl (memN_iff.1 h1))
    · exact .inr (.inr (.inl (memN_iff.1 h1)))
    · right; right; right; simpa using h1
  | x :: r, n, hr, i + 1, o, h => by
    simp only [restOk, Bool.and_eq_true] at hr
    have := restOk_at hr.2 (i := i) (o := o) (by simpa using h)
    rw [show n + 1 + i = n + (i + 1) by omega] at this
    exact this
theorem allL_mem {p : Nat → Prop} : ∀ {cs : List Nat}, allL p cs → ∀ b ∈ cs, p b
  | [], _, b, h => by cases h
  | c :: r, hp, b, h => by
    cases h with
    | head => exact hp.1
    | tail _ h => exact allL_mem hp.2 b h
theorem not_sub {a s : List Nat} (h : subN a s = false) : ∃ x ∈ a, x ∉ s := by
  induction a with
  | nil => cases h
  | cons m r ih =>
    simp only [subN] at h
    split at h
    · obtain ⟨x, hx, hn⟩ := ih h; exact ⟨x, .tail _ hx, hn⟩
    · rename_i hm
      exact ⟨m, .head _, fun e => by rw [memN_iff.2 e] at hm; cases hm⟩
theorem edges_at {r : List Oper} : ∀ {n : Nat}, edgesOk l n r = true → ∀ {i : Nat} {o : Oper}, r[i]? = some o → ∀ j ∈ preds o, j < n + i := by
  induction r with
  | nil => intro n _ i o h; simp at h
  | cons x r ih =>
    intro n hr i o h j he
    simp only [edgesOk, Bool.and_eq_true] at hr
    cases i with
    | zero =>
      simp at h; subst h
      have h1 := List.all_eq_true.1 hr.1 j he
      unfold Nat.blt at h1
      exact Nat.le_of_ble_eq_true h1
    | succ i =>
      have := ih hr.2 (i := i) (o := o) (by simpa using h) j he
      omega
/-- what has been listed is closed -/
def Closed (l : List Oper) (D : Nat → Bool) : Prop := ∀ i o, l[i]? = some o → D i = true → ∀ j ∈ preds o, D j = true
theorem back_closed {D : Nat → Bool} (hc : Closed l D) : ∀ (f : Nat) (s : List Nat), (∀ i ∈ s, D i = true) → ∀ i ∈ back l f s, D i = true
  | 0, _, h => h
  | f + 1, s, h => back_closed hc f _ fun i hi => by
    rcases List.mem_append.1 hi with h1 | h1
    · exact h i h1
    · obtain ⟨j, hj, hm⟩ := List.mem_flatMap.1 h1
      split at hm
      · rename_i o ho; exact hc j o ho (h j hj) i hm
      · cases hm
def Dof (listed : Array Bool) : Nat → Bool := fun i => listed.getD i false
theorem dof_set {listed : Array Bool} {i : Nat} (hi : i < listed.size) (j : Nat) : Dof (listed.setIfInBounds i true) j = if j = i then true else Dof listed j := by
  unfold Dof
  simp only [Array.getD_eq_getD_getElem?, Array.getElem?_setIfInBounds]
  by_cases h : i = j
  · subst h; simp [hi]
  · have : ¬ j = i := fun e => h e.symm
    simp [h, this]
theorem getD_tf {listed : Array Bool} {i : Nat} (hi : i < listed.size) : listed.getD i true = Dof listed i := by
  unfold Dof; simp [hi]
theorem ready_iff {listed : Array Bool} (hs : listed.size = l.length) {i : Nat} : i ∈ Region.ready .any l.toArray listed ↔ i < l.length ∧ Dof listed i = false ∧ ∃ o, l[i]? = some o ∧ ∀ j ∈ preds o, Dof listed j = true := by
  rw [mem_ready]
  constructor
  · rintro ⟨h1, o, ho, h2⟩
    have ho' : l[i]? = some o := by simpa using ho
    have hlt : i < l.length := (List.getElem?_eq_some_iff.1 ho').1
    refine ⟨hlt, by rw [← getD_tf (by omega)]; exact h1, o, ho', fun j hj => ?_⟩
    unfold preds at hj
    obtain ⟨e, he, rfl⟩ := List.mem_map.1 hj
    obtain ⟨he1, he2⟩ := List.mem_filter.1 he
    exact h2 e (by simpa using he1) he2
  · rintro ⟨hlt, h1, o, ho, h2⟩
    refine ⟨by rw [getD_tf (by omega)]; exact h1, o, by simpa using ho, fun e he hb => ?_⟩
    exact h2 e.on (List.mem_map.2 ⟨e, List.mem_filter.2 ⟨by simpa using he, hb⟩, rfl⟩)
theorem ready_some {listed : Array Bool} (hs : listed.size = l.length) (he : edgesOk l 0 l = true) : ∀ (n i : Nat), i ≤ n → i < l.length → Dof listed i = false → Region.ready .any l.toArray listed ≠ [] := by
  intro n
  induction n with
  | zero =>
    intro i h0 hi hu
    refine List.ne_nil_of_mem (a := i) ((ready_iff hs).2 ⟨hi, hu, l[i], by simp [hi], fun j hj => ?_⟩)
    have := edges_at he (i := i) (o := l[i]) (by simp [hi]) j hj
    omega
  | succ n ih =>
    intro i h0 hi hu
    by_cases hall : ∀ j ∈ preds l[i], Dof listed j = true
    · exact List.ne_nil_of_mem (a := i) ((ready_iff hs).2 ⟨hi, hu, l[i], by simp [hi], hall⟩)
    · have : ∃ j, j ∈ preds l[i] ∧ Dof listed j = false := Classical.byContradiction fun hne => hall fun j hj => by
        cases h : Dof listed j with
        | true => rfl
        | false => exact absurd ⟨j, hj, h⟩ hne
      obtain ⟨j, hj, hd⟩ := this
      have := edges_at he (i := i) (o := l[i]) (by simp [hi]) j hj
      exact ih j (by omega) (by omega) hd
theorem filter_less {p p' : Nat → Bool} {i : Nat} (hp : p i = true) (h' : ∀ j, p' j = if j = i then false else p j) : ∀ (r : List Nat), r.Nodup → i ∈ r → (r.filter p').length + 1 = (r.filter p).length
  | [], _, h => by cases h
  | x :: r, hn, h => by
    have hn' := List.nodup_cons.1 hn
    by_cases hx : x = i
    · subst hx
      have e1 : p' x = false := by rw [h']; simp
      have e2 : r.filter p' = r.filter p := List.filter_congr fun y hy => by
        rw [h' y, if_neg]; intro e; subst e; exact hn'.1 hy
      simp [e1, hp, e2]
    · have hi : i ∈ r := by cases h with
        | head => exact absurd rfl hx
        | tail _ h => exact h
      have e1 : p' x = p x := by rw [h' x, if_neg hx]
      have := filter_less hp h' r hn'.2 hi
      by_cases hpx : p x = true
      · simp [e1, hpx]; omega
      · have hpx' : p x = false := by simpa using hpx
        simp [e1, hpx']; omega
theorem ltAll_mem {n : Nat} : ∀ {l : List Nat}, ltAll n l = true → ∀ i ∈ l, i < n
  | [], _, _, h => by cases h
  | p :: ps, hl, i, h => by
    simp only [ltAll] at hl
    split at hl
    · rename_i hp
      cases h with
      | head => unfold Nat.blt at hp; exact Nat.le_of_ble_eq_true hp
      | tail _ h => exact ltAll_mem hl i h
    · cases hl
theorem newOk_spec {done : List Nat} {q : Qs} {pend' : List Nat} : ∀ {r : Qs}, newOk done q pend' r = true → ∀ {i d : Nat} {v : Value}, (i, d, v) ∈ r → i ∉ done ∧ i ∉ qIdx q ∧ memN i pend' = true
  | [], _, _, _, _, h => by cases h
  | p :: r, hk, i, d, v, h => by
    simp only [newOk, Bool.and_eq_true, Bool.not_eq_true'] at hk
    cases h with
    | head => exact ⟨fun e => by rw [memN_iff.2 e] at hk; simp at hk, fun e => by rw [memN_iff.2 e] at hk; simp at hk, hk.1.2⟩
    | tail _ h => exact newOk_spec hk.2 h
theorem pendOk_spec {pend' bk : List Nat} : ∀ {r : List Nat}, pendOk pend' bk r = true → ∀ i ∈ r, memN i pend' = true ∨ i ∈ bk
  | [], _, _, h => by cases h
  | p :: r, hk, i, h => by
    simp only [pendOk, Bool.and_eq_true, Bool.or_eq_true] at hk
    cases h with
    | head => exact hk.1.imp id (fun h => memN_iff.1 h)
    | tail _ h => exact pendOk_spec hk.2 i h
theorem wpAny_row (he : edgesOk l 0 l = true) : ∀ (fuel : Nat) (listed : Array Bool) (n : Nat) (done : List Nat) (T : List (Nat × Value)) (q : Qs) (pend : List Nat) (H : List HP) (a : Act) (w : World),
    listed.size = l.length → ((List.range l.length).filter fun i => !Dof listed i).length = fuel → Closed l (Dof listed) →
    (∀ i ∈ done, Dof listed i = true) → (∀ i, Dof listed i = true → i ∈ done ∨ i ∈ qIdx q) → (∀ i ∈ qIdx q, memN i pend = true ∨ Dof listed i = true) → Facts N ds T q (Dof listed) a → HS H g w → Row E ro N ds g l Q n done T q pend H →
    wpAnyIn (W ro) 0 E.P .any l.toArray Q fuel listed a w := by
  intro fuel
  induction fuel with
  | zero =>
    intro listed n done T q pend H a w hs hf hc hd hdq hp hF hH hR
    have hall : ∀ i, i < l.length → Dof listed i = true := fun i hi => by
      have h0 := List.length_eq_zero_iff.1 hf
      cases h : Dof listed i with
      | true => rfl
      | false =>
        have : i ∈ (List.range l.length).filter fun i => !Dof listed i := List.mem_filter.2 ⟨by simpa using hi, by simp [h]⟩
        rw [h0] at this; cases this
    refine ⟨?_, ?_⟩
    · cases hr : Region.ready .any l.toArray listed with
      | nil => rfl
      | cons x r =>
        obtain ⟨h1, h2, _⟩ := (ready_iff hs (i := x)).1 (by rw [hr]; exact .head _)
        rw [hall x h1] at h2; cases h2
    · cases n with
      | zero =>
        obtain ⟨_, _, _, hlt, k⟩ := hR
        refine k a w (ts_app hF.ts fun d v hm => ?_) hH
        obtain ⟨i, hi⟩ := mem_qT hm
        exact hF.qs i d v hi (hall i (ltAll_mem hlt i (idx_mem hi)))
      | succ n =>
        obtain ⟨_, _, ⟨_, hlt, k⟩ | ⟨cs, _, hcs, hal⟩⟩ := hR
        · refine k a w (ts_app hF.ts fun d v hm => ?_) hH
          obtain ⟨i, hi⟩ := mem_qT hm
          exact hF.qs i d v hi (hall i (ltAll_mem hlt i (idx_mem hi)))
        exfalso
        obtain ⟨b, hbm⟩ : ∃ b, b ∈ cs := by
          cases cs with
          | nil => cases hcs
          | cons b r => exact ⟨b, .head _⟩
        obtain ⟨hb, hrow⟩ := allL_mem hal b hbm
        cases ho : l[b]? with
        | none => rw [ho] at hrow; exact hrow
        | some o =>
          have hlt : b < l.length := (List.getElem?_eq_some_iff.1 ho).1
          simp only [Bool.or_eq_false_iff] at hb
          rcases hdq b (hall b hlt) with h | h
          · rw [memN_iff.2 h] at hb; cases hb.1
          · rw [memN_iff.2 h] at hb; cases hb.2
  | succ fuel ih =>
    intro listed n done T q pend H a w hs hf hc hd hdq hp hF hH hR
    have hsome : Region.ready .any l.toArray listed ≠ [] := by
      have : 0 < ((List.range l.length).filter fun i => !Dof listed i).length := by omega
      obtain ⟨i, hi⟩ := List.exists_mem_of_length_pos this
      obtain ⟨h1, h2⟩ := List.mem_filter.1 hi
      exact ready_some hs he i i (Nat.le_refl _) (by simpa using h1) (by simpa using h2)
    refine ⟨fun h => absurd h hsome, fun i hi => ?_⟩
    obtain ⟨hlt, hun, o, ho, hpre⟩ := (ready_iff hs).1 hi
    have hls : i < listed.size := by omega
    have hs' : (listed.setIfInBounds i true).size = l.length := by simpa using hs
    have hc' : Closed l (Dof (listed.setIfInBounds i true)) := fun j oj hj hD k hk => by
      rw [dof_set hls] at hD ⊢
      split
      · rfl
      · split at hD
        · rename_i e; subst e
          rw [ho] at hj; cases hj
          exact hpre k hk
        · exact hc j oj hj hD k hk
    have hcount : ((List.range l.length).filter fun j => !Dof (listed.setIfInBounds i true) j).length = fuel := by
      have := filter_less (p := fun j => !Dof listed j) (p' := fun j => !Dof (listed.setIfInBounds i true) j) (i := i) (by simp [hun]) (fun j => by
        simp only [dof_set hls]; split <;> simp) (List.range l.length) List.nodup_range (by simpa using hlt)
      omega
    have hmono : ∀ j, Dof listed j = true → Dof (listed.setIfInBounds i true) j = true := fun j hj => by
      rw [dof_set hls]; split <;> first | rfl | exact hj
    have hself : Dof (listed.setIfInBounds i true) i = true := by rw [dof_set hls]; simp
    have hTp : TS N ds (app (qP (preds o) q) T) a := ts_app hF.ts fun d v hm => by
      obtain ⟨j, hj, hp⟩ := mem_qP hm
      exact hF.qs j d v hj (hpre j hp)
    have hnd : i ∉ done := fun e => by rw [hd i e] at hun; cases hun
    unfold wpOpIn
    have ho' : l.toArray[i]? = some o := by simpa using ho
    simp only [ho']
    by_cases hq : i ∈ qIdx q
    · -- a quiet one
      obtain ⟨d, v, hm⟩ := mem_idx hq
      have hpend : memN i pend = true := (hp i hq).resolve_right (by rw [hun]; simp)
      have hQA : QuietAll E ro N ds g l T q H pend q ∧ dstsOk q = true := by
        cases n with
        | zero => exact ⟨hR.1, hR.2.1⟩
        | succ n => exact ⟨hR.1, hR.2.1⟩
      have h1 := quietAll_mem hQA.1 hm hpend
      unfold Quiet1 at h1
      rw [ho] at h1
      obtain ⟨hdst, hdN, hkT, h1⟩ := h1
      -- what is so once it has been done
      have next : ∀ (w' : World), HS H g w' → wpAnyIn (W ro) 0 E.P .any l.toArray Q fuel (listed.setIfInBounds i true) (a.put o.dst v) w' := fun w' hH' => by
        refine ih _ n done T q pend H _ w' hs' hcount hc' (fun j hj => hmono j (hd j hj)) (fun j hj => ?_) (fun j hj => (hp j hj).imp id (hmono j)) ⟨?_, ?_⟩ hH' hR
        · rw [dof_set hls] at hj
          split at hj
          · rename_i e; subst e; exact .inr hq
          · exact hdq j hj
        · rw [hdst]
          have := hF.ts.put d v hdN
          refine ⟨this.size, this.defers, fun t u hl => this.at_ t u ?_⟩
          have hne := keysOk_spec hkT t u hl
          have : Nat.beq d t = false := by
            cases h : Nat.beq d t with
            | false => rfl
            | true => exact absurd (Nat.eq_of_beq_eq_true h).symm hne
          simp only [lk, this]; exact hl
        · intro j d' v' hm' hD
          rw [hdst]
          by_cases hji : d' = d
          · subst hji
            obtain ⟨_, e2⟩ := dsts_uniq hQA.2 hm hm'
            subst e2
            have := (hF.ts.put d' v hdN).at_ d' v (by simp [lk])
            exact this
          · have hD' : Dof listed j = true := by
              rw [dof_set hls] at hD
              split at hD
              · rename_i e; subst e
                -- the same operation with two temporaries: of one operation there is one
                exfalso
                have hh := quietAll_mem hQA.1 hm' hpend
                unfold Quiet1 at hh
                rw [ho] at hh
                have hh1 : o.dst = some d' := hh.1
                rw [hdst] at hh1
                exact hji (by simpa using hh1.symm)
              · exact hD
            have h2 := hF.qs j d' v' hm' hD'
            simp only [Act.put]
            rw [Array.getElem?_setIfInBounds_ne (fun e => hji e.symm)]; exact h2
      rcases h1 with ⟨hg, h1⟩ | ⟨j, want, dj, b, hg, hj, hb, h1⟩
      · have hw : Region.wanted o (yielded l.toArray a.tmps) = true := by simp [Region.wanted, hg]
        simp only [hw, if_true]
        exact h1 a w hTp hH _ _ fun u H' w' ⟨e1, e2⟩ s' => by subst e1 e2; exact next w' s'
      · cases b with
        | bool b =>
          have hy := yielded_of hTp hj hb
          rcases h1 with ⟨e, h1⟩ | ⟨e, h1⟩
          · have hw : Region.wanted o (yielded l.toArray a.tmps) = true := by simp [Region.wanted, hg, hy, e]
            simp only [hw, if_true]
            exact h1 a w hTp hH _ _ fun u H' w' ⟨e1, e2⟩ s' => by subst e1 e2; exact next w' s'
          · have hw : Region.wanted o (yielded l.toArray a.tmps) = false := by subst e; cases want <;> simp [Region.wanted, hg, hy]
            simp only [hw, Bool.false_eq_true, if_false]
            subst h1
            exact ⟨fun _ _ => trivial, next w hH⟩
        | tuple xs =>
          obtain ⟨e, h1⟩ := h1
          have hy := yielded_un hTp hj (by rw [hb, e])
          have hw : Region.wanted o (yielded l.toArray a.tmps) = false := by simp [Region.wanted, hg, hy]
          simp only [hw, Bool.false_eq_true, if_false]
          subst h1
          exact ⟨fun _ _ => trivial, next w hH⟩
        | _ => exact h1.elim
    · -- it is one that isn't quiet
      have hin : ∀ cs, restOk done (qIdx q) cs 0 l = true → i ∈ cs := fun cs h => by
        rcases restOk_at h ho with h2 | h2 | h2 | h2
        · exact absurd (by simpa using h2) hnd
        · exact absurd (by simpa using h2) hq
        · simpa using h2
        · obtain ⟨x, hx, hnx⟩ := not_sub h2
          exfalso; apply hnx; rw [app_eq]
          exact List.mem_append.2 (hdq x (hpre x hx))
      cases n with
      | zero => exact absurd (hin [] hR.2.2.1) (by simp)
      | succ n =>
        obtain ⟨hQA, hdst, ⟨hrest, _, _⟩ | ⟨cs, hrest, hcs, hal⟩⟩ := hR
        · exact absurd (hin [] hrest) (by simp)
        obtain ⟨b, hbi⟩ : ∃ b, b = i := ⟨i, rfl⟩
        obtain ⟨hbn, hrow⟩ := allL_mem hal i (hin cs hrest)
        subst hbi
        rw [ho] at hrow
        obtain ⟨hg, hop⟩ := hrow
        have hw : Region.wanted o (yielded l.toArray a.tmps) = true := by
          rcases hg with hg | ⟨j, want, dj, bb, hg, hj, hv, hb⟩
          · simp [Region.wanted, hg]
          · simp [Region.wanted, hg, yielded_of hTp hj hv, hb]
        simp only [hw, if_true]
        refine hop a w hTp hH _ _ fun v H' w' hk s' => ?_
        obtain ⟨q', pend', hnew, hpd, hnext⟩ := hk
        have hd2 : ∀ j ∈ b :: done, Dof (listed.setIfInBounds b true) j = true := fun j hj => by
          cases hj with
          | head => exact hself
          | tail _ hj => exact hmono j (hd j hj)
        have hidx : ∀ j, j ∈ qIdx (app q' q) ↔ j ∈ qIdx q' ∨ j ∈ qIdx q := fun j => by rw [app_eq]; simp [qIdx]
        have hdq2 : ∀ j, Dof (listed.setIfInBounds b true) j = true → j ∈ b :: done ∨ j ∈ qIdx (app q' q) := fun j hj => by
          rw [dof_set hls] at hj
          split at hj
          · rename_i e; subst e; exact .inl (.head _)
          · rcases hdq j hj with h | h
            · exact .inl (.tail _ h)
            · exact .inr ((hidx j).2 (.inr h))
        have hp2 : ∀ j ∈ qIdx (app q' q), memN j pend' = true ∨ Dof (listed.setIfInBounds b true) j = true := fun j hj => by
          rcases (hidx j).1 hj with h | h
          · obtain ⟨d', v', hm⟩ := mem_idx h
            exact .inl (newOk_spec hnew hm).2.2
          · rcases hp j h with h' | h'
            · rcases pendOk_spec hpd j (memN_iff.1 h') with h2 | h2
              · exact .inl h2
              · exact .inr (hmono j (back_closed hc _ _ hpre j h2))
            · exact .inr (hmono j h')
        have hq2 : ∀ (a' : Act), (∀ t, (∀ dd, o.dst = some dd → t ≠ dd) → a'.tmps[t]? = a.tmps[t]?) → (∀ dd, o.dst = some dd → keysOk dd (qT (app q' q)) = true) → ∀ j d' v', (j, d', v') ∈ app q' q → Dof (listed.setIfInBounds b true) j = true → a'.tmps[d']? = some v' := by
          intro a' hsame hkeys j d' v' hm hD
          rw [app_eq] at hm
          rcases List.mem_append.1 hm with h | h
          · exfalso
            obtain ⟨n1, n2, _⟩ := newOk_spec hnew h
            rcases hdq2 j hD with h' | h'
            · exact n1 h'
            · rw [dof_set hls] at hD
              split at hD
              · rename_i e; subst e; exact n1 (.head _)
              · rcases hdq j hD with h3 | h3
                · exact n1 (.tail _ h3)
                · exact n2 h3
          · have hji : j ≠ b := fun e => by subst e; exact hq (idx_mem h)
            have hD' : Dof listed j = true := by rw [dof_set hls, if_neg hji] at hD; exact hD
            rw [hsame d' fun dd hdd => (keysOk_mem (hkeys dd hdd) _ (qT_mem (q := app q' q) (by rw [app_eq]; exact List.mem_append.2 (.inr h))))]
            exact hF.qs j d' v' h hD'
        cases hdd : o.dst with
        | none =>
          rw [hdd] at hnext
          exact ih _ n (b :: done) T (app q' q) pend' H' _ w' hs' hcount hc' hd2 hdq2 hp2 ⟨hF.ts, hq2 _ (fun _ _ => rfl) (fun dd h => by rw [hdd] at h; cases h)⟩ s' hnext
        | some dd =>
          rw [hdd] at hnext
          obtain ⟨hdN, hkeys, hnext⟩ := hnext
          refine ih _ n (b :: done) _ (app q' q) pend' H' _ w' hs' hcount hc' hd2 hdq2 hp2 ⟨hF.ts.put dd v hdN, hq2 _ (fun t ht => ?_) (fun d2 h => ?_)⟩ s' hnext
          · simp only [Act.put]; rw [Array.getElem?_setIfInBounds_ne (fun e => ht dd hdd e.symm)]
          · rw [hdd] at h; cases h; exact hkeys
/-- THE REGION THAT DRAWS ITS ORDER -/
theorem c_draw {id : Nat} {T : List (Nat × Value)} {H : List HP} {n : Nat} {q : Qs} {pend : List Nat} (hm : E.P.follows .mixedOrders = true) (he : edgesOk l 0 l = true) (hp : subN (qIdx q) pend = true)
    (h : Row E ro N ds g l Q n [] T q pend H) : GC E ro N ds T H g (.region id l.toArray true) Q := fun a w t s => by
  refine wpIn_region_any hm ?_
  have h0 : ∀ i, Dof (Array.replicate l.toArray.size false) i = false := fun i => by
    unfold Dof; simp only [Array.getD_eq_getD_getElem?, Array.getElem?_replicate]; split <;> rfl
  refine wpAny_row he l.toArray.size _ n [] T q pend H a _ (by simp) ?_ (fun i o _ hD => ?_) (fun i h => by cases h) (fun i hD => ?_) (fun i hi => ?_) ⟨t, fun i d v _ hD => ?_⟩ (s.same rfl) h
  · rw [List.filter_eq_self.2 (fun i _ => by rw [h0 i]; rfl)]; simp
  · rw [h0 i] at hD; cases hD
  · rw [h0 i] at hD; cases hD
  · exact .inl (memN_iff.2 (subN_spec hp i hi))
  · rw [h0 i] at hD; cases hD
end
end Go.Vt
