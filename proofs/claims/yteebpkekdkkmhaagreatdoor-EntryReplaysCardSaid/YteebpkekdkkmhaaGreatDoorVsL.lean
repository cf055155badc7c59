/- The pieces written again: cell after cell. No conditions. -/
import Derived.Test.YteebpkekdkkmhaaGreatDoorVsK
set_option linter.unusedVariables false
set_option linter.unusedSimpArgs false
set_option maxRecDepth 100000
namespace Go.Vt
/-! ### what a stream comes to -/
abbrev TA := Int × Bool × Int × Int × List Vapi_Cell × Int × Int × Int × Int × Int × Bool × Int × Int × Int × Int × Bool
abbrev TB := Int × Int × Bool × Int × Int × List Vapi_Cell × Int × Int × Int × Int × Bool × Int × Int × Int × Int × Bool
abbrev TC := Vspace_Space × Int × Int × Int
abbrev sA (y : TA) : Vspace_Space := ⟨y.1, y.2.1, ⟨y.2.2.1, y.2.2.2.1⟩, y.2.2.2.2.1, y.2.2.2.2.2.1, y.2.2.2.2.2.2.1⟩
abbrev sB (y : TB) : Vspace_Space := ⟨y.2.1, y.2.2.1, ⟨y.2.2.2.1, y.2.2.2.2.1⟩, y.2.2.2.2.2.1, y.2.2.2.2.2.2.1, y.2.2.2.2.2.2.2.1⟩
def fin : TA ⊕ (TB ⊕ (TB ⊕ TC)) → TC
  | .inl y => (sA y, y.2.2.2.2.2.2.2.2.1, y.2.2.2.2.2.2.2.1, 0)
  | .inr (.inl y) => (sB y, y.2.2.2.2.2.2.2.2.1, y.1, 0)
  | .inr (.inr (.inl y)) => (sB y, y.2.2.2.2.2.2.2.2.1, y.1, 0)
  | .inr (.inr (.inr r)) => r
def Ev (p : List Int) (u : Vspace_Space) (q : Vwrite_pen) (a : Vspace_Space) (n : Int) (j : Nat) (e : Int) : Prop :=
  ∀ k ct : Nat, p.length < k → ct + p.length ≤ 1000000000 → (write_Orders_l8 k (p, 0, u.model, u.alternate, u.size.Rows, u.size.Cols, u.cells, u.cursor, u.attrs, (ct : Int), q.n, q.look.Char, q.look.Attr, q.look.FA, q.look.High, q.look.Color, q.look.f_Set, q.texts)).map fin = some (a, n, ((ct + j : Nat) : Int), e)
section
variable {u : Vspace_Space} {q : Vwrite_pen}
theorem ev_nil : Ev [] u q u q.n 0 0 := fun k ct hk _ => by
  obtain ⟨k, rfl⟩ : ∃ j, k = j + 1 := ⟨k - 1, by omega⟩
  rw [write_Orders_l8.eq_2]; rfl
def isT (o : Vorder_Op) : Bool := o.Kind == 0 || o.Kind == 8
theorem ev_step {p : List Int} {r : List Int} {o : Vorder_Op} {d : Vspace_Space × Vwrite_pen × Int} {a : Vspace_Space} {n e : Int} {j : Nat} (h0 : r.length < p.length) (h : m_order_scanner_op ⟨p, 0⟩ = some (⟨r, 0⟩, o)) (hd : m_write_pen_do q u o = some d) (he : d.2.2 = 0)
    (hr : Ev r d.1 ⟨d.2.1.n, d.2.1.look, isT o⟩ a n j e) : Ev p u q a n (j + 1) e := fun k ct hk hct => by
  obtain ⟨k, rfl⟩ : ∃ j, k = j + 1 := ⟨k - 1, by omega⟩
  rw [write_Orders_l8.eq_2]
  have d1 : decide ((p.length : Int) > 0) = true := decide_eq_true (by omega)
  have hd' : m_write_pen_do ⟨q.n, ⟨q.look.Char, q.look.Attr, q.look.FA, q.look.High, q.look.Color, q.look.f_Set⟩, q.texts⟩ ⟨u.model, u.alternate, ⟨u.size.Rows, u.size.Cols⟩, u.cells, u.cursor, u.attrs⟩ ⟨o.Kind, o.Addr, o.Code, o.Graph, o.FA, o.Pairs, o.Text⟩ = some d := hd
  have z : ((0 : Int) != 0) = false := rfl
  have ht : (cond (o.Kind == 0) (some true) (some (o.Kind == 8)) : Option Bool) = some (isT o) := by unfold isT; cases (o.Kind == 0) <;> rfl
  simp only [d1, cond_true, h, Option.bind_some, z, cond_false, hd', bne_f he, ht, w64_succ (show ct < 9223372036854775807 by omega)]
  have h1 := hr k (ct + 1) (by omega) (by omega)
  rw [show ct + 1 + j = ct + (j + 1) by omega] at h1
  exact h1
end

theorem sz_wrap {m : Int} {N : Nat} {s : Vspace_Space} (h : SS m N s) (n : Int) : m_addr_Size_Wrap ⟨s.size.Rows, s.size.Cols⟩ n = some (n % N) := wrap_ok h.dim.dim n
/-- so far written -/
structure Wr (m : Int) (N : Nat) (alt : Bool) (u : Vspace_Space) (out : List Vapi_Cell) : Prop where
  ss : SS m N u
  alt : u.alternate = alt
  cells : u.cells = out ++ List.replicate (N - out.length) zc
  le : out.length ≤ N
/-- a look that is a character's -/
structure Lok (c : Vapi_Cell) : Prop where
  char : By c.Char
  high : By c.High
  color : By c.Color
  set : By c.f_Set
  attr : c.Attr = false
  fa : c.FA = 0
theorem nmod {N n : Nat} (hN : 0 < N) (hn : n < N) (h2 : N ≤ 100000) : w64 (((n % N : Nat) : Int) + 1) % (N : Int) = (((n + 1) % N : Nat) : Int) := by
  rw [Nat.mod_eq_of_lt hn, w64_in (by omega) (by omega)]; rfl
section
variable {m : Int} {N : Nat} {alt : Bool} {u : Vspace_Space} {out : List Vapi_Cell}
theorem wr_set (h : Wr m N alt u out) (hl : out.length < N) {c : Vapi_Cell} (hc : COk c) : ∃ u', m_space_Space_Set u ((out.length % N : Nat) : Int) c = some u' ∧ Wr m N alt u' (out ++ [c]) ∧ u'.cursor = u.cursor ∧ u'.size = u.size := by
  obtain ⟨h1, h2⟩ := ss_set h.ss ((out.length % N : Nat) : Int) hc.cb
  have hmod : (((out.length % N : Nat) : Int) % (N : Int)).toNat = out.length := by rw [Nat.mod_eq_of_lt hl, Int.emod_eq_of_lt (by omega) (by omega)]; rfl
  rw [hmod, hc.fit] at h1 h2
  refine ⟨_, h1, ⟨h2, h.alt, ?_, by simp; omega⟩, rfl, rfl⟩
  simp only
  rw [h.cells, List.set_append_right _ _ (by omega), Nat.sub_self, show N - out.length = (N - (out ++ [c]).length) + 1 by simp; omega, List.replicate_succ, List.set_cons_zero]
  simp
theorem wr_next (h : Wr m N alt u out) (hl : out.length < N) {u' : Vspace_Space} (hs : u'.size = u.size) (q : Vwrite_pen) (hq : q.n = ((out.length % N : Nat) : Int)) (c : Vapi_Cell) : m_write_pen_next q u' = some { q with n := (((out ++ [c]).length % N : Nat) : Int) } := by
  have hle := h.ss.dim.dim.le
  unfold m_write_pen_next m_space_Space_Size
  simp only [Option.bind_some, hs, sz_wrap h.ss, hq]
  rw [nmod (by omega) hl (by omega)]
  simp
theorem wr_put (h : Wr m N alt u out) (hl : out.length < N) (q : Vwrite_pen) (hq : q.n = ((out.length % N : Nat) : Int)) (hk : Lok q.look) {b : Int} (hb : By b) (g : Bool) :
    ∃ u', m_write_pen_put q u b g = some (u', { q with n := (((out ++ [(⟨b, q.look.Attr, q.look.FA, q.look.High, q.look.Color, if g then 241 else q.look.f_Set⟩ : Vapi_Cell)]).length % N : Nat) : Int) }) ∧ Wr m N alt u' (out ++ [⟨b, q.look.Attr, q.look.FA, q.look.High, q.look.Color, if g then 241 else q.look.f_Set⟩]) ∧ u'.cursor = u.cursor := by
  have hcell : m_write_pen_cell q u b g = some ⟨b, q.look.Attr, q.look.FA, q.look.High, q.look.Color, if g then 241 else q.look.f_Set⟩ := by
    unfold m_write_pen_cell; cases g <;> rfl
  have hok : COk ⟨b, q.look.Attr, q.look.FA, q.look.High, q.look.Color, if g then 241 else q.look.f_Set⟩ := by
    refine ⟨hb, by rw [hk.fa]; exact by0, hk.high, hk.color, ?_, fun e => ?_, fun _ => hk.fa⟩
    · simp only; split
      · exact ⟨by omega, by omega⟩
      · exact hk.set
    · simp only at e; rw [hk.attr] at e; cases e
  obtain ⟨u', h1, h2, h3, h4⟩ := wr_set h hl hok
  have hn := wr_next h hl h4 q hq ⟨b, q.look.Attr, q.look.FA, q.look.High, q.look.Color, if g then 241 else q.look.f_Set⟩
  have hue : (⟨u'.model, u'.alternate, u'.size, u'.cells, u'.cursor, u'.attrs⟩ : Vspace_Space) = u' := rfl
  unfold m_write_pen_put
  simp only [hcell, hq, h1, Option.bind_some, hue]
  rw [hn]
  exact ⟨u', rfl, h2, h3⟩
theorem wr_text (o : Vorder_Op) (q : Vwrite_pen) (hk : Lok q.look) (ho : o.Text.length ≤ 1000000) (hb : Bs o.Text) : ∀ (d i k : Nat) (u : Vspace_Space) (out : List Vapi_Cell), i + d = o.Text.length → d < k → Wr m N alt u out → out.length + d ≤ N →
    ∃ u', write_pen_do_l4 o k ((i : Int), ((out.length % N : Nat) : Int), q.look.Char, q.look.Attr, q.look.FA, q.look.High, q.look.Color, q.look.f_Set, q.texts, u.model, u.alternate, u.size.Rows, u.size.Cols, u.cells, u.cursor, u.attrs) = some (u'.model, u'.alternate, u'.size.Rows, u'.size.Cols, u'.cells, u'.cursor, u'.attrs, (((out ++ (o.Text.drop i).map fun b => (⟨b, q.look.Attr, q.look.FA, q.look.High, q.look.Color, q.look.f_Set⟩ : Vapi_Cell)).length % N : Nat) : Int), q.look.Char, q.look.Attr, q.look.FA, q.look.High, q.look.Color, q.look.f_Set, q.texts)
      ∧ Wr m N alt u' (out ++ (o.Text.drop i).map fun b => (⟨b, q.look.Attr, q.look.FA, q.look.High, q.look.Color, q.look.f_Set⟩ : Vapi_Cell)) ∧ u'.cursor = u.cursor
  | d, i, 0, _, _, _, hk, _, _ => by omega
  | 0, i, k + 1, u, out, e, _, hw, _ => by
    have d1 : decide ((i : Int) < (o.Text.length : Int)) = false := decide_eq_false (by omega)
    rw [write_pen_do_l4.eq_2, List.drop_eq_nil_of_le (by omega)]
    simp only [d1, cond_false, List.map_nil, List.append_nil]
    exact ⟨u, rfl, hw, rfl⟩
  | d + 1, i, k + 1, u, out, e, hk', hw, hl => by
    have hi : i < o.Text.length := by omega
    have d1 : decide ((i : Int) < (o.Text.length : Int)) = true := decide_eq_true (by omega)
    obtain ⟨u', h1, h2, h3⟩ := wr_put hw (by omega) ⟨((out.length % N : Nat) : Int), q.look, q.texts⟩ rfl hk (hb _ (List.getElem_mem hi)) false
    obtain ⟨u2, k1, k2, k3⟩ := wr_text o q hk ho hb d (i + 1) k u' _ (by omega) (by omega) h2 (by simp; omega)
    have h1' : m_write_pen_put ⟨((out.length % N : Nat) : Int), ⟨q.look.Char, q.look.Attr, q.look.FA, q.look.High, q.look.Color, q.look.f_Set⟩, q.texts⟩ ⟨u.model, u.alternate, ⟨u.size.Rows, u.size.Cols⟩, u.cells, u.cursor, u.attrs⟩ o.Text[i] false = _ := h1
    rw [write_pen_do_l4.eq_2]
    simp only [d1, cond_true]
    rw [gd_pos (by omega), w64_succ (by omega), rdn hi, h1']
    simp only [Option.bind_some]
    rw [List.drop_eq_getElem_cons hi]
    refine ⟨u2, ?_, ?_, by rw [k3, h3]⟩
    · simp only [Bool.false_eq_true, if_false, List.append_assoc, List.cons_append, List.nil_append] at k1
      simp only [Bool.false_eq_true, if_false, List.map_cons]; exact k1
    · simp only [Bool.false_eq_true, if_false, List.append_assoc, List.cons_append, List.nil_append] at k2
      exact k2
theorem appl_loop {l : List (Int × Int)} (hl : l.length ≤ 100) (hp : ∀ p ∈ l, m_attr_Pair_Check (mkA p) = some 0) : ∀ (d i k : Nat) (c : Vapi_Cell), i + d = l.length → d < k →
    write_applied_l2 (l.map mkA) k ((i : Int), c.Char, c.Attr, c.FA, c.High, c.Color, c.f_Set) = some (.inl (((l.drop i).foldl ap c).Char, ((l.drop i).foldl ap c).Attr, ((l.drop i).foldl ap c).FA, ((l.drop i).foldl ap c).High, ((l.drop i).foldl ap c).Color, ((l.drop i).foldl ap c).f_Set))
  | d, i, 0, _, _, hk => by omega
  | 0, i, k + 1, c, e, hk => by
    have d1 : decide ((i : Int) < ((l.map mkA).length : Int)) = false := decide_eq_false (by simp; omega)
    rw [write_applied_l2.eq_2]
    simp only [d1, cond_false]
    rw [List.drop_eq_nil_of_le (by omega)]; rfl
  | d + 1, i, k + 1, c, e, hk => by
    have hi : i < l.length := by omega
    have d1 : decide ((i : Int) < ((l.map mkA).length : Int)) = true := decide_eq_true (by simp; omega)
    have hc := hp _ (List.getElem_mem hi)
    have hce : (⟨c.Char, c.Attr, c.FA, c.High, c.Color, c.f_Set⟩ : Vapi_Cell) = c := rfl
    have z : ((0 : Int) != 0) = false := rfl
    rw [write_applied_l2.eq_2]
    simp only [d1, cond_true]
    rw [gd_pos (by simp; omega), rdn (by simp; omega), w64_succ (by omega)]
    simp only [List.getElem_map, hce, ap_ok hc, Option.bind_some, z, cond_false]
    rw [appl_loop hl hp d (i + 1) k _ (by omega) (by omega), List.drop_eq_getElem_cons hi]
    rfl
theorem applied_ok {l : List (Int × Int)} (hl : l.length ≤ 100) (hp : ∀ p ∈ l, m_attr_Pair_Check (mkA p) = some 0) (c : Vapi_Cell) : m_write_applied c (l.map mkA) = some (l.foldl ap c, 0) := by
  unfold m_write_applied
  have := appl_loop hl hp l.length 0 fuel c (by omega) (by unfold fuel; omega)
  have h1 : write_applied_l2 (l.map mkA) fuel (0, c.Char, c.Attr, c.FA, c.High, c.Color, c.f_Set) = _ := this
  rw [h1]; rfl
theorem wr_attr (h : Wr m N alt u out) (hl : out.length < N) (q : Vwrite_pen) (hq : q.n = ((out.length % N : Nat) : Int)) {l : List (Int × Int)} (hll : l.length ≤ 100) (hp : ∀ p ∈ l, m_attr_Pair_Check (mkA p) = some 0) (c : Vapi_Cell) {c' : Vapi_Cell} (hc : CB (l.foldl ap c)) (hf : Vt.fit (l.foldl ap c) = c') :
    ∃ u', m_write_pen_attribute q u c (l.map mkA) = some (u', { q with n := (((out ++ [c']).length % N : Nat) : Int) }, 0) ∧ Wr m N alt u' (out ++ [c']) ∧ u'.cursor = u.cursor := by
  have hc' : COk c' := by rw [← hf]; exact fit_ok hc
  have hset : m_space_Space_Set u ((out.length % N : Nat) : Int) (l.foldl ap c) = m_space_Space_Set u ((out.length % N : Nat) : Int) c' := by
    rw [(ss_set h.ss _ hc).1, (ss_set h.ss _ hc'.cb).1, hc'.fit, hf]
  obtain ⟨u', h1, h2, h3, h4⟩ := wr_set h hl hc'
  have hn := wr_next h hl h4 q hq c'
  have hue : (⟨u.model, u.alternate, u.size, u.cells, u.cursor, u.attrs⟩ : Vspace_Space) = u := rfl
  have z : ((0 : Int) != 0) = false := rfl
  have hqe : (⟨q.n, q.look, q.texts⟩ : Vwrite_pen) = q := rfl
  unfold m_write_pen_attribute
  simp only [applied_ok hll hp, Option.bind_some, z, cond_false, hue, hq, hset, h1]
  rw [← hq, hqe, hn]
  exact ⟨u', rfl, h2, h3⟩
end
end Go.Vt
