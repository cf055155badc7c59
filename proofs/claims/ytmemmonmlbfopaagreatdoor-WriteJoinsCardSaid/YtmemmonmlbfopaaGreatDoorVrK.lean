/- The pen's orders answer, on a screen of the same size. No conditions. -/
import Derived.Test.YtmemmonmlbfopaaGreatDoorVrJ
set_option linter.unusedVariables false
set_option linter.unusedSimpArgs false
set_option maxRecDepth 100000
namespace Go.Vt
section
variable {m : Int} {N : Nat} {alt : Bool} {s : Vspace_Space}
theorem pnext_tot (h : WS m N alt s) (q : Vwrite_pen) : Tot (m_write_pen_next q s) fun r => Lo r.n := by
  unfold m_write_pen_next
  have hw : ∀ z, m_addr_Size_Wrap ⟨s.size.Rows, s.size.Cols⟩ z = some (z % N) := ws_wrap h
  simp only [ws_size, Option.bind_some, hw]
  have hd := h.le
  obtain ⟨j, hj, _⟩ := emod_nat (w64 (q.n + 1)) (N := N) (by omega)
  exact tot_some (lo_nn (by simp only [hj]; omega))
theorem pcell_tot (q : Vwrite_pen) (c : Int) (b : Bool) : Tot (m_write_pen_cell q s c b) fun _ => True := by
  unfold m_write_pen_cell
  exact tot_bind (P := fun _ => True) (tot_cond (fun _ => tot_some trivial) fun _ => tot_some trivial) fun _ _ => tot_some trivial
theorem pput_tot (h : WS m N alt s) (q : Vwrite_pen) (c : Int) (b : Bool) : Tot (m_write_pen_put q s c b) fun r => WS m N alt r.1 ∧ Lo r.2.n := by
  unfold m_write_pen_put
  exact tot_bind (pcell_tot q c b) fun d _ => tot_bind (ws_set h q.n d) fun u hu => tot_bind (pnext_tot hu q) fun _ hv => tot_some ⟨hu, hv⟩
theorem pto_tot (h : WS m N alt s) (q : Vwrite_pen) (hq : Lo q.n) (c : Int) (hc' : Lo c) : Tot (m_write_pen_to q s c) fun r => Lo r.1.n := by
  unfold m_write_pen_to
  have hc : m_addr_Size_Cells ⟨s.size.Rows, s.size.Cols⟩ = some (N : Int) := ws_cells h
  simp only [ws_size, Option.bind_some, hc]
  exact tot_cond (fun _ => tot_some hq) fun _ => tot_some hc'
theorem pspan_tot (h : WS m N alt s) (q : Vwrite_pen) (hq : Lo q.n) (o : Vorder_Op) (ho : Lo o.Addr) : Tot (m_write_pen_span q s o) fun r => WS m N alt r.1 ∧ Lo r.2.1.n := by
  unfold m_write_pen_span
  refine tot_bind (pto_tot h q hq o.Addr ho) fun d hd => tot_cond (fun _ => tot_some ⟨h, hd⟩) fun _ => ?_
  refine tot_bind (P := fun y => WS m N alt (o7 y)) (tot_cond (fun _ => tot_bind (range_tot h q.n o.Addr) fun u hu => tot_some hu) fun _ => tot_bind (pcell_tot _ _ _) fun c _ => tot_bind (repeat_tot h _ _ _) fun u hu => tot_some hu) fun y hy => tot_some ⟨hy, hd⟩
theorem apply_tot (x : Vattr_Pair) (c : Vapi_Cell) : Tot (m_attr_Pair_Apply x c) fun _ => True := by
  unfold m_attr_Pair_Apply
  refine tot_bind (checkT x) fun d _ => tot_cond (fun _ => tot_some trivial) fun _ => tot_bind (P := fun _ => True) ?_ fun _ _ => tot_some trivial
  repeat' first | exact tot_some trivial | refine tot_cond (fun _ => ?_) (fun _ => ?_)
theorem applied_tot (c : Vapi_Cell) {l : List Vattr_Pair} (hl : l.length ≤ 68719476736) : Tot (m_write_applied c l) fun _ => True := by
  unfold m_write_applied
  refine tot_jn (P := fun _ => True) (Tot.mono (P := fun _ => True) ?_ (fun r _ => by cases r <;> trivial)) fun _ _ => tot_some trivial
  refine loop_ex0 (L := write_applied_l2 l) (n := l.length) (fun _ _ => True) (fun _ => True) (by omega) ?_ ?_ trivial
  · intro k i v hi _
    have d1 : decide ((i : Int) < (l.length : Int)) = true := decide_eq_true (by omega)
    rw [write_applied_l2.eq_2]
    simp only [d1, cond_true]
    rw [gd_pos (by omega), w64_succ (by omega)]
    obtain ⟨b, hb, _⟩ := apply_tot (rd l (i : Int)) ⟨v.1, v.2.1, v.2.2.1, v.2.2.2.1, v.2.2.2.2.1, v.2.2.2.2.2⟩
    simp only [hb, Option.bind_some]
    cases (b.2 != 0) with
    | true => exact .inl ⟨_, rfl, trivial⟩
    | false => exact .inr ⟨_, rfl, trivial⟩
  · intro k v _
    have d1 : decide ((l.length : Int) < (l.length : Int)) = false := decide_eq_false (by omega)
    rw [write_applied_l2.eq_2]
    simp only [d1, cond_false]
    exact ⟨_, rfl, trivial⟩
theorem pattr_tot (h : WS m N alt s) (q : Vwrite_pen) (hq : Lo q.n) (c : Vapi_Cell) {l : List Vattr_Pair} (hl : l.length ≤ 68719476736) : Tot (m_write_pen_attribute q s c l) fun r => WS m N alt r.1 ∧ Lo r.2.1.n := by
  unfold m_write_pen_attribute
  exact tot_bind (applied_tot c hl) fun d _ => tot_cond (fun _ => tot_some ⟨h, hq⟩) fun _ => tot_bind (ws_set h q.n d.1) fun u hu => tot_bind (pnext_tot hu _) fun _ hv => tot_some ⟨hu, hv⟩
theorem tab_loop (h : WS m N alt s) (sz : Vaddr_Size) (hsz : sz = s.size) : ∀ (d k : Nat) (i : Int) (y : T7), (N : Int) - i ≤ (d : Int) → Lo i → d < k → WS m N alt (o7 y) → Tot (write_pen_tab_l4 sz k (i, y)) fun r => WS m N alt (o7 r)
  | d, 0, _, _, _, _, hk, _ => by omega
  | d, k + 1, i, y, hd, hi, hk, hy => by
    have hle := h.le
    rw [write_pen_tab_l4.eq_2]
    have hc : m_addr_Size_Cells ⟨sz.Rows, sz.Cols⟩ = some (N : Int) := by subst hsz; exact ws_cells h
    simp only [hc, Option.bind_some]
    refine tot_cond (fun e => ?_) fun _ => tot_some hy
    have e : i < (N : Int) := of_decide_eq_true e
    unfold Lo at hi
    refine tot_bind (P := fun _ => True) ⟨_, ws_at hy i, trivial⟩ fun c _ => tot_cond (fun _ => tot_some hy) fun _ => tot_bind (ws_put hy i 0) fun u hu => ?_
    rw [w64_in (by omega) (by omega)]
    exact tab_loop h sz hsz (d - 1) k (i + 1) _ (by omega) (by unfold Lo; omega) (by omega) hu
theorem ptab_tot (h : WS m N alt s) (q : Vwrite_pen) (hq : Lo q.n) : Tot (m_write_pen_tab q s) fun r => WS m N alt r.1 ∧ Lo r.2.n := by
  have hle := h.le
  have hq' := hq
  unfold Lo at hq'
  unfold m_write_pen_tab
  simp only [ws_size, Option.bind_some]
  refine tot_bind (P := fun y => WS m N alt (o7 y)) (tot_cond (fun _ => tot_bind (tab_loop h s.size rfl (N + 9223372036854775808) fuel q.n (t7 s) (by omega) hq (by unfold fuel; omega) h) fun u hu => tot_some hu) fun _ => tot_some h) fun y hy => ?_
  exact tot_bind (next_tot' hy q.n) fun r _ => tot_cond (fun e => tot_some ⟨hy, by have e : r > q.n := of_decide_eq_true e
                                                                                   unfold Lo; simp only; omega⟩) fun _ => tot_some ⟨hy, lo_nn (by simp)⟩
abbrev T8 := Int × Int × Bool × Int × Int × Int × Int × Bool
abbrev T15 := Int × Bool × Int × Int × List Vapi_Cell × Int × Int × T8
/-- the space and the pen of a long tuple -/
abbrev s15 (y : T15) : Vspace_Space := ⟨y.1, y.2.1, ⟨y.2.2.1, y.2.2.2.1⟩, y.2.2.2.2.1, y.2.2.2.2.2.1, y.2.2.2.2.2.2.1⟩
abbrev n15 (y : T15) : Int := y.2.2.2.2.2.2.2.1
theorem do_text (h : WS m N alt s) (q : Vwrite_pen) (hq : Lo q.n) (o : Vorder_Op) (hl : o.Text.length ≤ 68719476736) :
    Tot (write_pen_do_l4 o fuel (0, q.n, q.look.Char, q.look.Attr, q.look.FA, q.look.High, q.look.Color, q.look.f_Set, q.texts, s.model, s.alternate, s.size.Rows, s.size.Cols, s.cells, s.cursor, s.attrs)) fun r => WS m N alt (s15 r) ∧ Lo (n15 r) := by
  refine loop_rel0 (L := write_pen_do_l4 o) (n := o.Text.length) (fun _ y => WS m N alt (o7 y.2.2.2.2.2.2.2.2) ∧ Lo y.1) (fun r => WS m N alt (s15 r) ∧ Lo (n15 r)) (by omega) ?_ ?_ ⟨h, hq⟩
  · rintro k i y hi ⟨hy, hn⟩
    have d1 : decide ((i : Int) < (o.Text.length : Int)) = true := decide_eq_true (by omega)
    rw [write_pen_do_l4.eq_2]
    simp only [d1, cond_true]
    rw [gd_pos (by omega), w64_succ (by omega)]
    obtain ⟨u, hu, hu1, hu2⟩ := pput_tot hy ⟨y.1, ⟨y.2.1, y.2.2.1, y.2.2.2.1, y.2.2.2.2.1, y.2.2.2.2.2.1, y.2.2.2.2.2.2.1⟩, y.2.2.2.2.2.2.2.1⟩ (rd o.Text (i : Int)) false
    simp only [hu, Option.bind_some]
    exact ⟨_, rfl, hu1, hu2⟩
  · rintro k y ⟨hy, hn⟩
    have d1 : decide ((o.Text.length : Int) < (o.Text.length : Int)) = false := decide_eq_false (by omega)
    rw [write_pen_do_l4.eq_2]
    simp only [d1, cond_false]
    exact ⟨_, rfl, hy, hn⟩
abbrev TP := Vspace_Space × Vwrite_pen × Int
def PP (m : Int) (N : Nat) (alt : Bool) (r : TP) : Prop := WS m N alt r.1 ∧ Lo r.2.1.n
def PD (m : Int) (N : Nat) (alt : Bool) : T15 ⊕ (T15 ⊕ TP) → Prop
  | .inl y => WS m N alt (s15 y) ∧ Lo (n15 y)
  | .inr (.inl y) => WS m N alt (s15 y) ∧ Lo (n15 y)
  | .inr (.inr r) => PP m N alt r
theorem pdo_tot (h : WS m N alt s) (q : Vwrite_pen) (hq : Lo q.n) (o : Vorder_Op) (ht : o.Text.length ≤ 68719476736) (hp : o.Pairs.length ≤ 68719476736) (ha : Lo o.Addr) :
    Tot (m_write_pen_do q s o) (PP m N alt) := by
  unfold m_write_pen_do
  refine tot_jn (P := fun y => WS m N alt (s15 y) ∧ Lo (n15 y)) (tot_jn (P := fun y => WS m N alt (s15 y) ∧ Lo (n15 y)) (Tot.mono (P := PD m N alt) ?_ fun r hr => ?_) fun y hy => tot_some hy) fun y hy => tot_some hy
  · refine tot_cond (fun _ => tot_bind (do_text h q hq o ht) fun r hr => tot_some hr) fun _ => ?_
    refine tot_cond (fun _ => tot_bind (pput_tot h q _ _) fun r hr => tot_some hr) fun _ => ?_
    refine tot_cond (fun _ => tot_bind (pto_tot h q hq _ ha) fun r hr => tot_esc (tot_esc (tot_some ⟨h, hr⟩))) fun _ => ?_
    refine tot_bind (P := fun _ => True) (tot_cond (fun _ => tot_some trivial) fun _ => tot_some trivial) fun _ _ => ?_
    refine tot_cond (fun _ => tot_bind (pspan_tot h q hq o ha) fun r hr => tot_esc (tot_esc (tot_some hr))) fun _ => ?_
    refine tot_cond (fun _ => tot_bind (pattr_tot h q hq _ (by simp)) fun r hr => tot_esc (tot_esc (tot_some hr))) fun _ => ?_
    refine tot_cond (fun _ => tot_bind (pattr_tot h q hq _ hp) fun r hr => tot_esc (tot_esc (tot_some hr))) fun _ => ?_
    refine tot_cond (fun _ => tot_bind (P := fun _ => True) (tot_bind (P := fun _ => True) ⟨_, ws_at h q.n, trivial⟩ fun _ _ => tot_some trivial) fun c _ => tot_cond (fun _ => tot_esc (tot_esc (tot_some ⟨h, hq⟩))) fun _ => tot_bind (pattr_tot h q hq _ hp) fun r hr => tot_esc (tot_esc (tot_some hr))) fun _ => ?_
    refine tot_cond (fun _ => tot_bind (P := fun _ => True) (tot_bind (applied_tot _ hp) fun _ _ => tot_some trivial) fun c _ => tot_bind (P := fun _ => True) (tot_cond (fun _ => tot_some trivial) fun _ => tot_some trivial) fun _ _ => tot_esc (tot_esc (tot_some ⟨h, hq⟩))) fun _ => ?_
    refine tot_cond (fun _ => tot_bind (ws_place h q.n) fun u hu => tot_some ⟨hu, hq⟩) fun _ => ?_
    exact tot_cond (fun _ => tot_bind (ptab_tot h _ hq) fun u hu => tot_some hu) fun _ => tot_some ⟨h, hq⟩
  · match r, hr with
    | .inl y, hr => exact hr
    | .inr (.inl y), hr => exact hr
    | .inr (.inr y), hr => exact hr
end
end Go.Vt
