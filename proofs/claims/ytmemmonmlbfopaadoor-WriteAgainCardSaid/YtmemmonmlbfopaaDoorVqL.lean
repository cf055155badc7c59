/- 'WriteAgain' answers true at every input that it can get. No conditions. -/
import Derived.Test.YtmemmonmlbfopaaDoorVqK
import Derived.Test.YtmemmonmlbfopaaDoorVqN
set_option linter.unusedVariables false
set_option linter.unusedSimpArgs false
set_option maxRecDepth 100000
namespace Go.Vt
abbrev TA := Int × Bool × Int × Int × List Vapi_Cell × Int × Int × Int × Int × Int × Bool × Int × Int × Int × Int × Bool
abbrev TB := Int × Int × Bool × Int × Int × List Vapi_Cell × Int × Int × Int × Int × Bool × Int × Int × Int × Int × Bool
abbrev TC := Vspace_Space × Int × Int × Int
abbrev sA (y : TA) : Vspace_Space := ⟨y.1, y.2.1, ⟨y.2.2.1, y.2.2.2.1⟩, y.2.2.2.2.1, y.2.2.2.2.2.1, y.2.2.2.2.2.2.1⟩
abbrev sB (y : TB) : Vspace_Space := ⟨y.2.1, y.2.2.1, ⟨y.2.2.2.1, y.2.2.2.2.1⟩, y.2.2.2.2.2.1, y.2.2.2.2.2.2.1, y.2.2.2.2.2.2.2.1⟩
def PO (m : Int) (N : Nat) (alt : Bool) : TA ⊕ (TB ⊕ (TB ⊕ TC)) → Prop
  | .inl y => WS m N alt (sA y)
  | .inr (.inl y) => WS m N alt (sB y)
  | .inr (.inr (.inl y)) => WS m N alt (sB y)
  | .inr (.inr (.inr r)) => WS m N alt r.1
def PO2 (m : Int) (N : Nat) (alt : Bool) : TB ⊕ (TB ⊕ TC) → Prop
  | .inl y => WS m N alt (sB y)
  | .inr (.inl y) => WS m N alt (sB y)
  | .inr (.inr r) => WS m N alt r.1
def PO3 (m : Int) (N : Nat) (alt : Bool) : TB ⊕ TC → Prop
  | .inl y => WS m N alt (sB y)
  | .inr r => WS m N alt r.1
theorem se' (s : Vspace_Space) : (⟨s.model, s.alternate, ⟨s.size.Rows, s.size.Cols⟩, s.cells, s.cursor, s.attrs⟩ : Vspace_Space) = s := rfl
section
variable {m : Int} {N : Nat} {alt : Bool} {s : Vspace_Space}
theorem orders_loop : ∀ (d k : Nat) (p : List Int) (s : Vspace_Space) (ct : Int) (q : Vwrite_pen), p.length ≤ d → d < k → Bs p → p.length ≤ 68719476736 → WS m N alt s → Lo q.n →
    Tot (write_Orders_l8 k (p, 0, s.model, s.alternate, s.size.Rows, s.size.Cols, s.cells, s.cursor, s.attrs, ct, q.n, q.look.Char, q.look.Attr, q.look.FA, q.look.High, q.look.Color, q.look.f_Set, q.texts)) (PO m N alt)
  | d, 0, _, _, _, _, _, hk, _, _, _, _ => by omega
  | d, k + 1, p, s, ct, q, hd, hk, hb, hl, h, hq => by
    rw [write_Orders_l8.eq_2]
    refine tot_cond (fun e => ?_) fun _ => tot_some h
    have h0 : 0 < p.length := by
      have : (p.length : Int) > 0 := of_decide_eq_true e
      omega
    refine tot_bind (op_tot (sc := ⟨p, 0⟩) hb hl h0) fun r ⟨g1, g2, g3, g4⟩ => tot_cond (fun _ => ?_) fun e2 => ?_
    · refine tot_bind (P := fun y : TB => WS m N alt (sB y)) (tot_cond (fun _ => tot_bind (pdo_tot h q hq _ (by simp) (by simp) (lo_nn (by simp))) fun u hu => tot_some hu.1) fun _ => tot_some h) fun y hy => ?_
      exact tot_cond (fun _ => tot_esc (tot_esc (tot_esc (tot_some hy)))) fun _ => tot_esc (tot_some hy)
    · refine tot_bind (pdo_tot h q hq _ g2 g3 g4) fun u hu => tot_cond (fun _ => tot_esc (tot_esc (tot_esc (tot_some hu.1)))) fun _ => ?_
      refine tot_bind (P := fun _ => True) (tot_cond (fun _ => tot_some trivial) fun _ => tot_some trivial) fun b _ => ?_
      have hz : r.1.code = 0 := by simpa using e2
      have hlt := g1.eq hz
      simp only at hlt
      rw [hz]
      exact orders_loop (d - 1) k r.1.p u.1 _ ⟨u.2.1.n, u.2.1.look, b⟩ (by omega) (by omega) g1.bs (by omega) hu.1 hu.2
theorem orders_tot (h : WS m N alt s) {p : List Int} (hb : Bs p) (hl : p.length ≤ 68719476736) (c : Int) : Tot (m_write_Orders s p c) fun r => WS m N alt r.1 := by
  have hd := h.le
  unfold m_write_Orders m_order_Parse
  have hw : ∀ z, m_addr_Size_Wrap ⟨s.size.Rows, s.size.Cols⟩ z = some (z % N) := ws_wrap h
  obtain ⟨j, hj, _⟩ := emod_nat c (N := N) (by omega)
  simp only [ws_size, Option.bind_some, hw, hj]
  refine tot_jn (P := fun y => WS m N alt (sB y)) (tot_jn (P := fun y => WS m N alt (sB y)) (tot_jn (P := fun y => WS m N alt (sA y)) ((orders_loop p.length fuel p s 0 ⟨j, ⟨0, false, 0, 0, 0, 0⟩, false⟩ (Nat.le_refl _) (by unfold fuel; omega) hb hl h (lo_nn (by simp))).mono fun r hr => ?_) fun y hy => ?_) fun y hy => ?_) fun y hy => tot_some hy
  · match r, hr with
    | .inl y, hr => exact hr
    | .inr (.inl y), hr => exact hr
    | .inr (.inr (.inl y)), hr => exact hr
    | .inr (.inr (.inr y)), hr => exact hr
  · exact tot_some hy
  · exact tot_some hy
theorem written_tot (hm : Mod4 m) {x : Vspace_Space} (hx : x.model = m) (c : Int) (hc : c ≠ 1) {p : List Int} (hb : Bs p) (hl : p.length ≤ 68719476736) :
    Tot (m_write_written x ⟨c, false, false, false, 0, []⟩ p) fun r => WS m (nOf m (c == 3)) (c == 3) r.1 ∧ r.2.1.Fields = [] := by
  unfold m_write_written
  refine tot_bind (P := fun y => Bs y.1 ∧ y.1.length ≤ 68719476736) (tot_cond (fun e => ?_) fun _ => tot_some ⟨hb, hl⟩) fun y ⟨y1, y2⟩ => ?_
  · have : (p.length : Int) > 0 := of_decide_eq_true e
    exact tot_gd (by omega) (tot_gd (by omega) (tot_some ⟨hb.drop 1, by simp; omega⟩))
  · have hc1 : (c != 1) = true := bne_t hc
    have hS := ss_clr hm (c == 3)
    have hW : WS m (nOf m (c == 3)) (c == 3) (sclr m (c == 3)) := ⟨rfl, rfl, hS.dim, hS.len, hS.attrs⟩
    simp only [hc1, cond_true, (clear_ok hm hx (c == 3)).1, Option.bind_some, m_space_Space_Cursor, se']
    refine tot_bind (orders_tot hW y1 y2 _) fun r hr => tot_bind (P := fun _ => True) (tot_cond (fun _ => tot_some trivial) fun _ => tot_some trivial) fun _ _ => tot_some ⟨hr, rfl⟩
theorem written_eq (hm : Mod4 m) {x x' : Vspace_Space} (hx : x.model = m) (hx' : x'.model = m) (c : Int) (hc : c ≠ 1) (p : List Int) :
    m_write_written x ⟨c, false, false, false, 0, []⟩ p = m_write_written x' ⟨c, false, false, false, 0, []⟩ p := by
  unfold m_write_written
  have hc1 : (c != 1) = true := bne_t hc
  simp only [hc1, cond_true, (clear_ok hm hx (c == 3)).1, (clear_ok hm hx' (c == 3)).1]
end
theorem seq_loop (l : List Vapi_Cell) (hl : l.length ≤ 68719476736) : ∀ (d i k : Nat), i + d = l.length → d < k → slices_Equal_l3 l l k (i : Int) = some (.inl ())
  | d, i, 0, _, hk => by omega
  | 0, i, k + 1, e, hk => by
    have d1 : decide ((i : Int) < (l.length : Int)) = false := decide_eq_false (by omega)
    rw [slices_Equal_l3.eq_2]
    simp only [d1, cond_false]
  | d + 1, i, k + 1, e, hk => by
    have d1 : decide ((i : Int) < (l.length : Int)) = true := decide_eq_true (by omega)
    rw [slices_Equal_l3.eq_2]
    simp only [d1, cond_true]
    rw [gd_pos (by omega), gd_pos (by omega), w64_succ (by omega)]
    have e9 : (((rd l (i : Int)).Char == (rd l (i : Int)).Char) && (((rd l (i : Int)).Attr == (rd l (i : Int)).Attr) && (((rd l (i : Int)).FA == (rd l (i : Int)).FA) && (((rd l (i : Int)).High == (rd l (i : Int)).High) && (((rd l (i : Int)).Color == (rd l (i : Int)).Color) && (((rd l (i : Int)).f_Set == (rd l (i : Int)).f_Set) && true)))))) = true := by simp
    simp only [e9, Bool.not_true, cond_false]
    exact seq_loop l hl d (i + 1) k (by omega) (by omega)
theorem same_sp {s : Vspace_Space} (hl : s.cells.length ≤ 68719476736) : m_space_Space_Same s s = some (s, s, true) := by
  unfold m_space_Space_Same m_slices_Equal
  have h1 := seq_loop s.cells hl s.cells.length 0 fuel (by omega) (by unfold fuel; omega)
  have h1' : slices_Equal_l3 s.cells s.cells fuel 0 = some (.inl ()) := h1
  have e1 : ((s.cells.length : Int) != (s.cells.length : Int)) = false := bne_f rfl
  have e2 : (s.model == s.model) = true := beq_t rfl
  have e3 : (s.cursor == s.cursor) = true := beq_t rfl
  have e4 : (s.alternate == s.alternate) = true := by simp
  simp only [e1, e2, e3, e4, cond_true, cond_false, h1', jn, Option.bind_some]
theorem cmd245 : m_write_Command 245 = some (2, true) := by decide +kernel
theorem cmd126 : m_write_Command 126 = some (3, true) := by decide +kernel
theorem run_clear {x : Vspace_Space} {b c : Int} (hc : m_write_Command b = some (c, true)) (h23 : c = 2 ∨ c = 3) (p : List Int) {r : Vspace_Space × Vwrite_Result × Int} (h : m_write_written x ⟨c, false, false, false, 0, []⟩ p = some r) : m_write_Run x (b :: p) = some r := by
  unfold m_write_Run
  have b0 : (((b :: p).length : Int) == 0) = false := beq_f (by simp; omega)
  have r0 : rd (b :: p) 0 = b := rfl
  simp only [b0, cond_false]
  rw [gd_pos (by simp only [List.length_cons]; omega)]
  simp only [r0, hc, Option.bind_some, Bool.not_true, cond_false]
  have b1 : (c == 1) = false := beq_f (by rcases h23 with rfl | rfl <;> decide)
  have hb : (cond (c == 2) (some (c == 2)) (some (c == 3)) : Option Bool) = some true := by rcases h23 with rfl | rfl <;> rfl
  simp only [b1, cond_false, hb, Option.bind_some, cond_true]
  rw [gd_pos (by simp; omega)]
  simp only [List.drop_succ_cons, List.drop_zero, h, Option.bind_some, esc, jn]
theorem writeAgain_true (p : Int) (a1 a2 : List Vvitrineref12_Act) (bs : List Int) (alt : Bool) (hp : By p) (h1 : ∀ a ∈ a1, AOk a) (l1 : a1.length ≤ 9223372036854775807) (h2 : ∀ a ∈ a2, AOk a) (l2 : a2.length ≤ 9223372036854775807) (hb : Bs bs) (hl : bs.length ≤ 9223372036854775807) :
    m_vitrinelaw17_WriteAgain p a1 a2 bs alt = some true := by
  obtain ⟨N1, x1, _, hr1, hlay1⟩ := vitrinelaw17_lay_ok hp h1 l1
  obtain ⟨N2, x2, _, hr2, hlay2⟩ := vitrinelaw17_lay_ok hp h2 l2
  have hm : Mod4 (2 + p % 4) := (mod4_of hp).2
  generalize 2 + p % 4 = m at hr1 hr2 hm
  have hx1 : (prog x1).model = m := hr1.model
  have hx2 : (prog x2).model = m := hr2.model
  unfold m_vitrinelaw17_WriteAgain
  have hcut := cut_tot hl 400 (m := 400) rfl (by omega)
  obtain ⟨b, c, hbc, hcmd, h23, hc3⟩ : ∃ b c, (cond alt (some 126) (some 245) : Option Int) = some b ∧ m_write_Command b = some (c, true) ∧ (c = 2 ∨ c = 3) ∧ (c == 3) = alt := by
    cases alt with
    | true => exact ⟨126, 3, rfl, cmd126, .inr rfl, rfl⟩
    | false => exact ⟨245, 2, rfl, cmd245, .inl rfl, rfl⟩
  have hc1 : c ≠ 1 := by rcases h23 with rfl | rfl <;> decide
  have ht : (bs.take 400).length ≤ 400 := by simp; omega
  obtain ⟨r, hw, hws, hf⟩ := written_tot hm hx1 c hc1 (hb.take 400) (by omega)
  have hw2 : m_write_written (prog x2) ⟨c, false, false, false, 0, []⟩ (bs.take 400) = some r := by rw [written_eq hm hx2 hx1 c hc1]; exact hw
  have run1 := run_clear hcmd h23 (bs.take 400) hw
  have run2 := run_clear hcmd h23 (bs.take 400) hw2
  simp only [awake17, hlay1, hlay2, hbc, hcut, Option.bind_some, Bool.not_true, cond_false]
  rw [gd_pos (by simp; omega)]
  have sx1 : (⟨(prog x1).model, (prog x1).alternate, (prog x1).size, (prog x1).cells, (prog x1).cursor, (prog x1).attrs⟩ : Vspace_Space) = prog x1 := rfl
  have sx2 : (⟨(prog x2).model, (prog x2).alternate, (prog x2).size, (prog x2).cells, (prog x2).cursor, (prog x2).attrs⟩ : Vspace_Space) = prog x2 := rfl
  have sr : (⟨r.1.model, r.1.alternate, r.1.size, r.1.cells, r.1.cursor, r.1.attrs⟩ : Vspace_Space) = r.1 := rfl
  have hcl : r.1.cells.length ≤ 68719476736 := by have := hws.len; have := hws.le; omega
  have q1 : m_vitrineref17_Same ⟨r.2.1.Command, r.2.1.Restore, r.2.1.Alarm, r.2.1.Reset, r.2.1.Pieces, r.2.1.Fields⟩ ⟨r.2.1.Command, r.2.1.Restore, r.2.1.Alarm, r.2.1.Reset, r.2.1.Pieces, r.2.1.Fields⟩ = some true := by
    unfold m_vitrineref17_Same m_vitrineref01_Same; simp
  have q2 : (r.2.2 == r.2.2) = true := beq_t rfl
  have q3 : (r.1.alternate == alt) = true := by rw [hws.altq, hc3]; simp
  simp only [List.cons_append, List.nil_append, sx1, sx2, run1, run2, Option.bind_some, sr, q1, q2, cond_true, same_sp hcl, m_space_Space_Alternate, q3]
end Go.Vt
