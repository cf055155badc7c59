/- 'WriteJoins' answers true at every input that it can get. No conditions. -/
import Derived.Test.YtmemmonmlbfopaaGreatDoorVrN
set_option linter.unusedVariables false
set_option linter.unusedSimpArgs false
set_option maxRecDepth 100000
namespace Go.Vt
section
variable {m : Int} {N : Nat} {alt : Bool}
/-- any stream comes to something -/
theorem ev_tot : ∀ (d : Nat) (p : List Int) (u : Vspace_Space) (q : Vwrite_pen), p.length ≤ d → Bs p → p.length ≤ 68719476736 → WS m N alt u → Lo q.n → ∃ a n j e, Ev p u q a n j e ∧ WS m N alt a ∧ j ≤ p.length
  | d, [], u, q, _, _, _, h, _ => ⟨_, _, _, _, ev_nil, h, by simp⟩
  | d, c :: p', u, q, hd, hb, hl, h, hq => by
    have h0 : 0 < (c :: p').length := by simp
    obtain ⟨r, hr, g1, g2, g3, g4⟩ := op_tot (sc := ⟨c :: p', 0⟩) hb hl h0
    by_cases hc : r.1.code = 0
    · obtain ⟨x, hx, hx1, hx2⟩ := pdo_tot h q hq r.2 g2 g3 g4
      by_cases he : x.2.2 = 0
      · have hlt := g1.eq hc
        simp only at hlt
        match d, hd with
        | d + 1, hd =>
          obtain ⟨a, n, j, e, h1, h2, h3⟩ := ev_tot d r.1.p x.1 ⟨x.2.1.n, x.2.1.look, isT r.2⟩ (by omega) g1.bs (by omega) hx1 hx2
          have hr' : m_order_scanner_op ⟨c :: p', 0⟩ = some (⟨r.1.p, 0⟩, r.2) := by rw [hr, ← hc]
          exact ⟨a, n, j + 1, e, ev_step (by omega) hr' hx he h1, h2, by omega⟩
        | 0, hd => simp at hd
      · exact ⟨_, _, _, _, ev_do h0 hr hc hx he, hx1, by omega⟩
    · exact ⟨_, _, _, _, ev_scan h0 hr hc, h, by omega⟩
theorem dec64 : m_addr_Decode 12 [64, 64] = some (0, 0) := by decide +kernel
theorem ev_tail {two : List Int} {u : Vspace_Space} (h : WS m N alt u) (q : Vwrite_pen) {a : Vspace_Space} {n e : Int} {j : Nat} (hr : Ev two u ⟨0, q.look, false⟩ a n j e) : Ev (17 :: 64 :: 64 :: two) u q a n (j + 1) e := by
  have hle := h.le
  have hdo : m_write_pen_do q u ⟨17, 0, 0, false, 0, [], []⟩ = some (u, ⟨0, q.look, q.texts⟩, 0) := by
    have hc : m_addr_Size_Cells ⟨u.size.Rows, u.size.Cols⟩ = some (N : Int) := ws_cells h
    have d1 : decide ((0 : Int) ≥ (N : Int)) = false := decide_eq_false (by omega)
    have hto : m_write_pen_to q u 0 = some (⟨0, q.look, q.texts⟩, 0) := by
      unfold m_write_pen_to
      simp only [ws_size, Option.bind_some, hc, d1, cond_false]
    unfold m_write_pen_do
    simp only [Int.reduceBEq, cond_true, cond_false, hto, Option.bind_some, esc, jn]
  exact ev_step (by simp only [List.length_cons]; omega) (op17 dec64) hdo rfl hr
/-- a stream that is whole, alone and with another behind it -/
theorem ev_join {two : List Int} (hb2 : Bs two) (hl2 : two.length ≤ 1000) : ∀ {p : List Int}, Sk p → ∀ (u : Vspace_Space) (q : Vwrite_pen), WS m N alt u → Lo q.n → p.length ≤ 1000 →
    ∃ a n j e, Ev p u q a n j e ∧ WS m N alt a ∧ j ≤ p.length ∧ ((e ≠ 0 ∧ Ev (p ++ 17 :: 64 :: 64 :: two) u q a n j e) ∨ (e = 0 ∧ ∀ a' n' j' e', Ev two a ⟨0, q.look, false⟩ a' n' j' e' → Ev (p ++ 17 :: 64 :: 64 :: two) u q a' n' (j + (j' + 1)) e')) := by
  intro p hs
  induction hs with
  | nil =>
    intro u q h hq _
    refine ⟨u, q.n, 0, 0, ev_nil, h, by simp, .inr ⟨rfl, fun a' n' j' e' h1 => ?_⟩⟩
    rw [Nat.zero_add]
    exact ev_tail h q h1
  | @cons p n h1 h2 hg hs ih =>
    intro u q h hq hl
    obtain ⟨o, hk, ht, hp, ha, hop⟩ := hg
    have hok : Okt (17 :: 64 :: 64 :: two) := ⟨fun x hx => by
      simp only [List.mem_cons] at hx
      rcases hx with rfl | rfl | rfl | hx
      · exact ⟨by omega, by omega⟩
      · exact ⟨by omega, by omega⟩
      · exact ⟨by omega, by omega⟩
      · exact hb2 x hx, by simp only [List.length_cons]; omega, .inr ⟨_, rfl⟩⟩
    have o1 := hop [] ⟨bs_nil, by simp, .inl rfl⟩
    rw [List.append_nil, List.append_nil] at o1
    have o2 := hop _ hok
    obtain ⟨x, hx, hx1, hx2⟩ := pdo_tot h q hq o ht hp ha
    have hlook := pdo_l hk x hx
    have hdl : (p.drop n).length < p.length := by simp; omega
    have hal : (p.drop n ++ 17 :: 64 :: 64 :: two).length < (p ++ 17 :: 64 :: 64 :: two).length := by simp only [List.length_append]; omega
    by_cases he : x.2.2 = 0
    · obtain ⟨a, n2, j, e, k1, k2, k3, k4⟩ := ih x.1 ⟨x.2.1.n, x.2.1.look, isT o⟩ hx1 hx2 (by omega)
      refine ⟨a, n2, j + 1, e, ev_step hdl o1 hx he k1, k2, by omega, ?_⟩
      rcases k4 with ⟨he2, k4⟩ | ⟨he2, k4⟩
      · exact .inl ⟨he2, ev_step hal o2 hx he k4⟩
      · refine .inr ⟨he2, fun a' n' j' e' h3 => ?_⟩
        have h4 := k4 a' n' j' e' (by simp only [hlook]; exact h3)
        have h5 := ev_step hal o2 hx he h4
        rw [show j + 1 + (j' + 1) = j + (j' + 1) + 1 by omega]; exact h5
    · refine ⟨_, _, _, _, ev_do (by omega) o1 rfl hx he, hx1, by omega, .inl ⟨he, ev_do (by omega) o2 rfl hx he⟩⟩
theorem orders_ev {s : Vspace_Space} (h : WS m N alt s) {p : List Int} (hl : p.length ≤ 100000) {c : Int} {a : Vspace_Space} {n e : Int} {j : Nat} (hev : Ev p s ⟨c % N, ⟨0, false, 0, 0, 0, 0⟩, false⟩ a n j e) : m_write_Orders s p c = some (a, n, (j : Int), e) := by
  unfold m_write_Orders m_order_Parse
  have hw : ∀ z, m_addr_Size_Wrap ⟨s.size.Rows, s.size.Cols⟩ z = some (z % N) := ws_wrap h
  have h1 := hev fuel 0 (by unfold fuel; omega) (by omega)
  rw [Nat.zero_add] at h1
  simp only [ws_size, Option.bind_some, hw]
  have h1' : (write_Orders_l8 fuel (p, 0, s.model, s.alternate, s.size.Rows, s.size.Cols, s.cells, s.cursor, s.attrs, 0, c % N, 0, false, 0, 0, 0, 0, false)).map fin = some (a, n, (j : Int), e) := h1
  generalize write_Orders_l8 fuel (p, 0, s.model, s.alternate, s.size.Rows, s.size.Cols, s.cells, s.cursor, s.attrs, 0, c % N, 0, false, 0, 0, 0, 0, false) = M at h1'
  match M, h1' with
  | some (.inl y), h1' => exact h1'
  | some (.inr (.inl y)), h1' => exact h1'
  | some (.inr (.inr (.inl y))), h1' => exact h1'
  | some (.inr (.inr (.inr y))), h1' => exact h1'
end
theorem seq_loop (l : List Vapi_Cell) (hl : l.length ≤ 68719476736) : ∀ (d i k : Nat), i + d = l.length → d < k → slices_Equal_l3 l l k (i : Int) = some (.inl ())
  | d, i, 0, _, hk => by omega
  | 0, i, k + 1, e, hk => by
    have d1 : decide ((i : Int) < (l.length : Int)) = false := decide_eq_false (by omega)
    rw [slices_Equal_l3.eq_2]
    simp only [d1, cond_false]
  | d + 1, i, k + 1, e, hk => by
    have d1 : decide ((i : Int) < (l.length : Int)) = true := decide_eq_true (by omega)
    rw [slices_Equal_l3.eq_2]
    simp only [d1, cond_true]
    rw [gd_pos (by omega), gd_pos (by omega), w64_succ (by omega)]
    have e9 : (((rd l (i : Int)).Char == (rd l (i : Int)).Char) && (((rd l (i : Int)).Attr == (rd l (i : Int)).Attr) && (((rd l (i : Int)).FA == (rd l (i : Int)).FA) && (((rd l (i : Int)).High == (rd l (i : Int)).High) && (((rd l (i : Int)).Color == (rd l (i : Int)).Color) && (((rd l (i : Int)).f_Set == (rd l (i : Int)).f_Set) && true)))))) = true := by simp
    simp only [e9, Bool.not_true, cond_false]
    exact seq_loop l hl d (i + 1) k (by omega) (by omega)
theorem same_sp {s : Vspace_Space} (hl : s.cells.length ≤ 68719476736) : m_space_Space_Same s s = some (s, s, true) := by
  unfold m_space_Space_Same m_slices_Equal
  have h1 := seq_loop s.cells hl s.cells.length 0 fuel (by omega) (by unfold fuel; omega)
  have h1' : slices_Equal_l3 s.cells s.cells fuel 0 = some (.inl ()) := h1
  have e1 : ((s.cells.length : Int) != (s.cells.length : Int)) = false := bne_f rfl
  have e2 : (s.model == s.model) = true := beq_t rfl
  have e3 : (s.cursor == s.cursor) = true := beq_t rfl
  have e4 : (s.alternate == s.alternate) = true := by simp
  simp only [e1, e2, e3, e4, cond_true, cond_false, h1', jn, Option.bind_some]
theorem cut_tot {p : List Int} (hl : p.length ≤ 9223372036854775807) {m : Int} (n : Nat) (hm : m = (n : Int)) (hn : n ≤ 100000) : m_vitrineref01_Cut p m = some (p.take n) := by
  subst hm
  unfold m_vitrineref01_Cut
  by_cases h : p.length > n
  · have d1 : decide ((p.length : Int) > (n : Int)) = true := decide_eq_true (by omega)
    simp only [d1, cond_true]
    rw [gd_pos (by omega)]
    simp only [Int.toNat_natCast, Option.bind_some]
    rw [rcopy_ok (by simp; omega)]; rfl
  · have d1 : decide ((p.length : Int) > (n : Int)) = false := decide_eq_false (by omega)
    simp only [d1, cond_false, Option.bind_some]
    rw [rcopy_ok (by omega), List.take_of_length_le (by omega)]; rfl
theorem kinds_loop (d : List Vvitrineref16_Op × Int × Int) (hl : d.1.length ≤ 1000) : ∀ (n i k : Nat), i + n = d.1.length → n < k → (∀ j (h : j < d.1.length), j < i → (d.1[j]).Kind ≠ 40) →
    vitrinelaw17_WriteJoins_l11 d k (i : Int) = some (.inr true) ∨ (vitrinelaw17_WriteJoins_l11 d k (i : Int) = some (.inl ()) ∧ ∀ o ∈ d.1, o.Kind ≠ 40)
  | n, i, 0, _, hk, _ => by omega
  | 0, i, k + 1, e, hk, hp => by
    have d1 : decide ((i : Int) < (d.1.length : Int)) = false := decide_eq_false (by omega)
    rw [vitrinelaw17_WriteJoins_l11.eq_2, d1, cond_false]
    refine .inr ⟨rfl, fun o ho => ?_⟩
    obtain ⟨j, hj, rfl⟩ := List.mem_iff_getElem.1 ho
    exact hp j hj (by omega)
  | n + 1, i, k + 1, e, hk, hp => by
    have d1 : decide ((i : Int) < (d.1.length : Int)) = true := decide_eq_true (by omega)
    have hi : i < d.1.length := by omega
    rw [vitrinelaw17_WriteJoins_l11.eq_2, d1, cond_true]
    rw [gd_pos (by omega), rdn hi, w64_succ (by omega)]
    by_cases h40 : (d.1[i]).Kind = 40
    · rw [beq_t h40, cond_true]; exact .inl rfl
    · rw [beq_f h40, cond_false]
      refine kinds_loop d hl n (i + 1) k (by omega) (by omega) fun j hj hji => ?_
      by_cases hji2 : j = i
      · subst hji2; exact h40
      · exact hp j hj (by omega)
theorem writeJoins_true (p : Int) (acts : List Vvitrineref12_Act) (one two : List Int) (n : Int) (hp : By p) (ha : ∀ a ∈ acts, AOk a) (hl : acts.length ≤ 9223372036854775807) (hb1 : Bs one) (hl1 : one.length ≤ 9223372036854775807) (hb2 : Bs two) (hl2 : two.length ≤ 9223372036854775807) :
    m_vitrinelaw17_WriteJoins p acts one two n = some true := by
  obtain ⟨N, x, _, hr, hlay⟩ := vitrinelaw17_lay_ok hp ha hl
  have hm : Mod4 (2 + p % 4) := (mod4_of hp).2
  generalize 2 + p % 4 = m at hr hm
  have hlk := hr.lk.ss
  have hW : WS m N x.Alt (prog x) := ⟨hlk.model, rfl, hlk.dim, hlk.len, hlk.attrs⟩
  have hle := hW.le
  have hcl : (prog x).cells.length ≤ 68719476736 := by have := hW.len; omega
  unfold m_vitrinelaw17_WriteJoins
  have hcopy : m_space_Space_Copy (prog x) = some (prog x) := by
    unfold m_space_Space_Copy m_slices_Clone
    rw [gd_pos (by simpa using hcl)]; simp
  have hc1 := cut_tot hl1 200 (m := 200) rfl (by omega)
  have hc2 := cut_tot hl2 200 (m := 200) rfl (by omega)
  have t1 : (one.take 200).length ≤ 200 := by simp; omega
  have t2 : (two.take 200).length ≤ 200 := by simp; omega
  have b1 : Bs (one.take 200) := hb1.take 200
  have b2 : Bs (two.take 200) := hb2.take 200
  generalize one.take 200 = one at *
  generalize two.take 200 = two at *
  obtain ⟨d, hd, hdl, hsk⟩ := all_rel b1 (by omega)
  simp only [awake17, hlay, hcopy, hc1, hc2, hd, Option.bind_some, Bool.not_true, cond_false]
  rcases kinds_loop d hdl d.1.length 0 fuel (by omega) (by unfold fuel; omega) (fun j _ h => by omega) with h1 | ⟨h1, h2⟩
  · have h1' : vitrinelaw17_WriteJoins_l11 d fuel 0 = some (.inr true) := h1
    simp only [h1', jn]
  · have h1' : vitrinelaw17_WriteJoins_l11 d fuel 0 = some (.inl ()) := h1
    simp only [h1', jn]
    by_cases he : d.2.2 = 0
    · simp only [bne_f he, cond_false]
      rw [gd_pos (by simp; omega), rcopy_ok (by omega)]
      simp only [Option.bind_some]
      rw [gd_pos (by simp; omega)]
      have sx : (⟨(prog x).model, (prog x).alternate, (prog x).size, (prog x).cells, (prog x).cursor, (prog x).attrs⟩ : Vspace_Space) = prog x := rfl
      have app : one ++ ([17, 64, 64] ++ two) = one ++ 17 :: 64 :: 64 :: two := rfl
      have app2 : [17, 64, 64] ++ two = 17 :: 64 :: 64 :: two := rfl
      obtain ⟨a, at1, j, e, k1, k2, k3, k4⟩ := ev_join b2 (by omega) (hsk he h2) (prog x) ⟨n % N, ⟨0, false, 0, 0, 0, 0⟩, false⟩ hW (lo_nn (by simp only; exact Int.emod_nonneg _ (by omega))) (by omega)
      have o2 := orders_ev hW (by omega) k1
      have la : (one ++ 17 :: 64 :: 64 :: two).length ≤ 100000 := by simp; omega
      have lb : (17 :: 64 :: 64 :: two).length ≤ 100000 := by simp; omega
      have hacl : a.cells.length ≤ 68719476736 := by have := k2.len; omega
      have sa : (⟨a.model, a.alternate, a.size, a.cells, a.cursor, a.attrs⟩ : Vspace_Space) = a := rfl
      rcases k4 with ⟨ke, k4⟩ | ⟨ke, k4⟩
      · have o1 := orders_ev hW la k4
        simp only [sx, app, app2, o1, o2, Option.bind_some, bne_t ke, cond_true, beq_t, sa, same_sp hacl]
      · obtain ⟨a', n', j', e', v1, v2, v3⟩ := ev_tot two.length two a ⟨0, ⟨0, false, 0, 0, 0, 0⟩, false⟩ (Nat.le_refl _) b2 (by omega) k2 (lo_nn (by simp))
        have o1 := orders_ev hW la (k4 a' n' j' e' v1)
        have o3 := orders_ev k2 lb (ev_tail (q := ⟨at1 % N, ⟨0, false, 0, 0, 0, 0⟩, false⟩) k2 v1)
        have hacl' : a'.cells.length ≤ 68719476736 := by have := v2.len; omega
        have sa' : (⟨a'.model, a'.alternate, a'.size, a'.cells, a'.cursor, a'.attrs⟩ : Vspace_Space) = a' := rfl
        have hw : w64 ((j : Int) + ((j' + 1 : Nat) : Int)) = ((j + (j' + 1) : Nat) : Int) := by rw [w64_in (by omega) (by omega)]; omega
        simp only [sx, app, app2, o1, o2, o3, Option.bind_some, bne_f ke, cond_true, cond_false, beq_t, sa, sa', same_sp hacl', hw]
    · simp only [bne_t he, cond_true]
end Go.Vt
