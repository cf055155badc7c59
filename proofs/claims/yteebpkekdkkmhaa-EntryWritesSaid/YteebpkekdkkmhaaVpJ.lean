/- What is parsed, whatever its length: reports of many bytes. No conditions. -/
import Derived.Test.YteebpkekdkkmhaaVmCV
import Derived.Test.YteebpkekdkkmhaaVpA
set_option linter.unusedVariables false
set_option linter.unusedSimpArgs false
namespace Go.Vt
def osz (o : Vorder_Op) : Nat := o.Text.length + 1
def OpT (o : Vorder_Op) : Prop := (o.Kind = 0 → Txt o.Text) ∧ (o.Kind = 8 → Txt [o.Code])
theorem OpT.ok {o : Vorder_Op} (h : OpT o) : OpOk (osz o) o := ⟨fun k => ⟨h.1 k, by unfold osz; omega⟩, h.2⟩
def osum (l : List Vorder_Op) : Nat := (l.map osz).sum
theorem osum_cons (o : Vorder_Op) (l : List Vorder_Op) : osum (o :: l) = osz o + osum l := by simp [osum]
theorem osum_app (l r : List Vorder_Op) : osum (l ++ r) = osum l + osum r := by simp [osum]
theorem osum_len (l : List Vorder_Op) : l.length ≤ osum l := by
  induction l with
  | nil => simp [osum]
  | cons o l ih => rw [osum_cons]; simp only [List.length_cons, osz]; omega
theorem op_any {s : Vorder_scanner} (hb : Bs s.p) (hne : 0 < s.p.length) (hl : s.p.length ≤ 10000000000) (hc : s.code = 0) : ∃ s' o, m_order_scanner_op s = some (s', o) ∧ Bs s'.p ∧
    (s'.code = 0 → OpT o ∧ s'.p.length + osz o ≤ s.p.length + 1 ∧ s'.p.length < s.p.length) := by
  obtain ⟨s', o, h1, h2, h3⟩ := op_spec hb hne hl hc
  refine ⟨s', o, h1, h2, fun h => ?_⟩
  obtain ⟨⟨n, hn, hn2, hp⟩, h5, h6⟩ := h3 h
  have hlen : s'.p.length = s.p.length - n := by rw [hp]; simp
  refine ⟨⟨h5, h6⟩, ?_, by omega⟩
  obtain ⟨c, r, hq⟩ : ∃ c r, s.p = c :: r := by
    match hh : s.p, hne with
    | c :: r, _ => exact ⟨c, r, rfl⟩
  cases ho : isO c with
  | false =>
    rw [op_text hb hl hq ho] at h1
    simp only [Option.some.injEq, Prod.mk.injEq] at h1
    obtain ⟨e1, e2⟩ := h1
    have g1 : s'.p.length = (s.p.dropWhile (fun c => !isO c)).length := by rw [← e1]
    have g2 : o.Text.length = (s.p.takeWhile (fun c => !isO c)).length := by rw [← e2]
    have g3 : (s.p.takeWhile (fun c => !isO c)).length + (s.p.dropWhile (fun c => !isO c)).length = s.p.length := by
      rw [← List.length_append, List.takeWhile_append_dropWhile]
    unfold osz; omega
  | true =>
    have hr : rd s.p 0 = c := by rw [hq]; rfl
    have hB : By c := hb c (by rw [hq]; simp)
    have g0 : (0 : Int) ≤ 0 ∧ (0 : Int) < (s.p.length : Int) := by rw [hq]; simp <;> omega
    unfold m_order_scanner_op gd at h1
    simp only [if_pos g0, hr, is_spec hB, ho, Option.bind_some, Bool.not_true, cond_false] at h1
    obtain ⟨d4, _, h1⟩ := bsome h1
    split at h1
    · obtain ⟨d6, _, h1⟩ := bsome h1
      obtain ⟨d7, _, h1⟩ := bsome h1
      simp only [Option.some.injEq, Prod.mk.injEq] at h1
      have : o.Text.length = 0 := by rw [← h1.2]; simp
      unfold osz; omega
    · cases h1
theorem all_any (p0 : List Int) : ∀ (k : Nat) (acc : List Vorder_Op) (p : List Int), p.length < k → Bs p → p.length ≤ 10000000000 → acc.length + p.length ≤ 10000000000 →
    ∃ y, order_All_l2 p0 k (acc, p, 0) = some y ∧ (∀ l, y = .inl l → ∃ m, l = acc ++ m ∧ osum m ≤ 2 * p.length ∧ ∀ o ∈ m, OpT o) ∧ (∀ r, y = .inr r → r.2.2 ≠ 0)
  | 0, _, _, h, _, _, _ => by omega
  | k + 1, acc, p, hk, hb, hl, ha => by
    rw [order_All_l2.eq_2]
    by_cases h0 : 0 < p.length
    · have d1 : decide ((p.length : Int) > 0) = true := by simp; omega
      obtain ⟨s', o, h1, h2, h3⟩ := op_any (s := ⟨p, 0⟩) hb h0 hl rfl
      simp only [d1, cond_true, h1, Option.bind_some]
      by_cases hc : s'.code = 0
      · have : (s'.code != 0) = false := by simp [hc]
        obtain ⟨ok, h4, h5⟩ := h3 hc
        simp only at h4 h5
        simp only [this, cond_false, gd]
        rw [if_pos (by simp; omega), hc]
        obtain ⟨y, hy, hy1, hy2⟩ := all_any p0 k (acc ++ [o]) s'.p (by omega) h2 (by omega) (by simp; omega)
        refine ⟨y, hy, fun l hl => ?_, hy2⟩
        obtain ⟨m, hm, hm2, hm3⟩ := hy1 l hl
        refine ⟨o :: m, by rw [hm]; simp, by rw [osum_cons]; omega, fun q hq => ?_⟩
        cases hq with
        | head => exact ok
        | tail _ hq => exact hm3 q hq
      · have : (s'.code != 0) = true := by simp [hc]
        simp only [this, cond_true]
        exact ⟨_, rfl, (fun l h => by cases h), fun r h => by cases h; exact hc⟩
    · have d1 : decide ((p.length : Int) > 0) = false := decide_eq_false (by omega)
      simp only [d1, cond_false]
      exact ⟨_, rfl, (fun l h => by cases h; exact ⟨[], by simp, by simp [osum], fun q hq => by cases hq⟩), fun r h => by cases h⟩
theorem All_any {p : List Int} (hb : Bs p) (hl : p.length ≤ 10000000000) : ∃ l n e, m_order_All p = some (l, n, e) ∧ (e = 0 → osum l ≤ 2 * p.length ∧ ∀ o ∈ l, OpT o) := by
  obtain ⟨y, hy, h1, h2⟩ := all_any p fuel [] p (by unfold fuel; omega) hb hl (by simpa using hl)
  unfold m_order_All
  rw [hy]
  cases y with
  | inl l =>
    obtain ⟨m, hm, hm2, hm3⟩ := h1 l rfl
    simp at hm; subst hm
    exact ⟨_, _, _, rfl, fun _ => ⟨hm2, hm3⟩⟩
  | inr r => exact ⟨r.1, r.2.1, r.2.2, rfl, fun h => absurd h (h2 r rfl)⟩
theorem osum_take {l : List Vorder_Op} {n : Nat} (h : n < l.length) : osum (l.take (n + 1)) = osum (l.take n) + osz l[n] := by
  rw [List.take_succ_eq_append_getElem h, osum_app, osum_cons]; simp [osum]
theorem osum_take_le (l : List Vorder_Op) (n : Nat) : osum (l.take n) ≤ osum l := by
  conv => rhs; rw [← List.take_append_drop n l, osum_app]
  omega
theorem parse_any_loop (d : List Vorder_Op × Int × Int) (aid cur : Int) (sh : Bool) (hd : osum d.1 ≤ 60000000000) (hok : ∀ o ∈ d.1, OpT o) : ∀ (k n : Nat) (l : List Ventry_Entry), n ≤ d.1.length → d.1.length - n < k → EnOk (osum (d.1.take n)) l → l.length ≤ n →
    entry_Parse_l6 d k ((n : Int), aid, sh, cur, l) = (match steps l (d.1.drop n) with
      | some l' => some (.inl (aid, sh, cur, l'))
      | none => some (.inr (⟨0, false, 0, []⟩, 4)))
  | 0, n, l, hn, hk, _, _ => by omega
  | k + 1, n, l, hn, hk, he, hle => by
    have hdl := osum_len d.1
    rw [entry_Parse_l6.eq_2]
    by_cases hlt : n < d.1.length
    · have d1 : decide ((n : Int) < (d.1.length : Int)) = true := by simp; omega
      have hr : rd d.1 (n : Int) = d.1[n] := by unfold rd; simp [List.getD_eq_getElem?_getD, hlt]
      have hO := (hok _ (List.getElem_mem hlt)).ok
      have hdr : d.1.drop n = d.1[n] :: d.1.drop (n + 1) := List.drop_eq_getElem_cons hlt
      have ew : w64 ((n : Int) + 1) = ((n + 1 : Nat) : Int) := by rw [w64_small (by omega)]; omega
      have hsum := osum_take hlt
      have hsl := osum_take_le d.1 (n + 1)
      simp only [d1, cond_true, gd, hr]
      rw [if_pos (by omega), hdr]
      simp only [steps]
      have next : ∀ l', step1 l d.1[n] = some l' → entry_Parse_l6 d k (w64 ((n : Int) + 1), aid, sh, cur, l') = (match steps l' (d.1.drop (n + 1)) with
          | some l' => some (.inl (aid, sh, cur, l'))
          | none => some (.inr (⟨0, false, 0, []⟩, 4))) := fun l' hs => by
        rw [ew]
        have := step1_ok he (by unfold osz; omega) hO hs
        exact parse_any_loop d aid cur sh hd hok k (n + 1) l' (by omega) (by omega) (by have h9 := this.1; rwa [hsum]) (by omega)
      generalize d.1[n] = o at hO next hsum
      have hadd : ∀ t, t.length ≤ osz o → m_entry_Report_add ⟨aid, sh, cur, l⟩ t = some ⟨aid, sh, cur, addT l t⟩ := fun t ht => by
        rw [add_spec (by simp only; omega) (fun e hh => by have := (he e hh).2; omega) (by omega)]
      by_cases h17 : o.Kind = 17
      · have hs : step1 l o = some (l ++ [⟨o.Addr, []⟩]) := by simp [step1, h17]
        have q : (o.Kind == 17) = true := by simp [h17]
        simp only [q, cond_true]
        rw [if_pos (by simp; omega), hs]
        simp only [jn, Option.bind_some]
        exact next _ hs
      · have q : (o.Kind == 17) = false := by simp [h17]
        simp only [q, cond_false]
        by_cases h0 : o.Kind = 0
        · have hs : step1 l o = some (addT l o.Text) := by simp [step1, h0]
          have q : (o.Kind == 0) = true := by simp [h0]
          simp only [q, cond_true]
          rw [hadd _ (hO.1 h0).2, hs]
          simp only [jn, Option.bind_some]
          exact next _ hs
        · have q : (o.Kind == 0) = false := by simp [h0]
          simp only [q, cond_false]
          by_cases h8 : o.Kind = 8
          · have hs : step1 l o = some (addT l [o.Code]) := by simp [step1, h8]
            have q : (o.Kind == 8) = true := by simp [h8]
            simp only [q, cond_true]
            rw [hadd _ (by unfold osz; simp), hs]
            simp only [jn, Option.bind_some]
            exact next _ hs
          · have q : (o.Kind == 8) = false := by simp [h8]
            simp only [q, cond_false]
            by_cases h40 : o.Kind = 40
            · have hs : step1 l o = some l := by simp [step1, h40]
              have q : (o.Kind == 40) = true := by simp [h40]
              simp only [q, cond_true]
              rw [hs]
              simp only [jn, Option.bind_some]
              exact next _ hs
            · have hs : step1 l o = none := by simp [step1, h17, h0, h8, h40]
              have q : (o.Kind == 40) = false := by simp [h40]
              simp only [q, cond_false]
              rw [hs]
              rfl
    · have d1 : decide ((n : Int) < (d.1.length : Int)) = false := by simp; omega
      have : d.1.drop n = [] := List.drop_eq_nil_of_le (by omega)
      simp only [d1, cond_false, this, steps]
theorem Parse_ok {a x y v : Int} {rest : List Int} {ops : List Vorder_Op} {n : Int} (h : m_addr_Decode 12 [x, y] = some (v, 0)) (ha : m_order_All rest = some (ops, n, 0)) (hl : osum ops ≤ 60000000000) (hok : ∀ o ∈ ops, OpT o) :
    m_entry_Parse (a :: x :: y :: rest) = some (match steps [] ops with
      | some l => (⟨a, false, v, l⟩, 0)
      | none => (⟨0, false, 0, []⟩, 4)) := by
  unfold m_entry_Parse
  rw [begin_long h]
  simp only [if_true, Option.bind_some]
  have d0 : ((0 : Int) != 0) = false := rfl
  simp only [d0, cond_false, ha, Option.bind_some]
  have := parse_any_loop (ops, n, 0) a v false hl hok fuel 0 [] (by omega) (by unfold fuel; have := osum_len ops; simp only; omega) (fun e he => by cases he) (by simp)
  have h1 : entry_Parse_l6 (ops, n, 0) fuel (0, a, false, v, []) = _ := this
  rw [h1]
  simp only [List.drop_zero]
  cases steps [] ops <;> rfl
theorem parse_one (a : Int) : m_entry_Parse [a] = some (⟨a, true, 0, []⟩, 0) := by
  have h1 : m_entry_begin [a] = some (⟨a, true, 0, []⟩, [], 0) := rfl
  have h2 : m_order_All [] = some ([], 0, 0) := by decide +kernel
  unfold m_entry_Parse
  simp only [h1, h2, Option.bind_some]
  have d0 : ((0 : Int) != 0) = false := rfl
  simp only [d0, cond_false]
  have := parse_any_loop ([], 0, 0) a 0 true (by simp [osum]) (fun o ho => by cases ho) fuel 0 [] (by omega) (by unfold fuel; simp) (fun e he => by cases he) (by simp)
  have h3 : entry_Parse_l6 ([], 0, 0) fuel (0, a, true, 0, []) = _ := this
  rw [h3]; rfl
/-- whatever came behind an AID and an address: it is parsed, or it is said why not -/
theorem parse_tot {a x y : Int} {rest : List Int} (hx : By x) (hy : By y) (hb : Bs rest) (hl : rest.length ≤ 10000000000) : ∃ r e, m_entry_Parse (a :: x :: y :: rest) = some (r, e) := by
  obtain ⟨v, e, hd⟩ := decode_tot hx hy
  by_cases he : e = 0
  · subst he
    obtain ⟨ops, n, e2, ha, hok⟩ := All_any hb hl
    by_cases he2 : e2 = 0
    · subst he2
      obtain ⟨h1, h2⟩ := hok rfl
      rw [Parse_ok hd ha (by omega) h2]
      cases steps [] ops <;> exact ⟨_, _, rfl⟩
    · refine ⟨⟨0, false, 0, []⟩, e2, ?_⟩
      unfold m_entry_Parse
      rw [begin_long hd]
      have d0 : ((0 : Int) != 0) = false := rfl
      have d1 : (e2 != 0) = true := by simp [he2]
      simp only [if_true, Option.bind_some, d0, cond_false, ha, d1, cond_true]
  · refine ⟨⟨0, false, 0, []⟩, e, ?_⟩
    unfold m_entry_Parse
    rw [begin_long hd]
    have d1 : (e != 0) = true := by simp [he]
    simp only [if_neg he, Option.bind_some, d1, cond_true]
end Go.Vt
