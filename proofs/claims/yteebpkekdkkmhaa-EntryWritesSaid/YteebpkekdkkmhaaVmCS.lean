/- Of the models of EntryAgain: what is parsed, and its bytes. No conditions. -/
import Derived.Test.YteebpkekdkkmhaaVmCR
set_option linter.unusedVariables false
set_option linter.unusedSimpArgs false
namespace Go.Vt
def OpOk (B : Nat) (o : Vorder_Op) : Prop := (o.Kind = 0 → Txt o.Text ∧ o.Text.length ≤ B) ∧ (o.Kind = 8 → Txt [o.Code])
theorem op_spec2 {s : Vorder_scanner} (hb : Bs s.p) (hne : 0 < s.p.length) (hl : s.p.length ≤ 1000) (hc : s.code = 0) : ∃ s' o, m_order_scanner_op s = some (s', o) ∧ Bs s'.p ∧
    (s'.code = 0 → (∃ n, 0 < n ∧ n ≤ s.p.length ∧ s'.p = s.p.drop n) ∧ OpOk 1000 o) := by
  obtain ⟨s', o, h1, h2, h3⟩ := op_spec hb hne (by omega) hc
  refine ⟨s', o, h1, h2, fun h => ⟨(h3 h).1, fun hk => ⟨(h3 h).2.1 hk, ?_⟩, (h3 h).2.2⟩⟩
  obtain ⟨c, r, hp⟩ : ∃ c r, s.p = c :: r := by
    match hh : s.p, hne with
    | c :: r, _ => exact ⟨c, r, rfl⟩
  cases ho : isO c with
  | false =>
    rw [op_text hb (by omega) hp ho] at h1
    simp only [Option.some.injEq, Prod.mk.injEq] at h1
    rw [← h1.2]
    exact Nat.le_trans (tw_len _ _) hl
  | true =>
    -- a piece of another kind has no text
    have hr : rd s.p 0 = c := by rw [hp]; rfl
    have hB : By c := hb c (by rw [hp]; simp)
    have g0 : (0 : Int) ≤ 0 ∧ (0 : Int) < (s.p.length : Int) := by rw [hp]; simp <;> omega
    unfold m_order_scanner_op gd at h1
    simp only [if_pos g0, hr, is_spec hB, ho, Option.bind_some, Bool.not_true, cond_false] at h1
    obtain ⟨d4, _, h1⟩ := bsome h1
    split at h1
    · obtain ⟨d6, _, h1⟩ := bsome h1
      obtain ⟨d7, _, h1⟩ := bsome h1
      simp only [Option.some.injEq, Prod.mk.injEq] at h1
      rw [← h1.2]; simp
    · cases h1
theorem all_loop (p0 : List Int) : ∀ (k : Nat) (acc : List Vorder_Op) (p : List Int), p.length < k → Bs p → p.length ≤ 1000 → acc.length + p.length ≤ 1000 →
    ∃ y, order_All_l2 p0 k (acc, p, 0) = some y ∧ (∀ l, y = .inl l → ∃ m, l = acc ++ m ∧ l.length ≤ 1000 ∧ ∀ o ∈ m, OpOk 1000 o) ∧ (∀ r, y = .inr r → r.2.2 ≠ 0)
  | 0, _, _, h, _, _, _ => by omega
  | k + 1, acc, p, hk, hb, hl, ha => by
    rw [order_All_l2.eq_2]
    by_cases h0 : 0 < p.length
    · have d1 : decide ((p.length : Int) > 0) = true := by simp; omega
      obtain ⟨s', o, h1, h2, h3⟩ := op_spec2 (s := ⟨p, 0⟩) hb h0 hl rfl
      simp only [d1, cond_true, h1, Option.bind_some]
      by_cases hc : s'.code = 0
      · have : (s'.code != 0) = false := by simp [hc]
        obtain ⟨⟨n, hn, hn2, hp⟩, ok⟩ := h3 hc
        have hlen : s'.p.length = p.length - n := by rw [hp]; simp
        have hn2' : n ≤ p.length := hn2
        simp only [this, cond_false, gd]
        rw [if_pos (by simp; omega), hc]
        obtain ⟨y, hy, hy1, hy2⟩ := all_loop p0 k (acc ++ [o]) s'.p (by omega) h2 (by omega) (by simp; omega)
        refine ⟨y, hy, fun l hl => ?_, hy2⟩
        obtain ⟨m, hm, hm2, hm3⟩ := hy1 l hl
        refine ⟨o :: m, by rw [hm]; simp, hm2, fun q hq => ?_⟩
        cases hq with
        | head => exact ok
        | tail _ hq => exact hm3 q hq
      · have : (s'.code != 0) = true := by simp [hc]
        simp only [this, cond_true]
        exact ⟨_, rfl, (fun l h => by cases h), fun r h => by cases h; exact hc⟩
    · have d1 : decide ((p.length : Int) > 0) = false := decide_eq_false (by omega)
      simp only [d1, cond_false]
      exact ⟨_, rfl, (fun l h => by cases h; exact ⟨[], by simp, (show acc.length ≤ 1000 by omega), fun q hq => by cases hq⟩), fun r h => by cases h⟩
theorem all_spec {p : List Int} (hb : Bs p) (hl : p.length ≤ 1000) : ∃ l n e, m_order_All p = some (l, n, e) ∧ (e = 0 → l.length ≤ 1000 ∧ ∀ o ∈ l, OpOk 1000 o) := by
  obtain ⟨y, hy, h1, h2⟩ := all_loop p fuel [] p (by unfold fuel; omega) hb hl (by simpa using hl)
  unfold m_order_All
  rw [hy]
  cases y with
  | inl l =>
    obtain ⟨m, hm, hm2, hm3⟩ := h1 l rfl
    refine ⟨_, _, _, rfl, fun _ => ⟨hm2, ?_⟩⟩
    rw [hm]; simpa using hm3
  | inr r => exact ⟨r.1, r.2.1, r.2.2, rfl, fun h => absurd h (h2 r rfl)⟩
/-! ### entries -/
def EnOk (m : Nat) (l : List Ventry_Entry) : Prop := ∀ e ∈ l, Txt e.Text ∧ e.Text.length ≤ m
/-- characters of the last entry -/
def addT (l : List Ventry_Entry) (t : List Int) : List Ventry_Entry := match l.getLast? with
  | none => [⟨0, t⟩]
  | some e => l.dropLast ++ [⟨e.Addr, e.Text ++ t⟩]
theorem add_spec {r : Ventry_Report} {t : List Int} (hl : r.Entries.length ≤ 100000000000) (ht : ∀ e ∈ r.Entries, e.Text.length + t.length ≤ 68719476736) (ht0 : t.length ≤ 68719476736) :
    m_entry_Report_add r t = some { r with Entries := addT r.Entries t } := by
  unfold m_entry_Report_add
  by_cases h0 : r.Entries.length = 0
  · have e0 : r.Entries = [] := List.length_eq_zero_iff.1 h0
    have ew : w64 ((([(⟨0, []⟩ : Ventry_Entry)] : List Ventry_Entry).length : Int) - 1) = 0 := by decide
    have d0 : ((r.Entries.length : Int) == 0) = true := by simp [e0]
    simp only [d0, cond_true, Option.bind_some, ew, gd]
    have r0 : rd [(⟨0, []⟩ : Ventry_Entry)] 0 = ⟨0, []⟩ := rfl
    rw [if_pos (by simp), r0, if_pos (by simpa using ht0)]
    simp [addT, e0]
  · have d0 : ((r.Entries.length : Int) == 0) = false := beq_eq_false_iff_ne.2 (by omega)
    have hne : r.Entries ≠ [] := fun e => h0 (by rw [e]; rfl)
    have ew : w64 ((r.Entries.length : Int) - 1) = ((r.Entries.length - 1 : Nat) : Int) := by rw [w64_small (by omega)]; omega
    simp only [d0, cond_false, Option.bind_some, ew, gd]
    have hlast : rd r.Entries ((r.Entries.length - 1 : Nat) : Int) = r.Entries.getLast hne := by
      have h1 : r.Entries[r.Entries.length - 1]? = some (r.Entries.getLast hne) := by rw [← List.getLast?_eq_getElem?, List.getLast?_eq_some_getLast hne]
      unfold rd
      simp [List.getD_eq_getElem?_getD, h1]
    rw [if_pos (by omega), hlast, if_pos (ht _ (List.getLast_mem hne))]
    have hset : ∀ (l : List Ventry_Entry) (h : l ≠ []) (x : Ventry_Entry), l.set (l.length - 1) x = l.dropLast ++ [x] := fun l h x => by
      conv => lhs; rw [← List.dropLast_concat_getLast h]
      simp
    simp only [Int.toNat_natCast, hset _ hne, addT, List.getLast?_eq_some_getLast hne]
theorem addT_ok {l : List Ventry_Entry} {t : List Int} {m n : Nat} (h : EnOk m l) (ht : Txt t) (hn : t.length ≤ n) : EnOk (m + n) (addT l t) := by
  unfold addT
  cases hl : l.getLast? with
  | none =>
    intro e he
    simp at he; subst he
    exact ⟨ht, by simp only; omega⟩
  | some e0 =>
    have he0 : e0 ∈ l := List.mem_of_getLast? hl
    intro e he
    rcases List.mem_append.1 he with h1 | h1
    · have := h e ((List.dropLast_sublist l).subset h1)
      exact ⟨this.1, by omega⟩
    · simp at h1; subst h1
      refine ⟨fun x hx => ?_, ?_⟩
      · rcases List.mem_append.1 hx with h2 | h2
        · exact (h e0 he0).1 x h2
        · exact ht x h2
      · have := (h e0 he0).2; simp; omega
theorem addT_len (l : List Ventry_Entry) (t : List Int) : (addT l t).length ≤ l.length + 1 := by
  unfold addT
  cases hl : l.getLast? with
  | none => simp
  | some e0 =>
    have : l ≠ [] := fun e => by rw [e] at hl; cases hl
    have := List.length_pos_iff.2 this
    simp; try omega
/-- what a piece does to the entries; none: it has no place in a report -/
def step1 (l : List Ventry_Entry) (o : Vorder_Op) : Option (List Ventry_Entry) :=
  if o.Kind = 17 then some (l ++ [⟨o.Addr, []⟩]) else if o.Kind = 0 then some (addT l o.Text) else if o.Kind = 8 then some (addT l [o.Code]) else if o.Kind = 40 then some l else none
def steps : List Ventry_Entry → List Vorder_Op → Option (List Ventry_Entry)
  | l, [] => some l
  | l, o :: r => (step1 l o).bind fun l => steps l r
theorem step1_ok {l l' : List Ventry_Entry} {o : Vorder_Op} {m B : Nat} (h : EnOk m l) (hB : 1 ≤ B) (ho : OpOk B o) (hs : step1 l o = some l') : EnOk (m + B) l' ∧ l'.length ≤ l.length + 1 := by
  unfold step1 at hs
  split at hs
  · cases hs
    refine ⟨fun e he => ?_, by simp⟩
    rcases List.mem_append.1 he with h1 | h1
    · have := h e h1; exact ⟨this.1, by omega⟩
    · simp at h1; subst h1; exact ⟨(fun x hx => by cases hx), by simp⟩
  · split at hs
    · rename_i h0
      cases hs
      exact ⟨addT_ok h (ho.1 h0).1 (ho.1 h0).2, addT_len _ _⟩
    · split at hs
      · rename_i h8
        cases hs
        exact ⟨addT_ok h (ho.2 h8) (by simpa using hB), addT_len _ _⟩
      · split at hs
        · cases hs
          exact ⟨fun e he => ⟨(h e he).1, by have := (h e he).2; omega⟩, by omega⟩
        · cases hs
theorem parse_loop (d : List Vorder_Op × Int × Int) (aid cur : Int) (sh : Bool) (B : Nat) (hB : 1 ≤ B ∧ B ≤ 10000000) (hd : d.1.length ≤ 3000) (hok : ∀ o ∈ d.1, OpOk B o) : ∀ (k n : Nat) (l : List Ventry_Entry), n ≤ d.1.length → d.1.length - n < k → EnOk (B * n) l → l.length ≤ n →
    entry_Parse_l6 d k ((n : Int), aid, sh, cur, l) = (match steps l (d.1.drop n) with
      | some l' => some (.inl (aid, sh, cur, l'))
      | none => some (.inr (⟨0, false, 0, []⟩, 4)))
  | 0, n, l, hn, hk, _, _ => by omega
  | k + 1, n, l, hn, hk, he, hle => by
    rw [entry_Parse_l6.eq_2]
    by_cases hlt : n < d.1.length
    · have d1 : decide ((n : Int) < (d.1.length : Int)) = true := by simp; omega
      have hr : rd d.1 (n : Int) = d.1[n] := by unfold rd; simp [List.getD_eq_getElem?_getD, hlt]
      have hO : OpOk B d.1[n] := hok _ (List.getElem_mem hlt)
      have hdr : d.1.drop n = d.1[n] :: d.1.drop (n + 1) := List.drop_eq_getElem_cons hlt
      have ew : w64 ((n : Int) + 1) = ((n + 1 : Nat) : Int) := by rw [w64_small (by omega)]; omega
      simp only [d1, cond_true, gd, hr]
      rw [if_pos (by omega), hdr]
      simp only [steps]
      have next : ∀ l', step1 l d.1[n] = some l' → entry_Parse_l6 d k (w64 ((n : Int) + 1), aid, sh, cur, l') = (match steps l' (d.1.drop (n + 1)) with
          | some l' => some (.inl (aid, sh, cur, l'))
          | none => some (.inr (⟨0, false, 0, []⟩, 4))) := fun l' hs => by
        rw [ew]
        have := step1_ok he hB.1 hO hs
        exact parse_loop d aid cur sh B hB hd hok k (n + 1) l' (by omega) (by omega) (by have h9 := this.1; rwa [Nat.mul_succ]) (by omega)
      generalize d.1[n] = o at hO next
      have hBn : B * n ≤ 30000000000 := Nat.le_trans (Nat.mul_le_mul hB.2 (show n ≤ 3000 by omega)) (by omega)
      have hadd : ∀ t, t.length ≤ B → m_entry_Report_add ⟨aid, sh, cur, l⟩ t = some ⟨aid, sh, cur, addT l t⟩ := fun t ht => by
        rw [add_spec (by simp only; omega) (fun e hh => by have := (he e hh).2; omega) (by omega)]
      by_cases h17 : o.Kind = 17
      · have hs : step1 l o = some (l ++ [⟨o.Addr, []⟩]) := by simp [step1, h17]
        have q : (o.Kind == 17) = true := by simp [h17]
        simp only [q, cond_true]
        rw [if_pos (by simp; omega), hs]
        simp only [jn, Option.bind_some]
        exact next _ hs
      · have q : (o.Kind == 17) = false := by simp [h17]
        simp only [q, cond_false]
        by_cases h0 : o.Kind = 0
        · have hs : step1 l o = some (addT l o.Text) := by simp [step1, h0]
          have q : (o.Kind == 0) = true := by simp [h0]
          simp only [q, cond_true]
          rw [hadd _ (hO.1 h0).2, hs]
          simp only [jn, Option.bind_some]
          exact next _ hs
        · have q : (o.Kind == 0) = false := by simp [h0]
          simp only [q, cond_false]
          by_cases h8 : o.Kind = 8
          · have hs : step1 l o = some (addT l [o.Code]) := by simp [step1, h8]
            have q : (o.Kind == 8) = true := by simp [h8]
            simp only [q, cond_true]
            rw [hadd _ (by simpa using hB.1), hs]
            simp only [jn, Option.bind_some]
            exact next _ hs
          · have q : (o.Kind == 8) = false := by simp [h8]
            simp only [q, cond_false]
            by_cases h40 : o.Kind = 40
            · have hs : step1 l o = some l := by simp [step1, h40]
              have q : (o.Kind == 40) = true := by simp [h40]
              simp only [q, cond_true]
              rw [hs]
              simp only [jn, Option.bind_some]
              exact next _ hs
            · have hs : step1 l o = none := by simp [step1, h17, h0, h8, h40]
              have q : (o.Kind == 40) = false := by simp [h40]
              simp only [q, cond_false]
              rw [hs]
              rfl
    · have d1 : decide ((n : Int) < (d.1.length : Int)) = false := by simp; omega
      have : d.1.drop n = [] := List.drop_eq_nil_of_le (by omega)
      simp only [d1, cond_false, this, steps]
end Go.Vt
