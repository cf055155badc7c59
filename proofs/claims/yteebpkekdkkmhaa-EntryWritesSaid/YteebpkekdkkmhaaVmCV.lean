/- Of the model of EntryAgain: it answers true at all bytes. No conditions. -/
import Derived.Test.YteebpkekdkkmhaaVmCU
set_option linter.unusedVariables false
set_option linter.unusedSimpArgs false
set_option maxRecDepth 100000
namespace Go.Vt
def opsL : List Ventry_Entry → List Vorder_Op
  | [] => []
  | e :: es => aOp e.Addr :: ((if 0 < e.Text.length then [tOp e.Text] else []) ++ opsL es)
theorem pcs_head {es : List Ventry_Entry} {rest : List Int} (h : Pcs es rest) : rest = [] ∨ ∃ r, rest = 17 :: r := by
  cases h with
  | nil => exact .inl rfl
  | cons _ _ => exact .inr ⟨_, rfl⟩
theorem txt_bs {t : List Int} (h : Txt t) : Bs t := fun n hn => (h n hn).1
theorem Bs.app {a b : List Int} (h : Bs a) (k : Bs b) : Bs (a ++ b) := fun n hn => by
  rcases List.mem_append.1 hn with h1 | h1
  · exact h n h1
  · exact k n h1
theorem pcs_bs {M : Nat} {es : List Ventry_Entry} {rest : List Int} (h : Pcs es rest) : EnOk M es → Bs rest ∧ rest.length ≤ es.length * (M + 3) := by
  induction h with
  | nil => exact fun _ => ⟨fun n hn => (by cases hn), by simp⟩
  | @cons e es x y rest hE hp ih =>
    intro hok
    obtain ⟨h1, h2⟩ := ih fun q hq => hok q (.tail _ hq)
    obtain ⟨ht, hl⟩ := hok e (.head _)
    refine ⟨fun n hn => ?_, ?_⟩
    · simp only [List.mem_cons] at hn
      rcases hn with rfl | rfl | rfl | hn
      · exact ⟨by omega, by omega⟩
      · exact hE.bx
      · exact hE.by_
      · exact ((txt_bs ht).app h1) n hn
    · simp only [List.length_cons, List.length_append, Nat.add_mul]; omega
theorem tw_app {t rest : List Int} (ht : Txt t) (hr : rest = [] ∨ ∃ r, rest = 17 :: r) : (t ++ rest).takeWhile (fun c => !isO c) = t ∧ (t ++ rest).dropWhile (fun c => !isO c) = rest := by
  induction t with
  | nil =>
    rcases hr with rfl | ⟨r, rfl⟩
    · exact ⟨rfl, rfl⟩
    · have : isO 17 = true := by decide
      simp [List.takeWhile_cons, List.dropWhile_cons, this]
  | cons c t ih =>
    have hc := (ht c (.head _)).2
    obtain ⟨h1, h2⟩ := ih fun n hn => ht n (.tail _ hn)
    simp only [List.cons_append, List.takeWhile_cons, List.dropWhile_cons, hc, Bool.not_false, if_true, h1, h2, and_self]
theorem all_text {p0 : List Int} {k : Nat} {acc : List Vorder_Op} {t rest : List Int} (ht : Txt t) (hb : Bs rest) (h0 : 0 < t.length) (hl : (t ++ rest).length ≤ 10000000000) (hr : rest = [] ∨ ∃ r, rest = 17 :: r) (ha : acc.length ≤ 5000) :
    order_All_l2 p0 (k + 1) (acc, t ++ rest, 0) = order_All_l2 p0 k (acc ++ [tOp t], rest, 0) := by
  rw [order_All_l2.eq_2]
  obtain ⟨c, t', hc⟩ : ∃ c t', t = c :: t' := by
    match t, h0 with
    | c :: t', _ => exact ⟨c, t', rfl⟩
  have d1 : decide (((t ++ rest).length : Int) > 0) = true := decide_eq_true (by simp; omega)
  have ho := (ht c (by rw [hc]; simp)).2
  have h1 := op_text (s := ⟨t ++ rest, 0⟩) ((txt_bs ht).app hb) hl (c := c) (r := t' ++ rest) (by simp [hc]) ho
  obtain ⟨e1, e2⟩ := tw_app ht hr
  simp only [e1, e2] at h1
  simp only [d1, cond_true, h1, Option.bind_some, gd]
  have d2 : ((0 : Int) != 0) = false := rfl
  simp only [d2, cond_false]
  rw [if_pos (by simp; omega)]
  rfl
theorem all_exact (p0 : List Int) {es : List Ventry_Entry} {rest : List Int} (h : Pcs es rest) : EnOk 1000000 es → ∀ (k : Nat) (acc : List Vorder_Op), 2 * es.length < k → acc.length + 2 * es.length ≤ 3000 →
    order_All_l2 p0 k (acc, rest, 0) = some (.inl (acc ++ opsL es)) := by
  induction h with
  | nil =>
    intro _ k acc hk ha
    obtain ⟨k, rfl⟩ : ∃ j, k = j + 1 := ⟨k - 1, by omega⟩
    rw [order_All_l2.eq_2]
    simp [opsL]
  | @cons e es x y rest hE hp ih =>
    intro hok k acc hk ha
    simp only [List.length_cons] at hk ha
    obtain ⟨k, rfl⟩ : ∃ j, k = j + 1 := ⟨k - 1, by omega⟩
    obtain ⟨ht, hl⟩ := hok e (.head _)
    have hok' : EnOk 1000000 es := fun q hq => hok q (.tail _ hq)
    obtain ⟨hb, hlen⟩ := pcs_bs hp hok'
    have hB : Bs (17 :: x :: y :: (e.Text ++ rest)) := (pcs_bs (Pcs.cons hE hp) hok).1
    have hlen2 : rest.length ≤ 1500 * 1000003 := Nat.le_trans hlen (Nat.mul_le_mul_right _ (by omega))
    rw [order_All_l2.eq_2]
    have d1 : decide (((17 :: x :: y :: (e.Text ++ rest)).length : Int) > 0) = true := decide_eq_true (by simp; omega)
    have h1 := op_sba (s := ⟨17 :: x :: y :: (e.Text ++ rest), 0⟩) hB rfl rfl hE.dec
    simp only [d1, cond_true, h1, Option.bind_some, gd]
    have d2 : ((0 : Int) != 0) = false := rfl
    simp only [d2, cond_false]
    rw [if_pos (by simp; omega)]
    by_cases h0 : 0 < e.Text.length
    · obtain ⟨k, rfl⟩ : ∃ j, k = j + 1 := ⟨k - 1, by omega⟩
      rw [all_text ht hb h0 (by simp; omega) (pcs_head hp) (by simp; omega)]
      rw [ih hok' k _ (by omega) (by simp; omega)]
      simp [opsL, if_pos h0, aOp]
    · have hz : e.Text = [] := List.length_eq_zero_iff.1 (by omega)
      rw [hz, List.nil_append]
      rw [ih hok' k _ (by omega) (by simp; omega)]
      simp [opsL, hz, aOp]
theorem steps_ops : ∀ (es acc : List Ventry_Entry), steps acc (opsL es) = some (acc ++ es)
  | [], acc => by simp [opsL, steps]
  | e :: es, acc => by
    have h1 : step1 acc (aOp e.Addr) = some (acc ++ [⟨e.Addr, []⟩]) := by simp [step1, aOp]
    simp only [opsL, steps, h1, Option.bind_some]
    by_cases h0 : 0 < e.Text.length
    · have h2 : step1 (acc ++ [⟨e.Addr, []⟩]) (tOp e.Text) = some (acc ++ [e]) := by
        simp [step1, tOp, addT]
      simp only [if_pos h0, List.cons_append, List.nil_append, steps, h2, Option.bind_some]
      rw [steps_ops es]; simp
    · have hz : e.Text = [] := List.length_eq_zero_iff.1 (by omega)
      have he : (⟨e.Addr, []⟩ : Ventry_Entry) = e := by cases e; simp_all
      simp only [if_neg h0, List.nil_append, he]
      rw [steps_ops es]; simp
theorem opsL_ok : ∀ {es : List Ventry_Entry}, EnOk 1000000 es → ∀ o ∈ opsL es, OpOk 1000000 o
  | [], _, o, ho => by cases ho
  | e :: es, hok, o, ho => by
    simp only [opsL, List.mem_cons, List.mem_append] at ho
    rcases ho with rfl | ho | ho
    · exact ⟨fun h => by simp [aOp] at h, fun h => by simp [aOp] at h⟩
    · split at ho
      · simp at ho; subst ho
        exact ⟨fun _ => hok e (.head _), fun h => by simp [tOp] at h⟩
      · cases ho
    · exact opsL_ok (fun q hq => hok q (.tail _ hq)) o ho
theorem opsL_len : ∀ es : List Ventry_Entry, (opsL es).length ≤ 2 * es.length
  | [] => by simp [opsL]
  | e :: es => by
    have := opsL_len es
    simp only [opsL, List.length_cons, List.length_append]
    split <;> simp <;> omega
/-! ### the head of a report -/
theorem begin_long {a x y v e : Int} {rest : List Int} (h : m_addr_Decode 12 [x, y] = some (v, e)) : m_entry_begin (a :: x :: y :: rest) = some (if e = 0 then (⟨a, false, v, []⟩, rest, 0) else (⟨0, false, 0, []⟩, [], e)) := by
  have c0 : (((a :: x :: y :: rest).length : Int) == 0) = false := beq_eq_false_iff_ne.2 (by simp; omega)
  have c1 : (((a :: x :: y :: rest).length : Int) == 1) = false := beq_eq_false_iff_ne.2 (by simp; omega)
  have c2 : (((a :: x :: y :: rest).length : Int) == 2) = false := beq_eq_false_iff_ne.2 (by simp; omega)
  have r0 : rd (a :: x :: y :: rest) 0 = a := rfl
  have hd : m_addr_Decode 12 (x :: y :: rest) = some (v, e) := by rw [decode_pre]; exact h
  have e1 : List.drop 1 (a :: x :: y :: rest) = x :: y :: rest := rfl
  have e3 : List.drop 3 (a :: x :: y :: rest) = rest := rfl
  have l1 : (1 : Int) ≤ ((a :: x :: y :: rest).length : Int) := by simp; omega
  have l3 : (3 : Int) ≤ ((a :: x :: y :: rest).length : Int) := by simp; omega
  unfold m_entry_begin gd
  simp only [c0, c1, c2, cond_false, Option.bind_some, e1, e3, hd, r0]
  rw [if_pos (by omega)]
  by_cases h0 : e = 0
  · have : (e != 0) = false := by simp [h0]
    simp only [this, cond_false, if_pos h0]
    rw [if_pos (by omega), if_pos (by omega)]
  · have : (e != 0) = true := by simp [h0]
    simp only [this, cond_true, if_neg h0]
theorem parse_ok {a x y v : Int} {rest : List Int} {ops : List Vorder_Op} {n : Int} {B : Nat} (h : m_addr_Decode 12 [x, y] = some (v, 0)) (ha : m_order_All rest = some (ops, n, 0)) (hB : 1 ≤ B ∧ B ≤ 10000000) (hl : ops.length ≤ 3000) (hok : ∀ o ∈ ops, OpOk B o) :
    m_entry_Parse (a :: x :: y :: rest) = some (match steps [] ops with
      | some l => (⟨a, false, v, l⟩, 0)
      | none => (⟨0, false, 0, []⟩, 4)) := by
  unfold m_entry_Parse
  rw [begin_long h]
  simp only [if_true, Option.bind_some]
  have d0 : ((0 : Int) != 0) = false := rfl
  simp only [d0, cond_false, ha, Option.bind_some]
  have := parse_loop (ops, n, 0) a v false B hB hl hok fuel 0 [] (by omega) (by unfold fuel; simp only; omega) (fun e he => by cases he) (by simp)
  have h1 : entry_Parse_l6 (ops, n, 0) fuel (0, a, false, v, []) = _ := this
  rw [h1]
  simp only [List.drop_zero]
  cases steps [] ops <;> rfl
theorem steps_ok : ∀ (ops : List Vorder_Op) (l l' : List Ventry_Entry) (m : Nat), EnOk m l → (∀ o ∈ ops, OpOk 1000 o) → steps l ops = some l' → EnOk (m + 1000 * ops.length) l' ∧ l'.length ≤ l.length + ops.length
  | [], l, l', m, h, _, hs => by cases hs; exact ⟨by simpa using h, by simp⟩
  | o :: ops, l, l', m, h, hok, hs => by
    simp only [steps] at hs
    obtain ⟨l1, h1, hs⟩ := bsome hs
    obtain ⟨a1, a2⟩ := step1_ok h (by omega) (hok o (.head _)) h1
    obtain ⟨b1, b2⟩ := steps_ok ops l1 l' (m + 1000) a1 (fun q hq => hok q (.tail _ hq)) hs
    simp only [List.length_cons]
    exact ⟨by rw [show m + 1000 * (ops.length + 1) = m + 1000 + 1000 * ops.length by omega]; exact b1, by omega⟩
/-- whatever came: it is parsed, or it is said why not -/
theorem parse_any {p : List Int} (hb : Bs p) (hl : p.length ≤ 400) : ∃ r e, m_entry_Parse p = some (r, e) ∧ (e = 0 → (∃ a, r = ⟨a, true, 0, []⟩) ∨ (r.Short = false ∧ EnOk 1000000 r.Entries ∧ r.Entries.length ≤ 1000)) := by
  match p, hb, hl with
  | [], _, _ => exact ⟨⟨0, false, 0, []⟩, 2, by decide +kernel, fun h => by simp at h⟩
  | [a], hb, _ =>
    refine ⟨⟨a, true, 0, []⟩, 0, ?_, fun _ => .inl ⟨a, rfl⟩⟩
    have h1 : m_entry_begin [a] = some (⟨a, true, 0, []⟩, [], 0) := rfl
    have h2 : m_order_All [] = some ([], 0, 0) := by decide +kernel
    unfold m_entry_Parse
    simp only [h1, h2, Option.bind_some]
    have d0 : ((0 : Int) != 0) = false := rfl
    simp only [d0, cond_false]
    have := parse_loop ([], 0, 0) a 0 true 1 (by omega) (by simp) (fun o ho => by cases ho) fuel 0 [] (by omega) (by unfold fuel; simp) (fun e he => by cases he) (by simp)
    have h3 : entry_Parse_l6 ([], 0, 0) fuel (0, a, true, 0, []) = _ := this
    rw [h3]; rfl
  | [a, b], hb, _ =>
    refine ⟨⟨0, false, 0, []⟩, 2, ?_, fun h => by simp at h⟩
    have h1 : m_entry_begin [a, b] = some (⟨0, false, 0, []⟩, [], 2) := rfl
    unfold m_entry_Parse
    simp only [h1, Option.bind_some]; rfl
  | a :: x :: y :: rest, hb, hl =>
    obtain ⟨v, e, hd⟩ := decode_tot (hb x (by simp)) (hb y (by simp))
    by_cases he : e = 0
    · subst he
      have hbr : Bs rest := fun n hn => hb n (by simp [hn])
      simp only [List.length_cons] at hl
      obtain ⟨ops, n, e2, ha, hok⟩ := all_spec hbr (by omega)
      by_cases he2 : e2 = 0
      · subst he2
        obtain ⟨hlen, hok⟩ := hok rfl
        rw [parse_ok hd ha (B := 1000) (by omega) (by omega) hok]
        cases hs : steps [] ops with
        | none => exact ⟨_, _, rfl, fun h => by simp at h⟩
        | some l =>
          refine ⟨_, _, rfl, fun _ => .inr ⟨rfl, ?_, ?_⟩⟩
          · obtain ⟨h1, _⟩ := steps_ok ops [] l 0 (fun e he => by cases he) hok hs
            exact fun e he => ⟨(h1 e he).1, by have := (h1 e he).2; omega⟩
          · have := (steps_ok ops [] l 0 (fun e he => by cases he) hok hs).2
            simp at this; simp only; omega
      · refine ⟨⟨0, false, 0, []⟩, e2, ?_, fun h => absurd h he2⟩
        unfold m_entry_Parse
        rw [begin_long hd]
        have d0 : ((0 : Int) != 0) = false := rfl
        have d1 : (e2 != 0) = true := by simp [he2]
        simp only [if_true, Option.bind_some, d0, cond_false, ha, d1, cond_true]
    · refine ⟨⟨0, false, 0, []⟩, e, ?_, fun h => absurd h he⟩
      unfold m_entry_Parse
      rw [begin_long hd]
      have d1 : (e != 0) = true := by simp [he]
      simp only [if_neg he, Option.bind_some, d1, cond_true]
/-- what was told is parsed again -/
theorem reparse {r : Ventry_Report} {x y : Int} {rest : List Int} (hs : r.Short = false) (hl : r.Entries.length ≤ 1000) (hok : EnOk 1000000 r.Entries) (hE : Enc r.Cursor x y) (hp : Pcs r.Entries rest ∨ ∃ t, r.Entries = [⟨0, t⟩] ∧ 0 < t.length ∧ rest = t) :
    m_entry_Parse (r.AID :: x :: y :: rest) = some (r, 0) := by
  have hr : (⟨r.AID, false, r.Cursor, r.Entries⟩ : Ventry_Report) = r := by cases r; simp_all
  rcases hp with hp | ⟨t, ht, ht0, rfl⟩
  · have ha : m_order_All rest = some (opsL r.Entries, (rest.length : Int), 0) := by
      unfold m_order_All
      rw [all_exact rest hp hok fuel [] (by unfold fuel; omega) (by simp; omega)]
      rfl
    rw [parse_ok hE.dec ha (B := 1000000) (by omega) (by have := opsL_len r.Entries; omega) (opsL_ok hok), steps_ops]
    simp only [List.nil_append, hr]
  · obtain ⟨hT, hTl⟩ := hok ⟨0, rest⟩ (by rw [ht]; simp)
    have ha : m_order_All rest = some ([tOp rest], (rest.length : Int), 0) := by
      unfold m_order_All
      have h1 : fuel = (fuel - 2) + 1 + 1 := by unfold fuel; omega
      have h2 := all_text (p0 := rest) (k := fuel - 2 + 1) (acc := []) hT (rest := []) (fun n hn => by cases hn) ht0 (by simp; simp at hTl; omega) (.inl rfl) (by simp)
      rw [List.append_nil] at h2
      rw [h1, h2, order_All_l2.eq_2]
      rfl
    have hst : steps [] [tOp rest] = some r.Entries := by rw [ht]; simp [steps, step1, tOp, addT]
    rw [parse_ok hE.dec ha (B := 1000000) (by omega) (by simp) (fun o ho => by simp at ho; subst ho; exact ⟨fun _ => ⟨hT, hTl⟩, fun h => by simp [tOp] at h⟩), hst]
    simp only [hr]
/-! ### alike -/
theorem back_loop {r : Ventry_Report} (hl : r.Entries.length ≤ 1000) : ∀ (k n : Nat) (acc : List Vvitrineref20_Entry), n ≤ r.Entries.length → r.Entries.length - n < k → acc.length ≤ n → ∃ l, vitrinelaw20_back_l2 r k ((n : Int), acc) = some l ∧ l.length ≤ 1000
  | 0, n, acc, _, h, _ => by omega
  | k + 1, n, acc, hn, hk, ha => by
    rw [vitrinelaw20_back_l2.eq_2]
    by_cases hlt : n < r.Entries.length
    · have d1 : decide ((n : Int) < (r.Entries.length : Int)) = true := decide_eq_true (by omega)
      have ew : w64 ((n : Int) + 1) = ((n + 1 : Nat) : Int) := by rw [w64_small (by omega)]; omega
      simp only [d1, cond_true, gd, ew]
      rw [if_pos (by omega), if_pos (by simp; omega)]
      exact back_loop hl k (n + 1) _ (by omega) (by omega) (by simp; omega)
    · have d1 : decide ((n : Int) < (r.Entries.length : Int)) = false := decide_eq_false (by omega)
      simp only [d1, cond_false]
      exact ⟨acc, rfl, by omega⟩
theorem back_tot {r : Ventry_Report} (hl : r.Entries.length ≤ 1000) : ∃ b, m_vitrinelaw20_back r = some b ∧ b.Entries.length ≤ 1000 := by
  obtain ⟨l, h, hl2⟩ := back_loop hl fuel 0 [] (by omega) (by unfold fuel; omega) (by simp)
  have h' : vitrinelaw20_back_l2 r fuel (0, []) = some l := h
  unfold m_vitrinelaw20_back
  rw [h']
  exact ⟨_, rfl, hl2⟩
theorem same_loop {b : Vvitrineref20_Report} (hl : b.Entries.length ≤ 1000) : ∀ (k n : Nat), n ≤ b.Entries.length → b.Entries.length - n < k → vitrineref20_Same_l4 b b k (n : Int) = some (.inl ())
  | 0, n, _, h => by omega
  | k + 1, n, hn, hk => by
    rw [vitrineref20_Same_l4.eq_2]
    by_cases hlt : n < b.Entries.length
    · have d1 : decide ((n : Int) < (b.Entries.length : Int)) = true := decide_eq_true (by omega)
      have ew : w64 ((n : Int) + 1) = ((n + 1 : Nat) : Int) := by rw [w64_small (by omega)]; omega
      have d2 : ((rd b.Entries (n : Int)).Addr != (rd b.Entries (n : Int)).Addr) = false := by simp
      have hs : m_vitrineref01_Same (rd b.Entries (n : Int)).Text (rd b.Entries (n : Int)).Text = some true := by simp [m_vitrineref01_Same]
      simp only [d1, cond_true, gd, ew, d2, cond_false, hs, Option.bind_some, Bool.not_true]
      rw [if_pos (by omega), if_pos (by omega)]
      simp only [if_pos (show (0 : Int) ≤ (n : Int) ∧ (n : Int) < (b.Entries.length : Int) by omega), Option.bind_some, cond_false]
      exact same_loop hl k (n + 1) (by omega) (by omega)
    · have d1 : decide ((n : Int) < (b.Entries.length : Int)) = false := decide_eq_false (by omega)
      simp only [d1, cond_false]
theorem same_refl {b : Vvitrineref20_Report} (hl : b.Entries.length ≤ 1000) : m_vitrineref20_Same b b = some true := by
  have h := same_loop hl fuel 0 (by omega) (by unfold fuel; omega)
  have h' : vitrineref20_Same_l4 b b fuel 0 = some (.inl ()) := h
  unfold m_vitrineref20_Same
  rw [h']
  simp [jn]
theorem cut_spec {p : List Int} (hb : Bs p) : ∃ q, m_vitrineref01_Cut p 400 = some q ∧ Bs q ∧ q.length ≤ 400 := by
  unfold m_vitrineref01_Cut m_vitrineref01_Copy gd
  by_cases h : p.length > 400
  · have d1 : decide ((p.length : Int) > 400) = true := decide_eq_true (by omega)
    simp only [d1, cond_true]
    rw [if_pos (by omega)]
    simp only [Option.bind_some, List.nil_append]
    have h4 : Int.toNat 400 = 400 := rfl
    rw [if_pos (by simp; omega)]
    exact ⟨_, rfl, hb.take 400, by simp; omega⟩
  · have d1 : decide ((p.length : Int) > 400) = false := decide_eq_false (by omega)
    simp only [d1, cond_false, Option.bind_some, List.nil_append]
    rw [if_pos (by simp; omega)]
    exact ⟨p, rfl, hb, by omega⟩
/-- THE LAW -/
theorem entryAgain_true (p : List Int) (hb : Bs p) : m_vitrinelaw20_EntryAgain p = some true := by
  obtain ⟨q, hq, hbq, hlq⟩ := cut_spec hb
  obtain ⟨r, e, hr, hok⟩ := parse_any hbq hlq
  unfold m_vitrinelaw20_EntryAgain
  simp only [awake_ok, Option.bind_some, Bool.not_true, cond_false, hq, hr]
  by_cases he : e = 0
  · have d0 : (e != 0) = false := by simp [he]
    simp only [d0, cond_false]
    -- what is told of it
    have tell : ∃ q2 e2, m_entry_Bytes r = some (q2, e2) ∧ (e2 ≠ 0 → e2 = 9) ∧ (e2 = 0 → m_entry_Parse q2 = some (r, 0)) ∧ r.Entries.length ≤ 1000 := by
      rcases hok he with ⟨a, rfl⟩ | ⟨hs, hE, hl⟩
      · refine ⟨[a], 0, rfl, by simp, fun _ => ?_, by simp⟩
        have h1 : m_entry_begin [a] = some (⟨a, true, 0, []⟩, [], 0) := rfl
        have h2 : m_order_All [] = some ([], 0, 0) := by decide +kernel
        unfold m_entry_Parse
        simp only [h1, h2, Option.bind_some]
        have d0 : ((0 : Int) != 0) = false := rfl
        simp only [d0, cond_false]
        have := parse_loop ([], 0, 0) a 0 true 1 (by omega) (by simp) (fun o ho => by cases ho) fuel 0 [] (by omega) (by unfold fuel; simp) (fun e he => by cases he) (by simp)
        have h3 : entry_Parse_l6 ([], 0, 0) fuel (0, a, true, 0, []) = _ := this
        rw [h3]; rfl
      · obtain ⟨q2, e2, h1, h2, h3⟩ := bytes_spec hl hE
        refine ⟨q2, e2, h1, h2, fun h => ?_, hl⟩
        have h4 := h3 h
        simp only [hs, Bool.false_eq_true, if_false] at h4
        obtain ⟨x, y, rest, hEn, rfl, hp⟩ := h4
        exact reparse hs hl hE hEn hp
    obtain ⟨q2, e2, h1, h2, h3, hl⟩ := tell
    simp only [h1, Option.bind_some]
    by_cases he2 : e2 = 0
    · have d2 : (e2 != 0) = false := by simp [he2]
      obtain ⟨b, hb1, hb2⟩ := back_tot hl
      simp only [d2, cond_false, h3 he2, Option.bind_some, hb1, same_refl hb2]
      rfl
    · have d2 : (e2 != 0) = true := by simp [he2]
      simp only [d2, cond_true, h2 he2]
      rfl
  · have d0 : (e != 0) = true := by simp [he]
    simp only [d0, cond_true]
end Go.Vt
