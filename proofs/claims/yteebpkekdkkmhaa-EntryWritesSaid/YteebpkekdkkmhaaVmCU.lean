/- Of the models of EntryAgain: it answers true. No conditions. -/
import Derived.Test.YteebpkekdkkmhaaVmCT
set_option linter.unusedVariables false
set_option linter.unusedSimpArgs false
set_option maxRecDepth 100000
namespace Go.Vt
/-- the bytes of entries, each with its address -/
inductive Pcs : List Ventry_Entry → List Int → Prop
  | nil : Pcs [] []
  | cons {e : Ventry_Entry} {es : List Ventry_Entry} {x y : Int} {rest : List Int} : Enc e.Addr x y → Pcs es rest → Pcs (e :: es) (17 :: x :: y :: (e.Text ++ rest))
def tOp (t : List Int) : Vorder_Op := ⟨0, 0, 0, false, 0, [], t⟩
def aOp (a : Int) : Vorder_Op := ⟨17, a, 0, false, 0, [], []⟩
/-- one entry's pieces as bytes -/
theorem piece_bytes {e : Ventry_Entry} (b : Bool) (ht : Txt e.Text) (hl : e.Text.length ≤ 1000000) :
    ∃ q er, m_order_Bytes ((if b then [] else [aOp e.Addr]) ++ (if 0 < e.Text.length then [tOp e.Text] else [])) = some (q, er) ∧ (er ≠ 0 → er = 9) ∧ q.length ≤ 1000003 ∧
      (er = 0 → if b then q = e.Text else ∃ x y, Enc e.Addr x y ∧ q = 17 :: x :: y :: e.Text) := by
  -- what each piece is as bytes
  have key : ∀ (l : List Vorder_Op) (f : Vorder_Op → List Int × Int), l.length ≤ 10 → (∀ o ∈ l, m_order_Op_Bytes o = some (f o)) → (∀ o ∈ l, (f o).1.length ≤ 1000000000) →
      m_order_Bytes l = (match l.find? (fun o => (f o).2 != 0) with
        | some o => some ([], (f o).2)
        | none => some (l.flatMap fun o => (f o).1, 0)) := fun l f h1 h2 h3 => by
    unfold m_order_Bytes
    have := bytes_loop h1 h2 h3 fuel 0 [] (by omega) (by unfold fuel; omega) (by simp)
    have h4 : order_Bytes_l2 l fuel (0, []) = _ := this
    rw [h4]
    simp only [List.drop_zero, List.nil_append]
    cases l.find? (fun o => (f o).2 != 0) <;> rfl
  have hlen : e.Text.length ≤ 10000000000 := by omega
  cases b with
  | true =>
    by_cases h0 : 0 < e.Text.length
    · have := key [tOp e.Text] (fun _ => (e.Text, 0)) (by simp) (by simp [tOp, text_bytes ht hlen h0]) (by simp; omega)
      refine ⟨e.Text, 0, ?_, by simp, by omega, by simp⟩
      simp only [if_true, if_pos h0, List.nil_append]
      rw [this]; simp
    · have hz : e.Text = [] := List.length_eq_zero_iff.1 (by omega)
      have := key [] (fun _ => ([], 0)) (by simp) (by simp) (by simp)
      refine ⟨[], 0, ?_, by simp, by simp, by simp [hz]⟩
      simp only [if_true, if_neg h0, List.nil_append]
      rw [this]; simp
  | false =>
    rcases sba_bytes e.Addr with ⟨x, y, hE, h1⟩ | h9
    · by_cases h0 : 0 < e.Text.length
      · have := key [aOp e.Addr, tOp e.Text] (fun o => if o.Kind = 17 then ([17, x, y], 0) else (e.Text, 0)) (by simp) (by simp [aOp, tOp, h1, text_bytes ht hlen h0]) (by simp [aOp, tOp]; omega)
        refine ⟨17 :: x :: y :: e.Text, 0, ?_, by simp, by simp; omega, fun _ => ⟨x, y, hE, rfl⟩⟩
        simp only [Bool.false_eq_true, if_false, if_pos h0, List.cons_append, List.nil_append]
        rw [this]; simp [aOp, tOp]
      · have hz : e.Text = [] := List.length_eq_zero_iff.1 (by omega)
        have := key [aOp e.Addr] (fun o => ([17, x, y], 0)) (by simp) (by simp [aOp, h1]) (by simp)
        refine ⟨[17, x, y], 0, ?_, by simp, by simp, fun _ => ⟨x, y, hE, by rw [hz]⟩⟩
        simp only [Bool.false_eq_true, if_false, if_neg h0, List.append_nil]
        rw [this]; simp
    · by_cases h0 : 0 < e.Text.length
      · have := key [aOp e.Addr, tOp e.Text] (fun o => if o.Kind = 17 then ([], 9) else (e.Text, 0)) (by simp) (by simp [aOp, tOp, h9, text_bytes ht hlen h0]) (by simp [aOp, tOp]; omega)
        refine ⟨[], 9, ?_, by simp, by simp, by simp⟩
        simp only [Bool.false_eq_true, if_false, if_pos h0, List.cons_append, List.nil_append]
        rw [this]; simp [aOp, tOp]
      · have := key [aOp e.Addr] (fun o => ([], 9)) (by simp) (by simp [aOp, h9]) (by simp)
        refine ⟨[], 9, ?_, by simp, by simp, by simp⟩
        simp only [Bool.false_eq_true, if_false, if_neg h0, List.append_nil]
        rw [this]; simp
theorem ent_loop {r : Ventry_Report} (b : Bool) (hl : r.Entries.length ≤ 1000) (hok : EnOk 1000000 r.Entries) : ∀ (k n : Nat) (acc : List Int), n ≤ r.Entries.length → r.Entries.length - n < k → acc.length ≤ 10 + n * 1000003 →
    ∃ y, entry_Bytes_l6 r b k ((n : Int), acc) = some y ∧ (∀ z, y = .inr z → z.2 = 9) ∧
      (∀ q, y = .inl q → if b then q = acc ++ (r.Entries.drop n).flatMap (·.Text) else ∃ rest, Pcs (r.Entries.drop n) rest ∧ q = acc ++ rest)
  | 0, n, acc, _, h, _ => by omega
  | k + 1, n, acc, hn, hk, ha => by
    rw [entry_Bytes_l6.eq_2]
    by_cases hlt : n < r.Entries.length
    · have d1 : decide ((n : Int) < (r.Entries.length : Int)) = true := decide_eq_true (by omega)
      have hr : rd r.Entries (n : Int) = r.Entries[n] := by unfold rd; simp [List.getD_eq_getElem?_getD, hlt]
      have hdr : r.Entries.drop n = r.Entries[n] :: r.Entries.drop (n + 1) := List.drop_eq_getElem_cons hlt
      obtain ⟨ht, htl⟩ := hok _ (List.getElem_mem hlt)
      have ew : w64 ((n : Int) + 1) = ((n + 1 : Nat) : Int) := by rw [w64_small (by omega)]; omega
      obtain ⟨q, er, hq, he1, he2, he3⟩ := piece_bytes (e := r.Entries[n]) b ht htl
      have next := fun (q' : List Int) (hq' : q'.length ≤ 1000003) => ent_loop b hl hok k (n + 1) (acc ++ q') (by omega) (by omega) (by simp; omega)
      simp only [d1, cond_true, gd, hr]
      rw [if_pos (by omega), hdr]
      generalize r.Entries[n] = e at *
      have hops : ((cond (!b) (if (([] : List Vorder_Op).length + [aOp e.Addr].length ≤ 68719476736) then some (([] : List Vorder_Op) ++ [aOp e.Addr]) else none) (some [])).bind fun d9 =>
          (cond (decide ((e.Text.length : Int) > 0)) (if (d9.length + [tOp e.Text].length ≤ 68719476736) then some (d9 ++ [tOp e.Text]) else none) (some d9)).bind fun d10 =>
          (m_order_Bytes d10)) = some (q, er) := by
        rw [← hq]
        by_cases h0 : 0 < e.Text.length
        · have d2 : decide ((e.Text.length : Int) > 0) = true := decide_eq_true (by omega)
          simp only [d2, if_pos h0]
          cases b <;> simp
        · have d2 : decide ((e.Text.length : Int) > 0) = false := decide_eq_false (by omega)
          simp only [d2, if_neg h0]
          cases b <;> simp
      obtain ⟨d9, h9, hops⟩ := bsome hops
      obtain ⟨d10, h10, hops⟩ := bsome hops
      simp only [aOp, tOp] at h9 h10
      rw [h9]
      simp only [Option.bind_some]
      rw [h10]
      simp only [Option.bind_some, hops]
      by_cases h0 : er = 0
      · have : (er != 0) = false := by simp [h0]
        simp only [this, cond_false]
        rw [if_pos (by omega), ew]
        obtain ⟨y, hy, hy1, hy2⟩ := next q he2
        refine ⟨y, hy, hy1, fun z hz => ?_⟩
        have h1 := hy2 z hz
        have h2 := he3 h0
        cases b with
        | true =>
          simp only [if_true] at h1 h2 ⊢
          rw [h1, h2]; simp
        | false =>
          simp only [Bool.false_eq_true, if_false] at h1 h2 ⊢
          obtain ⟨rest, hp, hz'⟩ := h1
          obtain ⟨x, y', hE, hq'⟩ := h2
          exact ⟨_, Pcs.cons hE hp, by rw [hz', hq']; simp⟩
      · have : (er != 0) = true := by simp [h0]
        simp only [this, cond_true]
        exact ⟨_, rfl, (fun z h => by cases h; exact he1 h0), fun z h => by cases h⟩
    · have d1 : decide ((n : Int) < (r.Entries.length : Int)) = false := decide_eq_false (by omega)
      have : r.Entries.drop n = [] := List.drop_eq_nil_of_le (by omega)
      simp only [d1, cond_false, this]
      refine ⟨_, rfl, (fun z h => by cases h), fun q h => ?_⟩
      cases h
      cases b <;> simp
      exact Pcs.nil
/-- a report's bytes; or the address doesn't fit -/
theorem bytes_spec {r : Ventry_Report} (hl : r.Entries.length ≤ 1000) (hok : EnOk 1000000 r.Entries) : ∃ q er, m_entry_Bytes r = some (q, er) ∧ (er ≠ 0 → er = 9) ∧
    (er = 0 → if r.Short then q = [r.AID] else ∃ x y rest, Enc r.Cursor x y ∧ q = r.AID :: x :: y :: rest ∧
      (Pcs r.Entries rest ∨ ∃ t, r.Entries = [⟨0, t⟩] ∧ 0 < t.length ∧ rest = t)) := by
  unfold m_entry_Bytes
  cases hs : r.Short with
  | true => simp only [cond_true]; exact ⟨_, _, rfl, by simp, by simp⟩
  | false =>
    simp only [cond_false]
    rcases enc_cases r.Cursor with ⟨x, y, hE⟩ | h9
    · simp only [hE.enc, Option.bind_some, gd]
      have d0 : ((0 : Int) != 0) = false := rfl
      simp only [d0, cond_false]
      rw [if_pos (by simp)]
      -- is it told alone?
      have alone : ∃ b, ((cond ((r.Entries.length : Int) == 1) (if (0 : Int) ≤ 0 ∧ 0 < (r.Entries.length : Int) then (cond (((rd r.Entries 0).Addr) == 0) (if (0 : Int) ≤ 0 ∧ 0 < (r.Entries.length : Int) then some (decide ((((rd r.Entries 0).Text).length : Int) > 0)) else none) (some false)) else none) (some false)) : Option Bool) = some b ∧
          (b = true → ∃ t, r.Entries = [⟨0, t⟩] ∧ 0 < t.length) := by
        by_cases h1 : r.Entries.length = 1
        · obtain ⟨e, he⟩ : ∃ e, r.Entries = [e] := List.length_eq_one_iff.1 h1
          have hr : rd r.Entries 0 = e := by rw [he]; rfl
          have c1 : ((r.Entries.length : Int) == 1) = true := by simp [h1]
          simp only [c1, cond_true, hr]
          rw [if_pos (by omega)]
          by_cases h2 : e.Addr = 0
          · have c2 : (e.Addr == 0) = true := by simp [h2]
            simp only [c2, cond_true]
            rw [if_pos (by omega)]
            refine ⟨_, rfl, fun hb => ⟨e.Text, ?_, ?_⟩⟩
            · rw [he]; cases e; simp only at h2; subst h2; rfl
            · have := of_decide_eq_true hb; omega
          · have c2 : (e.Addr == 0) = false := by simp [h2]
            simp only [c2, cond_false]
            exact ⟨false, rfl, fun h => by cases h⟩
        · have c1 : ((r.Entries.length : Int) == 1) = false := beq_eq_false_iff_ne.2 (by omega)
          simp only [c1, cond_false]
          exact ⟨false, rfl, fun h => by cases h⟩
      obtain ⟨b, hb, hb2⟩ := alone
      rw [hb]
      simp only [Option.bind_some]
      obtain ⟨z, hz, hz1, hz2⟩ := ent_loop b hl hok fuel 0 ([r.AID] ++ [x, y]) (by omega) (by unfold fuel; omega) (by simp)
      have hz' : entry_Bytes_l6 r b fuel (0, [r.AID] ++ [x, y]) = some z := hz
      rw [hz']
      cases z with
      | inl q =>
        refine ⟨_, _, rfl, by simp, fun _ => ?_⟩
        have h1 := hz2 q rfl
        simp only [Bool.false_eq_true, if_false]
        cases b with
        | true =>
          obtain ⟨t, ht, ht0⟩ := hb2 rfl
          simp only [if_true, List.drop_zero] at h1
          exact ⟨x, y, t, hE, by rw [h1, ht]; simp, .inr ⟨t, ht, ht0, rfl⟩⟩
        | false =>
          simp only [Bool.false_eq_true, if_false, List.drop_zero] at h1
          obtain ⟨rest, hp, hq⟩ := h1
          exact ⟨x, y, rest, hE, by rw [hq]; simp, .inl hp⟩
      | inr z => exact ⟨z.1, z.2, rfl, fun _ => hz1 z rfl, fun h => by have := hz1 z rfl; omega⟩
    · simp only [h9, Option.bind_some]
      exact ⟨[], 9, rfl, by simp, by simp⟩
end Go.Vt
