/- Of the model of EntryWrites: it answers true. No conditions. -/
import Derived.Test.YteebpkekdkkmhaaVpM
set_option linter.unusedVariables false
set_option linter.unusedSimpArgs false
set_option maxRecDepth 100000
namespace Go.Vt
def bad (t : List Int) : Bool := t.any isO
/-- an entry's bytes, or why there are none -/
def eb (al : Bool) (e : Int × List Int) : List Int ⊕ Int :=
  if al = false ∧ ¬(0 ≤ e.1 ∧ e.1 < 4096) then .inr 9 else if bad e.2 then .inr 10 else .inl ((if al then [] else 17 :: adr e.1) ++ e.2)
def fb (al : Bool) : List (Int × List Int) → List Int → List Int × Int
  | [], acc => (acc, 0)
  | e :: r, acc => match eb al e with
    | .inr c => ([], c)
    | .inl b => fb al r (acc ++ b)
theorem txt_of {t : List Int} (hb : Bs t) (h : bad t = false) : Txt t := fun n hn => ⟨hb n hn, by
  unfold bad at h; rw [List.any_eq_false] at h
  have := h n hn; simpa using this⟩
theorem index_any {p : List Int} (hb : Bs p) (hl : p.length ≤ 10000000000) : ∀ (k n : Nat), n ≤ p.length → p.length - n < k →
    (bad (p.drop n) = false ∧ slices_IndexFunc_l2 p k (n : Int) = some (.inl ())) ∨ (bad (p.drop n) = true ∧ ∃ j : Nat, slices_IndexFunc_l2 p k (n : Int) = some (.inr (j : Int)))
  | 0, n, _, h => by omega
  | k + 1, n, hn, hk => by
    rw [slices_IndexFunc_l2.eq_2]
    by_cases hlt : n < p.length
    · have d1 : decide ((n : Int) < (p.length : Int)) = true := decide_eq_true (by omega)
      have hB := hb p[n] (List.getElem_mem hlt)
      have hd : p.drop n = p[n] :: p.drop (n + 1) := List.drop_eq_getElem_cons hlt
      simp only [d1, cond_true]
      rw [gd_pos (by omega), rdn hlt, is_spec hB, w64_succ (by omega)]
      simp only [Option.bind_some]
      have hbd : bad (p.drop n) = (isO p[n] || bad (p.drop (n + 1))) := by rw [hd]; rfl
      rw [hbd]
      cases ho : isO p[n] with
      | true => right; exact ⟨rfl, n, rfl⟩
      | false =>
        simp only [cond_false, Bool.false_or]
        exact index_any hb hl k (n + 1) (by omega) (by omega)
    · have d1 : decide ((n : Int) < (p.length : Int)) = false := decide_eq_false (by omega)
      have : p.drop n = [] := List.drop_eq_nil_of_le (by omega)
      simp only [d1, cond_false, this]
      left; exact ⟨rfl, trivial⟩
theorem text_any {t : List Int} (hb : Bs t) (hl : t.length ≤ 10000000000) (h0 : 0 < t.length) : m_order_Op_Bytes (tOp t) = some (if bad t then ([], 10) else (t, 0)) := by
  have hc : m_slices_ContainsFunc t = some (bad t) := by
    unfold m_slices_ContainsFunc m_slices_IndexFunc
    rcases index_any hb hl fuel 0 (by omega) (by unfold fuel; omega) with ⟨h1, h2⟩ | ⟨h1, j, h2⟩
    · have h2' : slices_IndexFunc_l2 t fuel 0 = some (.inl ()) := h2
      rw [List.drop_zero] at h1
      rw [h2', h1]; rfl
    · have h2' : slices_IndexFunc_l2 t fuel 0 = some (.inr (j : Int)) := h2
      rw [List.drop_zero] at h1
      rw [h2', h1]
      simp only [jn, Option.bind_some]
      have : decide ((j : Int) ≥ 0) = true := decide_eq_true (by omega)
      rw [this]
  have d0 : ((t.length : Int) == 0) = false := beq_f (by omega)
  unfold m_order_Op_Bytes tOp
  simp only [d0, hc, clone_ok (show t.length ≤ 68719476736 by omega)]
  cases bad t <;> rfl
theorem adr_any (a : Int) : (0 ≤ a ∧ a < 4096 ∧ m_order_Op_Bytes (aOp a) = some (17 :: adr a, 0) ∧ (adr a).length = 2) ∨ (¬(0 ≤ a ∧ a < 4096) ∧ m_order_Op_Bytes (aOp a) = some ([], 9)) := by
  by_cases h : 0 ≤ a ∧ a < 4096
  · left
    obtain ⟨n, rfl⟩ : ∃ n : Nat, a = (n : Int) := ⟨a.toNat, by omega⟩
    obtain ⟨x, y, hE, ha⟩ := adr_ok (n := n) (by omega)
    rcases sba_bytes (n : Int) with ⟨x', y', hE', h1⟩ | h9
    · have e : [x, y] = [x', y'] := by
        have h1 := hE.enc; rw [hE'.enc] at h1
        simpa using h1.symm
      refine ⟨h.1, h.2, ?_, by rw [ha]; rfl⟩
      rw [ha, e]; exact h1
    · exfalso
      have : m_order_Op_Bytes (aOp (n : Int)) = some ([], 9) := h9
      have hp : m_order_place 17 (n : Int) = some ([17, x, y], 0) := by
        unfold m_order_place gd
        simp only [hE.enc, Option.bind_some]; rfl
      have ew : IntKind.wrap .u8 17 = 17 := by decide
      unfold m_order_Op_Bytes aOp at this
      simp only [ew, hp] at this
      cases this
  · right
    refine ⟨h, ?_⟩
    have ew : IntKind.wrap .u8 17 = 17 := by decide
    have h9 : m_addr_Encode 12 a = some ([], 9) := by
      rcases enc_cases a with ⟨x, y, hE⟩ | h9
      · exfalso
        have he := hE.enc
        unfold m_addr_Encode gd at he
        by_cases h0 : a < 0
        · have c1 : decide (a < 0) = true := decide_eq_true h0
          simp only [c1] at he; cases he
        · have c1 : decide (a < 0) = false := decide_eq_false h0
          have c2 : decide (a ≥ ishl .i64 1 12) = true := by
            have : ishl .i64 1 12 = 4096 := by decide
            rw [this]; exact decide_eq_true (by omega)
          simp only [c1, c2] at he; cases he
      · exact h9
    have hp : m_order_place 17 a = some ([], 9) := by
      unfold m_order_place gd
      simp only [h9, Option.bind_some]; rfl
    unfold m_order_Op_Bytes aOp
    simp only [ew, hp]; rfl
/-- one entry's pieces as bytes -/
theorem piece_any {a : Int} {t : List Int} (al : Bool) (hb : Bs t) (hl : t.length ≤ 1000) :
    m_order_Bytes ((if al then [] else [aOp a]) ++ (if 0 < t.length then [tOp t] else [])) = some (match eb al (a, t) with | .inr c => ([], c) | .inl b => (b, 0)) := by
  have key : ∀ (l : List Vorder_Op) (f : Vorder_Op → List Int × Int), l.length ≤ 10 → (∀ o ∈ l, m_order_Op_Bytes o = some (f o)) → (∀ o ∈ l, (f o).1.length ≤ 1000000000) →
      m_order_Bytes l = (match l.find? (fun o => (f o).2 != 0) with
        | some o => some ([], (f o).2)
        | none => some (l.flatMap fun o => (f o).1, 0)) := fun l f h1 h2 h3 => by
    unfold m_order_Bytes
    have := bytes_loop h1 h2 h3 fuel 0 [] (by omega) (by unfold fuel; omega) (by simp)
    have h4 : order_Bytes_l2 l fuel (0, []) = _ := this
    rw [h4]
    simp only [List.drop_zero, List.nil_append]
    cases l.find? (fun o => (f o).2 != 0) <;> rfl
  have hbad0 : ∀ {u : List Int}, u = [] → bad u = false := fun e => by rw [e]; rfl
  -- what each piece is
  have hT : 0 < t.length → m_order_Op_Bytes (tOp t) = some (if bad t then ([], 10) else (t, 0)) := fun h => text_any hb (by omega) h
  have hTl : ((if bad t then (([] : List Int), (10 : Int)) else (t, 0)).1).length ≤ 1000000000 := by split <;> simp <;> omega
  have kk : ¬ (tOp t).Kind = 17 := by simp [tOp]
  have ka : (aOp a).Kind = 17 := rfl
  have hlen : ∀ z : List Int × Int, z.1.length ≤ 3 → z.1.length ≤ 1000000000 := fun z h => by omega
  cases al with
  | true =>
    unfold eb
    simp only [Bool.true_eq_false, false_and, if_false, if_true, List.nil_append]
    by_cases h0 : 0 < t.length
    · rw [if_pos h0, key [tOp t] (fun _ => if bad t then ([], 10) else (t, 0)) (by simp) (by simp [hT h0]) (by intro o _; exact hTl)]
      cases bad t <;> simp
    · have hz : t = [] := List.length_eq_zero_iff.1 (by omega)
      rw [if_neg h0, key [] (fun _ => ([], 0)) (by simp) (by simp) (by simp), hbad0 hz, hz]
      simp
  | false =>
    rcases adr_any a with ⟨a1, a2, h1, h1l⟩ | ⟨a1, h1⟩
    · have e : eb false (a, t) = if bad t then .inr 10 else .inl (17 :: adr a ++ t) := by
        unfold eb; rw [if_neg (by simp; omega)]; rfl
      rw [e]
      simp only [Bool.false_eq_true, if_false]
      by_cases h0 : 0 < t.length
      · rw [if_pos h0, key ([aOp a] ++ [tOp t]) (fun o => if o.Kind = 17 then (17 :: adr a, 0) else if bad t then ([], 10) else (t, 0)) (by simp)
          (by intro o ho; simp only [List.mem_append, List.mem_cons, List.not_mem_nil, or_false] at ho; rcases ho with rfl | rfl
              · rw [if_pos ka]; exact h1
              · rw [if_neg kk]; exact hT h0)
          (by intro o ho; simp only [List.mem_append, List.mem_cons, List.not_mem_nil, or_false] at ho; rcases ho with rfl | rfl
              · rw [if_pos ka]; simp [h1l]
              · rw [if_neg kk]; exact hTl)]
        cases hbd : bad t <;> simp [List.find?_cons, ka, kk, hbd]
      · have hz : t = [] := List.length_eq_zero_iff.1 (by omega)
        rw [if_neg h0, List.append_nil, key [aOp a] (fun _ => (17 :: adr a, 0)) (by simp) (by simp [h1]) (by simp [h1l]), hbad0 hz, hz]
        simp
    · have e : eb false (a, t) = .inr 9 := by unfold eb; rw [if_pos ⟨rfl, a1⟩]
      rw [e]
      simp only [Bool.false_eq_true, if_false]
      by_cases h0 : 0 < t.length
      · rw [if_pos h0, key ([aOp a] ++ [tOp t]) (fun o => if o.Kind = 17 then ([], 9) else if bad t then ([], 10) else (t, 0)) (by simp)
          (by intro o ho; simp only [List.mem_append, List.mem_cons, List.not_mem_nil, or_false] at ho; rcases ho with rfl | rfl
              · rw [if_pos ka]; exact h1
              · rw [if_neg kk]; exact hT h0)
          (by intro o ho; simp only [List.mem_append, List.mem_cons, List.not_mem_nil, or_false] at ho; rcases ho with rfl | rfl
              · rw [if_pos ka]; simp
              · rw [if_neg kk]; exact hTl)]
        simp [List.find?_cons, ka]
      · rw [if_neg h0, List.append_nil, key [aOp a] (fun _ => ([], 9)) (by simp) (by simp [h1]) (by simp)]
        simp
theorem eb_len {al : Bool} {e : Int × List Int} {b : List Int} (h : eb al e = .inl b) (hl : e.2.length ≤ 1000) : b.length ≤ 1003 := by
  unfold eb at h
  split at h
  · cases h
  · rename_i h1
    split at h
    · cases h
    · cases h
      cases al with
      | true => simp; omega
      | false =>
        have h2 : 0 ≤ e.1 ∧ e.1 < 4096 := by
          rcases Classical.em (0 ≤ e.1 ∧ e.1 < 4096) with h | h
          · exact h
          · exact absurd ⟨rfl, h⟩ h1
        rcases adr_any e.1 with ⟨_, _, _, hl2⟩ | ⟨h3, _⟩
        · simp [hl2]; omega
        · exact absurd h2 h3
abbrev prE (e : Ventry_Entry) : Int × List Int := (e.Addr, e.Text)
abbrev prR (e : Vvitrineref20_Entry) : Int × List Int := (e.Addr, e.Text)
/-- entries that aren't too great -/
def Sm {τ : Type} (f : τ → Int × List Int) (l : List τ) : Prop := l.length ≤ 6 ∧ ∀ e ∈ l, Bs (f e).2 ∧ (f e).2.length ≤ 30
theorem own_loop {r : Ventry_Report} (al : Bool) (h : Sm prE r.Entries) : ∀ (k n : Nat) (acc : List Int), n ≤ r.Entries.length → r.Entries.length - n < k → acc.length ≤ 10 + n * 1003 →
    entry_Bytes_l6 r al k ((n : Int), acc) = some (match fb al ((r.Entries.drop n).map prE) acc with | (l, c) => if c = 0 then .inl l else .inr ([], c))
  | 0, n, acc, _, hk, _ => by omega
  | k + 1, n, acc, hn, hk, ha => by
    have hl := h.1
    rw [entry_Bytes_l6.eq_2]
    by_cases hlt : n < r.Entries.length
    · have d1 : decide ((n : Int) < (r.Entries.length : Int)) = true := decide_eq_true (by omega)
      have hr : rd r.Entries (n : Int) = r.Entries[n] := rdn hlt
      have hdr : r.Entries.drop n = r.Entries[n] :: r.Entries.drop (n + 1) := List.drop_eq_getElem_cons hlt
      obtain ⟨ht, htl⟩ := h.2 _ (List.getElem_mem hlt)
      have next := own_loop al h k (n + 1)
      simp only [d1, cond_true]
      rw [gd_pos (by omega), hr, hdr, w64_succ (by omega)]
      generalize r.Entries[n] = e at *
      have hq := piece_any (a := e.Addr) (t := e.Text) al ht (by simp only [prE] at htl; omega)
      have hops : ((cond (!al) (gd (([] : List Vorder_Op).length + [aOp e.Addr].length ≤ 68719476736) <| some (([] : List Vorder_Op) ++ [aOp e.Addr])) (some [])).bind fun d9 =>
          (cond (decide ((e.Text.length : Int) > 0)) (gd (d9.length + [tOp e.Text].length ≤ 68719476736) <| some (d9 ++ [tOp e.Text])) (some d9)).bind fun d10 =>
          (m_order_Bytes d10)) = some (match eb al (e.Addr, e.Text) with | .inr c => ([], c) | .inl b => (b, 0)) := by
        rw [← hq]
        by_cases h0 : 0 < e.Text.length
        · have d2 : decide ((e.Text.length : Int) > 0) = true := decide_eq_true (by omega)
          simp only [d2, if_pos h0, gd]
          cases al <;> simp
        · have d2 : decide ((e.Text.length : Int) > 0) = false := decide_eq_false (by omega)
          simp only [d2, if_neg h0, gd]
          cases al <;> simp
      obtain ⟨d9, h9, hops⟩ := bsome hops
      obtain ⟨d10, h10, hops⟩ := bsome hops
      simp only [aOp, tOp] at h9 h10
      rw [h9]
      simp only [Option.bind_some]
      rw [h10]
      simp only [Option.bind_some, hops, List.map_cons, fb]
      cases hE : eb al (e.Addr, e.Text) with
      | inr c =>
        have hc : c ≠ 0 := by
          unfold eb at hE; split at hE
          · cases hE; omega
          · split at hE
            · cases hE; omega
            · cases hE
        simp only [bne_t hc, cond_true, if_neg hc]; rfl
      | inl b =>
        have hbl := eb_len hE (by simp only [prE] at htl ⊢; omega)
        have e0 : ((0 : Int) != 0) = false := rfl
        simp only [e0, cond_false]
        rw [gd_pos (by omega)]
        exact next (acc ++ b) (by omega) (by omega) (by simp; omega)
    · have d1 : decide ((n : Int) < (r.Entries.length : Int)) = false := decide_eq_false (by omega)
      have : r.Entries.drop n = [] := List.drop_eq_nil_of_le (by omega)
      simp only [d1, cond_false, this]; rfl
/-- is one entry told alone, without its address? -/
def alone (l : List (Int × List Int)) : Bool := match l with
  | [e] => e.1 == 0 && decide (0 < e.2.length)
  | _ => false
def rb (aid : Int) (sh : Bool) (cur : Int) (l : List (Int × List Int)) : List Int × Int :=
  if sh then ([aid], 0) else if 0 ≤ cur ∧ cur < 4096 then fb (alone l) l (aid :: adr cur) else ([], 9)
theorem fb_zero {al : Bool} : ∀ {l : List (Int × List Int)} {acc : List Int}, (fb al l acc).2 ≠ 0 → (fb al l acc).1 = []
  | [], acc, h => by simp [fb] at h
  | e :: r, acc, h => by
    simp only [fb] at h ⊢
    cases he : eb al e with
    | inr c => rfl
    | inl b => rw [he] at h; exact fb_zero h
theorem enc_bad {a : Int} (h : ¬(0 ≤ a ∧ a < 4096)) : m_addr_Encode 12 a = some ([], 9) ∧ m_vitrineref04_Encode 12 a = some ([], 9) := by
  constructor
  · unfold m_addr_Encode gd
    by_cases h0 : a < 0
    · have c1 : decide (a < 0) = true := decide_eq_true h0
      simp only [c1]; rfl
    · have c1 : decide (a < 0) = false := decide_eq_false h0
      have c2 : decide (a ≥ ishl .i64 1 12) = true := by
        have : ishl .i64 1 12 = 4096 := by decide
        rw [this]; exact decide_eq_true (by omega)
      simp only [c1, c2]; rfl
  · unfold m_vitrineref04_Encode
    have k1 : ((12 : Int) == 12) = true := rfl
    by_cases h0 : a < 0
    · have c1 : decide (a < 0) = true := decide_eq_true h0
      simp only [k1, cond_true, jn, c1, Option.bind_some]
    · have c1 : decide (a < 0) = false := decide_eq_false h0
      have c2 : decide (a > 4095) = true := decide_eq_true (by omega)
      simp only [k1, cond_true, jn, c1, c2, cond_false, Option.bind_some]
theorem own_bytes {r : Ventry_Report} (h : Sm prE r.Entries) : m_entry_Bytes r = some (rb r.AID r.Short r.Cursor (r.Entries.map prE)) := by
  unfold m_entry_Bytes rb
  cases hs : r.Short with
  | true => simp only [cond_true, if_true]
  | false =>
    simp only [cond_false, Bool.false_eq_true, if_false]
    by_cases hc : 0 ≤ r.Cursor ∧ r.Cursor < 4096
    · obtain ⟨n, hn⟩ : ∃ n : Nat, r.Cursor = (n : Int) := ⟨r.Cursor.toNat, by omega⟩
      obtain ⟨h1, _, h3⟩ := enc_adr (n := n) (by omega)
      have e0 : ((0 : Int) != 0) = false := rfl
      rw [hn] at hc ⊢
      rw [if_pos hc]
      simp only [h1, Option.bind_some, e0, cond_false]
      rw [gd_pos (by simp [h3])]
      have hal : ((cond ((r.Entries.length : Int) == 1) (gd ((0 : Int) ≤ 0 ∧ 0 < (r.Entries.length : Int)) <| (cond (((rd r.Entries 0).Addr) == 0) (gd ((0 : Int) ≤ 0 ∧ 0 < (r.Entries.length : Int)) <| some (decide ((((rd r.Entries 0).Text).length : Int) > 0))) (some false))) (some false)) : Option Bool) = some (alone (r.Entries.map prE)) := by
        match hE : r.Entries with
        | [] => rfl
        | [e] =>
          have r0 : rd [e] 0 = e := rfl
          have k1 : ((([e] : List Ventry_Entry).length : Int) == 1) = true := rfl
          simp only [k1, cond_true, r0]
          rw [gd_pos (by simp), gd_pos (by simp)]
          simp only [alone, List.map_cons, List.map_nil, prE]
          cases he : (e.Addr == 0) with
          | true =>
            simp only [cond_true, Bool.true_and]
            congr 1
            rw [decide_eq_decide]; omega
          | false => rfl
        | e :: f :: l =>
          have k1 : (((e :: f :: l).length : Int) == 1) = false := beq_f (by simp; omega)
          simp only [k1, cond_false]; rfl
      rw [hal]
      simp only [Option.bind_some]
      have hl := own_loop (alone (r.Entries.map prE)) h fuel 0 ([r.AID] ++ adr (n : Int)) (by omega) (by unfold fuel; have := h.1; omega) (by simp [h3])
      have hl' : entry_Bytes_l6 r (alone (r.Entries.map prE)) fuel (0, [r.AID] ++ adr (n : Int)) = _ := hl
      rw [hl']
      simp only [List.drop_zero]
      have hz := fb_zero (al := alone (r.Entries.map prE)) (l := r.Entries.map prE) (acc := r.AID :: adr (n : Int))
      have e : [r.AID] ++ adr (n : Int) = r.AID :: adr (n : Int) := rfl
      rw [e]
      cases hf : fb (alone (r.Entries.map prE)) (r.Entries.map prE) (r.AID :: adr (n : Int)) with
      | mk l c =>
        rw [hf] at hz
        by_cases h0 : c = 0
        · subst h0; rfl
        · simp only [if_neg h0, jn]
          have hzz : l = [] := hz h0
          rw [hzz]
    · rw [if_neg hc]
      have e9 : ((9 : Int) != 0) = true := rfl
      simp only [(enc_bad hc).1, Option.bind_some, e9, cond_true]
/-! ### the document's -/
theorem is_loop {r : Vvitrineref20_Report} {x : Int × List Int} {t : List Int} (hx : (rd r.Entries x.1).Text = t) (hb : Bs t) (hl : t.length ≤ 1000) : ∀ (k n : Nat), n ≤ t.length → t.length - n < k →
    vitrineref20_Bytes_l13 r x k (n : Int) = some (if bad (t.drop n) then .inr (.inr (.inr ([], 10))) else .inl ())
  | 0, n, _, h => by omega
  | k + 1, n, hn, hk => by
    rw [vitrineref20_Bytes_l13.eq_2, hx]
    by_cases hlt : n < t.length
    · have d1 : decide ((n : Int) < (t.length : Int)) = true := decide_eq_true (by omega)
      have hB := hb t[n] (List.getElem_mem hlt)
      have hd : t.drop n = t[n] :: t.drop (n + 1) := List.drop_eq_getElem_cons hlt
      simp only [d1, cond_true]
      rw [gd_pos (by omega), rdn hlt, is16 hB, w64_succ (by omega)]
      simp only [Option.bind_some]
      have hbd : bad (t.drop n) = (isO t[n] || bad (t.drop (n + 1))) := by rw [hd]; rfl
      rw [hbd]
      cases ho : isO t[n] with
      | true => rfl
      | false =>
        simp only [cond_false, Bool.false_or]
        exact is_loop hx hb hl k (n + 1) (by omega) (by omega)
    · have d1 : decide ((n : Int) < (t.length : Int)) = false := decide_eq_false (by omega)
      have : t.drop n = [] := List.drop_eq_nil_of_le (by omega)
      simp only [d1, cond_false, this]; rfl
theorem ref_loop {r : Vvitrineref20_Report} (h : Sm prR r.Entries) : ∀ (k n : Nat) (acc : List Int), n ≤ r.Entries.length → r.Entries.length - n < k → acc.length ≤ 10 + n * 1003 →
    vitrineref20_Bytes_l5 r k ((n : Int), acc) = some (match fb (alone (r.Entries.map prR)) ((r.Entries.drop n).map prR) acc with | (l, c) => if c = 0 then .inl l else .inr ([], c))
  | 0, n, acc, _, hk, _ => by omega
  | k + 1, n, acc, hn, hk, ha => by
    have hl := h.1
    rw [vitrineref20_Bytes_l5.eq_2]
    by_cases hlt : n < r.Entries.length
    · have d1 : decide ((n : Int) < (r.Entries.length : Int)) = true := decide_eq_true (by omega)
      have hr : rd r.Entries (n : Int) = r.Entries[n] := rdn hlt
      have hdr : r.Entries.drop n = r.Entries[n] :: r.Entries.drop (n + 1) := List.drop_eq_getElem_cons hlt
      obtain ⟨ht, htl⟩ := h.2 _ (List.getElem_mem hlt)
      have next := ref_loop h k (n + 1)
      have hal : ((cond (decide ((r.Entries.length : Int) > 1)) (some true) (cond (((r.Entries[n]).Addr) != 0) (some true) (some ((((r.Entries[n]).Text).length : Int) == 0)))) : Option Bool) = some (!alone (r.Entries.map prR)) := by
        by_cases h1 : r.Entries.length = 1
        · have hd : decide ((r.Entries.length : Int) > 1) = false := decide_eq_false (by omega)
          obtain ⟨e, he⟩ : ∃ e, r.Entries = [e] := List.length_eq_one_iff.1 h1
          have hn0 : n = 0 := by omega
          subst hn0
          have hen : r.Entries[0] = e := by simp [he]
          rw [hd, hen, he]
          simp only [cond_false, alone, List.map_cons, List.map_nil, prR]
          by_cases ha0 : e.Addr = 0
          · simp only [bne_f ha0, beq_t ha0, cond_false, Bool.true_and]
            congr 1
            by_cases ht0 : e.Text.length = 0
            · rw [beq_t (by omega), decide_eq_false (by omega)]; rfl
            · rw [beq_f (by omega), decide_eq_true (by omega)]; rfl
          · simp only [bne_t ha0, beq_f ha0, cond_true, Bool.false_and, Bool.not_false]
        · have hd : decide ((r.Entries.length : Int) > 1) = true := decide_eq_true (by omega)
          rw [hd]
          have : alone (r.Entries.map prR) = false := by
            match hE : r.Entries, h1, hlt with
            | e :: f :: l, _, _ => rfl
          rw [this]; rfl
      have hil := is_loop (r := r) (x := ((n : Int), acc)) (t := r.Entries[n].Text) (by simp only [hr]) ht (by simp only [prR] at htl; omega) fuel 0 (by omega) (by unfold fuel; simp only [prR] at htl; omega)
      have hil' : vitrineref20_Bytes_l13 r ((n : Int), acc) fuel 0 = _ := hil
      rw [List.drop_zero] at hil'
      simp only [d1, cond_true]
      rw [gd_pos (by omega), hr, hdr]
      generalize alone (r.Entries.map prR) = al at hal next ⊢
      generalize r.Entries[n] = e at *
      rw [hal]
      simp only [Option.bind_some, List.map_cons, fb, hil']
      have ht' : Bs e.Text := ht
      have htl' : e.Text.length ≤ 30 := htl
      have eb_e : eb al (prR e) = if al = false ∧ ¬(0 ≤ e.Addr ∧ e.Addr < 4096) then .inr 9 else if bad e.Text then .inr 10 else .inl ((if al then [] else 17 :: adr e.Addr) ++ e.Text) := rfl
      rw [eb_e]
      cases al with
      | true =>
        simp only [Bool.not_true, cond_false, Bool.true_eq_false, false_and, if_false, if_true, List.nil_append, jn]
        cases hbd : bad e.Text with
        | true => simp only [if_true]; rfl
        | false =>
          simp only [Bool.false_eq_true, if_false]
          rw [gd_pos (by omega), w64_succ (by omega)]
          exact next (acc ++ e.Text) (by omega) (by omega) (by simp; omega)
      | false =>
        simp only [Bool.not_false, cond_true, true_and]
        by_cases ha2 : 0 ≤ e.Addr ∧ e.Addr < 4096
        · obtain ⟨q, hq⟩ : ∃ q : Nat, e.Addr = (q : Int) := ⟨e.Addr.toNat, by omega⟩
          obtain ⟨_, g2, g3⟩ := enc_adr (n := q) (by omega)
          have e0 : ((0 : Int) != 0) = false := rfl
          have hnn : ¬ ¬(0 ≤ e.Addr ∧ e.Addr < 4096) := fun h => h ha2
          rw [if_neg hnn, hq, g2]
          simp only [Option.bind_some, e0, cond_false]
          rw [gd_pos (by simp; omega), gd_pos (by simp [g3]; omega)]
          simp only [jn]
          cases hbd : bad e.Text with
          | true => simp only [if_true]; rfl
          | false =>
            simp only [Bool.false_eq_true, if_false]
            rw [gd_pos (by simp [g3]; omega), w64_succ (by omega)]
            have e3 : acc ++ [17] ++ adr (q : Int) ++ e.Text = acc ++ (17 :: adr (q : Int) ++ e.Text) := by simp
            rw [e3]
            exact next (acc ++ (17 :: adr (q : Int) ++ e.Text)) (by omega) (by omega) (by simp [g3]; omega)
        · have e9 : ((9 : Int) != 0) = true := rfl
          rw [if_pos ha2, (enc_bad ha2).2]
          simp only [Option.bind_some, e9, cond_true]; rfl
    · have d1 : decide ((n : Int) < (r.Entries.length : Int)) = false := decide_eq_false (by omega)
      have : r.Entries.drop n = [] := List.drop_eq_nil_of_le (by omega)
      simp only [d1, cond_false, this]; rfl
theorem ref_bytes {r : Vvitrineref20_Report} (h : Sm prR r.Entries) : m_vitrineref20_Bytes r = some (rb r.AID r.Short r.Cursor (r.Entries.map prR)) := by
  unfold m_vitrineref20_Bytes rb
  cases hs : r.Short with
  | true => simp only [cond_true, if_true]
  | false =>
    simp only [cond_false, Bool.false_eq_true, if_false]
    by_cases hc : 0 ≤ r.Cursor ∧ r.Cursor < 4096
    · obtain ⟨n, hn⟩ : ∃ n : Nat, r.Cursor = (n : Int) := ⟨r.Cursor.toNat, by omega⟩
      obtain ⟨_, h1, h3⟩ := enc_adr (n := n) (by omega)
      have e0 : ((0 : Int) != 0) = false := rfl
      rw [hn] at hc ⊢
      rw [if_pos hc]
      simp only [h1, Option.bind_some, e0, cond_false]
      rw [gd_pos (by simp [h3])]
      have hl := ref_loop h fuel 0 ([r.AID] ++ adr (n : Int)) (by omega) (by unfold fuel; have := h.1; omega) (by simp [h3])
      have hl' : vitrineref20_Bytes_l5 r fuel (0, [r.AID] ++ adr (n : Int)) = _ := hl
      rw [hl']
      simp only [List.drop_zero]
      have hz := fb_zero (al := alone (r.Entries.map prR)) (l := r.Entries.map prR) (acc := r.AID :: adr (n : Int))
      have e : [r.AID] ++ adr (n : Int) = r.AID :: adr (n : Int) := rfl
      rw [e]
      cases hf : fb (alone (r.Entries.map prR)) (r.Entries.map prR) (r.AID :: adr (n : Int)) with
      | mk l c =>
        rw [hf] at hz
        by_cases h0 : c = 0
        · subst h0; rfl
        · simp only [if_neg h0, jn]
          have hzz : l = [] := hz h0
          rw [hzz]
    · rw [if_neg hc]
      have e9 : ((9 : Int) != 0) = true := rfl
      simp only [(enc_bad hc).2, Option.bind_some, e9, cond_true]
/-! ### what was told is parsed again -/
theorem fb_ok {al : Bool} : ∀ {l : List Ventry_Entry} {acc : List Int}, (∀ e ∈ l, Bs e.Text) → (fb al (l.map prE) acc).2 = 0 →
    (∀ e ∈ l, Txt e.Text) ∧ ∃ rest, (fb al (l.map prE) acc).1 = acc ++ rest ∧ (al = false → Pcs l rest) ∧ (al = true → rest = l.flatMap (·.Text))
  | [], acc, _, _ => ⟨(fun e he => by cases he), [], by simp [fb], fun _ => Pcs.nil, fun _ => rfl⟩
  | e :: l, acc, hb, h => by
    simp only [List.map_cons, fb] at h ⊢
    cases hE : eb al (prE e) with
    | inr c =>
      rw [hE] at h
      simp only at h
      exfalso
      unfold eb at hE; split at hE
      · cases hE; omega
      · split at hE
        · cases hE; omega
        · cases hE
    | inl b =>
      rw [hE] at h
      simp only at h ⊢
      obtain ⟨h1, rest, h2, h3, h4⟩ := fb_ok (fun f hf => hb f (.tail _ hf)) h
      unfold eb at hE
      split at hE
      · cases hE
      · rename_i hA
        split at hE
        · cases hE
        · rename_i hB
          have hT : Txt e.Text := txt_of (hb e (.head _)) (by simpa using hB)
          cases hE
          refine ⟨fun f hf => ?_, (if al then [] else 17 :: adr e.Addr) ++ e.Text ++ rest, by rw [h2]; simp only [prE, List.append_assoc], fun ha => ?_, fun ha => ?_⟩
          · cases hf with
            | head => exact hT
            | tail _ hf => exact h1 f hf
          · subst ha
            have h5 : 0 ≤ e.Addr ∧ e.Addr < 4096 := by
              rcases Classical.em (0 ≤ e.Addr ∧ e.Addr < 4096) with h | h
              · exact h
              · exact absurd ⟨rfl, h⟩ hA
            obtain ⟨n, hn⟩ : ∃ n : Nat, e.Addr = (n : Int) := ⟨e.Addr.toNat, by omega⟩
            obtain ⟨f1, f2⟩ := adr_rd (n := n) (by omega)
            have := Pcs.cons (e := e) (es := l) (x := rd (adr n) 0) (y := rd (adr n) 1) (rest := rest) (by rw [hn]; exact f1) (h3 rfl)
            simp only [Bool.false_eq_true, if_false]
            rw [hn, f2]
            simpa using this
          · subst ha
            simp only [if_true, List.nil_append, List.flatMap_cons, h4 rfl]
theorem cut30 {p : List Int} (hb : Bs p) (hl : p.length ≤ 9223372036854775807) : m_vitrineref01_Cut p 30 = some (p.take 30) := by
  unfold m_vitrineref01_Cut m_vitrineref01_Copy gd
  by_cases h : p.length > 30
  · have d1 : decide ((p.length : Int) > 30) = true := decide_eq_true (by omega)
    simp only [d1, cond_true]
    rw [if_pos (by omega)]
    have h4 : Int.toNat 30 = 30 := rfl
    simp only [Option.bind_some, List.nil_append, h4]
    rw [if_pos (by simp; omega)]; rfl
  · have d1 : decide ((p.length : Int) > 30) = false := decide_eq_false (by omega)
    simp only [d1, cond_false, Option.bind_some, List.nil_append]
    rw [if_pos (by simp; omega), List.take_of_length_le (by omega)]; rfl
abbrev cutR (e : Vvitrineref20_Entry) : Vvitrineref20_Entry := ⟨e.Addr, e.Text.take 30⟩
def few (l : List Vvitrineref20_Entry) : List Vvitrineref20_Entry := (l.take 6).map cutR
structure ROk (r : Vvitrineref20_Report) : Prop where
  len : r.Entries.length ≤ 9223372036854775807
  ok : ∀ e ∈ r.Entries, Bs e.Text ∧ e.Text.length ≤ 9223372036854775807
theorem few_loop {r : Vvitrineref20_Report} (h : ROk r) : vitrinelaw20_EntryWrites_l4 r fuel (0, []) = some (few r.Entries) := by
  have hl := h.len
  have key := loop_rel0 (L := vitrinelaw20_EntryWrites_l4 r) (n := r.Entries.length) (s := ([] : List Vvitrineref20_Entry)) (fun i y => y = (r.Entries.take (min i 6)).map cutR) (fun z => z = few r.Entries) (by omega) ?_ ?_ rfl
  · obtain ⟨z, h1, h2⟩ := key; rw [h1, h2]
  · rintro k i y hi rfl
    have d1 : decide ((i : Int) < (r.Entries.length : Int)) = true := decide_eq_true (by omega)
    obtain ⟨ht, htl⟩ := h.ok _ (List.getElem_mem hi)
    rw [vitrinelaw20_EntryWrites_l4.eq_2]
    simp only [d1, cond_true]
    rw [gd_pos (by omega), rdn hi, w64_succ (by omega)]
    by_cases h6 : i < 6
    · have d2 : decide ((i : Int) < 6) = true := decide_eq_true (by omega)
      have e1 : min i 6 = i := by omega
      have e2 : min (i + 1) 6 = i + 1 := by omega
      simp only [d2, cond_true, cut30 ht htl, Option.bind_some]
      rw [gd_pos (by rw [e1]; simp; omega)]
      exact ⟨_, rfl, by rw [e1, e2, List.take_succ_eq_append_getElem hi, List.map_append]; rfl⟩
    · have d2 : decide ((i : Int) < 6) = false := decide_eq_false (by omega)
      have e1 : min i 6 = 6 := by omega
      have e2 : min (i + 1) 6 = 6 := by omega
      simp only [d2, cond_false, Option.bind_some]
      exact ⟨_, rfl, by rw [e1, e2]⟩
  · rintro k y rfl
    have d1 : decide ((r.Entries.length : Int) < (r.Entries.length : Int)) = false := decide_eq_false (by omega)
    rw [vitrinelaw20_EntryWrites_l4.eq_2]
    simp only [d1, cond_false]
    refine ⟨_, rfl, ?_⟩
    unfold few
    congr 1
    by_cases h6 : r.Entries.length ≤ 6
    · rw [Nat.min_eq_left h6, List.take_of_length_le (Nat.le_refl _), List.take_of_length_le h6]
    · rw [Nat.min_eq_right (by omega)]
abbrev ownE (e : Vvitrineref20_Entry) : Ventry_Entry := ⟨e.Addr, e.Text⟩
theorem own_ok {r : Vvitrineref20_Report} (h : Sm prR r.Entries) : m_vitrinelaw20_own r = some ⟨r.AID, r.Short, r.Cursor, r.Entries.map ownE⟩ := by
  have hl := h.1
  have key := loop_rel0 (L := vitrinelaw20_own_l2 r) (n := r.Entries.length) (s := ([] : List Ventry_Entry)) (fun i y => y = (r.Entries.take i).map ownE) (fun z => z = r.Entries.map ownE) (by omega) ?_ ?_ rfl
  · obtain ⟨z, h1, h2⟩ := key; unfold m_vitrinelaw20_own; rw [h1, h2]; rfl
  · rintro k i y hi rfl
    have d1 : decide ((i : Int) < (r.Entries.length : Int)) = true := decide_eq_true (by omega)
    obtain ⟨ht, htl⟩ := h.2 _ (List.getElem_mem hi)
    have hcp : m_vitrineref01_Copy r.Entries[i].Text = some r.Entries[i].Text := by
      unfold m_vitrineref01_Copy
      rw [gd_pos (by simp; simp only [prR] at htl; omega)]; rfl
    rw [vitrinelaw20_own_l2.eq_2]
    simp only [d1, cond_true]
    rw [gd_pos (by omega), rdn hi, w64_succ (by omega)]
    simp only [hcp, Option.bind_some]
    rw [gd_pos (by simp; omega)]
    exact ⟨_, rfl, by rw [List.take_succ_eq_append_getElem hi, List.map_append]; rfl⟩
  · rintro k y rfl
    have d1 : decide ((r.Entries.length : Int) < (r.Entries.length : Int)) = false := decide_eq_false (by omega)
    rw [vitrinelaw20_own_l2.eq_2]
    simp only [d1, cond_false]
    exact ⟨_, rfl, by rw [List.take_of_length_le (Nat.le_refl _)]⟩
theorem few_sm {r : Vvitrineref20_Report} (h : ROk r) : Sm prR (few r.Entries) := by
  refine ⟨by unfold few; simp; omega, fun e he => ?_⟩
  unfold few at he
  obtain ⟨f, hf, rfl⟩ := List.mem_map.1 he
  obtain ⟨h1, h2⟩ := h.ok f (List.mem_of_mem_take hf)
  exact ⟨h1.take 30, by simp [prR, cutR]; omega⟩
theorem alone_one {l : List Ventry_Entry} (h : alone (l.map prE) = true) : ∃ t, l = [⟨0, t⟩] ∧ 0 < t.length := by
  match l, h with
  | [e], h =>
    simp only [alone, List.map_cons, List.map_nil, prE, Bool.and_eq_true, beq_iff_eq, decide_eq_true_eq] at h
    exact ⟨e.Text, by cases e; simp_all, h.2⟩
/-- THE LAW -/
theorem entryWrites_true (r : Vvitrineref20_Report) (h : ROk r) : m_vitrinelaw20_EntryWrites r = some true := by
  have hsm := few_sm h
  have hfl := few_loop h
  unfold m_vitrinelaw20_EntryWrites
  simp only [awake_ok, Option.bind_some, Bool.not_true, cond_false, hfl]
  have hown := own_ok (r := { r with Entries := few r.Entries }) hsm
  have hmp : ((few r.Entries).map ownE).map prE = (few r.Entries).map prR := by rw [List.map_map]; rfl
  have hsm2 : Sm prE ((few r.Entries).map ownE) := by
    refine ⟨by rw [List.length_map]; exact hsm.1, fun e he => ?_⟩
    obtain ⟨f, hf, rfl⟩ := List.mem_map.1 he
    exact hsm.2 f hf
  have hb1 := own_bytes (r := ⟨r.AID, r.Short, r.Cursor, (few r.Entries).map ownE⟩) hsm2
  have hb2 := ref_bytes (r := { r with Entries := few r.Entries }) hsm
  simp only [hmp] at hb1
  rw [hown]
  simp only [Option.bind_some]
  rw [hb1]
  simp only [Option.bind_some]
  rw [hb2]
  simp only [Option.bind_some, same_refl', Bool.not_true, cond_false]
  have hne : ((rb r.AID r.Short r.Cursor ((few r.Entries).map prR)).2 != (rb r.AID r.Short r.Cursor ((few r.Entries).map prR)).2) = false := by simp
  simp only [hne, cond_false]
  by_cases hc : (rb r.AID r.Short r.Cursor ((few r.Entries).map prR)).2 = 0
  · simp only [bne_f hc, cond_false]
    have e1 : ((0 : Int) == 0) = true := rfl
    cases hs : r.Short with
    | true =>
      have hrb : (rb r.AID true r.Cursor ((few r.Entries).map prR)).1 = [r.AID] := by simp [rb]
      rw [hrb, parse_one]
      simp only [Option.bind_some, cond_true, e1]
      rw [back_ok (by simp)]
      simp only [Option.bind_some, List.map_nil]
      have := same2_refl (b := ⟨r.AID, true, 0, []⟩) (by simp)
      simp only [this, Option.bind_some]
    | false =>
      rw [hs] at hc
      unfold rb at hc ⊢
      simp only [Bool.false_eq_true, if_false] at hc ⊢
      by_cases hcur : 0 ≤ r.Cursor ∧ r.Cursor < 4096
      · rw [if_pos hcur] at hc ⊢
        rw [← hmp] at hc ⊢
        obtain ⟨h1, rest, h2, h3, h4⟩ := fb_ok (fun e he => (hsm2.2 e he).1) hc
        rw [h2]
        obtain ⟨n, hn⟩ : ∃ n : Nat, r.Cursor = (n : Int) := ⟨r.Cursor.toNat, by omega⟩
        obtain ⟨f1, f2⟩ := adr_rd (n := n) (by omega)
        have hen : EnOk 1000000 ((few r.Entries).map ownE) := fun e he => ⟨h1 e he, by have := (hsm2.2 e he).2; simp only [prE] at this; omega⟩
        have hpcs : Pcs ((few r.Entries).map ownE) rest ∨ ∃ t, ((few r.Entries).map ownE) = [⟨0, t⟩] ∧ 0 < t.length ∧ rest = t := by
          cases hal : alone (((few r.Entries).map ownE).map prE) with
          | false => exact .inl (h3 hal)
          | true =>
            obtain ⟨t, ht, ht0⟩ := alone_one hal
            exact .inr ⟨t, ht, ht0, by rw [h4 hal, ht]; simp⟩
        have hre := reparse (r := ⟨r.AID, false, r.Cursor, (few r.Entries).map ownE⟩) (x := rd (adr n) 0) (y := rd (adr n) 1) (rest := rest) rfl (by have := hsm2.1; simp only; omega) hen (by rw [hn]; exact f1) hpcs
        have hq : r.AID :: adr r.Cursor ++ rest = r.AID :: rd (adr n) 0 :: rd (adr n) 1 :: rest := by
          rw [hn, f2]
          have r0 : rd [rd (adr (n : Int)) 0, rd (adr (n : Int)) 1] 0 = rd (adr (n : Int)) 0 := rfl
          have r1 : rd [rd (adr (n : Int)) 0, rd (adr (n : Int)) 1] 1 = rd (adr (n : Int)) 1 := rfl
          rw [r0, r1]; rfl
        rw [hq, hre]
        simp only [Option.bind_some, cond_false, e1, cond_true]
        rw [back_ok (by simp only [List.length_map]; have := hsm.1; omega)]
        simp only [Option.bind_some]
        have hmm : ((few r.Entries).map ownE).map mkE = few r.Entries := by rw [List.map_map]; exact (List.map_congr_left (fun e _ => rfl)).trans (List.map_id _)
        rw [hmm]
        have := same2_refl (b := ⟨r.AID, false, r.Cursor, few r.Entries⟩) (by have := hsm.1; simp only; omega)
        simp only [this, Option.bind_some]
      · rw [if_neg hcur] at hc
        cases hc
  · simp only [bne_t hc, cond_true]
end Go.Vt
