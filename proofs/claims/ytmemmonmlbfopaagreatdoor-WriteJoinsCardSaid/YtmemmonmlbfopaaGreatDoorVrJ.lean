/- The scanner of orders answers, and what it leaves is shorter. No conditions. -/
import Derived.Test.YtmemmonmlbfopaaGreatDoorVrI
set_option linter.unusedVariables false
set_option linter.unusedSimpArgs false
set_option maxRecDepth 100000
namespace Go.Vt
theorem name_tot (n : Int) : Tot (m_order_Name n) fun _ => True := by
  unfold m_order_Name
  repeat' first | exact tot_some trivial | refine tot_cond (fun _ => ?_) (fun _ => ?_)
theorem is_tot (n : Int) : Tot (m_order_Is n) fun _ => True := by
  unfold m_order_Is
  exact tot_bind (P := fun _ => True) (tot_cond (fun _ => tot_bind (name_tot _) fun _ _ => tot_some trivial) fun _ => tot_some trivial) fun _ _ => tot_some trivial
theorem bs_drop {p : List Int} (h : Bs p) (n : Nat) : Bs (p.drop n) := fun x hx => h x (List.mem_of_mem_drop hx)
theorem bs_take {p : List Int} (h : Bs p) (n : Nat) : Bs (p.take n) := fun x hx => h x (List.mem_of_mem_take hx)
theorem bs_rep (n : Nat) : Bs (List.replicate n 0) := fun x hx => by rw [(List.mem_replicate.1 hx).2]; exact by0
theorem bs_nil : Bs ([] : List Int) := fun x hx => by cases hx
theorem fail_ok (sc : Vorder_scanner) (e : Int) : m_order_scanner_fail sc e = some ⟨sc.p, if sc.code = 0 then e else sc.code⟩ := by
  unfold m_order_scanner_fail
  by_cases h : sc.code = 0
  · simp [h]
  · have : (sc.code == 0) = false := beq_f h
    simp [this, h]
/-- what a step of the scanner leaves -/
structure TkOk (sc : Vorder_scanner) (n : Nat) (sc' : Vorder_scanner) : Prop where
  bs : Bs sc'.p
  le : sc'.p.length ≤ sc.p.length
  eq : sc'.code = 0 → sc'.p.length + n ≤ sc.p.length
theorem TkOk.trans {a b c : Vorder_scanner} {n k : Nat} (h1 : TkOk a n b) (h2 : TkOk b k c) (hz : c.code = 0 → b.code = 0) : TkOk a (n + k) c :=
  ⟨h2.bs, Nat.le_trans h2.le h1.le, fun e => by have := h2.eq e; have := h1.eq (hz e); omega⟩
theorem TkOk.less {a b : Vorder_scanner} {n k : Nat} (h : TkOk a n b) (hk : k ≤ n) : TkOk a k b := ⟨h.bs, h.le, fun e => by have := h.eq e; omega⟩
theorem TkOk.fail {a b : Vorder_scanner} {n : Nat} (h : TkOk a n b) {e : Int} (he : e ≠ 0) : TkOk a n ⟨b.p, if b.code = 0 then e else b.code⟩ ∧ ((if b.code = 0 then e else b.code) = 0 → b.code = 0) := by
  refine ⟨⟨h.bs, h.le, fun h2 => ?_⟩, fun h2 => ?_⟩
  · simp only at h2
    split at h2
    · exact absurd h2 he
    · rename_i h3; exact absurd h2 h3
  · split at h2
    · exact absurd h2 he
    · rename_i h3; exact absurd h2 h3
theorem take_tot {sc : Vorder_scanner} (hb : Bs sc.p) (n : Nat) (hn : n ≤ 68719476736) : Tot (m_order_scanner_take sc (n : Int)) fun r => TkOk sc n r.1 ∧ (r.1.code = 0 → sc.code = 0) ∧ r.2.length = n ∧ Bs r.2 := by
  unfold m_order_scanner_take
  refine tot_cond (fun e => ?_) fun e => ?_
  · simp only [fail_ok, Option.bind_some]
    refine tot_gd (by omega) (tot_some ⟨⟨bs_nil, by simp, fun h2 => ?_⟩, fun h2 => ?_, by simp, bs_rep _⟩)
    · simp only at h2
      split at h2
      · cases h2
      · rename_i h3; exact absurd h2 h3
    · simp only at h2
      split at h2
      · assumption
      · exact h2
  · have hlt : n ≤ sc.p.length := by
      have : ¬ (sc.p.length : Int) < (n : Int) := of_decide_eq_false e
      omega
    refine tot_gd (by omega) (tot_gd (by omega) (tot_gd (by omega) (tot_some ⟨⟨?_, ?_, ?_⟩, fun h => h, ?_, ?_⟩)))
    · exact bs_drop hb _
    · simp
    · intro _; simp; omega
    · simp; omega
    · exact bs_take hb _
theorem textT_loop {sc : Vorder_scanner} (hl : sc.p.length ≤ 68719476736) : ∀ (d i k : Nat), i + d = sc.p.length → d < k → Tot (order_scanner_text_l2 sc k (i : Int)) fun r => ∃ j : Nat, r = (j : Int) ∧ i ≤ j ∧ j ≤ sc.p.length
  | d, i, 0, _, hk => by omega
  | 0, i, k + 1, e, hk => by
    have d1 : decide ((i : Int) < (sc.p.length : Int)) = false := decide_eq_false (by omega)
    rw [order_scanner_text_l2.eq_2]
    simp only [d1, cond_false, Option.bind_some]
    exact tot_some ⟨i, rfl, by omega, by omega⟩
  | d + 1, i, k + 1, e, hk => by
    have d1 : decide ((i : Int) < (sc.p.length : Int)) = true := decide_eq_true (by omega)
    rw [order_scanner_text_l2.eq_2]
    simp only [d1, cond_true]
    rw [gd_pos (by omega), w64_succ (by omega)]
    obtain ⟨b, hb, _⟩ := is_tot (rd sc.p (i : Int))
    simp only [hb, Option.bind_some]
    refine tot_cond (fun _ => (textT_loop hl d (i + 1) k (by omega) (by omega)).mono fun r ⟨j, h1, h2, h3⟩ => ⟨j, h1, by omega, h3⟩) fun _ => tot_some ⟨i, rfl, by omega, by omega⟩
theorem clone_tot {p : List Int} (h : p.length ≤ 68719476736) : Tot (m_bytes_Clone p) fun r => r = p := by
  unfold m_bytes_Clone; exact tot_gd h (tot_some rfl)
theorem text_tot {sc : Vorder_scanner} (hb : Bs sc.p) (hl : sc.p.length ≤ 68719476736) (h0 : 0 < sc.p.length) (hi : m_order_Is (rd sc.p 0) = some false) :
    Tot (m_order_scanner_text sc) fun r => TkOk sc 1 r.1 ∧ r.2.length ≤ 68719476736 := by
  unfold m_order_scanner_text
  have hloop : Tot (order_scanner_text_l2 sc fuel 0) fun r => ∃ j : Nat, r = (j : Int) ∧ 1 ≤ j ∧ j ≤ sc.p.length := by
    rw [show fuel = (fuel - 1) + 1 by unfold fuel; rfl, order_scanner_text_l2.eq_2]
    have d1 : decide ((0 : Int) < (sc.p.length : Int)) = true := decide_eq_true (by omega)
    simp only [d1, cond_true]
    rw [gd_pos (by omega)]
    simp only [hi, Option.bind_some, Bool.not_false, cond_true]
    have hw : w64 (0 + 1) = ((1 : Nat) : Int) := rfl
    rw [hw]
    exact textT_loop hl (sc.p.length - 1) 1 _ (by omega) (by unfold fuel; omega)
  refine tot_bind hloop fun d ⟨j, e, h1, h2⟩ => ?_
  subst e
  refine tot_bind (take_tot hb j (by omega)) fun r ⟨g1, g2, g3, g4⟩ => ?_
  exact tot_bind (clone_tot (by omega)) fun q hq => tot_some ⟨g1.less h1, by subst hq; simp only; omega⟩
theorem zone_tot (n : Int) : Tot (m_addr_zone n) fun _ => True := by
  unfold m_addr_zone
  repeat' first | exact tot_some trivial | refine tot_cond (fun _ => ?_) (fun _ => ?_)
theorem six_tot (n : Int) : Tot (m_addr_Six n) fun _ => True := by
  unfold m_addr_Six
  exact tot_bind (zone_tot _) fun _ _ => tot_bind (P := fun _ => True) (tot_cond (fun _ => tot_some trivial) fun _ => tot_some trivial) fun _ _ => tot_cond (fun _ => tot_some trivial) fun _ => tot_some trivial
theorem unsixT (n : Int) : Tot (m_addr_Unsix n) fun _ => True := by
  unfold m_addr_Unsix
  refine tot_jn (P := fun _ => True) (Tot.mono (P := fun _ => True) ?_ (fun r _ => by cases r <;> trivial)) fun _ _ => tot_some trivial
  have key : ∀ (d i k : Nat), i + d = 64 → d < k → Tot (addr_Unsix_l2 n k (i : Int)) fun _ => True := by
    intro d
    induction d with
    | zero =>
      intro i k e hk
      obtain ⟨k, rfl⟩ : ∃ j, k = j + 1 := ⟨k - 1, by omega⟩
      have d1 : decide ((i : Int) < 64) = false := decide_eq_false (by omega)
      rw [addr_Unsix_l2.eq_2]
      simp only [d1, cond_false]
      exact tot_some trivial
    | succ d ih =>
      intro i k e hk
      obtain ⟨k, rfl⟩ : ∃ j, k = j + 1 := ⟨k - 1, by omega⟩
      have d1 : decide ((i : Int) < 64) = true := decide_eq_true (by omega)
      rw [addr_Unsix_l2.eq_2]
      simp only [d1, cond_true, w64_succ (show i < 9223372036854775807 by omega)]
      exact tot_bind (six_tot _) fun _ _ => tot_cond (fun _ => tot_esc (tot_some trivial)) fun _ => ih (i + 1) k (by omega) (by omega)
  exact key 64 0 fuel rfl (by unfold fuel; omega)
def Lo (n : Int) : Prop := -9223372036854775808 ≤ n
theorem lo_w (x : Int) : Lo (w64 x) := by
  unfold Lo w64 IntKind.wrap; simp only [IntKind.bits, IntKind.signed, Bool.true_and]
  split
  · rename_i h1; simp at h1; omega
  · rename_i h1; simp at h1; omega
theorem lo_nn {n : Int} (h : 0 ≤ n) : Lo n := by unfold Lo; omega
theorem decodeT (f : Int) (p : List Int) : Tot (m_addr_Decode f p) fun r => Lo r.1 := by
  unfold m_addr_Decode
  have z : Lo 0 := lo_nn (by omega)
  refine tot_bind (P := fun _ => True) ?_ fun b _ => tot_cond (fun _ => tot_some z) fun _ => tot_cond (fun _ => tot_some z) fun e => ?_
  · repeat' first | exact tot_some trivial | refine tot_cond (fun _ => ?_) (fun _ => ?_)
  · have hl : 2 ≤ p.length := by
      have : ¬ (p.length : Int) < 2 := of_decide_eq_false e
      omega
    refine tot_gd (by omega) (tot_gd (by omega) (tot_bind (P := fun _ => True) (tot_cond (fun _ => tot_some trivial) fun _ => tot_gd (by omega) (tot_some trivial)) fun _ _ => tot_cond (fun _ => tot_some (lo_w _)) fun _ => tot_gd (by omega) (tot_cond (fun _ => tot_some z) fun _ => tot_gd (by omega) (tot_gd (by omega) (tot_bind (unsixT _) fun _ _ => tot_bind (unsixT _) fun _ _ => tot_some (lo_w _))))))
theorem addr_tot {sc : Vorder_scanner} (hb : Bs sc.p) : Tot (m_order_scanner_addr sc) fun r => TkOk sc 2 r.1 ∧ (r.1.code = 0 → sc.code = 0) ∧ Lo r.2 := by
  unfold m_order_scanner_addr
  refine tot_bind (take_tot hb 2 (by omega)) fun r ⟨g1, g2, g3, g4⟩ => tot_cond (fun _ => tot_some ⟨g1, g2, lo_nn (by omega)⟩) fun _ => ?_
  refine tot_bind (decodeT 12 r.2) fun d hlo => tot_bind (P := fun x => TkOk sc 2 ⟨x.1, x.2⟩ ∧ (x.2 = 0 → r.1.code = 0)) (tot_cond (fun e => ?_) fun _ => tot_some ⟨g1, fun h => h⟩) fun x ⟨k1, k2⟩ => tot_some ⟨k1, fun h => g2 (k2 h), hlo⟩
  simp only [fail_ok, Option.bind_some]
  have hne : d.2 ≠ 0 := by simpa using e
  exact tot_some (g1.fail hne)
theorem char_tot {sc : Vorder_scanner} (hb : Bs sc.p) : Tot (m_order_scanner_character sc) fun r => TkOk sc 1 r.1 ∧ (r.1.code = 0 → sc.code = 0) := by
  unfold m_order_scanner_character
  refine tot_bind (take_tot hb 1 (by omega)) fun r ⟨g1, g2, g3, g4⟩ => tot_gd (by omega) (tot_bind (is_tot _) fun b _ => ?_)
  refine tot_bind (P := fun x => TkOk sc 1 ⟨x.1, x.2⟩ ∧ (x.2 = 0 → r.1.code = 0)) (tot_cond (fun e => ?_) fun _ => tot_some ⟨g1, fun h => h⟩) fun x ⟨k1, k2⟩ => tot_some ⟨k1, fun h => g2 (k2 h)⟩
  simp only [fail_ok, Option.bind_some]
  exact tot_some (g1.fail (by omega))
theorem checkT (p : Vattr_Pair) : Tot (m_attr_Pair_Check p) fun _ => True := by
  unfold m_attr_Pair_Check
  refine tot_bind (P := fun _ => True) ?_ fun _ _ => tot_cond (fun _ => tot_some trivial) fun _ => tot_some trivial
  repeat' first | exact tot_some trivial | refine tot_cond (fun _ => ?_) (fun _ => ?_)
theorem pair_tot {sc : Vorder_scanner} (hb : Bs sc.p) : Tot (m_order_scanner_pair sc) fun r => TkOk sc 2 r.1 ∧ (r.1.code = 0 → sc.code = 0) ∧ r.2.length ≤ 68719476736 := by
  unfold m_order_scanner_pair
  refine tot_bind (take_tot hb 2 (by omega)) fun r ⟨g1, g2, g3, g4⟩ => tot_gd (by omega) (tot_gd (by omega) (tot_bind (checkT _) fun b _ => ?_))
  refine tot_bind (P := fun x => TkOk sc 2 ⟨x.1, x.2⟩ ∧ (x.2 = 0 → r.1.code = 0)) (tot_cond (fun e => ?_) fun _ => tot_some ⟨g1, fun h => h⟩) fun x ⟨k1, k2⟩ => tot_some ⟨k1, fun h => g2 (k2 h), by simp⟩
  simp only [fail_ok, Option.bind_some]
  have hne : b ≠ 0 := by simpa using e
  exact tot_some (g1.fail hne)
theorem parse_loop {p : List Int} {c : Nat} (hl : 1 + 2 * c ≤ p.length) (hc : c ≤ 255) (h0 : rd p 0 = (c : Int)) : ∀ (d i k : Nat) (l : List Vattr_Pair), i + d = c → d < k → l.length ≤ i → Tot (attr_Parse_l4 p k (((1 + 2 * i : Nat) : Int), l)) fun r => match r with | .inl q => q.length ≤ 255 | .inr o => o.1.length ≤ 255 ∧ o.2.2 ≠ 0
  | d, i, 0, l, _, hk, _ => by omega
  | 0, i, k + 1, l, e, hk, hlen => by
    have hw : w64 (1 + w64 (2 * w64 (rd p 0))) = ((1 + 2 * c : Nat) : Int) := by
      rw [h0, w64_in (x := (c : Int)) (by omega) (by omega), w64_in (x := 2 * (c : Int)) (by omega) (by omega), w64_in (by omega) (by omega)]; omega
    have d1 : decide (((1 + 2 * i : Nat) : Int) < ((1 + 2 * c : Nat) : Int)) = false := decide_eq_false (by omega)
    rw [attr_Parse_l4.eq_2]
    simp only [hw, d1, cond_false]
    exact tot_some (show l.length ≤ 255 by omega)
  | d + 1, i, k + 1, l, e, hk, hlen => by
    have hw : w64 (1 + w64 (2 * w64 (rd p 0))) = ((1 + 2 * c : Nat) : Int) := by
      rw [h0, w64_in (x := (c : Int)) (by omega) (by omega), w64_in (x := 2 * (c : Int)) (by omega) (by omega), w64_in (by omega) (by omega)]; omega
    have d1 : decide (((1 + 2 * i : Nat) : Int) < ((1 + 2 * c : Nat) : Int)) = true := decide_eq_true (by omega)
    have hw1 : w64 (((1 + 2 * i : Nat) : Int) + 1) = ((2 + 2 * i : Nat) : Int) := by rw [w64_in (by omega) (by omega)]; omega
    have hw2 : w64 (((1 + 2 * i : Nat) : Int) + 2) = ((1 + 2 * (i + 1) : Nat) : Int) := by rw [w64_in (by omega) (by omega)]; omega
    rw [attr_Parse_l4.eq_2]
    simp only [hw, d1, cond_true, hw1, hw2]
    refine tot_gd (by omega) (tot_gd (by omega) (tot_bind (checkT _) fun b _ => tot_cond (fun e2 => tot_esc (tot_some ?_)) fun _ => tot_gd (by simp; omega) ?_))
    · exact ⟨by simp, by simpa using e2⟩
    · exact parse_loop hl hc h0 d (i + 1) k _ (by omega) (by omega) (by simp; omega)
theorem parse_tot {p : List Int} (hb : Bs p) : Tot (m_attr_Parse p) fun r => r.1.length ≤ 255 ∧ (r.2.2 = 0 → ∃ n : Nat, r.2.1 = (n : Int) ∧ n ≤ 511) := by
  unfold m_attr_Parse
  by_cases h1 : p.length < 1
  · have d1 : decide ((p.length : Int) < 1) = true := decide_eq_true (by omega)
    simp only [d1, cond_true, Option.bind_some]
    exact tot_some ⟨by simp, fun h => by cases h⟩
  · have d1 : decide ((p.length : Int) < 1) = false := decide_eq_false (by omega)
    simp only [d1, cond_false]
    rw [gd_pos (by omega)]
    have hB := hb _ (rd_mem (l := p) (n := 0) (by omega))
    obtain ⟨c, hc⟩ : ∃ c : Nat, rd p 0 = (c : Int) := ⟨(rd p 0).toNat, by have := hB.1; omega⟩
    have hc2 : c ≤ 255 := by have := hB.2; omega
    have hw : w64 (1 + w64 (2 * w64 (rd p 0))) = ((1 + 2 * c : Nat) : Int) := by
      rw [hc, w64_in (x := (c : Int)) (by omega) (by omega), w64_in (x := 2 * (c : Int)) (by omega) (by omega), w64_in (by omega) (by omega)]; omega
    simp only [hw, Option.bind_some]
    refine tot_cond (fun _ => tot_some ⟨by simp, fun h => by cases h⟩) fun e => tot_gd (by omega) ?_
    have hlen : 1 + 2 * c ≤ p.length := by
      have : ¬ (p.length : Int) < ((1 + 2 * c : Nat) : Int) := of_decide_eq_false e
      omega
    refine tot_jn (P := fun q => q.length ≤ 255) ((parse_loop hlen hc2 hc c 0 fuel [] (by omega) (by unfold fuel; omega) (by simp)).mono fun r hr => ?_) fun q hq => tot_some ⟨hq, fun _ => ⟨1 + 2 * c, rfl, by omega⟩⟩
    cases r with
    | inl q => exact hr
    | inr o => exact ⟨hr.1, fun h => absurd h hr.2⟩
theorem pairs_tot {sc : Vorder_scanner} (hb : Bs sc.p) : Tot (m_order_scanner_pairs sc) fun r => TkOk sc 0 r.1 ∧ (r.1.code = 0 → sc.code = 0) ∧ r.2.length ≤ 68719476736 := by
  unfold m_order_scanner_pairs
  refine tot_bind (parse_tot hb) fun d ⟨h1, h2⟩ => tot_cond (fun e => ?_) fun e => ?_
  · simp only [fail_ok, Option.bind_some]
    have hne : d.2.2 ≠ 0 := by simpa using e
    obtain ⟨k1, k2⟩ := TkOk.fail (a := sc) (b := sc) (n := 0) ⟨hb, Nat.le_refl _, fun _ => by omega⟩ hne
    exact tot_some ⟨k1, k2, by simp⟩
  · obtain ⟨n, hn, hn2⟩ := h2 (by simpa using e)
    rw [hn]
    exact tot_bind (take_tot hb n (by omega)) fun r ⟨g1, g2, g3, g4⟩ => tot_some ⟨g1.less (by omega), g2, by simp only; omega⟩
/-- one order -/
theorem op_tot {sc : Vorder_scanner} (hb : Bs sc.p) (hl : sc.p.length ≤ 68719476736) (h0 : 0 < sc.p.length) :
    Tot (m_order_scanner_op sc) fun r => TkOk sc 1 r.1 ∧ r.2.Text.length ≤ 68719476736 ∧ r.2.Pairs.length ≤ 68719476736 ∧ Lo r.2.Addr := by
  unfold m_order_scanner_op
  have z : Lo 0 := lo_nn (by omega)
  refine tot_gd (by omega) ?_
  obtain ⟨b, hi, _⟩ := is_tot (rd sc.p 0)
  simp only [hi, Option.bind_some]
  cases b with
  | false =>
    simp only [Bool.not_false, cond_true]
    exact tot_bind (text_tot hb hl h0 hi) fun r ⟨h1, h2⟩ => tot_some ⟨h1, h2, by simp, z⟩
  | true =>
    simp only [Bool.not_true, cond_false]
    refine tot_bind (take_tot hb 1 (by omega)) fun r ⟨g1, g2, g3, g4⟩ => tot_gd (by omega) ?_
    refine tot_bind (P := fun _ => True) (tot_cond (fun _ => tot_some trivial) fun _ => tot_some trivial) fun b1 _ => ?_
    refine tot_bind (P := fun y => TkOk sc 1 ⟨y.2.2.2.2.2.1, y.2.2.2.2.2.2⟩ ∧ y.2.2.2.2.1.length ≤ 68719476736 ∧ Lo y.1) ?_ fun y hy => tot_some ⟨hy.1, by simp, hy.2.1, hy.2.2⟩
    have lift : ∀ {n : Nat} {q : Vorder_scanner}, TkOk r.1 n q → (q.code = 0 → r.1.code = 0) → TkOk sc 1 q := fun h1 h2 => (g1.trans h1 h2).less (by omega)
    refine tot_cond (fun _ => tot_bind (addr_tot g1.bs) fun d hd => tot_some ⟨lift hd.1 hd.2.1, by simp, hd.2.2⟩) fun _ => ?_
    refine tot_cond (fun _ => tot_bind (addr_tot g1.bs) fun d hd => ?_) fun _ => ?_
    · refine tot_bind (P := fun _ => True) (tot_cond (fun e => tot_gd (by have := of_decide_eq_true e; omega) (tot_some trivial)) fun _ => tot_some trivial) fun b2 _ => ?_
      refine tot_bind (P := fun y => TkOk d.1 0 ⟨y.2.1, y.2.2⟩ ∧ (y.2.2 = 0 → d.1.code = 0)) (tot_cond (fun _ => tot_bind (take_tot hd.1.bs 1 (by omega)) fun q hq => tot_some ⟨hq.1.less (by omega), hq.2.1⟩) fun _ => tot_some ⟨⟨hd.1.bs, Nat.le_refl _, fun _ => by simp⟩, fun h => h⟩) fun y hy => ?_
      refine tot_bind (char_tot hy.1.bs) fun w hz => tot_some ⟨?_, by simp, hd.2.2⟩
      exact lift ((hd.1.trans hy.1 hy.2).trans hz.1 hz.2) fun h => hd.2.1 (hy.2 (hz.2 h))
    · refine tot_cond (fun _ => tot_bind (take_tot g1.bs 1 (by omega)) fun d hd => tot_gd (by have := hd.2.2.1; omega) (tot_some ⟨lift hd.1 hd.2.1, by simp, z⟩)) fun _ => ?_
      refine tot_cond (fun _ => tot_bind (pair_tot g1.bs) fun d hd => tot_some ⟨lift hd.1 hd.2.1, hd.2.2, z⟩) fun _ => ?_
      refine tot_bind (P := fun _ => True) (tot_cond (fun _ => tot_some trivial) fun _ => tot_some trivial) fun b2 _ => ?_
      refine tot_cond (fun _ => tot_bind (pairs_tot g1.bs) fun d hd => tot_some ⟨lift hd.1 hd.2.1, hd.2.2, z⟩) fun _ => ?_
      exact tot_cond (fun _ => tot_bind (char_tot g1.bs) fun d hd => tot_some ⟨lift hd.1 hd.2, by simp, z⟩) fun _ => tot_some ⟨g1, by simp, z⟩
end Go.Vt
