/- Of the models of EntryAgain: one order is read. No conditions. -/
import Derived.Test.YteebpkekdkkmhaaVmCQ
set_option linter.unusedVariables false
set_option linter.unusedSimpArgs false
namespace Go.Vt
theorem pair_spec {s : Vorder_scanner} (hb : Bs s.p) : ∃ s' v, m_order_scanner_pair s = some (s', v) ∧ Adv s s' := by
  obtain ⟨s1, l, h1, a1, hl, hbl, hok⟩ := take_spec hb (z := 2) 2 rfl (by omega)
  obtain ⟨a, b, rfl⟩ := two hl
  have q0 : rd [a, b] 0 = a := rfl
  have q1 : rd [a, b] 1 = b := rfl
  obtain ⟨r, hr⟩ := check_tot ⟨a, b⟩
  have g0 : (0 : Int) ≤ 0 ∧ (0 : Int) < (([a, b] : List Int).length : Int) := by simp
  have g1 : (0 : Int) ≤ 1 ∧ (1 : Int) < (([a, b] : List Int).length : Int) := by simp
  unfold m_order_scanner_pair gd
  simp only [h1, Option.bind_some, q0, q1, hr, if_pos g0, if_pos g1]
  by_cases h0 : r = 0
  · have : (r != 0) = false := by simp [h0]
    simp only [this, cond_false, Option.bind_some]
    exact ⟨s1, _, rfl, a1⟩
  · have : (r != 0) = true := by simp [h0]
    simp only [this, cond_true, fail_spec, Option.bind_some]
    exact ⟨⟨s1.p, if s1.code = 0 then r else s1.code⟩, _, rfl, a1.fail h0⟩
theorem pairs_loop {p : List Int} (hp : p.length ≤ 10000000000) {n : Nat} (hn : n < 256) (h0 : rd p 0 = (n : Int)) (hl : 1 + 2 * n ≤ p.length) : ∀ (k i : Nat) (acc : List Vattr_Pair), 1 + 2 * n - i < k → i % 2 = 1 → acc.length ≤ i → ∃ y, attr_Parse_l4 p k ((i : Int), acc) = some y ∧ (∀ r, y = .inr r → r.2.2 ≠ 0)
  | 0, i, acc, h, _, _ => by omega
  | k + 1, i, acc, hk, hi, ha => by
    rw [attr_Parse_l4.eq_2]
    have e1 : w64 (n : Int) = n := w64_small (by omega)
    have e2 : w64 (2 * (n : Int)) = ((2 * n : Nat) : Int) := by rw [w64_small (by omega)]; omega
    have e3 : w64 (1 + ((2 * n : Nat) : Int)) = ((1 + 2 * n : Nat) : Int) := by rw [w64_small (by omega)]; omega
    simp only [h0, e1, e2, e3]
    by_cases hlt : i < 1 + 2 * n
    · have d1 : decide ((i : Int) < ((1 + 2 * n : Nat) : Int)) = true := by simp; omega
      have e4 : w64 ((i : Int) + 1) = ((i + 1 : Nat) : Int) := by rw [w64_small (by omega)]; omega
      have e5 : w64 ((i : Int) + 2) = ((i + 2 : Nat) : Int) := by rw [w64_small (by omega)]; omega
      obtain ⟨r, hr⟩ := check_tot ⟨rd p (i : Int), rd p ((i + 1 : Nat) : Int)⟩
      simp only [d1, cond_true, gd, e4, e5, hr, Option.bind_some]
      rw [if_pos (by omega), if_pos (by omega)]
      by_cases hr0 : r = 0
      · have : (r != 0) = false := by simp [hr0]
        simp only [this, cond_false]
        rw [if_pos (by simp; omega)]
        exact pairs_loop hp hn h0 hl k (i + 2) _ (by omega) (by omega) (by simp; omega)
      · have : (r != 0) = true := by simp [hr0]
        simp only [this, cond_true]
        exact ⟨_, rfl, fun z hz => by cases hz; exact hr0⟩
    · have d1 : decide ((i : Int) < ((1 + 2 * n : Nat) : Int)) = false := by simp; omega
      simp only [d1, cond_false]
      exact ⟨_, rfl, fun z hz => by cases hz⟩
theorem pairs_spec {s : Vorder_scanner} (hb : Bs s.p) (hl : s.p.length ≤ 10000000000) : ∃ s' v, m_order_scanner_pairs s = some (s', v) ∧ Adv s s' := by
  have key : ∃ d, m_attr_Parse s.p = some d ∧ (d.2.2 = 0 → ∃ n : Nat, n ≤ 1000 ∧ d.2.1 = (n : Int)) := by
    unfold m_attr_Parse
    by_cases h0 : s.p.length = 0
    · have d1 : decide ((s.p.length : Int) < 1) = true := by simp; omega
      simp only [d1, cond_true, Option.bind_some]
      exact ⟨_, rfl, fun h => by simp at h⟩
    · have d1 : decide ((s.p.length : Int) < 1) = false := by simp; omega
      have hB : By (s.p[0]'(by omega)) := hb _ (List.getElem_mem (by omega))
      have hr : rd s.p 0 = s.p[0]'(by omega) := rd_lit (n := 0) rfl (by omega)
      obtain ⟨n, hn⟩ : ∃ n : Nat, s.p[0]'(by omega) = (n : Int) := ⟨(s.p[0]'(by omega)).toNat, by have := hB.1; omega⟩
      have hn2 : n < 256 := by have := hB.2; omega
      rw [hn] at hr
      have e1 : w64 (n : Int) = n := w64_small (by omega)
      have e2 : w64 (2 * (n : Int)) = ((2 * n : Nat) : Int) := by rw [w64_small (by omega)]; omega
      have e3 : w64 (1 + ((2 * n : Nat) : Int)) = ((1 + 2 * n : Nat) : Int) := by rw [w64_small (by omega)]; omega
      simp only [d1, cond_false, gd, hr, e1, e2, e3]
      rw [if_pos (by omega)]
      simp only [Option.bind_some]
      by_cases h2 : s.p.length < 1 + 2 * n
      · have d2 : decide ((s.p.length : Int) < ((1 + 2 * n : Nat) : Int)) = true := by simp; omega
        simp only [d2, cond_true]
        exact ⟨_, rfl, fun h => by simp at h⟩
      · have d2 : decide ((s.p.length : Int) < ((1 + 2 * n : Nat) : Int)) = false := by simp; omega
        simp only [d2, cond_false]
        rw [if_pos (by omega)]
        obtain ⟨y, hy, hy2⟩ := pairs_loop hl hn2 hr (by omega) fuel 1 [] (by unfold fuel; omega) rfl (by simp)
        have hy' : attr_Parse_l4 s.p fuel (1, []) = some y := hy
        rw [hy']
        cases y with
        | inl d => exact ⟨_, rfl, fun _ => ⟨1 + 2 * n, by omega, rfl⟩⟩
        | inr d => exact ⟨_, rfl, fun h => absurd h (hy2 d rfl)⟩
  obtain ⟨d, hd, hd2⟩ := key
  unfold m_order_scanner_pairs
  simp only [hd, Option.bind_some]
  by_cases h0 : d.2.2 = 0
  · have : (d.2.2 != 0) = false := by simp [h0]
    obtain ⟨n, hn, hz⟩ := hd2 h0
    obtain ⟨s1, l, h1, a1, _⟩ := take_spec hb n hz hn
    simp only [this, cond_false, h1, Option.bind_some]
    exact ⟨_, _, rfl, a1⟩
  · have : (d.2.2 != 0) = true := by simp [h0]
    simp only [this, cond_true, fail_spec, Option.bind_some]
    exact ⟨_, _, rfl, (Adv.refl hb).fail h0⟩
def Txt (l : List Int) : Prop := ∀ n ∈ l, By n ∧ isO n = false
theorem tw_all (f : Int → Bool) : ∀ l : List Int, ∀ n ∈ l.takeWhile f, f n = true
  | [], n, h => by simp at h
  | x :: r, n, h => by
    rw [List.takeWhile_cons] at h
    split at h
    · rename_i hx
      cases h with
      | head => exact hx
      | tail _ h => exact tw_all f r n h
    · cases h
theorem tw_mem (f : Int → Bool) {l : List Int} {n : Int} (h : n ∈ l.takeWhile f) : n ∈ l := (List.takeWhile_prefix f).subset h
theorem op_text {s : Vorder_scanner} (hb : Bs s.p) (hl : s.p.length ≤ 10000000000) {c : Int} {r : List Int} (hp : s.p = c :: r) (ho : isO c = false) :
    m_order_scanner_op s = some (⟨s.p.dropWhile (fun c => !isO c), s.code⟩, ⟨0, 0, 0, false, 0, [], s.p.takeWhile (fun c => !isO c)⟩) := by
  have hB : By c := hb c (by rw [hp]; simp)
  have hr : rd s.p 0 = c := by rw [hp]; rfl
  have g0 : (0 : Int) ≤ 0 ∧ (0 : Int) < (s.p.length : Int) := by rw [hp]; simp <;> omega
  unfold m_order_scanner_op gd
  simp only [if_pos g0, hr, is_spec hB, Option.bind_some, ho, Bool.not_false, cond_true, text_spec hb (by omega)]
theorem op_head {s : Vorder_scanner} (hb : Bs s.p) {c : Int} {r : List Int} (hp : s.p = c :: r) : m_order_scanner_take s 1 = some (⟨r, s.code⟩, [c]) := by
  rw [take_ok (z := 1) 1 rfl (by rw [hp]; simp)]; simp [hp]
theorem op_sba {s : Vorder_scanner} (hb : Bs s.p) (hc : s.code = 0) {x y v : Int} {r : List Int} (hp : s.p = 17 :: x :: y :: r) (hd : m_addr_Decode 12 [x, y] = some (v, 0)) :
    m_order_scanner_op s = some (⟨r, 0⟩, ⟨17, v, 0, false, 0, [], []⟩) := by
  have hr : rd s.p 0 = 17 := by rw [hp]; rfl
  have hI : m_order_Is 17 = some true := by decide +kernel
  have g0 : (0 : Int) ≤ 0 ∧ (0 : Int) < (s.p.length : Int) := by rw [hp]; simp <;> omega
  have g1 : (0 : Int) ≤ 0 ∧ (0 : Int) < (([17] : List Int).length : Int) := by simp
  have q0 : rd [(17 : Int)] 0 = 17 := rfl
  have ew : w64 17 = 17 := by decide
  have ha : m_order_scanner_addr ⟨x :: y :: r, s.code⟩ = some (⟨r, 0⟩, v) := by
    unfold m_order_scanner_addr
    rw [take_ok (z := 2) 2 rfl (by simp)]
    simp [hc, hd]
  unfold m_order_scanner_op gd
  simp only [if_pos g0, hr, hI, Option.bind_some, Bool.not_true, cond_false, op_head hb hp, if_pos g1, q0, ew, ha]
  rfl
theorem op_spec {s : Vorder_scanner} (hb : Bs s.p) (hne : 0 < s.p.length) (hl : s.p.length ≤ 10000000000) (hc : s.code = 0) : ∃ s' o, m_order_scanner_op s = some (s', o) ∧ Bs s'.p ∧
    (s'.code = 0 → (∃ n, 0 < n ∧ n ≤ s.p.length ∧ s'.p = s.p.drop n) ∧ (o.Kind = 0 → Txt o.Text) ∧ (o.Kind = 8 → Txt [o.Code])) := by
  obtain ⟨c, r, hp⟩ : ∃ c r, s.p = c :: r := by
    match h : s.p, hne with
    | c :: r, _ => exact ⟨c, r, rfl⟩
  have hB : By c := hb c (by rw [hp]; simp)
  cases ho : isO c with
  | false =>
    refine ⟨_, _, op_text hb (by omega) hp ho, ?_, fun _ => ⟨⟨(s.p.takeWhile (fun c => !isO c)).length, ?_, tw_len _ _, (tw_drop _ _).symm⟩, fun _ n hn => ?_, fun h => by simp at h⟩⟩
    · intro n hn; exact hb n ((List.dropWhile_suffix _).subset hn)
    · rw [hp, List.takeWhile_cons]; simp [ho]
    · exact ⟨hb n (tw_mem _ hn), by have := tw_all _ _ n hn; simpa using this⟩
  | true =>
    have hr : rd s.p 0 = c := by rw [hp]; rfl
    have g0 : (0 : Int) ≤ 0 ∧ (0 : Int) < (s.p.length : Int) := by rw [hp]; simp <;> omega
    have hbr : Bs r := fun n hn => hb n (by rw [hp]; exact .tail _ hn)
    have hlr : r.length ≤ 10000000000 := by rw [hp] at hl; simp at hl; omega
    have fin : ∀ s8 : Vorder_scanner, Adv ⟨r, s.code⟩ s8 → s8.code = 0 → ∃ n, 0 < n ∧ n ≤ s.p.length ∧ s8.p = s.p.drop n := fun s8 a8 h8 => by
      obtain ⟨_, n, hn, h9⟩ := a8.ok h8
      refine ⟨n + 1, by omega, by rw [hp]; simp at hn ⊢; omega, by rw [h9, hp]; rfl⟩
    have g1 : (0 : Int) ≤ 0 ∧ (0 : Int) < (([c] : List Int).length : Int) := by simp
    have q0 : rd [c] 0 = c := rfl
    have ew : w64 c = c := w64_small (by have := hB.1; have := hB.2; omega)
    obtain ⟨s8, v8, h8, a8, _⟩ := addr_spec (s := ⟨r, s.code⟩) hbr
    obtain ⟨s9, v9, h9, a9⟩ := pair_spec (s := ⟨r, s.code⟩) hbr
    obtain ⟨s10, v10, h10, a10⟩ := pairs_spec (s := ⟨r, s.code⟩) hbr hlr
    obtain ⟨s11, v11, h11, a11, c11⟩ := char_spec (s := ⟨r, s.code⟩) hbr
    obtain ⟨s12, l12, h12, a12, hl12, _⟩ := take_spec (s := ⟨r, s.code⟩) hbr (z := 1) 1 rfl (by omega)
    obtain ⟨u12, rfl⟩ := one hl12
    have q12 : rd [u12] 0 = u12 := rfl
    have g12 : (0 : Int) ≤ 0 ∧ (0 : Int) < (([u12] : List Int).length : Int) := by simp
    unfold m_order_scanner_op gd
    simp only [if_pos g0, hr, is_spec hB, ho, Option.bind_some, Bool.not_true, cond_false, op_head hb hp, if_pos g1, q0, ew]
    have hcs : c = 5 ∨ c = 8 ∨ c = 17 ∨ c = 18 ∨ c = 19 ∨ c = 29 ∨ c = 40 ∨ c = 41 ∨ c = 44 ∨ c = 60 := by simpa [isO] using ho
    clear hr hB q0 g1 ho ew
    rcases hcs with rfl | rfl | rfl | rfl | rfl | rfl | rfl | rfl | rfl | rfl
    · exact ⟨⟨r, s.code⟩, _, rfl, hbr, fun h => ⟨fin _ (Adv.refl hbr) h, fun h => by simp at h, fun h => by simp at h⟩⟩
    · refine ⟨s11, ⟨8, 0, v11, false, 0, [], []⟩, ?_, a11.bs, fun h => ⟨fin _ a11 h, fun h => by simp at h, fun _ n hn => ?_⟩⟩
      · simp [h11]
      · obtain ⟨_, b1, b2, _⟩ := c11 h
        simp at hn; subst hn; exact ⟨b1, b2⟩
    · exact ⟨s8, ⟨17, v8, 0, false, 0, [], []⟩, by simp [h8], a8.bs, fun h => ⟨fin _ a8 h, fun h => by simp at h, fun h => by simp at h⟩⟩
    · exact ⟨s8, ⟨18, v8, 0, false, 0, [], []⟩, by simp [h8], a8.bs, fun h => ⟨fin _ a8 h, fun h => by simp at h, fun h => by simp at h⟩⟩
    · exact ⟨⟨r, s.code⟩, ⟨19, 0, 0, false, 0, [], []⟩, by simp, hbr, fun h => ⟨fin _ (Adv.refl hbr) h, fun h => by simp at h, fun h => by simp at h⟩⟩
    · exact ⟨s12, ⟨29, 0, 0, false, u12, [], []⟩, by simp [h12, q12], a12.bs, fun h => ⟨fin _ a12 h, fun h => by simp at h, fun h => by simp at h⟩⟩
    · exact ⟨s9, ⟨40, 0, 0, false, 0, v9, []⟩, by simp [h9], a9.bs, fun h => ⟨fin _ a9 h, fun h => by simp at h, fun h => by simp at h⟩⟩
    · exact ⟨s10, ⟨41, 0, 0, false, 0, v10, []⟩, by simp [h10], a10.bs, fun h => ⟨fin _ a10 h, fun h => by simp at h, fun h => by simp at h⟩⟩
    · exact ⟨s10, ⟨44, 0, 0, false, 0, v10, []⟩, by simp [h10], a10.bs, fun h => ⟨fin _ a10 h, fun h => by simp at h, fun h => by simp at h⟩⟩
    · -- repeat to address
      have goOn : ∀ t : Vorder_scanner, Adv s8 t → ∃ s14 v14, m_order_scanner_character ⟨t.p, t.code⟩ = some (s14, v14) ∧ Adv ⟨r, s.code⟩ s14 := fun t at' => by
        obtain ⟨s14, v14, h14, a14, _⟩ := char_spec (s := t) at'.bs
        exact ⟨s14, v14, h14, (a8.trans at').trans a14⟩
      by_cases h0 : 0 < s8.p.length
      · cases hq : (rd s8.p 0 == 8) with
        | true =>
          obtain ⟨s13, l13, h13, a13, _⟩ := take_spec (s := s8) a8.bs (z := 1) 1 rfl (by omega)
          obtain ⟨s14, v14, h14, a14⟩ := goOn s13 a13
          refine ⟨s14, ⟨60, v8, v14, true, 0, [], []⟩, ?_, a14.bs, fun h => ⟨fin _ a14 h, fun h => by simp at h, fun h => by simp at h⟩⟩
          simp [h8, h0, hq, h13, h14]
        | false =>
          obtain ⟨s14, v14, h14, a14⟩ := goOn s8 (Adv.refl a8.bs)
          refine ⟨s14, ⟨60, v8, v14, false, 0, [], []⟩, ?_, a14.bs, fun h => ⟨fin _ a14 h, fun h => by simp at h, fun h => by simp at h⟩⟩
          simp [h8, h0, hq, h14]
      · obtain ⟨s14, v14, h14, a14⟩ := goOn s8 (Adv.refl a8.bs)
        refine ⟨s14, ⟨60, v8, v14, false, 0, [], []⟩, ?_, a14.bs, fun h => ⟨fin _ a14 h, fun h => by simp at h, fun h => by simp at h⟩⟩
        simp [h8, h0, h14]
end Go.Vt
