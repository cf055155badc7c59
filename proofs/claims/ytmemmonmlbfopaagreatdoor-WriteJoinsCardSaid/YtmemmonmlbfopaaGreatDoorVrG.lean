/- What the document reads as an order the program reads as one. No conditions. -/
import Derived.Test.YtmemmonmlbfopaaGreatDoorVrJ
set_option linter.unusedVariables false
set_option linter.unusedSimpArgs false
set_option maxRecDepth 100000
namespace Go.Vt
theorem jn_inl {D O : Type} (d : D) (f : D → Option O) : jn (some (.inl d)) f = f d := rfl
theorem ris_all : ∀ n : Fin 256, m_vitrineref16_Is (n.val : Int) = some (isO (n.val : Int)) := by decide +kernel
theorem ris_spec {n : Int} (h : By n) : m_vitrineref16_Is n = some (isO n) := by
  obtain ⟨f, rfl⟩ := h.fin; exact ris_all f
/-! ### addresses -/
theorem rsix_all : ∀ f : Fin 64, (m_vitrineref04_Six (f.val : Int)).isSome = true := by decide +kernel
theorem runsix_tot (n : Int) : Tot (m_vitrineref04_Unsix n) fun _ => True := by
  unfold m_vitrineref04_Unsix
  have key : ∀ (d i k : Nat), i + d = 64 → d < k → Tot (vitrineref04_Unsix_l2 n k (i : Int)) fun _ => True := by
    intro d
    induction d with
    | zero =>
      intro i k e hk
      obtain ⟨k, rfl⟩ : ∃ j, k = j + 1 := ⟨k - 1, by omega⟩
      have d1 : decide ((i : Int) < 64) = false := decide_eq_false (by omega)
      rw [vitrineref04_Unsix_l2.eq_2]
      simp only [d1, cond_false]
      exact tot_some trivial
    | succ d ih =>
      intro i k e hk
      obtain ⟨k, rfl⟩ : ∃ j, k = j + 1 := ⟨k - 1, by omega⟩
      have d1 : decide ((i : Int) < 64) = true := decide_eq_true (by omega)
      rw [vitrineref04_Unsix_l2.eq_2]
      simp only [d1, cond_true, w64_succ (show i < 9223372036854775807 by omega)]
      obtain ⟨v, hv⟩ := Option.isSome_iff_exists.1 (rsix_all ⟨i, by omega⟩)
      refine tot_bind (P := fun _ => True) ⟨v, hv, trivial⟩ fun _ _ => tot_cond (fun _ => tot_esc (tot_some trivial)) fun _ => ih (i + 1) k (by omega) (by omega)
  refine tot_jn (P := fun _ => True) (Tot.mono (P := fun _ => True) (key 64 0 fuel rfl (by unfold fuel; omega)) (fun r _ => by cases r <;> trivial)) fun _ _ => tot_some trivial
theorem shr_all : ∀ f : Fin 256, (ishr .u8 (f.val : Int) 6 == 0) = decide ((f.val : Int) < 64) ∧ (ishr .u8 (f.val : Int) 6 == 2) = (decide ((f.val : Int) ≥ 128) && decide ((f.val : Int) < 192)) := by decide +kernel
theorem pdec {x y : Int} (hx : By x) (hy : By y) (h : x < 64 ∨ ¬ (x ≥ 128 ∧ x < 192)) : ∃ v, m_addr_Decode 12 [x, y] = some (v, 0) ∧ Lo v := by
  obtain ⟨f, hf⟩ := hx.fin
  obtain ⟨s1, s2⟩ := shr_all f
  rw [hf] at s1 s2
  unfold m_addr_Decode
  have r0 : rd [x, y] 0 = x := rfl
  have r1 : rd [x, y] 1 = y := rfl
  have e1 : ((12 : Int) != 12) = false := rfl
  have e2 : ((12 : Int) == 16) = false := rfl
  have l1 : decide ((([x, y].length : Nat) : Int) < 2) = false := rfl
  simp only [e1, e2, l1, cond_false, Option.bind_some]
  rw [gd_pos (by simp), gd_pos (by simp), gd_pos (by simp)]
  simp only [r0, r1, s1, Option.bind_some]
  by_cases h1 : x < 64
  · rw [decide_eq_true h1]; exact ⟨_, rfl, lo_w _⟩
  · rw [decide_eq_false h1]
    have h2 : (decide (x ≥ 128) && decide (x < 192)) = false := by
      rcases h with h | h
      · exact absurd h h1
      · simp; omega
    simp only [cond_false]
    rw [gd_pos (by simp)]
    simp only [s2, h2, cond_false]
    rw [gd_pos (by simp), gd_pos (by simp)]
    obtain ⟨v, hv⟩ := unsix_tot hx
    obtain ⟨w, hw⟩ := unsix_tot hy
    simp only [hv, hw, Option.bind_some]
    exact ⟨_, rfl, lo_w _⟩
theorem dec_rel {r : List Int} (hb : Bs r) : Tot (m_vitrineref04_Decode 12 r) fun d => d.2 = 0 → ∃ x y r', r = x :: y :: r' ∧ ∃ v, m_addr_Decode 12 [x, y] = some (v, 0) ∧ Lo v := by
  unfold m_vitrineref04_Decode
  have e1 : ((12 : Int) != 12) = false := rfl
  have e2 : ((12 : Int) == 16) = false := rfl
  simp only [e1, e2, cond_false, Option.bind_some]
  refine tot_cond (fun _ => tot_some fun h => absurd h (by decide)) fun e => ?_
  have hl : 2 ≤ r.length := by
    have : ¬ (r.length : Int) < 2 := of_decide_eq_false e
    omega
  match r, hb, hl with
  | x :: y :: r', hb, hl =>
    have hx : By x := hb x (by simp)
    have hy : By y := hb y (by simp)
    have r0 : rd (x :: y :: r') 0 = x := rfl
    have r1 : rd (x :: y :: r') 1 = y := rfl
    have g0 : (0 : Int) ≤ 0 ∧ (0 : Int) < ((x :: y :: r').length : Int) := by simp only [List.length_cons]; omega
    have g1 : (0 : Int) ≤ 1 ∧ (1 : Int) < ((x :: y :: r').length : Int) := by simp only [List.length_cons]; omega
    rw [gd_pos g0, gd_pos g1, gd_pos g0]
    simp only [r0, r1, Option.bind_some]
    refine tot_cond (fun h => tot_some fun _ => ⟨x, y, r', rfl, pdec hx hy (.inl (of_decide_eq_true h))⟩) fun h => ?_
    rw [gd_pos g0]
    refine tot_bind (P := fun b => b = false → ¬ (x ≥ 128 ∧ x < 192)) (tot_cond (fun h1 => tot_gd g0 (tot_some fun h2 => by have := of_decide_eq_false h2; omega)) fun h1 => tot_some fun _ => by have := of_decide_eq_false h1; omega) fun b hb2 => ?_
    refine tot_cond (fun _ => tot_some fun h => absurd h (by decide)) fun h3 => tot_gd g0 (tot_gd g1 (tot_bind (runsix_tot _) fun _ _ => tot_bind (runsix_tot _) fun _ _ => tot_some fun _ => ⟨x, y, r', rfl, pdec hx hy (.inr (hb2 h3))⟩))
/-! ### pairs -/
def chkR (t v : Int) : Bool := match m_vitrineref05_Right ⟨t, v⟩ with
  | some true => m_attr_Pair_Check ⟨t, v⟩ == some 0
  | some false => true
  | none => false
theorem r0_all : ∀ f : Fin 256, chkR 0 f.val = true := by decide +kernel
theorem r192_all : ∀ f : Fin 256, chkR 192 f.val = true := by decide +kernel
theorem r65_all : ∀ f : Fin 256, chkR 65 f.val = true := by decide +kernel
theorem r66_all : ∀ f : Fin 256, chkR 66 f.val = true := by decide +kernel
theorem r67_all : ∀ f : Fin 256, chkR 67 f.val = true := by decide +kernel
theorem chkR_ok {t v : Int} (h : chkR t v = true) : Tot (m_vitrineref05_Right ⟨t, v⟩) fun b => b = true → m_attr_Pair_Check ⟨t, v⟩ = some 0 := by
  unfold chkR at h
  split at h
  · rename_i e; exact ⟨_, e, fun _ => by simpa using h⟩
  · rename_i e; exact ⟨_, e, fun h => by cases h⟩
  · cases h
theorem right_rel {t v : Int} (hv : By v) : Tot (m_vitrineref05_Right ⟨t, v⟩) fun b => b = true → m_attr_Pair_Check ⟨t, v⟩ = some 0 := by
  obtain ⟨f, rfl⟩ := hv.fin
  by_cases h0 : t = 0
  · subst h0; exact chkR_ok (r0_all f)
  by_cases h1 : t = 192
  · subst h1; exact chkR_ok (r192_all f)
  by_cases h2 : t = 65
  · subst h2; exact chkR_ok (r65_all f)
  by_cases h3 : t = 66
  · subst h3; exact chkR_ok (r66_all f)
  by_cases h4 : t = 67
  · subst h4; exact chkR_ok (r67_all f)
  unfold m_vitrineref05_Right
  simp only [beq_f h0, beq_f h1, beq_f h2, beq_f h3, beq_f h4, cond_false, jn_inl]
  have hl : vitrineref05_Right_l4 ⟨t, (f.val : Int)⟩ [] fuel 0 = some (.inl ()) := by
    rw [show fuel = (fuel - 1) + 1 by unfold fuel; rfl, vitrineref05_Right_l4.eq_2]; rfl
  rw [hl]
  exact tot_some fun h => by cases h
theorem rparse_loop {p : List Int} {c : Nat} (hb : Bs p) (hl : 1 + 2 * c ≤ p.length) (hc : c ≤ 255) (h0 : rd p 0 = (c : Int)) : ∀ (d i k : Nat) (l : List Vvitrineref05_Pair), i + d = c → d < k → l.length = i → (∀ j, j < i → m_attr_Pair_Check ⟨rd p ((1 + 2 * j : Nat) : Int), rd p ((2 + 2 * j : Nat) : Int)⟩ = some 0) →
    Tot (vitrineref05_Parse_l4 p k ((i : Int), l)) fun r => match r with
      | .inl q => q.length = c ∧ ∀ j, j < c → m_attr_Pair_Check ⟨rd p ((1 + 2 * j : Nat) : Int), rd p ((2 + 2 * j : Nat) : Int)⟩ = some 0
      | .inr o => o.2.2 ≠ 0
  | d, i, 0, l, _, hk, _, _ => by omega
  | 0, i, k + 1, l, e, hk, hlen, hch => by
    have hw : w64 (rd p 0) = (c : Int) := by rw [h0, w64_in (by omega) (by omega)]
    have d1 : decide ((i : Int) < (c : Int)) = false := decide_eq_false (by omega)
    have : i = c := by omega
    subst this
    rw [vitrineref05_Parse_l4.eq_2, gd_pos (by omega)]
    simp only [hw, d1, cond_false]
    exact ⟨_, rfl, hlen, hch⟩
  | d + 1, i, k + 1, l, e, hk, hlen, hch => by
    have hw : w64 (rd p 0) = (c : Int) := by rw [h0, w64_in (by omega) (by omega)]
    have d1 : decide ((i : Int) < (c : Int)) = true := decide_eq_true (by omega)
    have w1 : w64 (1 + w64 (2 * (i : Int))) = ((1 + 2 * i : Nat) : Int) := by rw [w64_in (x := 2 * (i : Int)) (by omega) (by omega), w64_in (by omega) (by omega)]; omega
    have w2 : w64 (2 + w64 (2 * (i : Int))) = ((2 + 2 * i : Nat) : Int) := by rw [w64_in (x := 2 * (i : Int)) (by omega) (by omega), w64_in (by omega) (by omega)]; omega
    rw [vitrineref05_Parse_l4.eq_2, gd_pos (by omega)]
    simp only [hw, d1, cond_true, w1, w2, w64_succ (show i < 9223372036854775807 by omega)]
    rw [gd_pos (by omega), gd_pos (by omega)]
    have hB := hb _ (rd_mem (l := p) (n := ((2 + 2 * i : Nat) : Int)) (by omega))
    refine tot_bind (right_rel hB) fun b hbr => tot_cond (fun e2 => tot_esc (tot_some (by simp))) fun e2 => tot_gd (by simp; omega) ?_
    have hbt : b = true := by simpa using e2
    refine rparse_loop hb hl hc h0 d (i + 1) k _ (by omega) (by omega) (by simp; omega) fun j hj => ?_
    by_cases hji : j = i
    · subst hji; exact hbr hbt
    · exact hch j (by omega)
/-- a list of pairs that is one -/
structure Prs (p : List Int) (c : Nat) : Prop where
  le : c ≤ 255
  len : 1 + 2 * c ≤ p.length
  hd : rd p 0 = (c : Int)
  chk : ∀ j, j < c → m_attr_Pair_Check ⟨rd p ((1 + 2 * j : Nat) : Int), rd p ((2 + 2 * j : Nat) : Int)⟩ = some 0
theorem rparse_rel {r : List Int} (hb : Bs r) (hlr : r.length ≤ 68719476736) : Tot (m_vitrineref05_Parse r) fun d => d.2.2 = 0 → ∃ c : Nat, d.2.1 = ((1 + 2 * c : Nat) : Int) ∧ Prs r c := by
  unfold m_vitrineref05_Parse
  by_cases h1 : r.length = 0
  · have d1 : ((r.length : Int) == 0) = true := beq_t (by omega)
    simp only [d1, cond_true, Option.bind_some]
    exact tot_some fun h => absurd h (by decide)
  · have d1 : ((r.length : Int) == 0) = false := beq_f (by omega)
    simp only [d1, cond_false]
    rw [gd_pos (by omega)]
    have hB := hb _ (rd_mem (l := r) (n := 0) (by omega))
    obtain ⟨c, hc⟩ : ∃ c : Nat, rd r 0 = (c : Int) := ⟨(rd r 0).toNat, by have := hB.1; omega⟩
    have hc2 : c ≤ 255 := by have := hB.2; omega
    have hw : w64 (2 * w64 (rd r 0)) = ((2 * c : Nat) : Int) := by
      rw [hc, w64_in (x := (c : Int)) (by omega) (by omega), w64_in (by omega) (by omega)]; omega
    have hw2 : w64 ((r.length : Int) - 1) = ((r.length - 1 : Nat) : Int) := by rw [w64_in (by omega) (by omega)]; omega
    simp only [hw, hw2, Option.bind_some]
    refine tot_cond (fun _ => tot_some fun h => absurd h (by decide)) fun e => ?_
    have hlen : 1 + 2 * c ≤ r.length := by
      have : ¬ ((r.length - 1 : Nat) : Int) < ((2 * c : Nat) : Int) := of_decide_eq_false e
      omega
    refine tot_jn (P := fun q => q.length = c ∧ ∀ j, j < c → m_attr_Pair_Check ⟨rd r ((1 + 2 * j : Nat) : Int), rd r ((2 + 2 * j : Nat) : Int)⟩ = some 0) ((rparse_loop hb hlen hc2 hc c 0 fuel [] (by omega) (by unfold fuel; omega) rfl (fun j hj => by omega)).mono fun x hx => ?_) fun q hq => tot_some fun _ => ⟨c, ?_, hc2, hlen, hc, hq.2⟩
    · cases x with
      | inl q => exact hx
      | inr o => exact fun h => absurd h hx
    · simp only [hq.1]
      rw [w64_in (x := 2 * (c : Int)) (by omega) (by omega), w64_in (by omega) (by omega)]; omega
def prsL (p : List Int) (n : Nat) : List Vattr_Pair := (List.range n).map fun j => ⟨rd p ((1 + 2 * j : Nat) : Int), rd p ((2 + 2 * j : Nat) : Int)⟩
theorem pparse_loop {p : List Int} {c : Nat} (h : Prs p c) : ∀ (d i k : Nat), i + d = c → d < k → attr_Parse_l4 p k (((1 + 2 * i : Nat) : Int), prsL p i) = some (.inl (prsL p c))
  | d, i, 0, _, hk => by omega
  | d, i, k + 1, e, hk => by
    have hc := h.le
    have hl := h.len
    have hw : w64 (1 + w64 (2 * w64 (rd p 0))) = ((1 + 2 * c : Nat) : Int) := by
      rw [h.hd, w64_in (x := (c : Int)) (by omega) (by omega), w64_in (x := 2 * (c : Int)) (by omega) (by omega), w64_in (by omega) (by omega)]; omega
    rw [attr_Parse_l4.eq_2]
    match d with
    | 0 =>
      have d1 : decide (((1 + 2 * i : Nat) : Int) < ((1 + 2 * c : Nat) : Int)) = false := decide_eq_false (by omega)
      have : i = c := by omega
      subst this
      simp only [hw, d1, cond_false]
    | d + 1 =>
      have d1 : decide (((1 + 2 * i : Nat) : Int) < ((1 + 2 * c : Nat) : Int)) = true := decide_eq_true (by omega)
      have hw1 : w64 (((1 + 2 * i : Nat) : Int) + 1) = ((2 + 2 * i : Nat) : Int) := by rw [w64_in (by omega) (by omega)]; omega
      have hw2 : w64 (((1 + 2 * i : Nat) : Int) + 2) = ((1 + 2 * (i + 1) : Nat) : Int) := by rw [w64_in (by omega) (by omega)]; omega
      have hn : ((0 : Int) != 0) = false := rfl
      simp only [hw, d1, cond_true, hw1, hw2]
      rw [gd_pos (by omega), gd_pos (by omega), h.chk i (by omega)]
      simp only [Option.bind_some, hn, cond_false]
      rw [gd_pos (by simp [prsL]; omega)]
      have hs : prsL p i ++ [⟨rd p ((1 + 2 * i : Nat) : Int), rd p ((2 + 2 * i : Nat) : Int)⟩] = prsL p (i + 1) := by unfold prsL; rw [List.range_succ, List.map_append]; rfl
      rw [hs]
      exact pparse_loop h d (i + 1) k (by omega) (by omega)
theorem pparse {p : List Int} {c : Nat} (h : Prs p c) : m_attr_Parse p = some (prsL p c, ((1 + 2 * c : Nat) : Int), 0) := by
  have hc := h.le
  have hl := h.len
  have hw : w64 (1 + w64 (2 * w64 (rd p 0))) = ((1 + 2 * c : Nat) : Int) := by
    rw [h.hd, w64_in (x := (c : Int)) (by omega) (by omega), w64_in (x := 2 * (c : Int)) (by omega) (by omega), w64_in (by omega) (by omega)]; omega
  unfold m_attr_Parse
  have d1 : decide ((p.length : Int) < 1) = false := decide_eq_false (by omega)
  have d2 : decide ((p.length : Int) < ((1 + 2 * c : Nat) : Int)) = false := decide_eq_false (by omega)
  simp only [d1, cond_false]
  rw [gd_pos (by omega)]
  simp only [hw, d2, cond_false, Option.bind_some]
  rw [gd_pos (by omega)]
  have := pparse_loop h c 0 fuel (by omega) (by unfold fuel; omega)
  have h1 : attr_Parse_l4 p fuel (1, []) = some (.inl (prsL p c)) := this
  rw [h1]; rfl
theorem rd_app {p t : List Int} {n : Nat} (h : n < p.length) : rd (p ++ t) (n : Int) = rd p (n : Int) := by
  rw [rdn (by simp; omega), rdn h, List.getElem_append_left h]
theorem Prs.app {p : List Int} {c : Nat} (h : Prs p c) (t : List Int) : Prs (p ++ t) c ∧ prsL (p ++ t) c = prsL p c := by
  have hl := h.len
  refine ⟨⟨h.le, by simp; omega, ?_, fun j hj => ?_⟩, ?_⟩
  · have := rd_app (p := p) (t := t) (n := 0) (by omega)
    rw [show ((0 : Nat) : Int) = 0 from rfl] at this; rw [this]; exact h.hd
  · rw [rd_app (by omega), rd_app (by omega)]; exact h.chk j hj
  · unfold prsL
    apply List.map_congr_left
    intro j hj
    have := List.mem_range.1 hj
    rw [rd_app (by omega), rd_app (by omega)]
end Go.Vt
