/- Each kind of order, and all of them: the document's reading, and the program's. No conditions. -/
import Derived.Test.YtmemmonmlbfopaaGreatDoorVrH
set_option linter.unusedVariables false
set_option linter.unusedSimpArgs false
set_option maxRecDepth 100000
namespace Go.Vt
section
variable {r : List Int}
theorem ris5 : m_vitrineref16_Is 5 = some true := by decide +kernel
theorem ris8 : m_vitrineref16_Is 8 = some true := by decide +kernel
theorem ris17 : m_vitrineref16_Is 17 = some true := by decide +kernel
theorem ris18 : m_vitrineref16_Is 18 = some true := by decide +kernel
theorem ris19 : m_vitrineref16_Is 19 = some true := by decide +kernel
theorem ris29 : m_vitrineref16_Is 29 = some true := by decide +kernel
theorem ris40 : m_vitrineref16_Is 40 = some true := by decide +kernel
theorem ris41 : m_vitrineref16_Is 41 = some true := by decide +kernel
theorem ris44 : m_vitrineref16_Is 44 = some true := by decide +kernel
theorem ris60 : m_vitrineref16_Is 60 = some true := by decide +kernel
theorem gone (hb : Bs r) {P : Prop} (h : P) : P := h
theorem next5 : Tot (m_vitrineref16_next (5 :: r)) (Post (5 :: r)) := by
  have ew : w64 5 = 5 := by decide
  unfold m_vitrineref16_next
  simp only [gd_pos gg, hr0, ris5, Option.bind_some, Bool.not_true, cond_false, cond_true, ew, Int.reduceBEq, jn_inl]
  exact tot_cond (fun _ => tot_some (post_err (by decide))) fun _ => tot_some fun _ => ⟨1, rfl, Nat.le_refl _, by simp, .inr (good_of (l := []) (by simp) rfl (by simp) (lo_nn (by simp)) fun r => op5)⟩
theorem next19 : Tot (m_vitrineref16_next (19 :: r)) (Post (19 :: r)) := by
  have ew : w64 19 = 19 := by decide
  unfold m_vitrineref16_next
  simp only [gd_pos gg, hr0, ris19, Option.bind_some, Bool.not_true, cond_false, cond_true, ew, Int.reduceBEq, jn_inl]
  exact tot_cond (fun _ => tot_some (post_err (by decide))) fun _ => tot_some fun _ => ⟨1, rfl, Nat.le_refl _, by simp, .inr (good_of (l := []) (by simp) rfl (by simp) (lo_nn (by simp)) fun r => op19)⟩
theorem next29 : Tot (m_vitrineref16_next (29 :: r)) (Post (29 :: r)) := by
  have ew : w64 29 = 29 := by decide
  unfold m_vitrineref16_next
  simp only [gd_pos gg, hr0, ris29, Option.bind_some, Bool.not_true, cond_false, cond_true, ew, Int.reduceBEq, jn_inl]
  refine tot_cond (fun _ => tot_some (post_err (by decide))) fun e => ?_
  have hl : 2 ≤ (29 :: r).length := by
    have : ¬ ((29 :: r).length : Int) < 2 := of_decide_eq_false e
    omega
  match r, hl with
  | x :: r', _ =>
    rw [gd_pos (by simp only [List.length_cons]; omega)]
    exact tot_some fun _ => ⟨2, rfl, by omega, by simp, .inr (good_of (l := [x]) (by simp) rfl (by simp) (lo_nn (by simp)) fun r => op29)⟩
theorem next8 (hb : Bs r) : Tot (m_vitrineref16_next (8 :: r)) (Post (8 :: r)) := by
  have ew : w64 8 = 8 := by decide
  unfold m_vitrineref16_next
  simp only [gd_pos gg, hr0, ris8, Option.bind_some, Bool.not_true, cond_false, cond_true, ew, Int.reduceBEq, jn_inl]
  refine tot_cond (fun _ => tot_some (post_err (by decide))) fun e => ?_
  have hl : 2 ≤ (8 :: r).length := by
    have : ¬ ((8 :: r).length : Int) < 2 := of_decide_eq_false e
    omega
  match r, hl, hb with
  | x :: r', _, hb =>
    have hx : By x := hb x (by simp)
    have r1 : rd (8 :: x :: r') 1 = x := rfl
    rw [gd_pos (by simp only [List.length_cons]; omega)]
    simp only [r1, ris_spec hx, Option.bind_some]
    cases ho : isO x with
    | true => exact tot_some (post_err (by decide))
    | false =>
      simp only [cond_false]
      rw [gd_pos (by simp only [List.length_cons]; omega)]
      exact tot_some fun _ => ⟨2, rfl, by omega, by simp, .inr (good_of (l := [x]) (by simp) rfl (by simp) (lo_nn (by simp)) fun r => op8 (by rw [is_spec hx, ho]))⟩
theorem next40 (hb : Bs r) : Tot (m_vitrineref16_next (40 :: r)) (Post (40 :: r)) := by
  have ew : w64 40 = 40 := by decide
  unfold m_vitrineref16_next
  simp only [gd_pos gg, hr0, ris40, Option.bind_some, Bool.not_true, cond_false, cond_true, ew, Int.reduceBEq, jn_inl]
  refine tot_cond (fun _ => tot_some (post_err (by decide))) fun e => ?_
  have hl : 3 ≤ (40 :: r).length := by
    have : ¬ ((40 :: r).length : Int) < 3 := of_decide_eq_false e
    omega
  match r, hl, hb with
  | x :: y :: r', _, hb =>
    have hy : By y := hb y (by simp)
    have r1 : rd (40 :: x :: y :: r') 1 = x := rfl
    have r2 : rd (40 :: x :: y :: r') 2 = y := rfl
    rw [gd_pos (by simp only [List.length_cons]; omega), gd_pos (by simp only [List.length_cons]; omega)]
    simp only [r1, r2]
    obtain ⟨b, hbr, _⟩ := right_rel (t := x) hy
    simp only [hbr, Option.bind_some]
    cases b with
    | false => exact tot_some (post_err (by decide))
    | true => exact tot_some fun _ => ⟨3, rfl, by omega, by simp, .inl rfl⟩
theorem next17 (hb : Bs r) : Tot (m_vitrineref16_next (17 :: r)) (Post (17 :: r)) := by
  have ew : w64 17 = 17 := by decide
  unfold m_vitrineref16_next
  simp only [gd_pos gg, hr0, ris17, Option.bind_some, Bool.not_true, cond_false, cond_true, ew, Int.reduceBEq, jn_inl]
  rw [gd_pos (by simp only [List.length_cons]; omega)]
  simp only [List.drop_succ_cons, List.drop_zero]
  obtain ⟨d, hd, hp⟩ := dec_rel hb
  simp only [hd, Option.bind_some]
  by_cases he : d.2 = 0
  · obtain ⟨x, y, r', rfl, v, hv, hlo⟩ := hp he
    simp only [bne_f he, cond_false, jn_inl]
    refine tot_cond (fun _ => tot_some (post_err (by decide))) fun _ => tot_some fun _ => ⟨3, rfl, by omega, by simp, .inr (good_of (l := [x, y]) (by simp) rfl (by simp) hlo fun r => op17 hv)⟩
  · simp only [bne_t he, cond_true]
    exact tot_some (post_err he)
theorem next18 (hb : Bs r) : Tot (m_vitrineref16_next (18 :: r)) (Post (18 :: r)) := by
  have ew : w64 18 = 18 := by decide
  unfold m_vitrineref16_next
  simp only [gd_pos gg, hr0, ris18, Option.bind_some, Bool.not_true, cond_false, cond_true, ew, Int.reduceBEq, jn_inl]
  rw [gd_pos (by simp only [List.length_cons]; omega)]
  simp only [List.drop_succ_cons, List.drop_zero]
  obtain ⟨d, hd, hp⟩ := dec_rel hb
  simp only [hd, Option.bind_some]
  by_cases he : d.2 = 0
  · obtain ⟨x, y, r', rfl, v, hv, hlo⟩ := hp he
    simp only [bne_f he, cond_false, jn_inl]
    refine tot_cond (fun _ => tot_some (post_err (by decide))) fun _ => tot_some fun _ => ⟨3, rfl, by omega, by simp, .inr (good_of (l := [x, y]) (by simp) rfl (by simp) hlo fun r => op18 hv)⟩
  · simp only [bne_t he, cond_true]
    exact tot_some (post_err he)
theorem next60 (hb : Bs r) : Tot (m_vitrineref16_next (60 :: r)) (Post (60 :: r)) := by
  have ew : w64 60 = 60 := by decide
  unfold m_vitrineref16_next
  simp only [gd_pos gg, hr0, ris60, Option.bind_some, Bool.not_true, cond_false, cond_true, ew, Int.reduceBEq, jn_inl]
  rw [gd_pos (by simp only [List.length_cons]; omega)]
  simp only [List.drop_succ_cons, List.drop_zero]
  obtain ⟨d, hd, hp⟩ := dec_rel hb
  simp only [hd, Option.bind_some]
  by_cases he : d.2 = 0
  · obtain ⟨x, y, r', rfl, v, hv, hlo⟩ := hp he
    simp only [bne_f he, cond_false, jn_inl]
    refine tot_cond (fun _ => tot_some (post_err (by decide))) fun e => ?_
    have hl : 4 ≤ (60 :: x :: y :: r').length := by
      have : ¬ ((60 :: x :: y :: r').length : Int) < 4 := of_decide_eq_false e
      omega
    match r', hl, hb with
    | z :: r2, _, hb =>
      have hz : By z := hb z (by simp)
      have r3 : rd (60 :: x :: y :: z :: r2) 3 = z := rfl
      rw [gd_pos (by simp only [List.length_cons]; omega)]
      simp only [r3]
      by_cases h8 : z = 8
      · subst h8
        have e8 : ((8 : Int) == 8) = true := rfl
        simp only [e8, cond_true]
        rw [gd_pos (by simp only [List.length_cons]; omega)]
        by_cases hl5 : (60 :: x :: y :: 8 :: r2).length < 5
        · have d1 : decide (((60 :: x :: y :: 8 :: r2).length : Int) < 5) = true := decide_eq_true (by omega)
          simp only [d1, cond_true]
          exact tot_some (post_err (by decide))
        · have d1 : decide (((60 :: x :: y :: 8 :: r2).length : Int) < 5) = false := decide_eq_false (by omega)
          simp only [d1, cond_false]
          match r2, hl5, hb with
          | [], hl5, _ => exact absurd (by simp) hl5
          | w :: r3, _, hb =>
            have hw : By w := hb w (by simp)
            have r4 : rd (60 :: x :: y :: 8 :: w :: r3) 4 = w := rfl
            rw [gd_pos (by simp only [List.length_cons]; omega)]
            simp only [r4, jn_inl, ris_spec hw, Option.bind_some]
            cases ho : isO w with
            | true => exact tot_some (post_err (by decide))
            | false => exact tot_some fun _ => ⟨5, rfl, by omega, by simp, .inr (good_of (l := [x, y, 8, w]) (by simp) rfl (by simp) hlo fun r => op60g hv (by rw [is_spec hw, ho]))⟩
      · simp only [beq_f h8, cond_false, jn_inl, ris_spec hz, Option.bind_some]
        rw [gd_pos (by simp only [List.length_cons]; omega)]
        cases ho : isO z with
        | true => exact tot_some (post_err (by decide))
        | false => exact tot_some fun _ => ⟨4, rfl, by omega, by simp, .inr (good_of (l := [x, y, z]) (by simp) rfl (by simp) hlo fun r => op60 hv h8 (by rw [is_spec hz, ho]))⟩
  · simp only [bne_t he, cond_true]
    exact tot_some (post_err he)
theorem nextP {k : Int} (hk : k = 41 ∨ k = 44) (hb : Bs r) (hl : r.length ≤ 1000000) : Tot (m_vitrineref16_next (k :: r)) (Post (k :: r)) := by
  have ew : w64 k = k := by rcases hk with rfl | rfl <;> decide
  have hI : m_vitrineref16_Is k = some true := by rcases hk with rfl | rfl <;> decide +kernel
  have b17 : (k == 17) = false := beq_f (by rcases hk with rfl | rfl <;> decide)
  have b18 : (k == 18) = false := beq_f (by rcases hk with rfl | rfl <;> decide)
  have b40 : (k == 40) = false := beq_f (by rcases hk with rfl | rfl <;> decide)
  have b60 : (k == 60) = false := beq_f (by rcases hk with rfl | rfl <;> decide)
  have b29 : (k == 29) = false := beq_f (by rcases hk with rfl | rfl <;> decide)
  have b8 : (k == 8) = false := beq_f (by rcases hk with rfl | rfl <;> decide)
  have bb : (cond (k == 41) (some (k == 41)) (some (k == 44)) : Option Bool) = some true := by rcases hk with rfl | rfl <;> rfl
  unfold m_vitrineref16_next
  simp only [gd_pos gg, hr0, hI, Option.bind_some, Bool.not_true, cond_false, cond_true, ew, b17, b18, b40, b60, b29, b8, bb]
  rw [gd_pos (by simp only [List.length_cons]; omega)]
  simp only [List.drop_succ_cons, List.drop_zero]
  obtain ⟨d, hd, hp⟩ := rparse_rel hb (by omega)
  simp only [hd, Option.bind_some, esc, jn]
  refine tot_some fun he => ?_
  obtain ⟨c, hc, hprs⟩ := hp he
  have hle := hprs.le
  have hlen := hprs.len
  refine ⟨1 + (1 + 2 * c), ?_, by omega, by simp; omega, .inr ?_⟩
  · simp only [hc]; rw [w64_in (by omega) (by omega)]; omega
  · rcases hk with rfl | rfl
    · exact good_prs (by decide) hprs fun r' h => op41 h
    · exact good_prs (by decide) hprs fun r' h => op44 h
end
theorem next_rel {p : List Int} (hb : Bs p) (h0 : 0 < p.length) (hl : p.length ≤ 1000000) : Tot (m_vitrineref16_next p) (Post p) := by
  match p, hb, h0, hl with
  | c :: r, hb, h0, hl =>
    have hbr : Bs r := fun x hx => hb x (by simp [hx])
    have hlr : r.length ≤ 1000000 := by simp at hl; omega
    cases ho : isO c with
    | false => exact next_text hb hl ho
    | true =>
      have hm : c ∈ [5, 8, 17, 18, 19, 29, 40, 41, 44, (60 : Int)] := of_decide_eq_true ho
      simp only [List.mem_cons, List.mem_nil_iff, or_false] at hm
      rcases hm with rfl | rfl | rfl | rfl | rfl | rfl | rfl | rfl | rfl | rfl
      · exact next5
      · exact next8 hbr
      · exact next17 hbr
      · exact next18 hbr
      · exact next19
      · exact next29
      · exact next40 hbr
      · exact nextP (.inl rfl) hbr hlr
      · exact nextP (.inr rfl) hbr hlr
      · exact next60 hbr
/-- bytes that are whole orders, none of which says how it looks -/
inductive Sk : List Int → Prop
  | nil : Sk []
  | cons {p : List Int} {n : Nat} (h1 : 1 ≤ n) (h2 : n ≤ p.length) (hg : Good p n) (hs : Sk (p.drop n)) : Sk p
theorem all_loop' {p : List Int} (hb : Bs p) (hl : p.length ≤ 1000) : ∀ (d i k : Nat) (l : List Vvitrineref16_Op), i + d = p.length → d < k → l.length ≤ i →
    Tot (vitrineref16_All_l2 p k ((i : Int), l)) fun r => match r with
      | .inl q => q.2.length ≤ p.length ∧ ∃ l', q.2 = l ++ l' ∧ ((∀ o ∈ l', o.Kind ≠ 40) → Sk (p.drop i))
      | .inr o => o.2.2 ≠ 0 ∧ o.1.length ≤ p.length
  | d, i, 0, l, _, hk, _ => by omega
  | d, i, k + 1, l, e, hk, hlen => by
    rw [vitrineref16_All_l2.eq_2]
    by_cases hd : d = 0
    · have d1 : decide ((i : Int) < (p.length : Int)) = false := decide_eq_false (by omega)
      simp only [d1, cond_false]
      refine tot_some ⟨by simp only; omega, [], by simp, fun _ => ?_⟩
      rw [List.drop_eq_nil_of_le (by omega)]; exact .nil
    · have d1 : decide ((i : Int) < (p.length : Int)) = true := decide_eq_true (by omega)
      simp only [d1, cond_true]
      rw [gd_pos (by omega), Int.toNat_natCast]
      refine tot_bind (next_rel (hb.drop i) (by simp; omega) (by simp; omega)) fun x hx => tot_cond (fun e2 => tot_esc (tot_some ⟨by simpa using e2, by simp only; omega⟩)) fun e2 => ?_
      obtain ⟨n, hn, n1, n2, n3⟩ := hx (by simpa using e2)
      rw [List.length_drop] at n2
      refine tot_gd (by simp; omega) ?_
      have hw : w64 ((i : Int) + x.2.1) = ((i + n : Nat) : Int) := by rw [hn, w64_in (by omega) (by omega)]; omega
      rw [hw]
      refine (all_loop' hb hl (d - n) (i + n) k _ (by omega) (by omega) (by simp; omega)).mono fun r hr => ?_
      match r, hr with
      | .inl q, hr =>
        obtain ⟨q1, l', q2, q3⟩ := hr
        refine ⟨q1, x.1 :: l', by rw [q2]; simp, fun hk => ?_⟩
        have hx40 := hk x.1 (by simp)
        have hrest := q3 fun o ho => hk o (by simp [ho])
        rw [← List.drop_drop] at hrest
        rcases n3 with n3 | n3
        · exact absurd n3 hx40
        · exact .cons n1 (by rw [List.length_drop]; exact n2) n3 hrest
      | .inr o, hr => exact hr
theorem all_rel {p : List Int} (hb : Bs p) (hl : p.length ≤ 1000) : Tot (m_vitrineref16_All p) fun r => r.1.length ≤ 1000 ∧ (r.2.2 = 0 → (∀ o ∈ r.1, o.Kind ≠ 40) → Sk p) := by
  unfold m_vitrineref16_All
  refine tot_jn (P := fun q => q.2.length ≤ p.length ∧ ((∀ o ∈ q.2, o.Kind ≠ 40) → Sk p)) ((all_loop' hb hl p.length 0 fuel [] (by omega) (by unfold fuel; omega) (by simp)).mono fun r hr => ?_) fun q hq => tot_some ⟨by simp only; omega, fun _ => hq.2⟩
  match r, hr with
  | .inl q, hr =>
    obtain ⟨q1, l', q2, q3⟩ := hr
    exact ⟨q1, fun h => by have := q3 (by rw [q2] at h; simpa using h); simpa using this⟩
  | .inr o, hr => exact ⟨by have := hr.2; omega, fun h => absurd h hr.1⟩
end Go.Vt
