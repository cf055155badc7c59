/- Of the model of ReadShort: it answers true. No conditions. -/
import Derived.Test.YteebpkekdkkmhaaVpG
set_option linter.unusedVariables false
set_option linter.unusedSimpArgs false
namespace Go.Vt
theorem mod3_of {p : Int} (h : By p) : 0 ≤ w64 (p.tmod 3) ∧ w64 (p.tmod 3) ≤ 2 := by
  rw [Int.tmod_eq_emod_of_nonneg h.1]
  have h1 := Int.emod_nonneg p (show (3 : Int) ≠ 0 by omega)
  have h2 := Int.emod_lt_of_pos p (show (0 : Int) < 3 by omega)
  rw [w64_in (by omega) (by omega)]; omega
theorem step_pre (mode : Int) (s : St) (c : Vapi_Cell) : ∃ t, (sstep mode s c).1 = s.1 ++ t := by
  unfold sstep sone; split
  · exact ⟨[], by simp⟩
  · exact ⟨_, rfl⟩
theorem fold_pre (mode : Int) : ∀ (l : List Vapi_Cell) (s : St), ∃ t, (l.foldl (sstep mode) s).1 = s.1 ++ t
  | [], s => ⟨[], by simp⟩
  | c :: l, s => by
    obtain ⟨t, h⟩ := step_pre mode s c
    obtain ⟨u, h2⟩ := fold_pre mode l (sstep mode s c)
    exact ⟨t ++ u, by simp only [List.foldl_cons]; rw [h2, h, List.append_assoc]⟩
theorem mstep_pre (L : List Vapi_Cell) (mode : Int) (n : Nat) (s : St) : ∃ t, (mstep L mode n s).1 = s.1 ++ t := by
  unfold mstep; split
  · obtain ⟨t, h⟩ := fold_pre mode (run L ((n + 1) % L.length)) (s.1 ++ 17 :: adr (((n + 1) % L.length : Nat) : Int), s.2)
    exact ⟨_, by rw [h]; simp only [List.append_assoc]; rfl⟩
  · exact ⟨[], by simp⟩
theorem iter_pre (L : List Vapi_Cell) (mode : Int) : ∀ (m i : Nat) (s : St), ∃ t, (iterN (mstep L mode) i m s).1 = s.1 ++ t
  | 0, i, s => ⟨[], by simp [iterN]⟩
  | m + 1, i, s => by
    obtain ⟨t, h⟩ := mstep_pre L mode i s
    obtain ⟨u, h2⟩ := iter_pre L mode m (i + 1) (mstep L mode i s)
    exact ⟨t ++ u, by rw [iterN, h2, h, List.append_assoc]⟩
theorem sent_pre (L : List Vapi_Cell) (cur aid mode : Int) : ∃ t, sent L cur aid mode = aid :: (adr cur ++ t) := by
  unfold sent; split
  · obtain ⟨t, h⟩ := fold_pre mode L (aid :: adr cur, zc); exact ⟨t, by rw [h]; rfl⟩
  · obtain ⟨t, h⟩ := iter_pre L mode L.length 0 (aid :: adr cur, zc); exact ⟨t, by rw [h]; rfl⟩
theorem readShort_true (p : Int) (acts : List Vvitrineref12_Act) (aid md : Int) (hp : By p) (ha : ∀ a ∈ acts, AOk a) (hl : acts.length ≤ 9223372036854775807) (hi : By aid) (hm : By md) : m_vitrinelaw19_ReadShort p acts aid md = some true := by
  obtain ⟨N, x, _, h2, h3⟩ := vitrinelaw19_lay_ok hp ha hl
  have hk := mod3_of hm
  have hss := h2.lk.ss
  have hcur := h2.cur
  have hle := h2.dim.dim.le
  obtain ⟨n, hn⟩ : ∃ n : Nat, x.Cursor = (n : Int) := ⟨x.Cursor.toNat, by omega⟩
  obtain ⟨a, b, hE, hab⟩ := adr_ok (n := n) (by omega)
  have hdec := (renc_ok (n := n) (by omega) hE).2
  obtain ⟨t, ht⟩ := sent_pre (prog x).cells (prog x).cursor aid (w64 (md.tmod 3))
  have hc : (prog x).cursor = (n : Int) := hn
  rw [hc, hab] at ht
  unfold m_vitrinelaw19_ReadShort
  have e0 : ((0 : Int) != 0) = false := rfl
  have e1 : ((0 : Int) == 0) = true := rfl
  have hge : decide (((sent (prog x).cells (prog x).cursor aid (w64 (md.tmod 3))).length : Int) < 3) = false := decide_eq_false (by rw [hc, ht]; simp; omega)
  simp only [awake19, h3, Option.bind_some, Bool.not_true, cond_false, Modified_ok hss hi hk, All_ok hss hk, e0, hge, (short_ok hi).2]
  cases hsh : shortA aid with
  | true => simp only [cond_true, if_true, same_refl', Option.bind_some]
  | false =>
    simp only [cond_false, Bool.false_eq_true, if_false, same_refl', Option.bind_some, cond_true]
    have hd : List.drop 1 (sent (prog x).cells (prog x).cursor aid (w64 (md.tmod 3))) = a :: b :: t := by rw [hc, ht]; rfl
    rw [gd_pos (by rw [hc, ht]; simp; omega), hd, hdec]
    simp only [Option.bind_some, e1, cond_true, hn, beq_t]
end Go.Vt
