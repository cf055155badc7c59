/- What an erase of all unprotected leaves, cell for cell. No conditions. -/
import Derived.Test.YtmemmonmlbfopaaDoorVqF
set_option linter.unusedVariables false
set_option linter.unusedSimpArgs false
set_option maxRecDepth 100000
namespace Go.Vt
def blank (c : Vapi_Cell) : Vapi_Cell := { c with Char := 0 }
theorem ss_put0 {m : Int} {N : Nat} {s : Vspace_Space} (h : SS m N s) {j : Nat} (hj : j < N) :
    ∃ s', m_space_Space_Put s (j : Int) 0 = some s' ∧ SS m N s' ∧ s'.alternate = s.alternate ∧ s'.size = s.size ∧ s'.cursor = s.cursor ∧ ∀ q, q < N → rd s'.cells (q : Int) = if q = j ∧ (rd s.cells (j : Int)).Attr = false then blank (rd s.cells (q : Int)) else rd s.cells (q : Int) := by
  have hd := h.dim.dim.le
  have hl := h.len
  have hjm : (j : Int) % (N : Int) = (j : Int) := Int.emod_eq_of_lt (by omega) (by omega)
  have hjl : j < s.cells.length := by omega
  unfold m_space_Space_Put
  simp only [ss_wrap h, hjm, Option.bind_some]
  rw [gd_pos (by omega)]
  cases ha : (rd s.cells (j : Int)).Attr with
  | true =>
    simp only [Bool.not_true, cond_false]
    exact ⟨s, rfl, h, rfl, rfl, rfl, fun q hq => by rw [if_neg (by simp)]⟩
  | false =>
    simp only [Bool.not_false, cond_true]
    have hok := h.ok _ (List.getElem_mem hjl)
    rw [rdn hjl] at ha ⊢
    have hcn : cnt (s.cells.set j ⟨0, false, s.cells[j].FA, s.cells[j].High, s.cells[j].Color, s.cells[j].f_Set⟩) = cnt s.cells := by
      rw [cnt_set _ _ _ hjl]; unfold c1; simp [ha]
    refine ⟨_, rfl, ⟨h.model, h.dim, by simp [hl], fun d hd' => ?_, h.cur, ?_⟩, rfl, rfl, rfl, fun q hq => ?_⟩
    · rw [Int.toNat_natCast] at hd'
      rcases List.mem_or_eq_of_mem_set hd' with h1 | h1
      · exact h.ok d h1
      · subst h1
        exact ⟨by0, hok.fa, hok.high, hok.color, hok.set, (fun h2 => by cases h2), fun _ => hok.plain ha⟩
    · simp only [Int.toNat_natCast]; rw [hcn]; exact h.attrs
    · rw [rdn (by simp; omega), rdn (by omega)]
      simp only [Int.toNat_natCast, List.getElem_set]
      by_cases hqj : j = q
      · subst hqj; simp [blank, ha]
      · rw [if_neg hqj, if_neg (by omega)]
theorem se (s : Vspace_Space) : (⟨s.model, s.alternate, ⟨s.size.Rows, s.size.Cols⟩, s.cells, s.cursor, s.attrs⟩ : Vspace_Space) = s := rfl
theorem sz_cells {m : Int} {N : Nat} {s : Vspace_Space} (h : SS m N s) : m_addr_Size_Cells ⟨s.size.Rows, s.size.Cols⟩ = some (N : Int) := cells_ok h.dim.dim
theorem sz_wrap {m : Int} {N : Nat} {s : Vspace_Space} (h : SS m N s) (n : Int) : m_addr_Size_Wrap ⟨s.size.Rows, s.size.Cols⟩ n = some (n % N) := wrap_ok h.dim.dim n
theorem ss_atn {m : Int} {N : Nat} {s : Vspace_Space} (h : SS m N s) {n : Nat} (hn : n < N) : m_space_Space_At s (n : Int) = some (rd s.cells (n : Int)) := by
  rw [ss_at h, Int.emod_eq_of_lt (by omega) (by omega)]
abbrev t7 (s : Vspace_Space) : T7 := (s.model, s.alternate, s.size.Rows, s.size.Cols, s.cells, s.cursor, s.attrs)
/-- all cells blank, where none is an attribute -/
theorem erase_all_ok {m : Int} {N : Nat} {s : Vspace_Space} (h : SS m N s) : ∃ s', m_erase_all s = some s' ∧ SS m N s' ∧ s'.alternate = s.alternate ∧ s'.size = s.size ∧ s'.cursor = s.cursor ∧ ∀ q, q < N → rd s'.cells (q : Int) = if (rd s.cells (q : Int)).Attr = false then blank (rd s.cells (q : Int)) else rd s.cells (q : Int) := by
  have hd := h.dim.dim.le
  unfold m_erase_all m_space_Space_Size
  simp only [Option.bind_some, sz_cells h]
  have key := loop_rel0 (L := erase_all_l4 (N : Int)) (n := N) (s := t7 s)
    (fun i y => ∃ u : Vspace_Space, SS m N u ∧ y = t7 u ∧ u.alternate = s.alternate ∧ u.size = s.size ∧ u.cursor = s.cursor ∧ ∀ q, q < N → rd u.cells (q : Int) = if q < i ∧ (rd s.cells (q : Int)).Attr = false then blank (rd s.cells (q : Int)) else rd s.cells (q : Int))
    (fun r => ∃ u : Vspace_Space, SS m N u ∧ r = t7 u ∧ u.alternate = s.alternate ∧ u.size = s.size ∧ u.cursor = s.cursor ∧ ∀ q, q < N → rd u.cells (q : Int) = if (rd s.cells (q : Int)).Attr = false then blank (rd s.cells (q : Int)) else rd s.cells (q : Int)) (by omega) ?_ ?_ ?_
  · obtain ⟨r, h1, u, h2, rfl, h3⟩ := key
    rw [h1]
    exact ⟨u, rfl, h2, h3⟩
  · rintro k i y hi ⟨u, hu, rfl, e1, e2, e3, e4⟩
    have d1 : decide ((i : Int) < (N : Int)) = true := decide_eq_true (by omega)
    obtain ⟨u', g1, g2, g3, g4, g5, g6⟩ := ss_put0 hu hi
    rw [erase_all_l4.eq_2]
    simp only [d1, cond_true, se, g1, Option.bind_some, w64_succ (show i < 9223372036854775807 by omega)]
    refine ⟨_, rfl, u', g2, rfl, g3.trans e1, g4.trans e2, g5.trans e3, fun q hq => ?_⟩
    rw [g6 q hq, e4 q hq, e4 i hi, if_neg (show ¬ (i < i ∧ (rd s.cells (i : Int)).Attr = false) by omega)]
    by_cases hqi : q = i
    · subst hqi
      by_cases ha : (rd s.cells (q : Int)).Attr = false
      · rw [if_pos ⟨rfl, ha⟩, if_neg (by omega), if_pos ⟨by omega, ha⟩]
      · rw [if_neg (fun h => ha h.2), if_neg (fun h => ha h.2), if_neg (fun h => ha h.2)]
    · rw [if_neg (fun h => hqi h.1)]
      by_cases ha : (rd s.cells (q : Int)).Attr = false
      · by_cases hq2 : q < i
        · rw [if_pos ⟨hq2, ha⟩, if_pos ⟨by omega, ha⟩]
        · rw [if_neg (fun h => hq2 h.1), if_neg (fun h => hq2 (by omega))]
      · rw [if_neg (fun h => ha h.2), if_neg (fun h => ha h.2)]
  · rintro k y ⟨u, hu, rfl, e1, e2, e3, e4⟩
    have d1 : decide ((N : Int) < (N : Int)) = false := decide_eq_false (by omega)
    rw [erase_all_l4.eq_2]
    simp only [d1, cond_false]
    refine ⟨_, rfl, u, hu, rfl, e1, e2, e3, fun q hq => ?_⟩
    rw [e4 q hq]
    simp [hq]
  · exact ⟨s, h, rfl, rfl, rfl, rfl, fun q hq => by simp⟩
/-- the i places behind place a are blank -/
structure RunSt (m : Int) (N : Nat) (s : Vspace_Space) (a i : Nat) (u : Vspace_Space) : Prop where
  ss : SS m N u
  alt : u.alternate = s.alternate
  sz : u.size = s.size
  cur : u.cursor = s.cursor
  na : ∀ t, 1 ≤ t → t ≤ i → (rd s.cells (((a + t) % N : Nat) : Int)).Attr = false
  inn : ∀ q, q < N → (∃ t, 1 ≤ t ∧ t ≤ i ∧ q = (a + t) % N) → rd u.cells (q : Int) = blank (rd s.cells (q : Int))
  out : ∀ q, q < N → (¬ ∃ t, 1 ≤ t ∧ t ≤ i ∧ q = (a + t) % N) → rd u.cells (q : Int) = rd s.cells (q : Int)
theorem RunSt.attr {m : Int} {N : Nat} {s u : Vspace_Space} {a i : Nat} (h : RunSt m N s a i u) {q : Nat} (hq : q < N) : (rd u.cells (q : Int)).Attr = (rd s.cells (q : Int)).Attr := by
  by_cases he : ∃ t, 1 ≤ t ∧ t ≤ i ∧ q = (a + t) % N
  · rw [h.inn q hq he]; rfl
  · rw [h.out q hq he]
/-- the places of one field blank -/
theorem erase_run {m : Int} {N : Nat} {s : Vspace_Space} (h : SS m N s) {a : Nat} (ha : a < N) (hat : (rd s.cells (a : Int)).Attr = true) :
    ∃ i u, i + 1 ≤ N ∧ erase_Unprotected_l42 ⟨s.size.Rows, s.size.Cols⟩ fuel ((((a + 1) % N : Nat) : Int), t7 s) = some (t7 u) ∧ RunSt m N s a i u ∧ (rd s.cells (((a + (i + 1)) % N : Nat) : Int)).Attr = true := by
  have hd := h.dim.dim.le
  have loop : ∀ (d i k : Nat) (u : Vspace_Space), i + 1 + d = N → d < k → RunSt m N s a i u →
      ∃ j v, j + 1 ≤ N ∧ erase_Unprotected_l42 ⟨s.size.Rows, s.size.Cols⟩ k ((((a + (i + 1)) % N : Nat) : Int), t7 u) = some (t7 v) ∧ RunSt m N s a j v ∧ (rd s.cells (((a + (j + 1)) % N : Nat) : Int)).Attr = true := by
    intro d
    induction d with
    | zero =>
      intro i k u e hk hu
      obtain ⟨k, rfl⟩ : ∃ j, k = j + 1 := ⟨k - 1, by omega⟩
      have hp : (a + (i + 1)) % N = a := by rw [show a + (i + 1) = a + N by omega, Nat.add_mod_right, Nat.mod_eq_of_lt ha]
      rw [erase_Unprotected_l42.eq_2]
      have h1 : (rd u.cells (((a + (i + 1)) % N : Nat) : Int)).Attr = true := by rw [hu.attr (Nat.mod_lt _ (by omega)), hp]; exact hat
      simp only [se, ss_atn hu.ss (Nat.mod_lt (a + (i + 1)) (show 0 < N by omega)), Option.bind_some, h1, Bool.not_true, cond_false]
      exact ⟨i, u, by omega, rfl, hu, by rw [hp]; exact hat⟩
    | succ d ih =>
      intro i k u e hk hu
      obtain ⟨k, rfl⟩ : ∃ j, k = j + 1 := ⟨k - 1, by omega⟩
      have hpl : (a + (i + 1)) % N < N := Nat.mod_lt _ (by omega)
      rw [erase_Unprotected_l42.eq_2]
      cases h1 : (rd s.cells (((a + (i + 1)) % N : Nat) : Int)).Attr with
      | true =>
        have h2 : (rd u.cells (((a + (i + 1)) % N : Nat) : Int)).Attr = true := by rw [hu.attr hpl]; exact h1
        simp only [se, ss_atn hu.ss hpl, Option.bind_some, h2, Bool.not_true, cond_false]
        exact ⟨i, u, by omega, rfl, hu, h1⟩
      | false =>
        have h2 : (rd u.cells (((a + (i + 1)) % N : Nat) : Int)).Attr = false := by rw [hu.attr hpl]; exact h1
        obtain ⟨v, g1, g2, g3, g4, g5, g6⟩ := ss_put0 hu.ss hpl
        have hw : w64 ((((a + (i + 1)) % N : Nat) : Int) + 1) = (((a + (i + 1)) % N + 1 : Nat) : Int) := by rw [w64_in (by omega) (by omega)]; omega
        have hm : (((a + (i + 1)) % N + 1 : Nat) : Int) % (N : Int) = (((a + (i + 1 + 1)) % N : Nat) : Int) := by
          rw [← Int.natCast_emod, Nat.mod_add_mod]; rfl
        simp only [se, ss_atn hu.ss hpl, Option.bind_some, h2, Bool.not_false, cond_true, g1, hw, sz_wrap h, hm]
        refine ih (i + 1) k v (by omega) (by omega) ⟨g2, g3.trans hu.alt, g4.trans hu.sz, g5.trans hu.cur, fun t h3 h4 => ?_, fun q hq hx => ?_, fun q hq hx => ?_⟩
        · by_cases ht : t = i + 1
          · subst ht; exact h1
          · exact hu.na t h3 (by omega)
        · rw [g6 q hq]
          obtain ⟨t, h3, h4, h5⟩ := hx
          by_cases ht : t = i + 1
          · subst ht
            rw [if_pos ⟨h5, h2⟩]
            by_cases he : ∃ t, 1 ≤ t ∧ t ≤ i ∧ q = (a + t) % N
            · rw [hu.inn q hq he]; rfl
            · rw [hu.out q hq he]
          · have he : ∃ t, 1 ≤ t ∧ t ≤ i ∧ q = (a + t) % N := ⟨t, h3, by omega, h5⟩
            rw [hu.inn q hq he]
            split <;> rfl
        · rw [g6 q hq]
          have h3 : ¬ (q = (a + (i + 1)) % N ∧ (rd u.cells (((a + (i + 1)) % N : Nat) : Int)).Attr = false) := fun h3 => hx ⟨i + 1, by omega, by omega, h3.1⟩
          rw [if_neg h3]
          exact hu.out q hq fun ⟨t, h4, h5, h6⟩ => hx ⟨t, h4, by omega, h6⟩
  have := loop (N - 1) 0 fuel s (by omega) (by unfold fuel; omega) ⟨h, rfl, rfl, rfl, fun t h1 h2 => by omega, fun q hq ⟨t, h1, h2, _⟩ => by omega, fun q hq _ => rfl⟩
  exact this
def demod (c : Vapi_Cell) : Vapi_Cell := ⟨c.Char, c.Attr, ibandn .u8 c.FA 1, c.High, c.Color, c.f_Set⟩
/-- what an erase leaves of place q -/
def er (L : List Vapi_Cell) (l0 : Int) (q : Nat) : Vapi_Cell :=
  let c := rd L (q : Int)
  if iband .u8 (rd L (stF L l0 q)).FA 32 = 0 then (if c.Attr then demod c else blank c) else c
theorem er_attr (L : List Vapi_Cell) (l0 : Int) (q : Nat) : (er L l0 q).Attr = (rd L (q : Int)).Attr := by
  unfold er blank demod; simp only; split
  · split
    · rfl
    · rfl
  · rfl
theorem band1 : ∀ f : Fin 256, By (ibandn .u8 (f.val : Int) 1) ∧ iband .u8 (ibandn .u8 (iband .u8 (f.val : Int) 61) 1) 61 = ibandn .u8 (iband .u8 (f.val : Int) 61) 1 ∧ ibandn .u8 (f.val : Int) 1 = iband .u8 (f.val : Int) 254 := by decide +kernel
structure ErSt (m : Int) (N : Nat) (s : Vspace_Space) (l0 : Int) (a : Nat) (u : Vspace_Space) : Prop where
  ss : SS m N u
  alt : u.alternate = s.alternate
  sz : u.size = s.size
  cur : u.cursor = s.cursor
  get : ∀ q, q < N → rd u.cells (q : Int) = if stF s.cells l0 q < (a : Int) then er s.cells l0 q else rd s.cells (q : Int)
theorem ErSt.attr {m : Int} {N : Nat} {s : Vspace_Space} {l0 : Int} {a : Nat} {u : Vspace_Space} (h : ErSt m N s l0 a u) {q : Nat} (hq : q < N) : (rd u.cells (q : Int)).Attr = (rd s.cells (q : Int)).Attr := by
  rw [h.get q hq]; split
  · exact er_attr _ _ _
  · rfl
theorem er_step {m : Int} {N : Nat} {s : Vspace_Space} (h : SS m N s) {l0 : Int} (hc : l0 = stF s.cells l0 (N - 1)) (hn : ∃ b, b < N ∧ isA' s.cells b = true) {a : Nat} (ha : a < N) {u : Vspace_Space} (hu : ErSt m N s l0 a u) (k : Nat) :
    ∃ v, erase_Unprotected_l20 (N : Int) (k + 1) ((a : Int), t7 u) = erase_Unprotected_l20 (N : Int) k (((a + 1 : Nat) : Int), t7 v) ∧ ErSt m N s l0 (a + 1) v := by
  have hd := h.dim.dim.le
  have hl := h.len
  have hul := hu.ss.len
  have d1 : decide ((a : Int) < (N : Int)) = true := decide_eq_true (by omega)
  have hA := hu.attr ha
  rw [erase_Unprotected_l20.eq_2]
  cases hat : (rd s.cells (a : Int)).Attr with
  | false =>
    rw [hat] at hA
    simp only [d1, cond_true, se, ss_atn hu.ss ha, Option.bind_some, hA, cond_false, w64_succ (show a < 9223372036854775807 by omega)]
    refine ⟨u, rfl, hu.ss, hu.alt, hu.sz, hu.cur, fun q hq => ?_⟩
    rw [hu.get q hq]
    obtain ⟨b, h1, h2, h3⟩ := stF_at hc hn q hq
    have hb : b ≠ a := by
      intro e; subst e
      unfold isA' at h3; rw [hat] at h3; cases h3
    rw [h1]
    by_cases h4 : b < a
    · rw [if_pos (by omega), if_pos (by omega)]
    · rw [if_neg (by omega), if_neg (by omega)]
  | true =>
    have hisA : isA' s.cells a = true := hat
    have hsa : stF s.cells l0 a = (a : Int) := stF_attr hisA
    have hua : rd u.cells (a : Int) = rd s.cells (a : Int) := by rw [hu.get a ha, hsa, if_neg (by omega)]
    have hap : (a : Int) % (N : Int) = (a : Int) := Int.emod_eq_of_lt (by omega) (by omega)
    have hw1 : w64 ((a : Int) + 1) = ((a + 1 : Nat) : Int) := w64_succ (by omega)
    have hm1 : ((a + 1 : Nat) : Int) % (N : Int) = (((a + 1) % N : Nat) : Int) := rfl
    have hok : COk (rd s.cells (a : Int)) := h.ok _ (rd_mem (by omega))
    rw [hat] at hA
    by_cases hp : iband .u8 (rd s.cells (a : Int)).FA 32 = 0
    · have hp' : (iband .u8 (rd s.cells (a : Int)).FA 32 != 0) = false := bne_f hp
      obtain ⟨i, w, hi, g1, g2, g3⟩ := erase_run hu.ss ha hA
      have hwa : rd w.cells (a : Int) = rd s.cells (a : Int) := by
        rw [g2.out a ha, hua]
        rintro ⟨t, h1, h2, h3⟩
        by_cases h4 : a + t < N
        · rw [Nat.mod_eq_of_lt h4] at h3; omega
        · rw [Nat.mod_eq_sub_mod (by omega), Nat.mod_eq_of_lt (by omega)] at h3; omega
      obtain ⟨f, hf⟩ := hok.fa.fin
      obtain ⟨b1, b2, b3⟩ := band1 f
      rw [hf] at b1 b2
      obtain ⟨c1', c2'⟩ := hok.attr hat
      have hcb : CB (demod (rd s.cells (a : Int))) := ⟨hok.char, b1, hok.high, hok.color, hok.set⟩
      obtain ⟨k1, k2⟩ := ss_set g2.ss (a : Int) hcb
      have hfit : Vt.fit (demod (rd s.cells (a : Int))) = demod (rd s.cells (a : Int)) := by
        unfold Vt.fit demod
        simp only [hat, if_true]
        rw [c2'] at b2
        rw [b2, c1']
      rw [hfit, hap, Int.toNat_natCast] at k1 k2
      have e1 : (⟨(rd s.cells (a : Int)).Char, true, ibandn .u8 (rd s.cells (a : Int)).FA 1, (rd s.cells (a : Int)).High, (rd s.cells (a : Int)).Color, (rd s.cells (a : Int)).f_Set⟩ : Vapi_Cell) = demod (rd s.cells (a : Int)) := by unfold demod; rw [hat]
      have hu42 : erase_Unprotected_l42 ⟨u.size.Rows, u.size.Cols⟩ fuel ((((a + 1) % N : Nat) : Int), u.model, u.alternate, u.size.Rows, u.size.Cols, u.cells, u.cursor, u.attrs) = some (t7 w) := g1
      have hsAttr : (rd s.cells (a : Int)).Attr = true := hat
      simp only [d1, cond_true, se, ss_atn hu.ss ha, Option.bind_some, hua, hat, m_attr_Of, hp', cond_false, m_field_Places, m_space_Space_Size, sz_wrap hu.ss, hap, Bool.not_true, hw1, hm1, hu42, ss_atn g2.ss ha, hwa, e1, k1]
      refine ⟨_, rfl, k2, g2.alt.trans hu.alt, g2.sz.trans hu.sz, g2.cur.trans hu.cur, fun q hq => ?_⟩
      have hwl := g2.ss.len
      simp only
      rw [rdn (by simp; omega)]
      simp only [List.getElem_set]
      have er_free : ∀ q, stF s.cells l0 q = (a : Int) → er s.cells l0 q = if (rd s.cells (q : Int)).Attr then demod (rd s.cells (q : Int)) else blank (rd s.cells (q : Int)) := fun q e => by
        unfold er; simp only [e, hp, if_true]
      by_cases hqa : a = q
      · subst hqa
        rw [if_pos rfl, hsa, if_pos (by omega), er_free a hsa, hat]; simp
      · rw [if_neg hqa]
        have hrdw : w.cells[q]'(by omega) = rd w.cells (q : Int) := (rdn (by omega)).symm
        rw [hrdw]
        have na' : ∀ t, 1 ≤ t → t ≤ i → isA' s.cells ((a + t) % N) = false := fun t h1 h2 => by
          have := g2.na t h1 h2
          rw [hu.attr (Nat.mod_lt _ (by omega))] at this; exact this
        by_cases he : ∃ t, 1 ≤ t ∧ t ≤ i ∧ q = (a + t) % N
        · rw [g2.inn q hq he]
          obtain ⟨t, h1, h2, h3⟩ := he
          have hst : stF s.cells l0 q = (a : Int) := by rw [h3]; exact stF_fwd hc ha hisA t fun t' h4 h5 => na' t' h4 (by omega)
          have hnq : (rd s.cells (q : Int)).Attr = false := by have := na' t h1 h2; rw [← h3] at this; exact this
          rw [hst, if_pos (by omega), er_free q hst, hnq, hu.get q hq, hst, if_neg (by omega)]; simp
        · rw [g2.out q hq he, hu.get q hq]
          have hq1 : q = (a + (q + N - a) % N) % N := by
            rw [Nat.add_mod_mod, show a + (q + N - a) = q + N by omega, Nat.add_mod_right, Nat.mod_eq_of_lt hq]
          have hdl : (q + N - a) % N < N := Nat.mod_lt _ (by omega)
          have hd0 : (q + N - a) % N ≠ 0 := by
            intro e; rw [e, Nat.add_zero, Nat.mod_eq_of_lt ha] at hq1; exact hqa hq1.symm
          have hdi : ¬ (q + N - a) % N ≤ i := fun e => he ⟨_, by omega, e, hq1⟩
          have hend : isA' s.cells ((a + (i + 1)) % N) = true := by
            have := g3
            rw [hu.attr (Nat.mod_lt _ (by omega))] at this; exact this
          have hne := stF_past hc ha (show 1 ≤ i + 1 by omega) hend ((q + N - a) % N - (i + 1)) (by omega)
          rw [show i + 1 + ((q + N - a) % N - (i + 1)) = (q + N - a) % N by omega, ← hq1] at hne
          obtain ⟨b, h1, h2, h3⟩ := stF_at hc hn q hq
          rw [h1] at hne ⊢
          by_cases h4 : b < a
          · rw [if_pos (by omega), if_pos (by omega)]
          · rw [if_neg (by omega), if_neg (by omega)]
    · have hp' : (iband .u8 (rd s.cells (a : Int)).FA 32 != 0) = true := bne_t hp
      simp only [d1, cond_true, se, ss_atn hu.ss ha, Option.bind_some, hua, hat, m_attr_Of, hp', hw1]
      refine ⟨u, rfl, hu.ss, hu.alt, hu.sz, hu.cur, fun q hq => ?_⟩
      rw [hu.get q hq]
      by_cases hst : stF s.cells l0 q = (a : Int)
      · rw [hst, if_neg (by omega), if_pos (by omega)]
        unfold er; simp only [hst, hp, if_false]
      · obtain ⟨b, h1, h2, h3⟩ := stF_at hc hn q hq
        rw [h1] at hst ⊢
        by_cases h4 : b < a
        · rw [if_pos (by omega), if_pos (by omega)]
        · rw [if_neg (by omega), if_neg (by omega)]
end Go.Vt
