/- 'WriteErases' answers true at every input that it can get. No conditions. -/
import Derived.Test.YtmemmonmlbfopaaDoorVqG
set_option linter.unusedVariables false
set_option linter.unusedSimpArgs false
set_option maxRecDepth 100000
namespace Go.Vt
theorem first_tot {m : Int} {N : Nat} {s : Vspace_Space} (h : SS m N s) (n : Int) : ∃ b, m_field_first s n = some b := by
  unfold m_field_first
  simp only [ss_at h, Option.bind_some, m_attr_Of]
  cases (rd s.cells (w64 (n - 1) % N)).Attr with
  | false => exact ⟨_, rfl⟩
  | true =>
    simp only [cond_true]
    cases (rd s.cells (n % N)).Attr <;> exact ⟨_, rfl⟩
theorem find_tot {m : Int} {N : Nat} {s : Vspace_Space} (h : SS m N s) (n d : Int) : ∃ r, m_field_find s n d = some r := by
  have hd := h.dim.dim.le
  have key := loop_ex0 (L := field_find_l4 s d s.size (N : Int)) (n := N) (s := n) (fun _ _ => True) (fun _ => True) (by omega) ?_ ?_ trivial
  · obtain ⟨r, h1, _⟩ := key
    unfold m_field_find m_space_Space_Size
    simp only [Option.bind_some, sz_cells h]
    rw [h1]
    cases r with
    | inl u => exact ⟨_, rfl⟩
    | inr r => exact ⟨_, rfl⟩
  · intro k i v hi _
    have d1 : decide ((i : Int) < (N : Int)) = true := decide_eq_true (by omega)
    rw [field_find_l4.eq_2]
    obtain ⟨b, hb⟩ := first_tot h (w64 (v + d) % N)
    simp only [d1, cond_true, sz_wrap h, Option.bind_some, hb, w64_succ (show i < 9223372036854775807 by omega)]
    cases b with
    | true => exact .inl ⟨_, rfl, trivial⟩
    | false => exact .inr ⟨_, rfl, trivial⟩
  · intro k v _
    have d1 : decide ((N : Int) < (N : Int)) = false := decide_eq_false (by omega)
    rw [field_find_l4.eq_2]
    simp only [d1, cond_false]
    exact ⟨_, rfl, trivial⟩
theorem next_tot {m : Int} {N : Nat} {s : Vspace_Space} (h : SS m N s) (n : Int) : ∃ r, m_field_Next s n = some r := by
  unfold m_field_Next m_space_Space_Size
  simp only [Option.bind_some, sz_wrap h]
  obtain ⟨r, hr⟩ := find_tot h (n % N) 1
  simp only [hr, Option.bind_some]
  exact ⟨_, rfl⟩
theorem no_attr {L : List Vapi_Cell} (h : cnt L = 0) {a : Nat} (ha : a < L.length) : isA' L a = false := by
  rw [cnt_attrs] at h
  cases hA : isA' L a with
  | false => rfl
  | true =>
    have := attrsN_mem.2 ⟨ha, hA⟩
    have h0 : attrsN L L.length = [] := List.length_eq_zero_iff.1 (by omega)
    rw [h0] at this; cases this
theorem some_attr {L : List Vapi_Cell} (h : cnt L ≠ 0) : ∃ a, a < L.length ∧ isA' L a = true := by
  rw [cnt_attrs] at h
  cases hl : attrsN L L.length with
  | nil => rw [hl] at h; simp at h
  | cons a r =>
    have : a ∈ attrsN L L.length := by rw [hl]; simp
    exact ⟨a, attrsN_mem.1 this⟩
theorem erase_ok {m : Int} {N : Nat} {s : Vspace_Space} (h : SS m N s) (l0 : Int) (hc : (∃ a, a < N ∧ isA' s.cells a = true) → l0 = stF s.cells l0 (N - 1)) :
    ∃ s', m_erase_Unprotected s = some s' ∧ SS m N s' ∧ s'.alternate = s.alternate ∧ s'.size = s.size ∧ ((∀ a, a < N → isA' s.cells a = false) → ∀ q, q < N → rd s'.cells (q : Int) = blank (rd s.cells (q : Int))) ∧ ((∃ a, a < N ∧ isA' s.cells a = true) → ∀ q, q < N → rd s'.cells (q : Int) = er s.cells l0 q) := by
  have hd := h.dim.dim.le
  have hl := h.len
  have hcl := cnt_le s.cells
  unfold m_erase_Unprotected m_space_Space_Formatted
  rw [h.attrs]
  by_cases hz : cnt s.cells = 0
  · have d1 : decide (cnt s.cells > 0) = false := decide_eq_false (by omega)
    obtain ⟨s', g1, g2, g3, g4, g5, g6⟩ := erase_all_ok h
    simp only [d1, Option.bind_some, Bool.not_false, cond_true, g1, ss_place g2]
    refine ⟨_, rfl, ⟨g2.model, g2.dim, g2.len, g2.ok, (by simp only [Int.zero_emod]; omega), g2.attrs⟩, g3, g4, fun hno q hq => ?_, fun ⟨a, h1, h2⟩ => ?_⟩
    · simp only
      have h1 : (rd s.cells (q : Int)).Attr = false := hno q hq
      rw [g6 q hq, if_pos h1]
    · rw [no_attr hz (by omega)] at h2; cases h2
  · have d1 : decide (cnt s.cells > 0) = true := decide_eq_true (by omega)
    have hn := some_attr hz
    rw [hl] at hn
    have hcy := hc hn
    have key := loop_rel0 (L := erase_Unprotected_l20 (N : Int)) (n := N) (s := t7 s) (fun i y => ∃ u, y = t7 u ∧ ErSt m N s l0 i u) (fun r => ∃ u, r = t7 u ∧ ErSt m N s l0 N u) (by omega) ?_ ?_ ?_
    · obtain ⟨r, h1, u, rfl, hu⟩ := key
      obtain ⟨r, hr⟩ := next_tot hu.ss (-1)
      have h1' : erase_Unprotected_l20 (N : Int) fuel (0, s.model, s.alternate, s.size.Rows, s.size.Cols, s.cells, s.cursor, s.attrs) = some (t7 u) := h1
      simp only [d1, Option.bind_some, Bool.not_true, cond_false, m_field_Fields, m_space_Space_Attrs, m_space_Space_All, m_space_Space_Size, sz_cells h, h.attrs] at h1' ⊢
      simp only [h1', Option.bind_some, se, hr, ss_place hu.ss]
      refine ⟨_, rfl, ⟨hu.ss.model, hu.ss.dim, hu.ss.len, hu.ss.ok, ?_, hu.ss.attrs⟩, hu.alt, hu.sz, fun hno => ?_, fun _ q hq => ?_⟩
      · obtain ⟨j, hj, hlt⟩ := emod_nat (imax r 0) (N := N) (by omega)
        simp only; omega
      · obtain ⟨a, h2, h3⟩ := hn
        rw [hno a h2] at h3; cases h3
      · simp only
        obtain ⟨b, h2, h3, _⟩ := stF_at hcy hn q hq
        rw [hu.get q hq, h2, if_pos (by omega)]
    · rintro k i y hi ⟨u, rfl, hu⟩
      obtain ⟨v, h1, h2⟩ := er_step h hcy hn hi hu k
      exact ⟨_, h1, v, rfl, h2⟩
    · rintro k y ⟨u, rfl, hu⟩
      have d1 : decide ((N : Int) < (N : Int)) = false := decide_eq_false (by omega)
      rw [erase_Unprotected_l20.eq_2]
      simp only [d1, cond_false]
      exact ⟨_, rfl, u, rfl, hu⟩
    · refine ⟨s, rfl, h, rfl, rfl, rfl, fun q hq => ?_⟩
      obtain ⟨b, h2, _⟩ := stF_at hcy hn q hq
      rw [h2, if_neg (by omega)]
theorem cmd111 : m_write_Command 111 = some (4, true) := by decide +kernel
theorem stF_none {L : List Vapi_Cell} : ∀ n, (∀ a, a < n + 1 → isA' L a = false) → stF L (-1) n = -1
  | 0, h => by simp [stF, h 0 (by omega)]
  | n + 1, h => by simp [stF, h (n + 1) (by omega), stF_none n fun a ha => h a (by omega)]
theorem prot_all : ∀ f : Fin 256, decide (Int.tmod (w64 (f.val : Int)) 64 ≥ 32) = !decide (iband .u8 (f.val : Int) 32 = 0) := by decide +kernel
theorem ceq {a b : Vapi_Cell} (h : a = b) : ((a.Char == b.Char) && ((a.Attr == b.Attr) && ((a.FA == b.FA) && ((a.High == b.High) && ((a.Color == b.Color) && ((a.f_Set == b.f_Set) && true)))))) = true := by subst h; simp
theorem writeErases_true (p : Int) (acts : List Vvitrineref12_Act) (hp : By p) (ha : ∀ a ∈ acts, AOk a) (hl : acts.length ≤ 9223372036854775807) : m_vitrinelaw17_WriteErases p acts = some true := by
  obtain ⟨N, x, _, hr, hlay⟩ := vitrinelaw17_lay_ok hp ha hl
  have hm : Mod4 (2 + p % 4) := (mod4_of hp).2
  generalize 2 + p % 4 = m at hr hm
  have hk := hr.lk
  have hd := hr.dim.dim.le
  have hlen := hr.len
  obtain ⟨l0, hst, hcy, hno⟩ := starts_ok hr
  have hpc : (prog x).cells = x.L := rfl
  obtain ⟨s', e1, e2, e3, e4, e5, e6⟩ := erase_ok hk.ss l0 (by rw [hpc]; exact hcy)
  rw [hpc] at e5 e6
  have hrun : m_write_Run (prog x) [111] = some (s', ⟨4, true, false, false, 0, []⟩, 0) := by
    unfold m_write_Run
    have r0 : rd [(111 : Int)] 0 = 111 := rfl
    have b0 : ((([(111 : Int)].length : Nat) : Int) == 0) = false := rfl
    have b1 : ((4 : Int) == 1) = false := rfl
    have b2 : ((4 : Int) == 2) = false := rfl
    have b3 : ((4 : Int) == 3) = false := rfl
    have b4 : ((4 : Int) == 4) = true := rfl
    simp only [b0, cond_false]
    rw [gd_pos (by decide)]
    simp only [r0, cmd111, Option.bind_some, Bool.not_true, cond_false, b1, b2, b3, b4, cond_true, e1, jn]
  unfold m_vitrinelaw17_WriteErases
  have c0 : ((0 : Int) != 0) = false := rfl
  have c4 : ((4 : Int) != 4) = false := rfl
  simp only [awake17, hlay, hrun, hst, Option.bind_some, Bool.not_true, cond_false, c0, c4]
  have slen : (startsL x.L l0 N).length = N := by simp [startsL]
  have sget : ∀ n, n < N → rd (startsL x.L l0 N) (n : Int) = stF x.L l0 n := fun n hn => by rw [rdn (by omega)]; simp [startsL]
  have key : ∀ (d k i : Nat), i + d = N → d < k → vitrinelaw17_WriteErases_l10 (prog x, x) (s', ⟨4, true, false, false, 0, []⟩, 0) (startsL x.L l0 N) k (i : Int) = some (.inl ()) := by
    intro d
    induction d with
    | zero =>
      intro k i e hk
      obtain ⟨k, rfl⟩ : ∃ j, k = j + 1 := ⟨k - 1, by omega⟩
      have d1 : decide ((i : Int) < (x.L.length : Int)) = false := decide_eq_false (by omega)
      rw [vitrinelaw17_WriteErases_l10.eq_2]
      simp only [d1, cond_false]
    | succ d ih =>
      intro k i e hk
      obtain ⟨k, rfl⟩ : ∃ j, k = j + 1 := ⟨k - 1, by omega⟩
      have hi : i < N := by omega
      have d1 : decide ((i : Int) < (x.L.length : Int)) = true := decide_eq_true (by omega)
      have hci : COk (rd x.L (i : Int)) := hr.ok _ (rd_mem (by omega))
      rw [vitrinelaw17_WriteErases_l10.eq_2]
      simp only [d1, cond_true]
      rw [gd_pos (by omega), ss_atn e2 hi]
      simp only [Option.bind_some]
      rw [gd_pos (by omega), sget i hi, w64_succ (by omega)]
      by_cases hany : ∃ a, a < N ∧ isA' x.L a = true
      · obtain ⟨b, hb1, hb2, hb3⟩ := stF_at (hcy hany) hany i hi
        have d2 : decide ((b : Int) < 0) = false := decide_eq_false (by omega)
        obtain ⟨f, hf⟩ := (hr.ok _ (rd_mem (l := x.L) (n := (b : Int)) (by omega))).fa.fin
        have hpr := prot_all f
        rw [hf] at hpr
        have hcell := e6 hany i hi
        unfold er at hcell
        rw [hb1] at hcell ⊢
        have hfield : m_vitrineref13_Field x (b : Int) = m_vitrineref05_Of (rd x.L (b : Int)).FA := by
          unfold m_vitrineref13_Field
          rw [gd_pos (by omega)]; rfl
        simp only [d2, cond_false, hfield, m_vitrineref05_Of, Option.bind_some, hpr, hcell]
        by_cases hfree : iband .u8 (rd x.L (b : Int)).FA 32 = 0
        · simp only [hfree, decide_true, Bool.not_true, Bool.not_false, if_true]
          cases hat : (rd x.L (i : Int)).Attr with
          | true =>
            obtain ⟨g, hg⟩ := hci.fa.fin
            have h254 := (band1 g).2.2
            rw [hg] at h254
            have e9 := ceq (a := ⟨(rd x.L (i : Int)).Char, true, iband .u8 (rd x.L (i : Int)).FA 254, (rd x.L (i : Int)).High, (rd x.L (i : Int)).Color, (rd x.L (i : Int)).f_Set⟩) (b := demod (rd x.L (i : Int))) (by unfold demod; rw [hat, h254])
            simp only [cond_true, Option.bind_some, if_true, e9, Bool.not_true, cond_false]
            exact ih k (i + 1) (by omega) (by omega)
          | false =>
            have e9 := ceq (a := ⟨0, false, (rd x.L (i : Int)).FA, (rd x.L (i : Int)).High, (rd x.L (i : Int)).Color, (rd x.L (i : Int)).f_Set⟩) (b := blank (rd x.L (i : Int))) (by unfold blank; rw [hat])
            simp only [cond_true, cond_false, Option.bind_some, Bool.false_eq_true, if_false, e9, Bool.not_true]
            exact ih k (i + 1) (by omega) (by omega)
        · have e9 := ceq (a := rd x.L (i : Int)) rfl
          simp only [hfree, decide_false, Bool.not_true, Bool.not_false, if_false]
          cases hat : (rd x.L (i : Int)).Attr with
          | true => rw [hat] at e9; simp only [cond_true, cond_false, Option.bind_some, e9, Bool.not_true]; exact ih k (i + 1) (by omega) (by omega)
          | false => rw [hat] at e9; simp only [cond_true, cond_false, Option.bind_some, e9, Bool.not_true]; exact ih k (i + 1) (by omega) (by omega)
      · have hno' : ∀ a, a < N → isA' x.L a = false := fun a h => by
          cases hA : isA' x.L a with
          | false => rfl
          | true => exact absurd ⟨a, h, hA⟩ hany
        have hl0 := hno hno'
        subst hl0
        have hs1 := stF_none (L := x.L) i fun a h => hno' a (by omega)
        have hat : (rd x.L (i : Int)).Attr = false := hno' i hi
        have d2 : decide ((-1 : Int) < 0) = true := rfl
        have hcell := e5 hno' i hi
        rw [hs1, hcell]
        have e9 := ceq (a := ⟨0, false, (rd x.L (i : Int)).FA, (rd x.L (i : Int)).High, (rd x.L (i : Int)).Color, (rd x.L (i : Int)).f_Set⟩) (b := blank (rd x.L (i : Int))) (by unfold blank; rw [hat])
        simp only [d2, cond_true, cond_false, Option.bind_some, hat, e9, Bool.not_true]
        exact ih k (i + 1) (by omega) (by omega)
  have h1 := key N fuel 0 (by omega) (by unfold fuel; omega)
  have h1' : vitrinelaw17_WriteErases_l10 (prog x, x) (s', ⟨4, true, false, false, 0, []⟩, 0) (startsL x.L l0 N) fuel 0 = some (.inl ()) := h1
  simp only [h1', jn]
end Go.Vt
