/- What acts make, by the law's own helper. No conditions. -/
import Derived.Test.YteebpkekdkkmhaaGreatDoorVsD
set_option linter.unusedVariables false
set_option linter.unusedSimpArgs false
namespace Go.Vt
theorem vitrinelaw20_acts {m : Int} (hm : Mod4 m) {acts : List Vvitrineref12_Act} (ha : ∀ a ∈ acts, AOk a) (hl : acts.length ≤ 9223372036854775807) (t : T7) :
    ∃ r, vitrinelaw20_lay_l6 acts fuel (0, m, false, rOf m false, cOf m false, List.replicate (nOf m false) zc, 0, t) = some r ∧ ∃ N x, doAll (clr m false) (acts.take 30) = some x ∧ RS m N x ∧ r = (x.Model, x.Alt, x.Size.Rows, x.Size.Cols, x.L, x.Cursor, t) := by
  have h0 := rs_clr hm false
  refine loop_rel0 (L := vitrinelaw20_lay_l6 acts) (n := acts.length) (fun i y => ∃ N x, doAll (clr m false) (acts.take (min i 30)) = some x ∧ RS m N x ∧ y = (x.Model, x.Alt, x.Size.Rows, x.Size.Cols, x.L, x.Cursor, t))
    (fun r => ∃ N x, doAll (clr m false) (acts.take 30) = some x ∧ RS m N x ∧ r = (x.Model, x.Alt, x.Size.Rows, x.Size.Cols, x.L, x.Cursor, t)) (by omega) ?_ ?_ ⟨_, _, rfl, h0, rfl⟩
  · rintro k i y hi ⟨N, x, hx, hr, rfl⟩
    rw [vitrinelaw20_lay_l6.eq_2]
    have d1 : decide ((i : Int) < (acts.length : Int)) = true := decide_eq_true (by omega)
    simp only [d1, cond_true]
    rw [gd_pos (by omega), w64_succ (by omega)]
    by_cases h2 : i < 30
    · have d2 : decide ((i : Int) < 30) = true := decide_eq_true (by omega)
      have hA : AOk acts[i] := ha _ (List.getElem_mem hi)
      obtain ⟨N', x', h3, h4⟩ := rs_do hm hr hA
      have hxe : (⟨x.Model, x.Alt, ⟨x.Size.Rows, x.Size.Cols⟩, x.L, x.Cursor⟩ : Vvitrineref12_Space) = x := rfl
      have hce : ({ acts[i] with C := acts[i].C } : Vvitrineref12_Act) = acts[i] := rfl
      simp only [d2, cond_true, rdn hi, hxe, hce, h3, Option.bind_some]
      refine ⟨_, rfl, N', x', ?_, h4, rfl⟩
      obtain ⟨e1, e2⟩ := min30_lt h2
      rw [e1] at hx
      rw [e2, List.take_succ_eq_append_getElem hi, doAll_app, hx]
      simp only [Option.bind_some, doAll, h3]
    · have d2 : decide ((i : Int) < 30) = false := decide_eq_false (by omega)
      simp only [d2, cond_false, Option.bind_some]
      obtain ⟨e1, e2⟩ := min30_ge h2
      rw [e1] at hx
      exact ⟨_, rfl, N, x, by rw [e2]; exact hx, hr, rfl⟩
  · rintro k y ⟨N, x, hx, hr, rfl⟩
    rw [vitrinelaw20_lay_l6.eq_2]
    have d1 : decide ((acts.length : Int) < (acts.length : Int)) = false := decide_eq_false (by omega)
    simp only [d1, cond_false]
    refine ⟨_, rfl, N, x, ?_, hr, rfl⟩
    by_cases h : acts.length ≤ 30
    · rw [Nat.min_eq_left h] at hx
      rw [← hx, List.take_of_length_le h, List.take_of_length_le (Nat.le_refl _)]
    · rw [Nat.min_eq_right (by omega)] at hx; exact hx
theorem vitrinelaw20_cells {m : Int} {N : Nat} {x : Vvitrineref12_Space} (hr : RS m N x) (d : Int × Bool × Int × Int × List Vapi_Cell × Int × T7) (hd : d.2.2.2.2.1 = x.L) :
    vitrinelaw20_lay_l14 d fuel (0, m, x.Alt, x.Size.Rows, x.Size.Cols, List.replicate N zc, 0, 0) = some (m, x.Alt, x.Size.Rows, x.Size.Cols, x.L, 0, cnt x.L) := by
  have hle := hr.dim.dim.le
  have hlen := hr.len
  have key := loop_rel0 (L := vitrinelaw20_lay_l14 d) (n := N) (s := (m, x.Alt, x.Size.Rows, x.Size.Cols, List.replicate N zc, 0, 0))
    (fun i y => ∃ s : Vspace_Space, SS m N s ∧ y = (s.model, s.alternate, s.size.Rows, s.size.Cols, s.cells, s.cursor, s.attrs) ∧ s.alternate = x.Alt ∧ s.size = ⟨x.Size.Rows, x.Size.Cols⟩ ∧ s.cursor = 0 ∧ s.cells = x.L.take i ++ List.replicate (N - i) zc)
    (fun r => r = (m, x.Alt, x.Size.Rows, x.Size.Cols, x.L, 0, cnt x.L)) (by omega) ?_ ?_ ?_
  · obtain ⟨r, h1, h2⟩ := key; rw [h1, h2]
  · rintro k i y hi ⟨s, hs, rfl, e1, e2, e3, e4⟩
    rw [vitrinelaw20_lay_l14.eq_2]
    have hi' : i < x.L.length := by omega
    have d1 : decide ((i : Int) < (d.2.2.2.2.1.length : Int)) = true := decide_eq_true (by rw [hd]; omega)
    have hok : COk x.L[i] := hr.ok _ (List.getElem_mem hi')
    have hset : s.cells.set i x.L[i] = x.L.take (i + 1) ++ List.replicate (N - (i + 1)) zc := by
      rw [e4, List.set_append_right _ _ (by simp; omega)]
      have h5 : i - (x.L.take i).length = 0 := by simp; omega
      rw [h5, show N - i = (N - (i + 1)) + 1 by omega, List.replicate_succ, List.set_cons_zero, List.take_succ_eq_append_getElem hi']
      simp only [List.append_assoc, List.cons_append, List.nil_append]
    simp only [d1, cond_true]
    rw [gd_pos (by rw [hd]; omega), hd, rdn hi', w64_succ (by omega)]
    generalize hb : (!((x.L[i].Char == 0) && ((x.L[i].Attr == false) && ((x.L[i].FA == 0) && ((x.L[i].High == 0) && ((x.L[i].Color == 0) && ((x.L[i].f_Set == 0) && true))))))) = b
    have hse : (⟨s.model, s.alternate, ⟨s.size.Rows, s.size.Cols⟩, s.cells, s.cursor, s.attrs⟩ : Vspace_Space) = s := rfl
    cases b with
    | true =>
      obtain ⟨h3, h4⟩ := ss_set hs (i : Int) hok.cb
      have h6 : ((i : Int) % (N : Int)).toNat = i := by rw [Int.emod_eq_of_lt (by omega) (by omega)]; rfl
      rw [h6, hok.fit] at h3 h4
      simp only [cond_true, hse, h3, Option.bind_some]
      exact ⟨_, rfl, _, h4, rfl, e1, e2, e3, hset⟩
    | false =>
      simp only [cond_false, hse, Option.bind_some]
      refine ⟨_, rfl, s, hs, rfl, e1, e2, e3, ?_⟩
      have hz : x.L[i] = zc := by
        simp only [Bool.not_eq_false', Bool.and_eq_true, beq_iff_eq, Bool.and_true] at hb
        obtain ⟨g1, g2, g3, g4, g5, g6⟩ := hb
        generalize x.L[i] = c at *
        cases c; simp_all
      rw [← hset, hz, e4, List.set_append_right _ _ (by simp; omega)]
      have h5 : i - (x.L.take i).length = 0 := by simp; omega
      rw [h5, show N - i = (N - (i + 1)) + 1 by omega, List.replicate_succ, List.set_cons_zero]
  · rintro k y ⟨s, hs, rfl, e1, e2, e3, e4⟩
    rw [vitrinelaw20_lay_l14.eq_2]
    have d1 : decide ((N : Int) < (d.2.2.2.2.1.length : Int)) = false := decide_eq_false (by rw [hd]; omega)
    simp only [d1, cond_false]
    refine ⟨_, rfl, ?_⟩
    have h5 : s.cells = x.L := by rw [e4, Nat.sub_self, List.take_of_length_le (by omega)]; simp
    rw [hs.attrs, h5, hs.model, e1, e2, e3]
  · have hn := hr.nof
    refine ⟨⟨m, x.Alt, ⟨x.Size.Rows, x.Size.Cols⟩, List.replicate N zc, 0, 0⟩, ⟨rfl, hr.dim, by simp, (fun c hc => by rw [(List.mem_replicate.1 hc).2]; exact zc_ok), (by simp only; omega), (cnt_rep _).symm⟩, rfl, rfl, rfl, rfl, by simp⟩
theorem vitrinelaw20_lay_ok {p : Int} (hp : By p) {acts : List Vvitrineref12_Act} (ha : ∀ a ∈ acts, AOk a) (hl : acts.length ≤ 9223372036854775807) :
    ∃ N x, doAll (clr (2 + p % 4) false) (acts.take 30) = some x ∧ RS (2 + p % 4) N x ∧ m_vitrinelaw20_lay p acts = some (prog x, x) := by
  obtain ⟨hmod, hm⟩ := mod4_of hp
  generalize 2 + p % 4 = m at hmod hm ⊢
  unfold m_vitrinelaw20_lay
  simp only [hmod, new_ok hm, rnew_ok hm, Option.bind_some]
  obtain ⟨r, h1, N, x, hx, hr, rfl⟩ := vitrinelaw20_acts hm ha hl (m, false, rOf m false, cOf m false, List.replicate (nOf m false) zc, 0, 0)
  refine ⟨N, x, hx, hr, ?_⟩
  have hN := hr.nof
  have hsz := hr.dim.n
  simp only [clr, sclr, h1, Option.bind_some]
  have clear : ((cond x.Alt ((m_space_Space_Clear_2 ⟨m, false, ⟨rOf m false, cOf m false⟩, List.replicate (nOf m false) zc, 0, 0⟩ true).bind fun (d12 : Vspace_Space) => some (d12.model, d12.alternate, d12.size.Rows, d12.size.Cols, d12.cells, d12.cursor, d12.attrs))
      (some (m, false, rOf m false, cOf m false, List.replicate (nOf m false) zc, (0 : Int), (0 : Int))) : Option T7)) = some (m, x.Alt, x.Size.Rows, x.Size.Cols, List.replicate N zc, 0, 0) := by
    rw [hsz.1, hsz.2.1, hsz.2.2]
    cases x.Alt with
    | true => simp only [cond_true, (clear_ok hm (s := ⟨m, false, ⟨rOf m false, cOf m false⟩, List.replicate (nOf m false) zc, 0, 0⟩) rfl true).1, Option.bind_some, sclr]
    | false => rfl
  rw [clear]
  simp only [Option.bind_some]
  rw [vitrinelaw20_cells hr _ rfl]
  simp only [Option.bind_some]
  have hS : SS m N ⟨m, x.Alt, ⟨x.Size.Rows, x.Size.Cols⟩, x.L, 0, cnt x.L⟩ := ⟨rfl, hr.dim, hr.len, hr.ok, (by have := hr.dim.dim.le; simp only; omega), rfl⟩
  rw [ss_place hS]
  have hc := hr.cur
  have he : x.Cursor % (N : Int) = x.Cursor := Int.emod_eq_of_lt hc.1 hc.2
  simp only [Option.bind_some, he]
  unfold prog
  rw [hr.model]
  have : x = ⟨m, x.Alt, ⟨x.Size.Rows, x.Size.Cols⟩, x.L, x.Cursor⟩ := by rw [← hr.model]
  rw [← this]
end Go.Vt
