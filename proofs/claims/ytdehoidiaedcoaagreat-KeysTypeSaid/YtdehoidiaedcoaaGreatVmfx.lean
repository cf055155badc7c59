/- Lemmas. No conditions. -/
import Derived.Test.YtdehoidiaedcoaaGreatVmex
import Derived.Laws.RangeAny
set_option linter.unusedVariables false
set_option linter.unusedSimpArgs false
set_option linter.unusedVariables false
set_option linter.unusedSimpArgs false
namespace Go.Vt
structure AOk (a : Vvitrineref12_Act) : Prop where
  do_ : By a.Do
  code : By a.Code
  c : CB a.C
  text : Bs a.Text
  len : a.Text.length ≤ 9223372036854775807
abbrev T6 := Int × Bool × Int × Int × List Vapi_Cell × Int
abbrev of6 (y : T6) : Vvitrineref12_Space := ⟨y.1, y.2.1, ⟨y.2.2.1, y.2.2.2.1⟩, y.2.2.2.2.1, y.2.2.2.2.2⟩
theorem do_loop {m : Int} {N : Nat} {a : Vvitrineref12_Act} (ha : AOk a) {y : T6} (h : RS m N (of6 y)) : ∃ r : T6, vitrineref12_Do_l9 a fuel (0, y) = some r ∧ RS m N (of6 r) := by
  refine loop_rel0 (L := vitrineref12_Do_l9 a) (n := a.Text.length) (fun _ y => RS m N (of6 y)) (fun r => RS m N (of6 r)) (by have := ha.len; omega) ?_ ?_ h
  · intro k i y hi hy
    have hle := hy.dim.dim.le
    rw [vitrineref12_Do_l9.eq_2]
    have hlen := ha.len
    have d1 : decide ((i : Int) < (a.Text.length : Int)) = true := decide_eq_true (by omega)
    simp only [d1, cond_true]
    rw [gd_pos (by omega)]
    by_cases h2 : i < 200
    · have d2 : decide ((i : Int) < 200) = true := decide_eq_true (by omega)
      have hB : By (rd a.Text (i : Int)) := ha.text _ (rd_mem (by omega))
      obtain ⟨j, hj, hjl⟩ := emod_nat a.N (N := N) (by omega)
      obtain ⟨x', h3, h4, _⟩ := rs_put hy (w64 (a.N % N + i)) hB
      simp only [d2, cond_true, rs_wrap hy, Option.bind_some, h3, w64_succ (show i < 9223372036854775807 by omega)]
      exact ⟨_, rfl, h4⟩
    · have d2 : decide ((i : Int) < 200) = false := decide_eq_false (by omega)
      simp only [d2, cond_false, Option.bind_some, w64_succ (show i < 9223372036854775807 by omega)]
      exact ⟨_, rfl, hy⟩
  · intro k y hy
    rw [vitrineref12_Do_l9.eq_2]
    have d1 : decide ((a.Text.length : Int) < (a.Text.length : Int)) = false := decide_eq_false (by omega)
    simp only [d1, cond_false]
    exact ⟨_, rfl, hy⟩
theorem RS.nof {m : Int} {N : Nat} {x : Vvitrineref12_Space} (h : RS m N x) : N = nOf m x.Alt := h.dim.n.2.2
theorem tmod6 {n : Int} (h : By n) : 0 ≤ n.tmod 6 ∧ n.tmod 6 < 6 := by
  have := h.1
  rw [Int.tmod_eq_emod_of_nonneg this]; omega
theorem rs_do {m : Int} {N : Nat} (hm : Mod4 m) {x : Vvitrineref12_Space} (h : RS m N x) {a : Vvitrineref12_Act} (ha : AOk a) : ∃ N' x', m_vitrineref12_Do x a = some x' ∧ RS m N' x' := by
  have hle := h.dim.dim.le
  unfold m_vitrineref12_Do
  have h6 := tmod6 ha.do_
  generalize hz : a.Do.tmod 6 = z at h6 ⊢
  have hx : (⟨x.Model, x.Alt, x.Size, x.L, x.Cursor⟩ : Vvitrineref12_Space) = x := rfl
  obtain ⟨j, hj, hjl⟩ := emod_nat a.N (N := N) (by omega)
  have cases6 : z = 0 ∨ z = 1 ∨ z = 2 ∨ z = 3 ∨ z = 4 ∨ z = 5 := by omega
  rcases cases6 with rfl | rfl | rfl | rfl | rfl | rfl
  · have e0 : ((0 : Int) == 0) = true := rfl
    simp only [e0, cond_true, (rclear_ok hm h.model a.On).1, Option.bind_some]
    exact ⟨_, _, rfl, rs_clr hm a.On⟩
  · have e0 : ((1 : Int) == 0) = false := rfl
    have e1 : ((1 : Int) == 1) = true := rfl
    simp only [e0, e1, cond_true, cond_false, hx, rs_wrap h, Option.bind_some]
    exact ⟨_, _, rfl, ⟨h.model, h.dim, h.len, h.ok, by simp only; omega⟩⟩
  · obtain ⟨x', h1, h2, _⟩ := rs_put h a.N ha.code
    have e0 : ((2 : Int) == 0) = false := rfl
    have e1 : ((2 : Int) == 1) = false := rfl
    have e2 : ((2 : Int) == 2) = true := rfl
    simp only [e0, e1, e2, cond_true, cond_false, hx, h1, Option.bind_some]
    exact ⟨_, _, rfl, h2⟩
  · obtain ⟨h1, h2⟩ := rs_set h a.N (c := ⟨0, true, a.Code, 0, 0, 0⟩) ⟨by0, ha.code, by0, by0, by0⟩
    have e0 : ((3 : Int) == 0) = false := rfl
    have e1 : ((3 : Int) == 1) = false := rfl
    have e2 : ((3 : Int) == 2) = false := rfl
    have e3 : ((3 : Int) == 3) = true := rfl
    simp only [e0, e1, e2, e3, cond_true, cond_false, hx, h1, Option.bind_some]
    exact ⟨_, _, rfl, h2⟩
  · obtain ⟨h1, h2⟩ := rs_set h a.N ha.c
    have e0 : ((4 : Int) == 0) = false := rfl
    have e1 : ((4 : Int) == 1) = false := rfl
    have e2 : ((4 : Int) == 2) = false := rfl
    have e3 : ((4 : Int) == 3) = false := rfl
    have e4 : ((4 : Int) == 4) = true := rfl
    simp only [e0, e1, e2, e3, e4, cond_true, cond_false, hx, h1, Option.bind_some]
    exact ⟨_, _, rfl, h2⟩
  · obtain ⟨r, h1, h2⟩ := do_loop ha (y := (x.Model, x.Alt, x.Size.Rows, x.Size.Cols, x.L, x.Cursor)) h
    have e0 : ((5 : Int) == 0) = false := rfl
    have e1 : ((5 : Int) == 1) = false := rfl
    have e2 : ((5 : Int) == 2) = false := rfl
    have e3 : ((5 : Int) == 3) = false := rfl
    have e4 : ((5 : Int) == 4) = false := rfl
    simp only [e0, e1, e2, e3, e4, cond_true, cond_false, h1, Option.bind_some]
    exact ⟨_, _, rfl, h2⟩
/-! ### the program's space -/
def cnt (l : List Vapi_Cell) : Int := ((l.filter (·.Attr)).length : Int)
theorem cnt_le (l : List Vapi_Cell) : 0 ≤ cnt l ∧ cnt l ≤ l.length := by
  have := List.length_filter_le (fun c : Vapi_Cell => c.Attr) l
  unfold cnt; omega
theorem cnt_app (a b : List Vapi_Cell) : cnt (a ++ b) = cnt a + cnt b := by unfold cnt; simp [List.filter_append]
def c1 (c : Vapi_Cell) : Int := if c.Attr then 1 else 0
theorem cnt_cons (c : Vapi_Cell) (l : List Vapi_Cell) : cnt (c :: l) = c1 c + cnt l := by
  unfold cnt c1; cases h : c.Attr <;> simp [List.filter_cons, h]; omega
theorem cnt_set : ∀ (l : List Vapi_Cell) (n : Nat) (c : Vapi_Cell) (h : n < l.length), cnt (l.set n c) = cnt l + (c1 c - c1 l[n])
  | [], n, c, h => by simp at h
  | x :: l, 0, c, h => by simp only [List.set_cons_zero, cnt_cons, List.getElem_cons_zero]; omega
  | x :: l, n + 1, c, h => by
    simp only [List.set_cons_succ, cnt_cons, List.getElem_cons_succ]
    rw [cnt_set l n c (by simpa using h)]; omega
/-- the program's space of model m -/
structure SS (m : Int) (N : Nat) (s : Vspace_Space) : Prop where
  model : s.model = m
  dim : DimOf m s.alternate s.size.Rows s.size.Cols N
  len : s.cells.length = N
  ok : ∀ c ∈ s.cells, COk c
  cur : 0 ≤ s.cursor ∧ s.cursor < N
  attrs : s.attrs = cnt s.cells
theorem ss_wrap {m : Int} {N : Nat} {s : Vspace_Space} (h : SS m N s) (n : Int) : m_addr_Size_Wrap s.size n = some (n % N) := by
  rw [show s.size = ⟨s.size.Rows, s.size.Cols⟩ from rfl, wrap_ok h.dim.dim]
theorem ss_at {m : Int} {N : Nat} {s : Vspace_Space} (h : SS m N s) (n : Int) : m_space_Space_At s n = some (rd s.cells (n % N)) := by
  have hd := h.dim.dim.le
  obtain ⟨k, hk, hlt⟩ := emod_nat n (N := N) (by omega)
  unfold m_space_Space_At
  have hl := h.len
  simp only [ss_wrap h, Option.bind_some]
  rw [gd_pos (by omega)]
theorem count_ok (c : Vapi_Cell) : m_space_count c = some (c1 c) := by
  unfold m_space_count c1; cases c.Attr <;> rfl
theorem ss_set {m : Int} {N : Nat} {s : Vspace_Space} (h : SS m N s) (n : Int) {c : Vapi_Cell} (hc : CB c) :
    m_space_Space_Set s n c = some ⟨s.model, s.alternate, s.size, s.cells.set (n % N).toNat (Vt.fit c), s.cursor, cnt (s.cells.set (n % N).toNat (Vt.fit c))⟩ ∧ SS m N ⟨s.model, s.alternate, s.size, s.cells.set (n % N).toNat (Vt.fit c), s.cursor, cnt (s.cells.set (n % N).toNat (Vt.fit c))⟩ := by
  have hd := h.dim.dim.le
  obtain ⟨k, hk, hlt⟩ := emod_nat n (N := N) (by omega)
  have hl := h.len
  refine ⟨?_, h.model, h.dim, by simp [hl], fun d hd' => ?_, h.cur, rfl⟩
  · unfold m_space_Space_Set
    have hkl : k < s.cells.length := by omega
    have hcs := cnt_set s.cells k (Vt.fit c) hkl
    have hle := cnt_le s.cells
    have b1 : ∀ d : Vapi_Cell, 0 ≤ c1 d ∧ c1 d ≤ 1 := fun d => by unfold c1; split <;> omega
    have b2 := b1 (Vt.fit c)
    have b3 := b1 s.cells[k]
    have hf : ((cond c.Attr (some (0, iband .u8 c.FA 61)) (some (c.Char, 0))).bind fun (d1 : Int × Int) => some ({ c with Char := d1.1, FA := d1.2 } : Vapi_Cell)) = some (Vt.fit c) := by
      unfold Vt.fit; cases h : c.Attr <;> simp [h]
    obtain ⟨d1, h1, h2⟩ := bsome hf
    simp only [h1, ss_wrap h, Option.bind_some, Option.some.inj h2, count_ok]
    rw [gd_pos (by omega), gd_pos (by omega), hk, rdn hkl, h.attrs, Int.toNat_natCast, hcs, w64_in (x := c1 (Vt.fit c) - c1 s.cells[k]) (by omega) (by omega), w64_in (by omega) (by omega)]
  · rcases List.mem_or_eq_of_mem_set hd' with h1 | h1
    · exact h.ok d h1
    · rw [h1]; exact fit_ok hc
theorem model_ok {m : Int} (h : Mod4 m) : m_addr_Model m = some (⟨rOf m true, cOf m true⟩, 0) := by
  rcases h with rfl | rfl | rfl | rfl <;> decide +kernel
def sclr (m : Int) (alt : Bool) : Vspace_Space := ⟨m, alt, ⟨rOf m alt, cOf m alt⟩, List.replicate (nOf m alt) zc, 0, 0⟩
theorem cnt_rep (n : Nat) : cnt (List.replicate n zc) = 0 := by
  unfold cnt; simp [List.filter_replicate]
theorem clear_ok {s : Vspace_Space} {m : Int} (h : Mod4 m) (hs : s.model = m) (alt : Bool) : m_space_Space_Clear_2 s alt = some (sclr m alt) ∧ m_space_Space_Clear s alt = some (sclr m alt) := by
  have h2 := model_ok (m := 2) (.inl rfl)
  have hm := model_ok h
  have hd := dimOf_mk h alt
  have hle := hd.dim.le
  unfold m_space_Space_Clear_2 m_space_Space_Clear
  simp only [h2, hm, hs, Option.bind_some]
  cases alt with
  | true =>
    simp only [cond_true, Option.bind_some, hm, cells_ok hd.dim]
    rw [gd_pos (show (0 : Int) ≤ (nOf m true : Int) ∧ (nOf m true : Int) ≤ 68719476736 by omega)]
    exact ⟨rfl, rfl⟩
  | false =>
    have hd' : Dim (rOf 2 true) (cOf 2 true) (nOf m false) := ⟨.inl ⟨rfl, rfl, rfl⟩⟩
    simp only [cond_false, Option.bind_some, h2, cells_ok hd']
    rw [gd_pos (show (0 : Int) ≤ (nOf m false : Int) ∧ (nOf m false : Int) ≤ 68719476736 by omega)]
    exact ⟨rfl, rfl⟩
theorem new_ok {m : Int} (h : Mod4 m) : m_space_New m = some (.inr (sclr m false, 0)) := by
  unfold m_space_New
  simp only [model_ok h, Option.bind_some]
  have d0 : ((0 : Int) != 0) = false := rfl
  simp only [d0, cond_false, (clear_ok h (s := ⟨m, false, ⟨0, 0⟩, [], 0, 0⟩) rfl false).2, Option.bind_some]
theorem ss_place {m : Int} {N : Nat} {s : Vspace_Space} (h : SS m N s) (n : Int) : m_space_Space_Place s n = some { s with cursor := n % N } := by
  unfold m_space_Space_Place
  simp only [ss_wrap h, Option.bind_some]
/-- the program's space is the document's -/
structure Lk (m : Int) (N : Nat) (s : Vspace_Space) (x : Vvitrineref12_Space) : Prop where
  rs : RS m N x
  ss : SS m N s
  alt : s.alternate = x.Alt
  cells : s.cells = x.L
  cur : s.cursor = x.Cursor
  sz : s.size = ⟨x.Size.Rows, x.Size.Cols⟩
theorem mod4_of {p : Int} (h : By p) : w64 (2 + w64 (p.tmod 4)) = 2 + p % 4 ∧ Mod4 (2 + p % 4) := by
  have h0 := h.1
  rw [Int.tmod_eq_emod_of_nonneg h0]
  have h1 := Int.emod_nonneg p (show (4 : Int) ≠ 0 by omega)
  have h2 := Int.emod_lt_of_pos p (show (0 : Int) < 4 by omega)
  rw [w64_in (x := p % 4) (by omega) (by omega), w64_in (by omega) (by omega)]
  exact ⟨rfl, by unfold Mod4; omega⟩
end Go.Vt
set_option linter.unusedVariables false
set_option linter.unusedSimpArgs false
namespace Go.Vt
def doAll : Vvitrineref12_Space → List Vvitrineref12_Act → Option Vvitrineref12_Space
  | x, [] => some x
  | x, a :: r => (m_vitrineref12_Do x a).bind fun y => doAll y r
theorem doAll_app : ∀ (l r : List Vvitrineref12_Act) (x : Vvitrineref12_Space), doAll x (l ++ r) = (doAll x l).bind fun y => doAll y r
  | [], r, x => rfl
  | a :: l, r, x => by
    simp only [List.cons_append, doAll]
    cases m_vitrineref12_Do x a with
    | none => rfl
    | some y => simp only [Option.bind_some]; exact doAll_app l r y
/-- the program's space, of the document's -/
def prog (x : Vvitrineref12_Space) : Vspace_Space := ⟨x.Model, x.Alt, ⟨x.Size.Rows, x.Size.Cols⟩, x.L, x.Cursor, cnt x.L⟩
theorem RS.lk {m : Int} {N : Nat} {x : Vvitrineref12_Space} (h : RS m N x) : Lk m N (prog x) x := ⟨h, ⟨h.model, h.dim, h.len, h.ok, h.cur, rfl⟩, rfl, rfl, rfl, rfl⟩
abbrev T7 := Int × Bool × Int × Int × List Vapi_Cell × Int × Int
theorem min30_lt {i : Nat} (h : i < 30) : min i 30 = i ∧ min (i + 1) 30 = i + 1 := by omega
theorem min30_ge {i : Nat} (h : ¬ i < 30) : min i 30 = 30 ∧ min (i + 1) 30 = 30 := by omega
end Go.Vt
set_option linter.unusedVariables false
set_option linter.unusedSimpArgs false
namespace Go.Vt
theorem vitrinelaw18_acts {m : Int} (hm : Mod4 m) {acts : List Vvitrineref12_Act} (ha : ∀ a ∈ acts, AOk a) (hl : acts.length ≤ 9223372036854775807) (t : Int × T7) :
    ∃ r, vitrinelaw18_lay_l10 acts fuel (0, m, false, rOf m false, cOf m false, List.replicate (nOf m false) zc, 0, t) = some r ∧ ∃ N x, doAll (clr m false) (acts.take 30) = some x ∧ RS m N x ∧ r = (x.Model, x.Alt, x.Size.Rows, x.Size.Cols, x.L, x.Cursor, t) := by
  have h0 := rs_clr hm false
  refine loop_rel0 (L := vitrinelaw18_lay_l10 acts) (n := acts.length) (fun i y => ∃ N x, doAll (clr m false) (acts.take (min i 30)) = some x ∧ RS m N x ∧ y = (x.Model, x.Alt, x.Size.Rows, x.Size.Cols, x.L, x.Cursor, t))
    (fun r => ∃ N x, doAll (clr m false) (acts.take 30) = some x ∧ RS m N x ∧ r = (x.Model, x.Alt, x.Size.Rows, x.Size.Cols, x.L, x.Cursor, t)) (by omega) ?_ ?_ ⟨_, _, rfl, h0, rfl⟩
  · rintro k i y hi ⟨N, x, hx, hr, rfl⟩
    rw [vitrinelaw18_lay_l10.eq_2]
    have d1 : decide ((i : Int) < (acts.length : Int)) = true := decide_eq_true (by omega)
    simp only [d1, cond_true]
    rw [gd_pos (by omega), w64_succ (by omega)]
    by_cases h2 : i < 30
    · have d2 : decide ((i : Int) < 30) = true := decide_eq_true (by omega)
      have hA : AOk acts[i] := ha _ (List.getElem_mem hi)
      obtain ⟨N', x', h3, h4⟩ := rs_do hm hr hA
      have hxe : (⟨x.Model, x.Alt, ⟨x.Size.Rows, x.Size.Cols⟩, x.L, x.Cursor⟩ : Vvitrineref12_Space) = x := rfl
      have hce : ({ acts[i] with C := acts[i].C } : Vvitrineref12_Act) = acts[i] := rfl
      simp only [d2, cond_true, rdn hi, hxe, hce, h3, Option.bind_some]
      refine ⟨_, rfl, N', x', ?_, h4, rfl⟩
      obtain ⟨e1, e2⟩ := min30_lt h2
      rw [e1] at hx
      rw [e2, List.take_succ_eq_append_getElem hi, doAll_app, hx]
      simp only [Option.bind_some, doAll, h3]
    · have d2 : decide ((i : Int) < 30) = false := decide_eq_false (by omega)
      simp only [d2, cond_false, Option.bind_some]
      obtain ⟨e1, e2⟩ := min30_ge h2
      rw [e1] at hx
      exact ⟨_, rfl, N, x, by rw [e2]; exact hx, hr, rfl⟩
  · rintro k y ⟨N, x, hx, hr, rfl⟩
    rw [vitrinelaw18_lay_l10.eq_2]
    have d1 : decide ((acts.length : Int) < (acts.length : Int)) = false := decide_eq_false (by omega)
    simp only [d1, cond_false]
    refine ⟨_, rfl, N, x, ?_, hr, rfl⟩
    by_cases h : acts.length ≤ 30
    · rw [Nat.min_eq_left h] at hx
      rw [← hx, List.take_of_length_le h, List.take_of_length_le (Nat.le_refl _)]
    · rw [Nat.min_eq_right (by omega)] at hx; exact hx
theorem vitrinelaw18_cells {m : Int} {N : Nat} {x : Vvitrineref12_Space} (hr : RS m N x) (d : Int × Bool × Int × Int × List Vapi_Cell × Int × Int × T7) (hd : d.2.2.2.2.1 = x.L) :
    vitrinelaw18_lay_l18 d fuel (0, m, x.Alt, x.Size.Rows, x.Size.Cols, List.replicate N zc, 0, 0) = some (m, x.Alt, x.Size.Rows, x.Size.Cols, x.L, 0, cnt x.L) := by
  have hle := hr.dim.dim.le
  have hlen := hr.len
  have key := loop_rel0 (L := vitrinelaw18_lay_l18 d) (n := N) (s := (m, x.Alt, x.Size.Rows, x.Size.Cols, List.replicate N zc, 0, 0))
    (fun i y => ∃ s : Vspace_Space, SS m N s ∧ y = (s.model, s.alternate, s.size.Rows, s.size.Cols, s.cells, s.cursor, s.attrs) ∧ s.alternate = x.Alt ∧ s.size = ⟨x.Size.Rows, x.Size.Cols⟩ ∧ s.cursor = 0 ∧ s.cells = x.L.take i ++ List.replicate (N - i) zc)
    (fun r => r = (m, x.Alt, x.Size.Rows, x.Size.Cols, x.L, 0, cnt x.L)) (by omega) ?_ ?_ ?_
  · obtain ⟨r, h1, h2⟩ := key; rw [h1, h2]
  · rintro k i y hi ⟨s, hs, rfl, e1, e2, e3, e4⟩
    rw [vitrinelaw18_lay_l18.eq_2]
    have hi' : i < x.L.length := by omega
    have d1 : decide ((i : Int) < (d.2.2.2.2.1.length : Int)) = true := decide_eq_true (by rw [hd]; omega)
    have hok : COk x.L[i] := hr.ok _ (List.getElem_mem hi')
    have hset : s.cells.set i x.L[i] = x.L.take (i + 1) ++ List.replicate (N - (i + 1)) zc := by
      rw [e4, List.set_append_right _ _ (by simp; omega)]
      have h5 : i - (x.L.take i).length = 0 := by simp; omega
      rw [h5, show N - i = (N - (i + 1)) + 1 by omega, List.replicate_succ, List.set_cons_zero, List.take_succ_eq_append_getElem hi']
      simp only [List.append_assoc, List.cons_append, List.nil_append]
    simp only [d1, cond_true]
    rw [gd_pos (by rw [hd]; omega), hd, rdn hi', w64_succ (by omega)]
    generalize hb : (!((x.L[i].Char == 0) && ((x.L[i].Attr == false) && ((x.L[i].FA == 0) && ((x.L[i].High == 0) && ((x.L[i].Color == 0) && ((x.L[i].f_Set == 0) && true))))))) = b
    have hse : (⟨s.model, s.alternate, ⟨s.size.Rows, s.size.Cols⟩, s.cells, s.cursor, s.attrs⟩ : Vspace_Space) = s := rfl
    cases b with
    | true =>
      obtain ⟨h3, h4⟩ := ss_set hs (i : Int) hok.cb
      have h6 : ((i : Int) % (N : Int)).toNat = i := by rw [Int.emod_eq_of_lt (by omega) (by omega)]; rfl
      rw [h6, hok.fit] at h3 h4
      simp only [cond_true, hse, h3, Option.bind_some]
      exact ⟨_, rfl, _, h4, rfl, e1, e2, e3, hset⟩
    | false =>
      simp only [cond_false, hse, Option.bind_some]
      refine ⟨_, rfl, s, hs, rfl, e1, e2, e3, ?_⟩
      have hz : x.L[i] = zc := by
        simp only [Bool.not_eq_false', Bool.and_eq_true, beq_iff_eq, Bool.and_true] at hb
        obtain ⟨g1, g2, g3, g4, g5, g6⟩ := hb
        generalize x.L[i] = c at *
        cases c; simp_all
      rw [← hset, hz, e4, List.set_append_right _ _ (by simp; omega)]
      have h5 : i - (x.L.take i).length = 0 := by simp; omega
      rw [h5, show N - i = (N - (i + 1)) + 1 by omega, List.replicate_succ, List.set_cons_zero]
  · rintro k y ⟨s, hs, rfl, e1, e2, e3, e4⟩
    rw [vitrinelaw18_lay_l18.eq_2]
    have d1 : decide ((N : Int) < (d.2.2.2.2.1.length : Int)) = false := decide_eq_false (by rw [hd]; omega)
    simp only [d1, cond_false]
    refine ⟨_, rfl, ?_⟩
    have h5 : s.cells = x.L := by rw [e4, Nat.sub_self, List.take_of_length_le (by omega)]; simp
    rw [hs.attrs, h5, hs.model, e1, e2, e3]
  · have hn := hr.nof
    refine ⟨⟨m, x.Alt, ⟨x.Size.Rows, x.Size.Cols⟩, List.replicate N zc, 0, 0⟩, ⟨rfl, hr.dim, by simp, (fun c hc => by rw [(List.mem_replicate.1 hc).2]; exact zc_ok), (by simp only; omega), (cnt_rep _).symm⟩, rfl, rfl, rfl, rfl, by simp⟩
def pgs : List Int := [37, 273, 297, 500, 1047, 1140]
def pgN (q : Int) : Int := rd pgs (q % 6)
theorem pgN_mem (q : Int) : pgN q ∈ pgs := by
  unfold pgN
  exact rd_mem ⟨Int.emod_nonneg _ (by omega), by have := Int.emod_lt_of_pos q (show (0 : Int) < 6 by omega); simp [pgs]; omega⟩
theorem pnew_ok {n : Int} (h : n ∈ pgs) : m_page_New n = some (.inr (⟨n⟩, 0)) := by
  simp only [pgs, List.mem_cons, List.not_mem_nil, or_false] at h
  rcases h with rfl | rfl | rfl | rfl | rfl | rfl <;> rfl
theorem vitrinelaw18_lay_ok {p q : Int} (hp : By p) (hq : By q) {acts : List Vvitrineref12_Act} (ha : ∀ a ∈ acts, AOk a) (hl : acts.length ≤ 9223372036854775807) :
    ∃ N x, doAll (clr (2 + p % 4) false) (acts.take 30) = some x ∧ RS (2 + p % 4) N x ∧ m_vitrinelaw18_lay p q acts = some (⟨0, false, 96⟩, prog x, ⟨pgN q⟩, ⟨pgN q, 0, false, 96⟩, x) := by
  obtain ⟨hmod, hm⟩ := mod4_of hp
  generalize 2 + p % 4 = m at hmod hm ⊢
  have h0 := hq.1
  have e6 : q.tmod 6 = q % 6 := Int.tmod_eq_emod_of_nonneg h0
  have b6 : 0 ≤ q % 6 ∧ q % 6 < 6 := ⟨Int.emod_nonneg _ (by omega), Int.emod_lt_of_pos q (by omega)⟩
  have hpg := pgN_mem q
  have epg : rd pgs (q % 6) = pgN q := rfl
  unfold m_vitrinelaw18_lay m_vitrinelaw18_pages
  simp only [Option.bind_some, e6]
  rw [gd_pos (by simp only [List.length_cons, List.length_nil]; omega)]
  rw [show ([37, 273, 297, 500, 1047, 1140] : List Int) = pgs from rfl, epg]
  simp only [hmod, new_ok hm, rnew_ok hm, pnew_ok hpg, Option.bind_some]
  obtain ⟨r, h1, N, x, hx, hr, rfl⟩ := vitrinelaw18_acts hm ha hl (pgN q, m, false, rOf m false, cOf m false, List.replicate (nOf m false) zc, 0, 0)
  refine ⟨N, x, hx, hr, ?_⟩
  have hN := hr.nof
  have hsz := hr.dim.n
  simp only [clr, sclr, h1, Option.bind_some]
  have clear : ((cond x.Alt ((m_space_Space_Clear_2 ⟨m, false, ⟨rOf m false, cOf m false⟩, List.replicate (nOf m false) zc, 0, 0⟩ true).bind fun (d12 : Vspace_Space) => some (d12.model, d12.alternate, d12.size.Rows, d12.size.Cols, d12.cells, d12.cursor, d12.attrs))
      (some (m, false, rOf m false, cOf m false, List.replicate (nOf m false) zc, (0 : Int), (0 : Int))) : Option T7)) = some (m, x.Alt, x.Size.Rows, x.Size.Cols, List.replicate N zc, 0, 0) := by
    rw [hsz.1, hsz.2.1, hsz.2.2]
    cases x.Alt with
    | true => simp only [cond_true, (clear_ok hm (s := ⟨m, false, ⟨rOf m false, cOf m false⟩, List.replicate (nOf m false) zc, 0, 0⟩) rfl true).1, Option.bind_some, sclr]
    | false => rfl
  rw [clear]
  simp only [Option.bind_some]
  rw [vitrinelaw18_cells hr _ rfl]
  simp only [Option.bind_some]
  have hS : SS m N ⟨m, x.Alt, ⟨x.Size.Rows, x.Size.Cols⟩, x.L, 0, cnt x.L⟩ := ⟨rfl, hr.dim, hr.len, hr.ok, (by have := hr.dim.dim.le; simp only; omega), rfl⟩
  rw [ss_place hS]
  have hc := hr.cur
  have he : x.Cursor % (N : Int) = x.Cursor := Int.emod_eq_of_lt hc.1 hc.2
  simp only [Option.bind_some, he, m_keys_New, m_vitrineref18_New]
  unfold prog
  rw [hr.model]
  have : x = ⟨m, x.Alt, ⟨x.Size.Rows, x.Size.Cols⟩, x.L, x.Cursor⟩ := by rw [← hr.model]
  rw [← this]
end Go.Vt
set_option linter.unusedVariables false
set_option linter.unusedSimpArgs false
set_option maxRecDepth 100000
namespace Go.Vt
def ax : List Vvitrineref12_Act := [⟨3, 0, false, 0, ⟨0, false, 0, 0, 0, 0⟩, []⟩, ⟨1, 1, false, 0, ⟨0, false, 0, 0, 0, 0⟩, []⟩]
def X0 : Vvitrineref12_Space := ⟨2, false, ⟨24, 80⟩, (List.replicate 1920 zc).set 0 ⟨0, true, 0, 0, 0, 0⟩, 1⟩
theorem ax_ok : ∀ a ∈ ax, AOk a := by
  intro a ha
  simp only [ax, List.mem_cons, List.not_mem_nil, or_false] at ha
  rcases ha with rfl | rfl
  · exact ⟨⟨by decide, by decide⟩, ⟨by decide, by decide⟩, zc_ok.cb, (fun x hx => by cases hx), by decide⟩
  · exact ⟨⟨by decide, by decide⟩, ⟨by decide, by decide⟩, zc_ok.cb, (fun x hx => by cases hx), by decide⟩
theorem ax_do : doAll (clr 2 false) ax = some X0 := by decide +kernel
def S2 : Vspace_Space := ⟨2, false, ⟨24, 80⟩, (((List.replicate 1920 zc).set 0 ⟨0, true, 1, 0, 0, 0⟩).set 1 ⟨193, false, 0, 0, 0, 0⟩).set 2 ⟨130, false, 0, 0, 0, 0⟩, 3, 1⟩
theorem pX0 : prog X0 = ⟨2, false, ⟨24, 80⟩, (List.replicate 1920 zc).set 0 ⟨0, true, 0, 0, 0, 0⟩, 1, 1⟩ := by decide +kernel
theorem ax_type : m_keys_Board_Type ⟨0, false, 96⟩ ⟨2, false, ⟨24, 80⟩, (List.replicate 1920 zc).set 0 ⟨0, true, 0, 0, 0, 0⟩, 1, 1⟩ ⟨37⟩ (ByteArray.mk (List.toArray [65, 98])) = some (S2, ⟨37⟩, ⟨0, false, 96⟩, 2, 0) := by decide +kernel
theorem ax_press : m_keys_Board_Press ⟨0, false, 96⟩ S2 ⟨37⟩ ⟨19, 0, 0⟩ = some (S2, ⟨37⟩, ⟨1, false, 125⟩, true, 0) := by decide +kernel
theorem ax_at : m_space_Space_At S2 1 = some ⟨193, false, 0, 0, 0, 0⟩ ∧ m_space_Space_At S2 2 = some ⟨130, false, 0, 0, 0, 0⟩ ∧ m_space_Space_At S2 0 = some ⟨0, true, 1, 0, 0, 0⟩ := by decide +kernel
theorem awake18 : m_vitrinelaw18_awake = some true := by
  obtain ⟨N, x, hx, _, h⟩ := vitrinelaw18_lay_ok (p := 0) (q := 0) ⟨by decide, by decide⟩ ⟨by decide, by decide⟩ ax_ok (by decide)
  have hx' : x = X0 := by
    have : (2 : Int) + 0 % 4 = 2 := by decide
    rw [this, show ax.take 30 = ax from rfl, ax_do] at hx
    exact (Option.some.inj hx).symm
  subst hx'
  have hp : pgN 0 = 37 := rfl
  rw [hp, pX0] at h
  unfold m_vitrinelaw18_awake
  unfold ax at h
  simp only [h, Option.bind_some, ax_type, ax_press, ax_at.1, ax_at.2.1, ax_at.2.2]
  decide +kernel
end Go.Vt
set_option linter.unusedVariables false
set_option linter.unusedSimpArgs false
set_option maxRecDepth 100000
namespace Go.Vt
/-! ### the places of attributes -/
def isA' (L : List Vapi_Cell) (i : Nat) : Bool := (rd L (i : Int)).Attr
def attrsN (L : List Vapi_Cell) (n : Nat) : List Nat := (List.range n).filter (isA' L)
theorem attrsN_succ (L : List Vapi_Cell) (n : Nat) : attrsN L (n + 1) = attrsN L n ++ (if isA' L n then [n] else []) := by
  unfold attrsN; rw [List.range_succ, List.filter_append]
  cases h : isA' L n <;> simp [List.filter_cons, h]
theorem attrsN_mem {L : List Vapi_Cell} {n a : Nat} : a ∈ attrsN L n ↔ a < n ∧ isA' L a = true := by unfold attrsN; simp
theorem cnt_attrs : ∀ (L : List Vapi_Cell), cnt L = ((attrsN L L.length).length : Int) := by
  intro L
  have key : ∀ n, n ≤ L.length → cnt (L.take n) = ((attrsN L n).length : Int) := by
    intro n
    induction n with
    | zero => intro _; simp [cnt, attrsN]
    | succ n ih =>
      intro h
      have hlt : n < L.length := by omega
      rw [List.take_succ_eq_append_getElem hlt, cnt_app, ih (by omega), attrsN_succ]
      have hA : isA' L n = L[n].Attr := by unfold isA'; rw [rdn hlt]
      rw [hA, cnt_cons]
      have h0 : cnt [] = 0 := rfl
      unfold c1
      cases L[n].Attr <;> simp [h0]
  have := key L.length (Nat.le_refl _)
  rwa [List.take_of_length_le (Nat.le_refl _)] at this
/-! ### the place of a place's attribute -/
def stF (L : List Vapi_Cell) (l0 : Int) : Nat → Int
  | 0 => if isA' L 0 then 0 else l0
  | n + 1 => if isA' L (n + 1) then ((n + 1 : Nat) : Int) else stF L l0 n
theorem stF_attr {L : List Vapi_Cell} {l0 : Int} {n : Nat} (h : isA' L n = true) : stF L l0 n = (n : Int) := by
  cases n with
  | zero => simp [stF, h]
  | succ n => simp [stF, h]
theorem stF_last {L : List Vapi_Cell} (l0 : Int) : ∀ n, (∃ a, a < n + 1 ∧ isA' L a = true) → (attrsN L (n + 1)).getLast? = some (stF L l0 n).toNat ∧ 0 ≤ stF L l0 n
  | 0, ⟨a, h1, h2⟩ => by
    have : a = 0 := by omega
    subst this
    rw [attrsN_succ, h2]
    simp [stF, h2]
  | n + 1, ⟨a, h1, h2⟩ => by
    rw [attrsN_succ]
    cases hA : isA' L (n + 1) with
    | true => simp [stF, hA]; omega
    | false =>
      have : a < n + 1 := by
        rcases Nat.lt_or_ge a (n + 1) with h | h
        · exact h
        · have : a = n + 1 := by omega
          subst this; rw [hA] at h2; cases h2
      obtain ⟨g1, g2⟩ := stF_last l0 n ⟨a, this, h2⟩
      simp only [Bool.false_eq_true, if_false, List.append_nil, stF, hA]
      exact ⟨g1, g2⟩
def startsL (L : List Vapi_Cell) (l0 : Int) (N : Nat) : List Int := (List.range N).map (stF L l0)
/-- round: a place without an attribute has the one of the place ahead -/
theorem stF_prev {L : List Vapi_Cell} {l0 : Int} {N n : Nat} (hc : l0 = stF L l0 (N - 1)) (hn : n < N) (h : isA' L ((n + 1) % N) = false) : stF L l0 ((n + 1) % N) = stF L l0 n := by
  by_cases h1 : n + 1 < N
  · rw [Nat.mod_eq_of_lt h1] at h ⊢; simp [stF, h]
  · have : n + 1 = N := by omega
    rw [this, Nat.mod_self] at h ⊢
    have e : n = N - 1 := by omega
    rw [e, ← hc]; simp [stF, h]
theorem stF_A {L : List Vapi_Cell} {l0 : Int} {N : Nat} (hc : l0 = stF L l0 (N - 1)) (hn : ∃ b, b < N ∧ isA' L b = true) : ∃ b : Nat, l0 = (b : Int) ∧ b < N ∧ isA' L b = true := by
  obtain ⟨a, h1, h2⟩ := hn
  obtain ⟨g1, g2⟩ := stF_last (L := L) l0 (N - 1) ⟨a, by omega, h2⟩
  rw [← hc] at g1 g2
  have hm := List.mem_of_getLast? g1
  rw [show N - 1 + 1 = N by omega] at hm
  obtain ⟨h3, h4⟩ := attrsN_mem.1 hm
  exact ⟨l0.toNat, by omega, h3, h4⟩
theorem stF_at {L : List Vapi_Cell} {l0 : Int} {N : Nat} (hc : l0 = stF L l0 (N - 1)) (hn : ∃ b, b < N ∧ isA' L b = true) : ∀ n, n < N → ∃ b : Nat, stF L l0 n = (b : Int) ∧ b < N ∧ isA' L b = true
  | 0, h => by
    cases hA : isA' L 0 with
    | true => exact ⟨0, stF_attr hA, h, hA⟩
    | false =>
      obtain ⟨b, h1, h2⟩ := stF_A hc hn
      exact ⟨b, by simp [stF, hA, h1], h2⟩
  | n + 1, h => by
    cases hA : isA' L (n + 1) with
    | true => exact ⟨n + 1, stF_attr hA, h, hA⟩
    | false =>
      obtain ⟨b, h1, h2⟩ := stF_at hc hn n (by omega)
      exact ⟨b, by simp [stF, hA, h1], h2⟩
/-- without attributes between, a place's attribute is the one that lies behind it -/
theorem stF_fwd {L : List Vapi_Cell} {l0 : Int} {N a : Nat} (hc : l0 = stF L l0 (N - 1)) (ha : a < N) (hat : isA' L a = true) : ∀ i, (∀ t, 1 ≤ t → t ≤ i → isA' L ((a + t) % N) = false) → stF L l0 ((a + i) % N) = (a : Int)
  | 0, _ => by rw [Nat.add_zero, Nat.mod_eq_of_lt ha]; exact stF_attr hat
  | i + 1, h => by
    have ih := stF_fwd hc ha hat i fun t h1 h2 => h t h1 (by omega)
    have e2 : (a + (i + 1)) % N = ((a + i) % N + 1) % N := by simp only [Nat.mod_add_mod]; rfl
    have hna := h (i + 1) (by omega) (by omega)
    rw [e2] at hna ⊢
    rw [stF_prev hc (Nat.mod_lt _ (by omega)) hna]; exact ih
/-- behind another attribute it isn't -/
theorem stF_past {L : List Vapi_Cell} {l0 : Int} {N a j : Nat} (hc : l0 = stF L l0 (N - 1)) (ha : a < N) (hj : 1 ≤ j) (hat : isA' L ((a + j) % N) = true) : ∀ d, j + d < N → stF L l0 ((a + (j + d)) % N) ≠ (a : Int)
  | 0, h => by
    rw [Nat.add_zero, stF_attr hat]
    intro e
    have e : (a + j) % N = a := by omega
    by_cases h3 : a + j < N
    · rw [Nat.mod_eq_of_lt h3] at e; omega
    · rw [Nat.mod_eq_sub_mod (by omega), Nat.mod_eq_of_lt (by omega)] at e; omega
  | d + 1, h => by
    have ih := stF_past hc ha hj hat d (by omega)
    have e2 : (a + (j + (d + 1))) % N = ((a + (j + d)) % N + 1) % N := by simp only [Nat.mod_add_mod]; rfl
    cases hA : isA' L ((a + (j + (d + 1))) % N) with
    | true =>
      rw [stF_attr hA]
      intro e
      have e : (a + (j + (d + 1))) % N = a := by omega
      by_cases h3 : a + (j + (d + 1)) < N
      · rw [Nat.mod_eq_of_lt h3] at e; omega
      · rw [Nat.mod_eq_sub_mod (by omega), Nat.mod_eq_of_lt (by omega)] at e; omega
    | false =>
      rw [e2] at hA ⊢
      rw [stF_prev hc (Nat.mod_lt _ (by omega)) hA]; exact ih
end Go.Vt
set_option linter.unusedVariables false
set_option linter.unusedSimpArgs false
set_option maxRecDepth 100000
namespace Go.Vt
theorem se (s : Vspace_Space) : (⟨s.model, s.alternate, ⟨s.size.Rows, s.size.Cols⟩, s.cells, s.cursor, s.attrs⟩ : Vspace_Space) = s := rfl
theorem sz_cells {m : Int} {N : Nat} {s : Vspace_Space} (h : SS m N s) : m_addr_Size_Cells ⟨s.size.Rows, s.size.Cols⟩ = some (N : Int) := cells_ok h.dim.dim
theorem sz_wrap {m : Int} {N : Nat} {s : Vspace_Space} (h : SS m N s) (n : Int) : m_addr_Size_Wrap ⟨s.size.Rows, s.size.Cols⟩ n = some (n % N) := wrap_ok h.dim.dim n
theorem nat_emod {N k : Nat} (h : k < N) : (k : Int) % (N : Int) = (k : Int) := Int.emod_eq_of_lt (by omega) (by omega)
def Fmt (L : List Vapi_Cell) : Prop := ∃ a, a < L.length ∧ isA' L a = true
def lastA (L : List Vapi_Cell) : Int := match (attrsN L L.length).getLast? with
  | some a => (a : Int)
  | none => -1
/-- where the field of a place begins; -1: there is none -/
def stI (L : List Vapi_Cell) (n : Nat) : Int := stF L (lastA L) n
theorem lastA_cyc {L : List Vapi_Cell} (h : Fmt L) : lastA L = stF L (lastA L) (L.length - 1) := by
  have h' := h
  obtain ⟨a, h1, h2⟩ := h
  obtain ⟨g1, g2⟩ := stF_last (L := L) (lastA L) (L.length - 1) ⟨a, by omega, h2⟩
  rw [show L.length - 1 + 1 = L.length by omega] at g1
  generalize hk : stF L (lastA L) (L.length - 1) = z at g1 g2 ⊢
  unfold lastA
  rw [g1]; simp only; omega
theorem stF_no {L : List Vapi_Cell} : ∀ n, (∀ a, a < n + 1 → isA' L a = false) → stF L (-1) n = -1
  | 0, h => by simp [stF, h 0 (by omega)]
  | n + 1, h => by simp [stF, h (n + 1) (by omega), stF_no n fun a ha => h a (by omega)]
theorem no_fmt {L : List Vapi_Cell} (h : ¬ Fmt L) {a : Nat} (ha : a < L.length) : isA' L a = false := by
  cases e : isA' L a with
  | false => rfl
  | true => exact absurd ⟨a, ha, e⟩ h
theorem lastA_no {L : List Vapi_Cell} (h : ¬ Fmt L) : lastA L = -1 := by
  unfold lastA
  cases e : (attrsN L L.length).getLast? with
  | none => rfl
  | some a =>
    obtain ⟨h1, h2⟩ := attrsN_mem.1 (List.mem_of_getLast? e)
    rw [no_fmt h h1] at h2; cases h2
theorem stI_no {L : List Vapi_Cell} (h : ¬ Fmt L) {n : Nat} (hn : n < L.length) : stI L n = -1 := by
  unfold stI; rw [lastA_no h]; exact stF_no n fun a ha => no_fmt h (by omega)
theorem stI_at {L : List Vapi_Cell} (h : Fmt L) {n : Nat} (hn : n < L.length) : ∃ b : Nat, stI L n = (b : Int) ∧ b < L.length ∧ isA' L b = true := stF_at (lastA_cyc h) h n hn
theorem stI_self {L : List Vapi_Cell} {n : Nat} (h : isA' L n = true) : stI L n = (n : Int) := stF_attr h
theorem fmt_iff {L : List Vapi_Cell} : Fmt L ↔ cnt L > 0 := by
  rw [cnt_attrs]
  constructor
  · rintro ⟨a, h1, h2⟩
    have := List.length_pos_of_mem (attrsN_mem.2 ⟨h1, h2⟩)
    omega
  · intro h
    cases hl : attrsN L L.length with
    | nil => rw [hl] at h; simp at h
    | cons a r => exact ⟨a, attrsN_mem.1 (by rw [hl]; simp)⟩
/-! ### the start -/
theorem mod_back {N a d : Nat} (hN : 0 < N) (hd : 1 ≤ d) (hdN : d < N) (ha : a < N) : ((((a + d) % N : Nat) : Int) - 1) % (N : Int) = (((a + (d - 1)) % N : Nat) : Int) := by
  by_cases h : a + d < N
  · rw [Nat.mod_eq_of_lt h, Nat.mod_eq_of_lt (by omega), Int.emod_eq_of_lt (by omega) (by omega)]; omega
  · have h1 : (a + d) % N = a + d - N := by rw [Nat.mod_eq_sub_mod (by omega), Nat.mod_eq_of_lt (by omega)]
    rw [h1]
    by_cases h2 : a + d = N
    · have h3 : (((a + d - N : Nat) : Int) - 1) = ((N - 1 : Nat) : Int) - N := by omega
      rw [h3, Int.sub_emod_right, Int.emod_eq_of_lt (by omega) (by omega), Nat.mod_eq_of_lt (by omega)]; omega
    · have h3 : (a + (d - 1)) % N = a + d - 1 - N := by rw [Nat.mod_eq_sub_mod (by omega), Nat.mod_eq_of_lt (by omega)]; omega
      rw [h3, Int.emod_eq_of_lt (by omega) (by omega)]; omega
theorem start_loop {m : Int} {N : Nat} {s : Vspace_Space} (h : SS m N s) {a : Nat} (ha : a < N) (hat : isA' s.cells a = true) : ∀ (d k : Nat), d < N → d < k → field_Start_l6 s s.size k (((a + d) % N : Nat) : Int) = some (stI s.cells ((a + d) % N))
  | d, 0, _, hk => by omega
  | d, k + 1, hd, hk => by
    have hle := h.dim.dim.le
    have hl := h.len
    have hp : (a + d) % N < N := Nat.mod_lt _ (by omega)
    rw [field_Start_l6.eq_2]
    simp only [ss_at h, nat_emod hp, Option.bind_some]
    have hA : (rd s.cells (((a + d) % N : Nat) : Int)).Attr = isA' s.cells ((a + d) % N) := rfl
    rw [hA]
    cases e : isA' s.cells ((a + d) % N) with
    | true => simp only [Bool.not_true, cond_false]; rw [stI_self e]
    | false =>
      have hd0 : 1 ≤ d := by
        rcases Nat.eq_zero_or_pos d with h0 | h0
        · subst h0
          rw [Nat.add_zero, Nat.mod_eq_of_lt ha, hat] at e; cases e
        · exact h0
      have hw : w64 ((((a + d) % N : Nat) : Int) - 1) = (((a + d) % N : Nat) : Int) - 1 := w64_in (by omega) (by omega)
      simp only [Bool.not_false, cond_true, hw, sz_wrap h, Option.bind_some, mod_back (by omega) hd0 hd ha]
      have ih := start_loop h ha hat (d - 1) k (by omega) (by omega)
      have e2 : ((a + (d - 1)) % N + 1) % N = (a + d) % N := by rw [Nat.mod_add_mod]; congr 1; omega
      have hf : Fmt s.cells := ⟨a, by omega, hat⟩
      have := stF_prev (L := s.cells) (N := N) (n := (a + (d - 1)) % N) (by rw [← hl]; exact lastA_cyc hf) (Nat.mod_lt _ (by omega)) (by rw [e2]; exact e)
      rw [e2] at this
      rw [ih]
      exact congrArg some this.symm
theorem pstart {m : Int} {N : Nat} {s : Vspace_Space} (h : SS m N s) {n : Int} {k : Nat} (hk : n % N = (k : Int)) (hkN : k < N) : m_field_Start s n = some (stI s.cells k) := by
  have hl := h.len
  have hle := h.dim.dim.le
  unfold m_field_Start m_space_Space_Formatted m_space_Space_Size
  simp only [Option.bind_some]
  by_cases hf : Fmt s.cells
  · have hc := fmt_iff.1 hf
    rw [h.attrs, decide_eq_true hc]
    have h4 := hf
    obtain ⟨a, ha, hat⟩ := h4
    have hsz : s.size = ⟨s.size.Rows, s.size.Cols⟩ := rfl
    have e1 : m_addr_Size_Wrap s.size n = some (k : Int) := by rw [hsz, sz_wrap h, hk]
    simp only [Bool.not_true, cond_false, e1, Option.bind_some]
    obtain ⟨d, hd, hdN⟩ : ∃ d, (a + d) % N = k ∧ d < N := by
      by_cases hak : a ≤ k
      · exact ⟨k - a, by rw [show a + (k - a) = k by omega, Nat.mod_eq_of_lt hkN], by omega⟩
      · exact ⟨k + N - a, by rw [show a + (k + N - a) = k + N by omega, Nat.add_mod_right, Nat.mod_eq_of_lt hkN], by omega⟩
    have := start_loop h (by omega) hat d fuel hdN (by unfold fuel; omega)
    rw [hd] at this
    rw [this]; rfl
  · have hc : ¬ cnt s.cells > 0 := fun e => hf (fmt_iff.2 e)
    rw [h.attrs, decide_eq_false hc, stI_no hf (by omega)]; rfl
/-! ### what a field is -/
def fld (f : Int) : Vattr_Field := ⟨((iband .u8 f 32) != 0), ((iband .u8 f 16) != 0), ishr .i64 (w64 (iband .u8 f 12)) 2, ((iband .u8 f 1) != 0)⟩
theorem pof (f : Int) : m_attr_Of f = some (fld f) := rfl
/-- the attribute of the field of a place -/
def faI (L : List Vapi_Cell) (k : Nat) : Int := (rd L (stI L k)).FA
/-- may one write there? -/
def openI (L : List Vapi_Cell) (k : Nat) : Bool := !isA' L k && (decide (stI L k < 0) || !(fld (faI L k)).Protected)
theorem pfof {m : Int} {N : Nat} {s : Vspace_Space} (h : SS m N s) {n : Int} {k : Nat} (hk : n % N = (k : Int)) (hkN : k < N) : m_field_Of s n = some (if stI s.cells k < 0 then (⟨false, false, 0, false⟩, false) else (fld (faI s.cells k), true)) := by
  have hl := h.len
  unfold m_field_Of
  simp only [pstart h hk hkN, Option.bind_some]
  by_cases hf : Fmt s.cells
  · obtain ⟨b, h1, h2, _⟩ := stI_at hf (n := k) (by omega)
    rw [h1, beq_f (by omega), if_neg (by omega)]
    simp only [cond_false, ss_at h, nat_emod (show b < N by omega), Option.bind_some, pof]
    unfold faI; rw [h1]
  · rw [stI_no hf (by omega)]; rfl
theorem popen {m : Int} {N : Nat} {s : Vspace_Space} (h : SS m N s) {n : Int} {k : Nat} (hk : n % N = (k : Int)) (hkN : k < N) : m_field_Open s n = some (openI s.cells k) := by
  unfold m_field_Open openI
  simp only [pfof h hk hkN, ss_at h, hk, Option.bind_some]
  have hA : (rd s.cells (k : Int)).Attr = isA' s.cells k := rfl
  rw [hA]
  by_cases hs : stI s.cells k < 0
  · rw [if_pos hs, decide_eq_true hs]
    cases isA' s.cells k <;> rfl
  · rw [if_neg hs, decide_eq_false hs]
    cases isA' s.cells k <;> rfl
/-! ### that it is modified -/
theorem bor1 : ∀ f : Fin 256, By (ibor .u8 (f.val : Int) 1) ∧ (iband .u8 (f.val : Int) 61 = (f.val : Int) → iband .u8 (ibor .u8 (f.val : Int) 1) 61 = ibor .u8 (f.val : Int) 1) := by decide +kernel
def mdf (c : Vapi_Cell) : Vapi_Cell := { c with FA := ibor .u8 c.FA 1 }
theorem mdf_ok {c : Vapi_Cell} (h : COk c) (ha : c.Attr = true) : COk (mdf c) := by
  obtain ⟨f, hf⟩ := h.fa.fin
  obtain ⟨b1, b2⟩ := bor1 f
  rw [hf] at b1 b2
  exact ⟨h.char, b1, h.high, h.color, h.set, fun _ => ⟨(h.attr ha).1, b2 (h.attr ha).2⟩, fun e => by have e : c.Attr = false := e; rw [ha] at e; cases e⟩
/-- the cells, the field of a place modified -/
def modI (L : List Vapi_Cell) (k : Nat) : List Vapi_Cell := if stI L k < 0 then L else L.set (stI L k).toNat (mdf (rd L (stI L k)))
theorem modI_len (L : List Vapi_Cell) (k : Nat) : (modI L k).length = L.length := by unfold modI; split <;> simp
/-- other cells, where they may stand -/
def wL (x : Vvitrineref12_Space) (L : List Vapi_Cell) : Vvitrineref12_Space := ⟨x.Model, x.Alt, x.Size, L, x.Cursor⟩
def wS (s : Vspace_Space) (L : List Vapi_Cell) : Vspace_Space := ⟨s.model, s.alternate, s.size, L, s.cursor, cnt L⟩
theorem wS_self {m : Int} {N : Nat} {s : Vspace_Space} (h : SS m N s) : wS s s.cells = s := by unfold wS; rw [← h.attrs]
theorem RS.w {m : Int} {N : Nat} {x : Vvitrineref12_Space} (h : RS m N x) {L : List Vapi_Cell} (hl : L.length = N) (ho : ∀ c ∈ L, COk c) : RS m N (wL x L) := ⟨h.model, h.dim, hl, ho, h.cur⟩
theorem SS.w {m : Int} {N : Nat} {s : Vspace_Space} (h : SS m N s) {L : List Vapi_Cell} (hl : L.length = N) (ho : ∀ c ∈ L, COk c) : SS m N (wS s L) := ⟨h.model, h.dim, hl, ho, h.cur, rfl⟩
theorem modI_ok {L : List Vapi_Cell} (ho : ∀ c ∈ L, COk c) {k : Nat} (hk : k < L.length) : ∀ c ∈ modI L k, COk c := by
  intro c hc
  unfold modI at hc
  split at hc
  · exact ho c hc
  · rename_i hs
    rcases List.mem_or_eq_of_mem_set hc with h1 | rfl
    · exact ho c h1
    · have hf : Fmt L := by
        by_cases hf : Fmt L
        · exact hf
        · rw [stI_no hf hk] at hs; exact absurd (by omega) hs
      obtain ⟨b, h1, h2, h3⟩ := stI_at hf hk
      rw [h1]
      exact mdf_ok (ho _ (rd_mem (by omega))) h3
theorem pmod {m : Int} {N : Nat} {s : Vspace_Space} (h : SS m N s) {n : Int} {k : Nat} (hk : n % N = (k : Int)) (hkN : k < N) : m_field_Modify s n = some (wS s (modI s.cells k), decide (0 ≤ stI s.cells k)) := by
  have hl := h.len
  unfold m_field_Modify modI
  simp only [pstart h hk hkN, Option.bind_some]
  by_cases hf : Fmt s.cells
  · obtain ⟨b, h1, h2, h3⟩ := stI_at hf (n := k) (by omega)
    have hb : b < N := by omega
    have hok := h.ok _ (rd_mem (l := s.cells) (n := (b : Int)) (by omega))
    rw [h1, beq_f (by omega), if_neg (by omega), decide_eq_true (show (0 : Int) ≤ (b : Int) by omega)]
    simp only [cond_false, ss_at h, nat_emod hb, Option.bind_some]
    have hmk := mdf_ok hok h3
    have hset := (ss_set h (b : Int) hmk.cb).1
    rw [nat_emod hb, hmk.fit] at hset
    have e : (⟨(rd s.cells (b : Int)).Char, (rd s.cells (b : Int)).Attr, ibor .u8 (rd s.cells (b : Int)).FA 1, (rd s.cells (b : Int)).High, (rd s.cells (b : Int)).Color, (rd s.cells (b : Int)).f_Set⟩ : Vapi_Cell) = mdf (rd s.cells (b : Int)) := rfl
    rw [e, hset]; rfl
  · rw [stI_no hf (by omega)]
    simp only [Int.reduceBEq, cond_true, if_pos (show (-1 : Int) < 0 by omega), wS_self h]
    rfl
end Go.Vt
set_option linter.unusedVariables false
set_option linter.unusedSimpArgs false
set_option maxRecDepth 100000
namespace Go.Vt
/-! ### loops -/
theorem while_ok {σ ρ : Type} {F : Nat → σ → Option ρ} {out : ρ} (st : Nat → σ) (j : Nat) (hj : j < 1000000) (step : ∀ k i, i < j → F (k + 1) (st i) = F k (st (i + 1))) (fin : ∀ k, F (k + 1) (st j) = some out) : F fuel (st 0) = some out := by
  have key : ∀ n i k, i + n = j → n < k → F k (st i) = some out := by
    intro n
    induction n with
    | zero =>
      intro i k h hk
      obtain ⟨k, rfl⟩ : ∃ q, k = q + 1 := ⟨k - 1, by omega⟩
      have : i = j := by omega
      subst this; exact fin k
    | succ n ih =>
      intro i k h hk
      obtain ⟨k, rfl⟩ : ∃ q, k = q + 1 := ⟨k - 1, by omega⟩
      rw [step k i (by omega)]
      exact ih (i + 1) k (by omega) (by omega)
  exact key j 0 fuel (by omega) (by unfold fuel; omega)
def tlF (p : Nat → Bool) : Nat → Nat → Nat
  | 0, i => i
  | n + 1, i => if p i then tlF p n (i + 1) else i
/-- how many from the first on are so, of n -/
def tl (p : Nat → Bool) (n : Nat) : Nat := tlF p n 0
theorem tlF_spec (p : Nat → Bool) : ∀ n i, i ≤ tlF p n i ∧ tlF p n i ≤ i + n ∧ (∀ q, i ≤ q → q < tlF p n i → p q = true) ∧ (tlF p n i < i + n → p (tlF p n i) = false)
  | 0, i => ⟨Nat.le_refl _, Nat.le_refl _, fun q h1 h2 => by simp only [tlF] at h2; omega, fun h => by simp only [tlF] at h; omega⟩
  | n + 1, i => by
    simp only [tlF]
    by_cases h : p i = true
    · obtain ⟨g1, g2, g3, g4⟩ := tlF_spec p n (i + 1)
      rw [if_pos h]
      refine ⟨by omega, by omega, fun q h1 h2 => ?_, fun h2 => g4 (by omega)⟩
      by_cases hq : q = i
      · rw [hq]; exact h
      · exact g3 q (by omega) h2
    · rw [if_neg h]
      exact ⟨Nat.le_refl _, by omega, fun q h1 h2 => by omega, fun _ => by simpa using h⟩
theorem tl_le (p : Nat → Bool) (n : Nat) : tl p n ≤ n := by have := (tlF_spec p n 0).2.1; unfold tl; omega
theorem tl_lt {p : Nat → Bool} {n i : Nat} (h : i < tl p n) : p i = true := (tlF_spec p n 0).2.2.1 i (by omega) h
theorem tl_end {p : Nat → Bool} {n : Nat} (h : tl p n < n) : p (tl p n) = false := (tlF_spec p n 0).2.2.2 (by unfold tl at h; omega)
theorem tl_eq {p : Nat → Bool} {n j : Nat} (h1 : j ≤ n) (h2 : ∀ i, i < j → p i = true) (h3 : j < n → p j = false) : tl p n = j := by
  have g1 := tl_le p n
  rcases Nat.lt_trichotomy (tl p n) j with h | h | h
  · have := tl_end (p := p) (n := n) (by omega); rw [h2 _ h] at this; cases this
  · exact h
  · have := h3 (by omega); rw [tl_lt h] at this; cases this
abbrev ints (f : Nat → Nat) (j : Nat) : List Int := (List.range j).map fun i => ((f i : Nat) : Int)
theorem ints_succ (f : Nat → Nat) (j : Nat) : ints f (j + 1) = ints f j ++ [((f j : Nat) : Int)] := by unfold ints; rw [List.range_succ, List.map_append]; rfl
theorem ints_len (f : Nat → Nat) (j : Nat) : (ints f j).length = j := by simp [ints]
theorem ints_rd {f : Nat → Nat} {j i : Nat} (h : i < j) : rd (ints f j) (i : Int) = ((f i : Nat) : Int) := by
  rw [rdn (by rw [ints_len]; exact h)]; simp [ints]
theorem w64s {n : Nat} (h : n < 1000000) : w64 ((n : Int) + 1) = ((n + 1 : Nat) : Int) := w64_succ (by omega)
theorem mod1 {N p : Nat} (hN : 1 < N) (hp : p < N) : ((p : Int) + 1) % (N : Int) = (((p + 1) % N : Nat) : Int) := by
  rw [show ((p : Int) + 1) = ((p + 1 : Nat) : Int) by omega]; exact (Int.natCast_emod _ _).symm
theorem modm1 {N p : Nat} (hN : 1 < N) (hp : p < N) : ((p : Int) - 1) % (N : Int) = (((p + (N - 1)) % N : Nat) : Int) := by
  have := mod_back (N := N) (a := p) (d := N) 
  by_cases h : p = 0
  · subst h
    rw [show (((0 : Nat) : Int) - 1) = ((N - 1 : Nat) : Int) - N by omega, Int.sub_emod_right, nat_emod (by omega), Nat.mod_eq_of_lt (by omega)]; omega
  · rw [show ((p : Int) - 1) = ((p - 1 : Nat) : Int) by omega, nat_emod (by omega), show p + (N - 1) = (p - 1) + N by omega, Nat.add_mod_right, Nat.mod_eq_of_lt (by omega)]
/-! ### the places of a field -/
/-- how many places the field of an attribute has -/
def runI (L : List Vapi_Cell) (a : Nat) : Nat := tl (fun i => !isA' L ((a + 1 + i) % L.length)) (L.length - 1)
def posI (L : List Vapi_Cell) (a : Nat) : List Int := ints (fun i => (a + 1 + i) % L.length) (runI L a)
theorem runI_lt {L : List Vapi_Cell} {a : Nat} (hL : 0 < L.length) : runI L a < L.length := by have := tl_le (fun i => !isA' L ((a + 1 + i) % L.length)) (L.length - 1); unfold runI; omega
theorem runI_no {L : List Vapi_Cell} {a i : Nat} (h : i < runI L a) : isA' L ((a + 1 + i) % L.length) = false := by have := tl_lt h; simpa using this
/-- behind the last one stands an attribute -/
theorem runI_end {L : List Vapi_Cell} {a : Nat} (hL : 0 < L.length) (ha : a < L.length) (hat : isA' L a = true) : isA' L ((a + 1 + runI L a) % L.length) = true := by
  by_cases h : runI L a < L.length - 1
  · have h2 : (!isA' L ((a + 1 + runI L a) % L.length)) = false := tl_end h
    simpa using h2
  · have h1 := tl_le (fun i => !isA' L ((a + 1 + i) % L.length)) (L.length - 1)
    have : runI L a = L.length - 1 := by unfold runI at h ⊢; omega
    rw [this, show a + 1 + (L.length - 1) = a + L.length by omega, Nat.add_mod_right, Nat.mod_eq_of_lt ha]; exact hat
theorem stI_run {L : List Vapi_Cell} {a i : Nat} (ha : a < L.length) (hat : isA' L a = true) (hi : i ≤ runI L a) : stI L ((a + i) % L.length) = (a : Int) := by
  refine stF_fwd (lastA_cyc ⟨a, ha, hat⟩) ha hat i fun t h1 h2 => ?_
  have := runI_no (L := L) (a := a) (i := t - 1) (by omega)
  rwa [show a + 1 + (t - 1) = a + t by omega] at this
/-- the program's -/
theorem pplaces {m : Int} {N : Nat} {s : Vspace_Space} (h : SS m N s) {a : Nat} (ha : a < N) (hat : isA' s.cells a = true) : m_slices_Collect_2 s (a : Int) = some (s, (a : Int), posI s.cells a) := by
  have hl := h.len
  have hle := h.dim.dim.le
  have hA : (rd s.cells (a : Int)).Attr = true := hat
  have hw1 : w64 ((a : Int) + 1) = ((a + 1 : Nat) : Int) := w64s (by omega)
  have loop : slices_AppendSeq_2_l10 s ⟨s.size.Rows, s.size.Cols⟩ fuel ((((a + 1) % N : Nat) : Int), []) = some (posI s.cells a) := by
    have hr := runI_lt (L := s.cells) (a := a) (by omega)
    refine while_ok (fun i => ((((a + 1 + i) % N : Nat) : Int), ints (fun i => (a + 1 + i) % N) i)) (runI s.cells a) (by omega) (fun k i hi => ?_) (fun k => ?_)
    · have hp : (a + 1 + i) % N < N := Nat.mod_lt _ (by omega)
      have hn := runI_no hi
      rw [hl] at hn
      have hn' : (rd s.cells (((a + 1 + i) % N : Nat) : Int)).Attr = false := hn
      rw [slices_AppendSeq_2_l10.eq_2]
      simp only [ss_at h, nat_emod hp, Option.bind_some, hn', Bool.not_false, cond_true]
      rw [gd_pos (by rw [ints_len]; simp only [List.length_cons, List.length_nil]; omega), w64s (by omega)]
      simp only [sz_wrap h, Option.bind_some]
      rw [show (((((a + 1 + i) % N + 1 : Nat) : Int)) % (N : Int)) = (((a + 1 + (i + 1)) % N : Nat) : Int) by
        rw [← Int.natCast_emod, Nat.mod_add_mod]; rfl, ints_succ]
    · have hp : (a + 1 + runI s.cells a) % N < N := Nat.mod_lt _ (by omega)
      have he := runI_end (L := s.cells) (a := a) (by omega) (by omega) hat
      rw [hl] at he
      have he' : (rd s.cells (((a + 1 + runI s.cells a) % N : Nat) : Int)).Attr = true := he
      rw [slices_AppendSeq_2_l10.eq_2]
      simp only [ss_at h, nat_emod hp, Option.bind_some, he', Bool.not_true, cond_false]
      unfold posI; rw [hl]
  unfold m_slices_Collect_2 m_slices_AppendSeq_2 m_space_Space_Size
  simp only [Option.bind_some, sz_wrap h, nat_emod ha, ss_at h, hA, Bool.not_true, cond_false, hw1]
  rw [show ((((a + 1 : Nat) : Int)) % (N : Int)) = (((a + 1) % N : Nat) : Int) from (Int.natCast_emod _ _).symm]
  have hsz : s.size = ⟨s.size.Rows, s.size.Cols⟩ := rfl
  rw [hsz, loop]
  rfl
end Go.Vt
set_option linter.unusedVariables false
set_option linter.unusedSimpArgs false
set_option maxRecDepth 100000
namespace Go.Vt
/-- is it the first place of an unprotected field? -/
def frB (L : List Vapi_Cell) (p : Nat) : Bool := isA' L ((p + (L.length - 1)) % L.length) && (!isA' L p && !(fld (rd L (((p + (L.length - 1)) % L.length : Nat) : Int)).FA).Protected)
def hitN (L : List Vapi_Cell) (k : Nat) : Nat := tl (fun i => !frB L ((k + 1 + i) % L.length)) L.length
def hitP (L : List Vapi_Cell) (k : Nat) : Nat := tl (fun i => !frB L ((k + (L.length - 1 - i)) % L.length)) L.length
def nextI (L : List Vapi_Cell) (k : Nat) : Int := if hitN L k < L.length then (((k + 1 + hitN L k) % L.length : Nat) : Int) else -1
def prevI (L : List Vapi_Cell) (k : Nat) : Int := if hitP L k < L.length then (((k + (L.length - 1 - hitP L k)) % L.length : Nat) : Int) else -1
theorem pfirst {m : Int} {N : Nat} {s : Vspace_Space} (h : SS m N s) {p : Nat} (hp : p < N) : m_field_first s (p : Int) = some (frB s.cells p) := by
  have hl := h.len
  have hle := h.dim.dim.le
  have hw : w64 ((p : Int) - 1) = (p : Int) - 1 := w64_in (by omega) (by omega)
  unfold m_field_first frB
  simp only [hw, ss_at h, modm1 (show 1 < N by omega) hp, nat_emod hp, Option.bind_some, hl, pof]
  have hA : (rd s.cells (((p + (N - 1)) % N : Nat) : Int)).Attr = isA' s.cells ((p + (N - 1)) % N) := rfl
  have hB : (rd s.cells (p : Int)).Attr = isA' s.cells p := rfl
  rw [hA, hB]
  cases isA' s.cells ((p + (N - 1)) % N) <;> cases isA' s.cells p <;> rfl
theorem find_loop {m : Int} {N : Nat} {s : Vspace_Space} (h : SS m N s) (z : Int) (f : Nat → Nat) (hf : ∀ i, f i < N) (hz : ∀ i, i < N → m_addr_Size_Wrap ⟨s.size.Rows, s.size.Cols⟩ (w64 ((f i : Int) + z)) = some ((f (i + 1) : Nat) : Int)) :
    m_field_find s (f 0 : Int) z = some (if tl (fun i => !frB s.cells (f (i + 1))) N < N then ((f (tl (fun i => !frB s.cells (f (i + 1))) N + 1) : Nat) : Int) else -1) := by
  have hl := h.len
  have hle := h.dim.dim.le
  generalize hj : tl (fun i => !frB s.cells (f (i + 1))) N = j
  have hjl : j ≤ N := by rw [← hj]; exact tl_le _ _
  unfold m_field_find m_space_Space_Size
  simp only [Option.bind_some, sz_cells h]
  have loop : field_find_l4 s z ⟨s.size.Rows, s.size.Cols⟩ (N : Int) fuel (0, (f 0 : Int)) = some (if j < N then .inr ((f (j + 1) : Nat) : Int) else .inl ()) := by
    refine while_ok (fun i => ((i : Int), ((f i : Nat) : Int))) j (by omega) (fun k i hi => ?_) (fun k => ?_)
    · have d1 : decide ((i : Int) < (N : Int)) = true := decide_eq_true (by omega)
      have hp := tl_lt (p := fun i => !frB s.cells (f (i + 1))) (n := N) (i := i) (by omega)
      have hp' : frB s.cells (f (i + 1)) = false := by simpa using hp
      rw [field_find_l4.eq_2]
      simp only [d1, cond_true, hz i (by omega), Option.bind_some, pfirst h (hf _), hp', cond_false, w64s (show i < 1000000 by omega)]
    · rw [field_find_l4.eq_2]
      by_cases hjN : j < N
      · have d1 : decide ((j : Int) < (N : Int)) = true := decide_eq_true (by omega)
        have hp := tl_end (p := fun i => !frB s.cells (f (i + 1))) (n := N) (by omega)
        rw [hj] at hp
        have hp' : frB s.cells (f (j + 1)) = true := by simpa using hp
        simp only [d1, cond_true, hz j hjN, Option.bind_some, pfirst h (hf _), hp', if_pos hjN]
        rfl
      · have d1 : decide ((j : Int) < (N : Int)) = false := decide_eq_false (by omega)
        simp only [d1, cond_false, if_neg hjN]
  rw [loop]
  by_cases hjN : j < N
  · rw [if_pos hjN, if_pos hjN]; rfl
  · rw [if_neg hjN, if_neg hjN]; rfl
theorem pnext {m : Int} {N : Nat} {s : Vspace_Space} (h : SS m N s) {n : Int} {k : Nat} (hk : n % N = (k : Int)) (hkN : k < N) : m_field_Next s n = some (nextI s.cells k) := by
  have hl := h.len
  have hle := h.dim.dim.le
  unfold m_field_Next m_space_Space_Size
  simp only [Option.bind_some, sz_wrap h, hk]
  have key := find_loop h 1 (fun i => (k + i) % N) (fun i => Nat.mod_lt _ (by omega)) (fun i hi => by
    have hp : (k + i) % N < N := Nat.mod_lt _ (by omega)
    rw [w64_in (by omega) (by omega), sz_wrap h, mod1 (by omega) hp, Nat.mod_add_mod]; rfl)
  simp only [Nat.add_zero, Nat.mod_eq_of_lt hkN] at key
  have e : ∀ i, k + (i + 1) = k + 1 + i := fun i => by omega
  have hfun : (fun i => !frB s.cells ((k + (i + 1)) % N)) = fun i => !frB s.cells ((k + 1 + i) % N) := funext fun i => by rw [e]
  rw [hfun, e (tl (fun i => !frB s.cells ((k + 1 + i) % N)) N)] at key
  rw [key]
  unfold nextI hitN
  rw [hl]
  rfl
theorem pprev {m : Int} {N : Nat} {s : Vspace_Space} (h : SS m N s) {n : Int} {k : Nat} (hk : n % N = (k : Int)) (hkN : k < N) : m_field_Prev s n = some (prevI s.cells k) := by
  have hl := h.len
  have hle := h.dim.dim.le
  unfold m_field_Prev m_space_Space_Size
  simp only [Option.bind_some, sz_wrap h, hk]
  have key := find_loop h (-1) (fun i => (k + (N - i)) % N) (fun i => Nat.mod_lt _ (by omega)) (fun i hi => by
    have hp : (k + (N - i)) % N < N := Nat.mod_lt _ (by omega)
    rw [w64_in (by omega) (by omega), sz_wrap h, show ((((k + (N - i)) % N : Nat) : Int) + -1) = (((k + (N - i)) % N : Nat) : Int) - 1 by omega, modm1 (by omega) hp, Nat.mod_add_mod]
    by_cases h0 : i + 1 ≤ N
    · rw [show k + (N - i) + (N - 1) = k + (N - (i + 1)) + N by omega, Nat.add_mod_right]
    · omega)
  simp only [Nat.sub_zero, Nat.add_mod_right, Nat.mod_eq_of_lt hkN] at key
  have e : ∀ i, N - (i + 1) = N - 1 - i := fun i => by omega
  have hfun : (fun i => !frB s.cells ((k + (N - (i + 1))) % N)) = fun i => !frB s.cells ((k + (N - 1 - i)) % N) := funext fun i => by rw [e]
  rw [hfun, e (tl (fun i => !frB s.cells ((k + (N - 1 - i)) % N)) N)] at key
  rw [key]
  unfold prevI hitP
  rw [hl]
  rfl
/-! ### the document's -/
/-- attributes of unprotected fields that have places -/
def frA (L : List Vapi_Cell) (a : Nat) : Bool := !isA' L ((a + 1) % L.length) && !(fld (rd L (a : Int)).FA).Protected
def firstsI (L : List Vapi_Cell) : List Int := ((attrsN L L.length).filter (frA L)).map fun a => (((a + 1) % L.length : Nat) : Int)
/-- how far it is from a place to the next, 1 at least -/
def dist (N k p : Nat) (back : Bool) : Nat := let d := if back then (k + (N - p)) % N else (p + (N - k)) % N; if d = 0 then N else d
end Go.Vt
set_option linter.unusedVariables false
set_option linter.unusedSimpArgs false
set_option maxRecDepth 100000
namespace Go.Vt
/-! ### characters at places -/
def chr (c : Vapi_Cell) (z : Int) : Vapi_Cell := { c with Char := z }
def putI (L : List Vapi_Cell) (p : Nat) (z : Int) : List Vapi_Cell := if isA' L p then L else L.set p (chr (rd L (p : Int)) z)
def puts (L : List Vapi_Cell) (f : Nat → Nat) (c : Nat → Int) : Nat → List Vapi_Cell
  | 0 => L
  | i + 1 => putI (puts L f c i) (f i) (c i)
theorem chr_ok {c : Vapi_Cell} (h : COk c) (ha : c.Attr = false) {z : Int} (hz : By z) : COk (chr c z) := ⟨hz, h.fa, h.high, h.color, h.set, (fun e => by have e : c.Attr = true := e; rw [ha] at e; cases e), fun _ => h.plain ha⟩
theorem putI_len (L : List Vapi_Cell) (p : Nat) (z : Int) : (putI L p z).length = L.length := by unfold putI; split <;> simp
theorem puts_len (L : List Vapi_Cell) (f : Nat → Nat) (c : Nat → Int) : ∀ j, (puts L f c j).length = L.length
  | 0 => rfl
  | j + 1 => by rw [puts, putI_len, puts_len L f c j]
theorem rd_set {L : List Vapi_Cell} {p q : Nat} {c : Vapi_Cell} (hp : p < L.length) (hq : q < L.length) : rd (L.set p c) (q : Int) = if p = q then c else rd L (q : Int) := by
  rw [rdn (by simpa using hq), rdn hq, List.getElem_set]
theorem putI_isA {L : List Vapi_Cell} {p : Nat} {z : Int} (hp : p < L.length) {q : Nat} (hq : q < L.length) : isA' (putI L p z) q = isA' L q := by
  unfold putI
  cases h : isA' L p with
  | true => rfl
  | false =>
    simp only [Bool.false_eq_true, if_false]
    unfold isA'
    rw [rd_set hp hq]
    by_cases e : p = q
    · subst e; rw [if_pos rfl]; rfl
    · rw [if_neg e]
theorem putI_ok {L : List Vapi_Cell} (ho : ∀ c ∈ L, COk c) {p : Nat} (hp : p < L.length) {z : Int} (hz : By z) : ∀ c ∈ putI L p z, COk c := by
  intro c hc
  unfold putI at hc
  split at hc
  · exact ho c hc
  · rename_i hA
    rcases List.mem_or_eq_of_mem_set hc with h1 | rfl
    · exact ho c h1
    · exact chr_ok (ho _ (rd_mem (by omega))) (by simpa [isA'] using hA) hz
theorem cnt_isA {L M : List Vapi_Cell} (hl : M.length = L.length) (h : ∀ q, q < L.length → isA' M q = isA' L q) : cnt M = cnt L := by
  rw [cnt_attrs, cnt_attrs, hl]
  unfold attrsN
  congr 2
  exact List.filter_congr fun q hq => h q (List.mem_range.1 hq)
theorem pput {m : Int} {N : Nat} {s : Vspace_Space} (h : SS m N s) {n : Int} {p : Nat} (hp : n % N = (p : Int)) (hpN : p < N) (z : Int) : m_space_Space_Put s n z = some (wS s (putI s.cells p z)) := by
  have hl := h.len
  unfold m_space_Space_Put
  simp only [ss_wrap h, hp, Option.bind_some]
  rw [gd_pos (by omega)]
  have hA : (rd s.cells (p : Int)).Attr = isA' s.cells p := rfl
  have hc : cnt (putI s.cells p z) = cnt s.cells := cnt_isA (putI_len _ _ _) fun q hq => putI_isA (by omega) hq
  unfold wS
  rw [hc, ← h.attrs]
  unfold putI
  cases ha : isA' s.cells p with
  | true => rw [hA, ha]; rfl
  | false =>
    have ha' : (rd s.cells (p : Int)).Attr = false := ha
    have e : (⟨z, false, (rd s.cells (p : Int)).FA, (rd s.cells (p : Int)).High, (rd s.cells (p : Int)).Color, (rd s.cells (p : Int)).f_Set⟩ : Vapi_Cell) = chr (rd s.cells (p : Int)) z := by unfold chr; rw [← ha']
    simp only [ha', Bool.not_false, cond_true, e, Bool.false_eq_true, if_false, Int.toNat_natCast]
section
variable {L : List Vapi_Cell} {f : Nat → Nat} {c : Nat → Int}
theorem puts_isA (hf : ∀ i, f i < L.length) : ∀ j {q : Nat}, q < L.length → isA' (puts L f c j) q = isA' L q
  | 0, q, _ => rfl
  | j + 1, q, hq => by rw [puts, putI_isA (by rw [puts_len]; exact hf j) (by rw [puts_len]; exact hq), puts_isA hf j hq]
theorem puts_ok (ho : ∀ c ∈ L, COk c) (hf : ∀ i, f i < L.length) : ∀ j, (∀ i, i < j → By (c i)) → ∀ d ∈ puts L f c j, COk d
  | 0, _ => ho
  | j + 1, hc => putI_ok (puts_ok ho hf j fun i hi => hc i (by omega)) (by rw [puts_len]; exact hf j) (hc j (by omega))
theorem puts_other (hf : ∀ i, f i < L.length) : ∀ j {q : Nat}, q < L.length → (∀ i, i < j → f i ≠ q) → rd (puts L f c j) (q : Int) = rd L (q : Int)
  | 0, q, _, _ => rfl
  | j + 1, q, hq, hn => by
    have ih := puts_other hf j hq fun i hi => hn i (by omega)
    rw [puts]
    unfold putI
    split
    · exact ih
    · rw [rd_set (by rw [puts_len]; exact hf j) (by rw [puts_len]; exact hq), if_neg (hn j (by omega)), ih]
theorem puts_at (hf : ∀ i, f i < L.length) : ∀ j {q : Nat}, q < j → (∀ i i', i < j → i' < j → f i = f i' → i = i') → isA' L (f q) = false → rd (puts L f c j) ((f q : Nat) : Int) = chr (rd L ((f q : Nat) : Int)) (c q)
  | 0, q, h, _, _ => by omega
  | j + 1, q, hq, hi, hA => by
    rw [puts]
    by_cases e : q = j
    · subst e
      unfold putI
      rw [puts_isA hf q (hf q), hA]
      simp only [Bool.false_eq_true, if_false]
      rw [rd_set (by rw [puts_len]; exact hf q) (by rw [puts_len]; exact hf q), if_pos rfl, puts_other hf q (hf q) fun i h1 h2 => by have := hi i q (by omega) (by omega) h2; omega]
    · have ih := puts_at hf j (q := q) (by omega) (fun i i' h1 h2 => hi i i' (by omega) (by omega)) hA
      unfold putI
      split
      · exact ih
      · rw [rd_set (by rw [puts_len]; exact hf j) (by rw [puts_len]; exact hf q), if_neg (fun h2 => e (hi j q (by omega) (by omega) h2).symm), ih]
end
theorem ext_rd {A B : List Vapi_Cell} (hl : A.length = B.length) (h : ∀ q : Nat, q < B.length → rd A (q : Int) = rd B (q : Int)) : A = B := by
  refine List.ext_getElem hl fun q h1 h2 => ?_
  have := h q h2
  rwa [rdn h1, rdn h2] at this
/-- what depends on where attributes stand alone -/
theorem attrsN_isA {L M : List Vapi_Cell} {n : Nat} (h : ∀ q, q < n → isA' M q = isA' L q) : attrsN M n = attrsN L n := by
  unfold attrsN; exact List.filter_congr fun q hq => h q (List.mem_range.1 hq)
theorem stF_isA {L M : List Vapi_Cell} {l0 : Int} : ∀ n, (∀ q, q < n + 1 → isA' M q = isA' L q) → stF M l0 n = stF L l0 n
  | 0, h => by simp [stF, h 0 (by omega)]
  | n + 1, h => by simp [stF, h (n + 1) (by omega), stF_isA n fun q hq => h q (by omega)]
theorem stI_isA {L M : List Vapi_Cell} (hl : M.length = L.length) (h : ∀ q, q < L.length → isA' M q = isA' L q) {k : Nat} (hk : k < L.length) : stI M k = stI L k := by
  unfold stI lastA
  rw [hl, attrsN_isA h]
  exact stF_isA k fun q hq => h q (by omega)
/-! ### the places to the field's end -/
instance (L : List Vapi_Cell) : Decidable (Fmt L) := decidable_of_iff (cnt L > 0) fmt_iff.symm
/-- how many places there are from one on -/
def rl (L : List Vapi_Cell) (k : Nat) (round : Bool) : Nat := if Fmt L then tl (fun i => !isA' L ((k + i) % L.length)) L.length else if round then L.length else L.length - k
abbrev pl (L : List Vapi_Cell) (k : Nat) : Nat → Nat := fun i => (k + i) % L.length
def restI (L : List Vapi_Cell) (k : Nat) (round : Bool) : List Int := ints (pl L k) (rl L k round)
theorem rl_le (L : List Vapi_Cell) (k : Nat) (round : Bool) : rl L k round ≤ L.length := by
  unfold rl; split
  · exact tl_le _ _
  · split <;> omega
theorem pl_lt {L : List Vapi_Cell} {k : Nat} (hL : 0 < L.length) (i : Nat) : pl L k i < L.length := Nat.mod_lt _ hL
theorem pl_inj {L : List Vapi_Cell} {k i i' : Nat} (hi : i < L.length) (hi' : i' < L.length) (h : pl L k i = pl L k i') : i = i' := by
  simp only [pl] at h
  have h1 := Nat.div_add_mod (k + i) L.length
  have h2 := Nat.div_add_mod (k + i') L.length
  rw [h] at h1
  rcases Nat.lt_trichotomy ((k + i) / L.length) ((k + i') / L.length) with e | e | e
  · have := Nat.mul_le_mul_left L.length (show (k + i) / L.length + 1 ≤ (k + i') / L.length from e)
    rw [Nat.mul_add, Nat.mul_one] at this; omega
  · rw [e] at h1; omega
  · have := Nat.mul_le_mul_left L.length (show (k + i') / L.length + 1 ≤ (k + i) / L.length from e)
    rw [Nat.mul_add, Nat.mul_one] at this; omega
theorem rl_no {L : List Vapi_Cell} {k i : Nat} {round : Bool} (hL : 0 < L.length) (h : i < rl L k round) : isA' L (pl L k i) = false := by
  unfold rl at h
  by_cases hf : Fmt L
  · rw [if_pos hf] at h
    have := tl_lt h; simpa using this
  · exact no_fmt hf (Nat.mod_lt _ hL)
/-- of a place in a field: how far behind its attribute -/
theorem in_run {L : List Vapi_Cell} (hf : Fmt L) {k : Nat} (hk : k < L.length) (hA : isA' L k = false) : ∃ a t : Nat, stI L k = (a : Int) ∧ a < L.length ∧ isA' L a = true ∧ t < runI L a ∧ (a + 1 + t) % L.length = k := by
  obtain ⟨a, h1, h2, h3⟩ := stI_at hf hk
  obtain ⟨d, hd, hdN⟩ : ∃ d, (a + d) % L.length = k ∧ d < L.length := by
    by_cases hak : a ≤ k
    · exact ⟨k - a, by rw [show a + (k - a) = k by omega, Nat.mod_eq_of_lt hk], by omega⟩
    · exact ⟨k + L.length - a, by rw [show a + (k + L.length - a) = k + L.length by omega, Nat.add_mod_right, Nat.mod_eq_of_lt hk], by omega⟩
  have hd0 : d ≠ 0 := by
    rintro rfl
    rw [Nat.add_zero, Nat.mod_eq_of_lt h2] at hd
    rw [hd, hA] at h3; cases h3
  refine ⟨a, d - 1, h1, h2, h3, ?_, by rw [show a + 1 + (d - 1) = a + d by omega]; exact hd⟩
  rcases Nat.lt_or_ge (d - 1) (runI L a) with h | h
  · exact h
  · exfalso
    have he := runI_end (L := L) (a := a) (by omega) h2 h3
    have hp := stF_past (L := L) (l0 := lastA L) (N := L.length) (a := a) (j := 1 + runI L a) (lastA_cyc hf) h2 (by omega) (by rw [show a + (1 + runI L a) = a + 1 + runI L a by omega]; exact he) (d - 1 - runI L a) (by omega)
    rw [show a + (1 + runI L a + (d - 1 - runI L a)) = a + d by omega, hd] at hp
    exact hp h1
theorem rl_run {L : List Vapi_Cell} (hf : Fmt L) {a t : Nat} (h2 : a < L.length) (h3 : isA' L a = true) (ht : t < runI L a) {round : Bool} : rl L ((a + 1 + t) % L.length) round = runI L a - t := by
  have hrl := runI_lt (L := L) (a := a) (by omega)
  unfold rl
  rw [if_pos hf]
  refine tl_eq (by omega) (fun i hi => ?_) (fun _ => ?_)
  · rw [Nat.mod_add_mod, show a + 1 + t + i = a + 1 + (t + i) by omega, runI_no (by omega)]; rfl
  · rw [Nat.mod_add_mod, show a + 1 + t + (runI L a - t) = a + 1 + runI L a by omega, runI_end (by omega) h2 h3]; rfl
theorem ints_drop {f g : Nat → Nat} {n t : Nat} (h : ∀ i, f (t + i) = g i) : (ints f n).drop t = ints g (n - t) := by
  refine List.ext_getElem (by simp [ints]) fun i h1 h2 => ?_
  simp only [ints, List.getElem_drop, List.getElem_map, List.getElem_range, h]
theorem pos_drop {L : List Vapi_Cell} (hf : Fmt L) {a t k : Nat} (h2 : a < L.length) (h3 : isA' L a = true) (ht : t < runI L a) (hk : (a + 1 + t) % L.length = k) (round : Bool) : (posI L a).drop t = restI L k round := by
  unfold posI restI
  rw [← hk, rl_run hf h2 h3 ht]
  exact ints_drop fun i => by simp only [pl]; rw [Nat.mod_add_mod, show a + 1 + (t + i) = a + 1 + t + i by omega]
theorem pindex {L : List Vapi_Cell} {a t k : Nat} (hL : L.length ≤ 100000) (h2 : a < L.length) (ht : t < runI L a) (hk : (a + 1 + t) % L.length = k) : m_slices_Index (posI L a) (k : Int) = some (t : Int) := by
  have hrl := runI_lt (L := L) (a := a) (by omega)
  unfold m_slices_Index
  have hlen : (posI L a).length = runI L a := by unfold posI; exact ints_len _ _
  have hrd : ∀ i, i < runI L a → rd (posI L a) (i : Int) = (((a + 1 + i) % L.length : Nat) : Int) := fun i hi => by unfold posI; exact ints_rd hi
  have loop : slices_Index_l2 (posI L a) (k : Int) fuel 0 = some (.inr (t : Int)) := by
    refine while_ok (fun i => (i : Int)) t (by omega) (fun q i hi => ?_) (fun q => ?_)
    · have d1 : decide ((i : Int) < ((posI L a).length : Int)) = true := decide_eq_true (by omega)
      rw [slices_Index_l2.eq_2]
      simp only [d1, cond_true]
      have hne : (a + 1 + i) % L.length ≠ k := fun e => by
        have := pl_inj (L := L) (k := a + 1) (i := i) (i' := t) (by omega) (by omega) (by simp only [pl]; rw [e, hk]); omega
      rw [gd_pos (by omega), hrd i (by omega), beq_f (by omega), w64s (by omega)]
      simp only [cond_false]
    · have d1 : decide ((t : Int) < ((posI L a).length : Int)) = true := decide_eq_true (by omega)
      rw [slices_Index_l2.eq_2]
      simp only [d1, cond_true]
      rw [gd_pos (by omega), hrd t ht, hk, beq_t rfl]
      rfl
  rw [loop]; rfl
/-- unformatted: a run of places -/
theorem pspan {m : Int} {N : Nat} {s : Vspace_Space} (h : SS m N s) {k : Nat} (hk : k < N) (to : Int) {j : Nat} (hj : m_addr_Size_Length ⟨s.size.Rows, s.size.Cols⟩ (k : Int) to = some (j : Int)) (hjN : j ≤ N) :
    m_slices_Collect ⟨s.size.Rows, s.size.Cols⟩ (k : Int) to = some (⟨s.size.Rows, s.size.Cols⟩, (k : Int), to, ints (pl s.cells k) j) := by
  have hl := h.len
  have hle := h.dim.dim.le
  unfold m_slices_Collect m_slices_AppendSeq
  simp only [hj, Option.bind_some]
  have loop : slices_AppendSeq_l6 ⟨s.size.Rows, s.size.Cols⟩ (k : Int) (j : Int) fuel (0, []) = some (ints (pl s.cells k) j) := by
    refine while_ok (fun i => ((i : Int), ints (pl s.cells k) i)) j (by omega) (fun q i hi => ?_) (fun q => ?_)
    · have d1 : decide ((i : Int) < (j : Int)) = true := decide_eq_true (by omega)
      rw [slices_AppendSeq_l6.eq_2]
      simp only [d1, cond_true, sz_wrap h, nat_emod hk, Option.bind_some]
      rw [w64_in (x := (k : Int) + (i : Int)) (by omega) (by omega), show ((k : Int) + (i : Int)) % (N : Int) = (((k + i) % N : Nat) : Int) by rw [Int.natCast_emod]; rfl]
      rw [gd_pos (by rw [ints_len]; simp only [List.length_cons, List.length_nil]; omega), w64s (by omega), ints_succ]
      simp only [pl, hl]
    · have d1 : decide ((j : Int) < (j : Int)) = false := decide_eq_false (by omega)
      rw [slices_AppendSeq_l6.eq_2]
      simp only [d1, cond_false]
  rw [loop]; rfl
theorem plen {m : Int} {N : Nat} {s : Vspace_Space} (h : SS m N s) {k : Nat} (hk : k < N) {to : Int} {b : Nat} (hb : to % N = (b : Int)) (hbN : b < N) : m_addr_Size_Length ⟨s.size.Rows, s.size.Cols⟩ (k : Int) to = some (((if b ≤ k then N - (k - b) else b - k : Nat)) : Int) := by
  have hle := h.dim.dim.le
  unfold m_addr_Size_Length
  simp only [sz_wrap h, nat_emod hk, hb, Option.bind_some, sz_cells h]
  rw [w64_in (by omega) (by omega)]
  by_cases hbk : b ≤ k
  · rw [if_pos hbk]
    by_cases h0 : b = k
    · subst h0
      rw [show ((b : Int) - (b : Int)) = ((0 : Nat) : Int) by omega, nat_emod (by omega)]
      simp
    · rw [show ((b : Int) - (k : Int)) = ((N - (k - b) : Nat) : Int) - N by omega, Int.sub_emod_right, nat_emod (by omega), decide_eq_true (by omega)]; rfl
  · rw [if_neg hbk, show ((b : Int) - (k : Int)) = ((b - k : Nat) : Int) by omega, nat_emod (by omega), decide_eq_true (by omega)]; rfl
/-- the program's places to the field's end -/
theorem prest {m : Int} {N : Nat} {s : Vspace_Space} (h : SS m N s) {n : Int} {k : Nat} (hk : n % N = (k : Int)) (hkN : k < N) (hA : isA' s.cells k = false) : m_erase_rest s n = some (s, restI s.cells k false) := by
  have hl := h.len
  have hle := h.dim.dim.le
  unfold m_erase_rest m_space_Space_Size m_addr_Size_Span m_field_Places
  simp only [Option.bind_some, sz_wrap h, hk, pstart h (nat_emod hkN) hkN]
  by_cases hf : Fmt s.cells
  · obtain ⟨a, t, h1, h2, h3, h4, h5⟩ := in_run hf (show k < s.cells.length by omega) hA
    have hrl := runI_lt (L := s.cells) (a := a) (by omega)
    have hlen : (posI s.cells a).length = runI s.cells a := by unfold posI; exact ints_len _ _
    rw [h1, decide_eq_false (show ¬ ((a : Int) < 0) by omega)]
    simp only [cond_false, pplaces h (show a < N by omega) h3, Option.bind_some, pindex (by omega) h2 h4 h5]
    rw [gd_pos (by omega), Int.toNat_natCast, pos_drop hf h2 h3 h4 h5 false]
  · rw [stI_no hf (by omega)]
    simp only [show decide ((-1 : Int) < 0) = true from rfl, cond_true]
    have hp := plen h hkN (to := 0) (b := 0) rfl (by omega)
    rw [if_pos (by omega), Nat.sub_zero] at hp
    rw [pspan h hkN 0 hp (by omega)]
    simp only [Option.bind_some]
    unfold restI rl
    rw [if_neg hf, hl]
    rfl
theorem pround {m : Int} {N : Nat} {s : Vspace_Space} (h : SS m N s) {n : Int} {k : Nat} (hk : n = (k : Int)) (hkN : k < N) (hA : isA' s.cells k = false) : m_erase_round s n = some (s, restI s.cells k true) := by
  have hl := h.len
  have hle := h.dim.dim.le
  subst hk
  unfold m_erase_round m_space_Space_Formatted m_addr_Size_Span m_space_Space_Size
  simp only [Option.bind_some, h.attrs]
  by_cases hf : Fmt s.cells
  · rw [decide_eq_true (fmt_iff.1 hf)]
    simp only [cond_true, prest h (nat_emod hkN) hkN hA, Option.bind_some]
    unfold restI rl
    rw [if_pos hf, if_pos hf]
  · rw [decide_eq_false fun e => hf (fmt_iff.2 e)]
    simp only [cond_false]
    have hp := plen h hkN (to := (k : Int)) (nat_emod hkN) hkN
    rw [if_pos (Nat.le_refl _), Nat.sub_self, Nat.sub_zero] at hp
    rw [pspan h hkN _ hp (Nat.le_refl _)]
    simp only [Option.bind_some]
    unfold restI rl
    rw [if_neg hf, hl]
    rfl
end Go.Vt
set_option linter.unusedVariables false
set_option linter.unusedSimpArgs false
set_option maxRecDepth 100000
namespace Go.Vt
abbrev t7' (s : Vspace_Space) : T7 := (s.model, s.alternate, s.size.Rows, s.size.Cols, s.cells, s.cursor, s.attrs)
theorem Dim.cn {r c : Int} {N : Nat} (h : Dim r c N) : ∃ rn cn : Nat, r = (rn : Int) ∧ c = (cn : Int) ∧ N = rn * cn ∧ 80 ≤ cn ∧ cn ≤ 132 ∧ 24 ≤ rn ∧ rn ≤ 43 := by
  rcases h.d with ⟨h1, h2, h3⟩ | ⟨h1, h2, h3⟩ | ⟨h1, h2, h3⟩ | ⟨h1, h2, h3⟩
  · exact ⟨24, 80, by omega, by omega, by omega, by omega, by omega, by omega, by omega⟩
  · exact ⟨32, 80, by omega, by omega, by omega, by omega, by omega, by omega, by omega⟩
  · exact ⟨43, 80, by omega, by omega, by omega, by omega, by omega, by omega, by omega⟩
  · exact ⟨27, 132, by omega, by omega, by omega, by omega, by omega, by omega, by omega⟩
theorem ss_puts {m : Int} {N : Nat} {s : Vspace_Space} (h : SS m N s) {f : Nat → Nat} {c : Nat → Int} {j : Nat} (hf : ∀ i, f i < N) (hc : ∀ i, i < j → By (c i)) : SS m N (wS s (puts s.cells f c j)) :=
  h.w (by rw [puts_len]; exact h.len) (puts_ok h.ok (fun i => by rw [h.len]; exact hf i) j hc)
theorem puts_fmt {L : List Vapi_Cell} {f : Nat → Nat} {c : Nat → Int} {j : Nat} (hf : ∀ i, f i < L.length) {k : Nat} (hk : k < L.length) : stI (puts L f c j) k = stI L k := stI_isA (puts_len _ _ _ _) (fun q hq => puts_isA hf j hq) hk
/-! ### codes of places; characters moved -/
def chars (L : List Vapi_Cell) (f : Nat → Nat) (j : Nat) : List Int := (List.range j).map fun i => (rd L ((f i : Nat) : Int)).Char
/-! ### an erase to the end -/
def endI (L : List Vapi_Cell) (k : Nat) : List Vapi_Cell := modI (puts L (pl L k) (fun _ => 0) (rl L k false)) k
theorem open_no {L : List Vapi_Cell} {k : Nat} (h : openI L k = true) : isA' L k = false := by
  unfold openI at h
  cases e : isA' L k with
  | false => rfl
  | true => rw [e] at h; simp at h
theorem pend {m : Int} {N : Nat} {s : Vspace_Space} (h : SS m N s) {n : Int} {k : Nat} (hk : n % N = (k : Int)) (hkN : k < N) : m_erase_End s n = some (if openI s.cells k then (wS s (endI s.cells k), true) else (s, false)) := by
  have hl := h.len
  have hle := h.dim.dim.le
  have hrl := rl_le s.cells k false
  unfold m_erase_End
  simp only [popen h hk hkN, Option.bind_some]
  cases ho : openI s.cells k with
  | false => rfl
  | true =>
    simp only [Bool.not_true, cond_false, prest h hk hkN (open_no ho), Option.bind_some, if_true]
    have hf : ∀ i, pl s.cells k i < N := fun i => by rw [← hl]; exact pl_lt (by omega) i
    have loop : erase_End_l5 (s, restI s.cells k false) fuel (0, s.model, s.alternate, s.size.Rows, s.size.Cols, s.cells, s.cursor, s.attrs) = some (t7' (wS s (puts s.cells (pl s.cells k) (fun _ => 0) (rl s.cells k false)))) := by
      have e0 : ((0 : Int), s.model, s.alternate, s.size.Rows, s.size.Cols, s.cells, s.cursor, s.attrs) = (((0 : Nat) : Int), t7' (wS s (puts s.cells (pl s.cells k) (fun _ => 0) 0))) := by
        unfold t7' wS; rw [h.attrs]; rfl
      rw [e0]
      refine while_ok (fun i => ((i : Int), t7' (wS s (puts s.cells (pl s.cells k) (fun _ => 0) i)))) (rl s.cells k false) (by omega) (fun q i hi => ?_) (fun q => ?_)
      · have d1 : decide ((i : Int) < ((restI s.cells k false).length : Int)) = true := decide_eq_true (by unfold restI; rw [ints_len]; omega)
        have hS := ss_puts h (f := pl s.cells k) (c := fun _ => 0) (j := i) hf (fun _ _ => by0)
        have hp := pput hS (n := ((pl s.cells k i : Nat) : Int)) (nat_emod (hf i)) (hf i) 0
        rw [erase_End_l5.eq_2]
        simp only [d1, cond_true]
        rw [gd_pos (by unfold restI; rw [ints_len]; omega), w64s (by omega)]
        have hrd : rd (restI s.cells k false) (i : Int) = ((pl s.cells k i : Nat) : Int) := by unfold restI; exact ints_rd hi
        rw [hrd]
        change ((m_space_Space_Put (wS s (puts s.cells (pl s.cells k) (fun _ => 0) i)) _ 0).bind _) = _
        rw [hp]; rfl
      · have d1 : decide (((rl s.cells k false : Nat) : Int) < ((restI s.cells k false).length : Int)) = false := decide_eq_false (by unfold restI; rw [ints_len]; omega)
        rw [erase_End_l5.eq_2]
        simp only [d1, cond_false]
    rw [loop]
    have hS := ss_puts h (f := pl s.cells k) (c := fun _ => 0) (j := rl s.cells k false) hf (fun _ _ => by0)
    have hm := pmod hS hk hkN
    simp only [Option.bind_some]
    change ((m_field_Modify (wS s (puts s.cells (pl s.cells k) (fun _ => 0) (rl s.cells k false))) n).bind _) = _
    rw [hm]; rfl
end Go.Vt
set_option linter.unusedVariables false
set_option linter.unusedSimpArgs false
set_option maxRecDepth 100000
namespace Go.Vt
/-! ### a row's places, up to the field's end -/
def rw' (L : List Vapi_Cell) (cn k : Nat) : Nat := tl (fun i => !isA' L (pl L k i)) (cn - k % cn)
theorem row_in {N rn cn k i : Nat} (hN : N = rn * cn) (hc : 0 < cn) (hk : k < N) (hi : i < cn - k % cn) : k + i < N := by
  have h1 := Nat.div_add_mod k cn
  have h2 : k / cn < rn := by rw [Nat.div_lt_iff_lt_mul hc]; omega
  have h3 := Nat.mul_le_mul_left cn (show k / cn + 1 ≤ rn from h2)
  rw [Nat.mul_add, Nat.mul_one, Nat.mul_comm cn rn] at h3
  omega
theorem rw_le {L : List Vapi_Cell} {cn k : Nat} : rw' L cn k ≤ cn - k % cn := tl_le _ _
theorem rw_no {L : List Vapi_Cell} {cn k i : Nat} (h : i < rw' L cn k) : isA' L (pl L k i) = false := by have := tl_lt h; simpa using this
theorem pl_row {L : List Vapi_Cell} {k i : Nat} (h : k + i < L.length) : pl L k i = k + i := Nat.mod_eq_of_lt h
theorem tmod_nat (a b : Nat) : Int.tmod (a : Int) (b : Int) = ((a % b : Nat) : Int) := by
  rw [Int.tmod_eq_emod_of_nonneg (by omega)]; exact (Int.natCast_emod a b).symm
theorem pcol {r c : Int} {N cn : Nat} (h : Dim r c N) (hc : c = (cn : Int)) {n : Int} {k : Nat} (hk : n % N = (k : Int)) : m_addr_Size_Col ⟨r, c⟩ n = some ((k % cn : Nat) : Int) := by
  obtain ⟨rn, cn', h1, h2, h3, h4, h5, _⟩ := h.cn
  unfold m_addr_Size_Col
  simp only [valid_ok h, wrap_ok h, hk, Option.bind_some, Bool.not_true, cond_false]
  subst hc
  rw [gd_pos (by omega), tmod_nat]
theorem prow {m : Int} {N : Nat} {s : Vspace_Space} (h : SS m N s) {cn : Nat} (hc : s.size.Cols = (cn : Int)) {n : Int} {k : Nat} (hk : n % N = (k : Int)) (hkN : k < N) (hn : I64 n) : m_slices_Collect_3 s n = some (s, n, ints (pl s.cells k) (rw' s.cells cn k)) := by
  have hl := h.len
  have hle := h.dim.dim.le
  obtain ⟨rn, cn', h1, h2, h3, h4, h5, _⟩ := h.dim.dim.cn
  have hcc : cn' = cn := by omega
  subst hcc
  have hrle := rw_le (L := s.cells) (cn := cn') (k := k)
  have hmod := Nat.mod_lt k (show 0 < cn' by omega)
  unfold m_slices_Collect_3 m_slices_AppendSeq_3 m_space_Space_Size
  simp only [Option.bind_some, sz_wrap h, hk, pcol h.dim.dim hc (nat_emod hkN)]
  have hin : ∀ i, i < cn' - k % cn' → k + i < N := fun i hi => row_in h3 (by omega) hkN hi
  have hpl : ∀ i, i < cn' - k % cn' → pl s.cells k i = k + i := fun i hi => pl_row (by rw [hl]; exact hin i hi)
  have hw : w64 (s.size.Cols - ((k % cn' : Nat) : Int)) = ((cn' - k % cn' : Nat) : Int) := by rw [hc, w64_in (by omega) (by omega)]; omega
  have loop : slices_AppendSeq_3_l9 s ⟨s.size.Rows, s.size.Cols⟩ (k : Int) ((k % cn' : Nat) : Int) fuel (0, []) = some (if rw' s.cells cn' k < cn' - k % cn' then .inr (ints (pl s.cells k) (rw' s.cells cn' k)) else .inl (ints (pl s.cells k) (rw' s.cells cn' k))) := by
    refine while_ok (fun i => ((i : Int), ints (pl s.cells k) i)) (rw' s.cells cn' k) (by omega) (fun q i hi => ?_) (fun q => ?_)
    · have hki := hin i (by omega)
      have d1 : decide ((i : Int) < ((cn' - k % cn' : Nat) : Int)) = true := decide_eq_true (by omega)
      have w1 : w64 ((k : Int) + (i : Int)) = ((k + i : Nat) : Int) := by rw [w64_in (by omega) (by omega)]; omega
      have hA := rw_no hi
      rw [hpl i (by omega)] at hA
      have hA' : (rd s.cells ((k + i : Nat) : Int)).Attr = false := hA
      rw [slices_AppendSeq_3_l9.eq_2]
      simp only [hw, d1, cond_true, w1, ss_at h, nat_emod hki, Option.bind_some, hA', cond_false]
      rw [gd_pos (by rw [ints_len]; simp only [List.length_cons, List.length_nil]; omega)]
      simp only [Option.bind_some, cond_false]
      rw [w64s (by omega), ints_succ, hpl i (by omega)]
    · rw [slices_AppendSeq_3_l9.eq_2]
      by_cases hj : rw' s.cells cn' k < cn' - k % cn'
      · have hki := hin _ hj
        have d1 : decide (((rw' s.cells cn' k : Nat) : Int) < ((cn' - k % cn' : Nat) : Int)) = true := decide_eq_true (by omega)
        have w1 : w64 ((k : Int) + ((rw' s.cells cn' k : Nat) : Int)) = ((k + rw' s.cells cn' k : Nat) : Int) := by rw [w64_in (by omega) (by omega)]; omega
        have hA : (!isA' s.cells (pl s.cells k (rw' s.cells cn' k))) = false := tl_end (p := fun i => !isA' s.cells (pl s.cells k i)) hj
        rw [hpl _ hj] at hA
        have hA' : (rd s.cells ((k + rw' s.cells cn' k : Nat) : Int)).Attr = true := by simpa [isA'] using hA
        simp only [hw, d1, cond_true, w1, ss_at h, nat_emod hki, Option.bind_some, hA', if_pos hj]
        rfl
      · have d1 : decide (((rw' s.cells cn' k : Nat) : Int) < ((cn' - k % cn' : Nat) : Int)) = false := decide_eq_false (by omega)
        simp only [hw, d1, cond_false, if_neg hj]
  have hsz : s.size = ⟨s.size.Rows, s.size.Cols⟩ := rfl
  rw [hsz, loop]
  by_cases hj : rw' s.cells cn' k < cn' - k % cn'
  · rw [if_pos hj]; rfl
  · rw [if_neg hj]; rfl
/-! ### a deletion -/
def delC (L : List Vapi_Cell) (k R : Nat) (i : Nat) : Int := if i + 1 < R then (rd L ((pl L k (i + 1) : Nat) : Int)).Char else 0
def delI (L : List Vapi_Cell) (cn k : Nat) : List Vapi_Cell := modI (puts L (pl L k) (delC L k (rw' L cn k)) (rw' L cn k)) k
theorem by_char {L : List Vapi_Cell} (ho : ∀ c ∈ L, COk c) {q : Nat} (hq : q < L.length) : By (rd L (q : Int)).Char := (ho _ (rd_mem (by omega))).char
theorem delC_by {L : List Vapi_Cell} (ho : ∀ c ∈ L, COk c) (hL : 0 < L.length) {k R i : Nat} : By (delC L k R i) := by
  unfold delC; split
  · exact by_char ho (pl_lt hL _)
  · exact by0
theorem rw_lt {m : Int} {N : Nat} {L : List Vapi_Cell} {cn k : Nat} (h : cn ≤ 132) (hN : 1920 ≤ N) (hl : L.length = N) : rw' L cn k < L.length := by have := rw_le (L := L) (cn := cn) (k := k); omega
theorem pdel {m : Int} {N : Nat} {s : Vspace_Space} (h : SS m N s) {cn : Nat} (hc : s.size.Cols = (cn : Int)) {n : Int} {k : Nat} (hk : n % N = (k : Int)) (hkN : k < N) (hn : I64 n) : m_erase_Delete s n = some (if openI s.cells k then (wS s (delI s.cells cn k), true) else (s, false)) := by
  have hl := h.len
  have hle := h.dim.dim.le
  obtain ⟨rn, cn', h1, h2, h3, h4, h5, _⟩ := h.dim.dim.cn
  have hcc : cn' = cn := by omega
  subst hcc
  have hR : rw' s.cells cn' k < s.cells.length := rw_lt (m := m) h5 hle.1 hl
  unfold m_erase_Delete m_erase_Row
  simp only [popen h hk hkN, Option.bind_some]
  cases ho : openI s.cells k with
  | false => rfl
  | true =>
    simp only [Bool.not_true, cond_false, prow h hc hk hkN hn, Option.bind_some, if_true]
    have hf : ∀ i, pl s.cells k i < N := fun i => by rw [← hl]; exact pl_lt (by omega) i
    have hdc : ∀ i, By (delC s.cells k (rw' s.cells cn' k) i) := fun i => delC_by h.ok (by omega)
    unfold delI
    generalize hRR : rw' s.cells cn' k = R at hR hdc
    have loop : erase_Delete_l6 (s, n, ints (pl s.cells k) R) fuel (0, s.model, s.alternate, s.size.Rows, s.size.Cols, s.cells, s.cursor, s.attrs) = some (t7' (wS s (puts s.cells (pl s.cells k) (delC s.cells k R) R))) := by
      have e0 : ((0 : Int), s.model, s.alternate, s.size.Rows, s.size.Cols, s.cells, s.cursor, s.attrs) = (((0 : Nat) : Int), t7' (wS s (puts s.cells (pl s.cells k) (delC s.cells k R) 0))) := by
        unfold t7' wS; rw [h.attrs]; rfl
      rw [e0]
      refine while_ok (fun i => ((i : Int), t7' (wS s (puts s.cells (pl s.cells k) (delC s.cells k R) i)))) R (by omega) (fun q i hi => ?_) (fun q => ?_)
      · have d1 : decide ((i : Int) < ((ints (pl s.cells k) R).length : Int)) = true := decide_eq_true (by rw [ints_len]; omega)
        have hS := ss_puts h (f := pl s.cells k) (c := delC s.cells k R) (j := i) hf (fun q _ => hdc q)
        have hp := pput hS (n := ((pl s.cells k i : Nat) : Int)) (nat_emod (hf i)) (hf i) (delC s.cells k R i)
        rw [erase_Delete_l6.eq_2]
        simp only [d1, cond_true]
        rw [gd_pos (by rw [ints_len]; omega), w64s (by omega)]
        have hcv : (cond (decide (((i + 1 : Nat) : Int) < ((ints (pl s.cells k) R).length : Int))) (gd ((0 : Int) ≤ ((i + 1 : Nat) : Int) ∧ ((i + 1 : Nat) : Int) < ((ints (pl s.cells k) R).length : Int)) <| (m_space_Space_At (wS s (puts s.cells (pl s.cells k) (delC s.cells k R) i)) (rd (ints (pl s.cells k) R) ((i + 1 : Nat) : Int))).bind fun (d10 : Vapi_Cell) => some d10.Char) (some 0) : Option Int) = some (delC s.cells k R i) := by
          by_cases h6 : i + 1 < R
          · have hdv : delC s.cells k R i = (rd s.cells ((pl s.cells k (i + 1) : Nat) : Int)).Char := if_pos h6
            rw [decide_eq_true (by rw [ints_len]; omega), gd_pos (by rw [ints_len]; omega), ints_rd h6, hdv]
            simp only [cond_true, ss_at hS, nat_emod (hf (i + 1)), Option.bind_some]
            congr 1
            have := puts_other (L := s.cells) (f := pl s.cells k) (c := delC s.cells k R) (fun i => by rw [hl]; exact hf i) i (q := pl s.cells k (i + 1)) (by rw [hl]; exact hf _) (fun r hr e => by
              have := pl_inj (L := s.cells) (k := k) (i := r) (i' := i + 1) (by omega) (by omega) e; omega)
            exact congrArg Vapi_Cell.Char this
          · have hdv : delC s.cells k R i = 0 := if_neg h6
            rw [decide_eq_false (by rw [ints_len]; omega), hdv]; rfl
        change ((cond _ (gd _ <| (m_space_Space_At (wS s (puts s.cells (pl s.cells k) (delC s.cells k R) i)) _).bind _) _).bind _) = _
        rw [hcv]
        simp only [Option.bind_some]
        rw [ints_rd hi]
        change ((m_space_Space_Put (wS s (puts s.cells (pl s.cells k) (delC s.cells k R) i)) _ _).bind _) = _
        rw [hp]; rfl
      · have d1 : decide (((R : Nat) : Int) < ((ints (pl s.cells k) R).length : Int)) = false := decide_eq_false (by rw [ints_len]; omega)
        rw [erase_Delete_l6.eq_2]
        simp only [d1, cond_false]
    rw [loop]
    have hS := ss_puts h (f := pl s.cells k) (c := delC s.cells k R) (j := R) hf (fun q _ => hdc q)
    have hm := pmod hS hk hkN
    simp only [Option.bind_some]
    change ((m_field_Modify (wS s (puts s.cells (pl s.cells k) (delC s.cells k R) R)) n).bind _) = _
    rw [hm]; rfl
end Go.Vt
set_option linter.unusedVariables false
set_option linter.unusedSimpArgs false
set_option maxRecDepth 100000
namespace Go.Vt
/-- how many places ahead of the first that is null -/
def insE (L : List Vapi_Cell) (k : Nat) : Nat := tl (fun i => !((rd L ((pl L k i : Nat) : Int)).Char == 0)) (rl L k true)
def insC (L : List Vapi_Cell) (k : Nat) (z : Int) (i : Nat) : Int := if i = 0 then z else (rd L ((pl L k (i - 1) : Nat) : Int)).Char
def insI (L : List Vapi_Cell) (k : Nat) (z : Int) : List Vapi_Cell := modI (puts L (pl L k) (insC L k z) (insE L k + 1)) k
theorem insC_by {L : List Vapi_Cell} (ho : ∀ c ∈ L, COk c) (hL : 0 < L.length) {k : Nat} {z : Int} (hz : By z) (i : Nat) : By (insC L k z i) := by
  unfold insC; split
  · exact hz
  · exact by_char ho (pl_lt hL _)
/-- the other way about: from the last on -/
def insF (L : List Vapi_Cell) (k e : Nat) : Nat → Nat := fun i => pl L k (e - i)
def insD (L : List Vapi_Cell) (k e : Nat) (z : Int) : Nat → Int := fun i => insC L k z (e - i)
theorem ins_same {L : List Vapi_Cell} {k e : Nat} {z : Int} (hL : 0 < L.length) (he : e < L.length) (hno : ∀ i, i ≤ e → isA' L (pl L k i) = false) : puts L (insF L k e) (insD L k e z) (e + 1) = puts L (pl L k) (insC L k z) (e + 1) := by
  refine ext_rd (by rw [puts_len, puts_len]) fun q hq => ?_
  rw [puts_len] at hq
  have hf1 : ∀ i, insF L k e i < L.length := fun i => pl_lt hL _
  have hf2 : ∀ i, pl L k i < L.length := fun i => pl_lt hL _
  by_cases h : ∃ i, i < e + 1 ∧ pl L k i = q
  · obtain ⟨i, hi, rfl⟩ := h
    rw [puts_at hf2 (e + 1) hi (fun a b ha hb hab => pl_inj (by omega) (by omega) hab) (hno i (by omega))]
    have g := puts_at (c := insD L k e z) hf1 (e + 1) (q := e - i) (by omega) (fun a b ha hb hab => by have := pl_inj (L := L) (k := k) (i := e - a) (i' := e - b) (by omega) (by omega) hab; omega) (by unfold insF; exact hno _ (by omega))
    have e1 : insF L k e (e - i) = pl L k i := by unfold insF; rw [show e - (e - i) = i by omega]
    have e2 : insD L k e z (e - i) = insC L k z i := by unfold insD; rw [show e - (e - i) = i by omega]
    rw [e1, e2] at g
    exact g
  · rw [puts_other hf1 (e + 1) hq fun i hi hx => h ⟨e - i, by omega, hx⟩, puts_other hf2 (e + 1) hq fun i hi hx => h ⟨i, hi, hx⟩]
theorem pindexf {m : Int} {N : Nat} {s : Vspace_Space} (h : SS m N s) {k : Nat} (hkN : k < N) : m_slices_IndexFunc (restI s.cells k true) s = some (if insE s.cells k < rl s.cells k true then (insE s.cells k : Int) else -1) := by
  have hl := h.len
  have hle := h.dim.dim.le
  have hrl := rl_le s.cells k true
  have hej : insE s.cells k ≤ rl s.cells k true := tl_le _ _
  have hf : ∀ i, pl s.cells k i < N := fun i => by rw [← hl]; exact pl_lt (by omega) i
  have hlen : (restI s.cells k true).length = rl s.cells k true := by unfold restI; exact ints_len _ _
  have hrd : ∀ i, i < rl s.cells k true → rd (restI s.cells k true) (i : Int) = ((pl s.cells k i : Nat) : Int) := fun i hi => by unfold restI; exact ints_rd hi
  unfold m_slices_IndexFunc
  have hat : ∀ i, i < rl s.cells k true → m_erase_Insert_1 (rd (restI s.cells k true) (i : Int)) s = some ((rd s.cells ((pl s.cells k i : Nat) : Int)).Char == 0) := fun i hi => by
    unfold m_erase_Insert_1
    simp only [hrd i hi, ss_at h, nat_emod (hf i), Option.bind_some]
  have loop : slices_IndexFunc_l2 (restI s.cells k true) s fuel 0 = some (if insE s.cells k < rl s.cells k true then .inr (insE s.cells k : Int) else .inl ()) := by
    refine while_ok (fun i => (i : Int)) (insE s.cells k) (by omega) (fun q i hi => ?_) (fun q => ?_)
    · have d1 : decide ((i : Int) < ((restI s.cells k true).length : Int)) = true := decide_eq_true (by omega)
      have hb : (!((rd s.cells ((pl s.cells k i : Nat) : Int)).Char == 0)) = true := tl_lt (p := fun i => !((rd s.cells ((pl s.cells k i : Nat) : Int)).Char == 0)) hi
      have hb' : ((rd s.cells ((pl s.cells k i : Nat) : Int)).Char == 0) = false := by simpa using hb
      rw [slices_IndexFunc_l2.eq_2]
      simp only [d1, cond_true]
      rw [gd_pos (by omega), hat i (by omega), hb', w64s (by omega)]
      rfl
    · rw [slices_IndexFunc_l2.eq_2]
      by_cases hj : insE s.cells k < rl s.cells k true
      · have d1 : decide ((insE s.cells k : Int) < ((restI s.cells k true).length : Int)) = true := decide_eq_true (by omega)
        have hb : (!((rd s.cells ((pl s.cells k (insE s.cells k) : Nat) : Int)).Char == 0)) = false := tl_end (p := fun i => !((rd s.cells ((pl s.cells k i : Nat) : Int)).Char == 0)) hj
        have hb' : ((rd s.cells ((pl s.cells k (insE s.cells k) : Nat) : Int)).Char == 0) = true := by simpa using hb
        simp only [d1, cond_true]
        rw [gd_pos (by omega), hat _ hj, hb', if_pos hj]
        rfl
      · have d1 : decide ((insE s.cells k : Int) < ((restI s.cells k true).length : Int)) = false := decide_eq_false (by omega)
        simp only [d1, cond_false, if_neg hj]
  rw [loop]
  by_cases hj : insE s.cells k < rl s.cells k true
  · rw [if_pos hj, if_pos hj]; rfl
  · rw [if_neg hj, if_neg hj]; rfl
theorem pins {m : Int} {N : Nat} {s : Vspace_Space} (h : SS m N s) {n : Int} {k : Nat} (hk : n = (k : Int)) (hkN : k < N) {z : Int} (hz : By z) : m_erase_Insert s n z = some (if openI s.cells k = true ∧ insE s.cells k < rl s.cells k true then (wS s (insI s.cells k z), true) else (s, false)) := by
  have hl := h.len
  have hle := h.dim.dim.le
  have hrl := rl_le s.cells k true
  have hk' : n % N = (k : Int) := by rw [hk]; exact nat_emod hkN
  unfold m_erase_Insert
  simp only [popen h hk' hkN, Option.bind_some]
  cases ho : openI s.cells k with
  | false => rw [if_neg (by rintro ⟨h, _⟩; cases h)]; rfl
  | true =>
    simp only [Bool.not_true, cond_false, pround h hk hkN (open_no ho), Option.bind_some, pindexf h hkN]
    by_cases hj : insE s.cells k < rl s.cells k true
    · rw [if_pos hj, if_pos ⟨trivial, hj⟩, decide_eq_false (show ¬ ((insE s.cells k : Int) < 0) by omega)]
      simp only [cond_false]
      have hf : ∀ i, pl s.cells k i < N := fun i => by rw [← hl]; exact pl_lt (by omega) i
      have hno : ∀ i, i ≤ insE s.cells k → isA' s.cells (pl s.cells k i) = false := fun i hi => rl_no (by omega) (show i < rl s.cells k true by omega)
      have hic : ∀ i, By (insC s.cells k z i) := insC_by h.ok (by omega) hz
      have hlen : (restI s.cells k true).length = rl s.cells k true := by unfold restI; exact ints_len _ _
      have hrd : ∀ i, i < rl s.cells k true → rd (restI s.cells k true) (i : Int) = ((pl s.cells k i : Nat) : Int) := fun i hi => by unfold restI; exact ints_rd hi
      unfold insI
      generalize hee : insE s.cells k = e at hj hno
      have hfF : ∀ i, insF s.cells k e i < N := fun i => hf _
      have hicD : ∀ i, By (insD s.cells k e z i) := fun i => hic _
      have loop : erase_Insert_l7 (s, restI s.cells k true) fuel ((e : Int), s.model, s.alternate, s.size.Rows, s.size.Cols, s.cells, s.cursor, s.attrs) = some (t7' (wS s (puts s.cells (insF s.cells k e) (insD s.cells k e z) e))) := by
        have e0 : ((e : Int), s.model, s.alternate, s.size.Rows, s.size.Cols, s.cells, s.cursor, s.attrs) = (((e - 0 : Nat) : Int), t7' (wS s (puts s.cells (insF s.cells k e) (insD s.cells k e z) 0))) := by
          unfold t7' wS; rw [h.attrs]; rfl
        rw [e0]
        refine while_ok (fun i => (((e - i : Nat) : Int), t7' (wS s (puts s.cells (insF s.cells k e) (insD s.cells k e z) i)))) e (by omega) (fun q i hi => ?_) (fun q => ?_)
        · have d1 : decide (((e - i : Nat) : Int) > 0) = true := decide_eq_true (by omega)
          have w1 : w64 (((e - i : Nat) : Int) - 1) = ((e - (i + 1) : Nat) : Int) := by rw [w64_in (by omega) (by omega)]; omega
          have hS := ss_puts h (f := insF s.cells k e) (c := insD s.cells k e z) (j := i) hfF (fun q _ => hicD q)
          rw [erase_Insert_l7.eq_2]
          simp only [d1, cond_true, w1]
          rw [gd_pos (by omega), gd_pos (by omega), hrd _ (by omega), hrd _ (by omega)]
          change ((m_space_Space_At (wS s (puts s.cells (insF s.cells k e) (insD s.cells k e z) i)) _).bind _) = _
          simp only [ss_at hS, nat_emod (hf _), Option.bind_some]
          have hoth := puts_other (L := s.cells) (f := insF s.cells k e) (c := insD s.cells k e z) (fun i => by rw [hl]; exact hfF i) i (q := pl s.cells k (e - (i + 1))) (by rw [hl]; exact hf _) (fun r hr hx => by
            have := pl_inj (L := s.cells) (k := k) (i := e - r) (i' := e - (i + 1)) (by omega) (by omega) hx; omega)
          have hch : (rd (wS s (puts s.cells (insF s.cells k e) (insD s.cells k e z) i)).cells ((pl s.cells k (e - (i + 1)) : Nat) : Int)).Char = insD s.cells k e z i := by
            have h9 : insD s.cells k e z i = (rd s.cells ((pl s.cells k (e - i - 1) : Nat) : Int)).Char := if_neg (by omega)
            rw [h9, show e - i - 1 = e - (i + 1) by omega]
            exact congrArg Vapi_Cell.Char hoth
          rw [hch]
          have hp := pput hS (n := ((pl s.cells k (e - i) : Nat) : Int)) (nat_emod (hf _)) (hf _) (insD s.cells k e z i)
          change ((m_space_Space_Put (wS s (puts s.cells (insF s.cells k e) (insD s.cells k e z) i)) _ _).bind _) = _
          rw [hp]; rfl
        · have d1 : decide (((e - e : Nat) : Int) > 0) = false := decide_eq_false (by omega)
          rw [erase_Insert_l7.eq_2]
          simp only [d1, cond_false]
      rw [loop]
      simp only [Option.bind_some]
      rw [gd_pos (by omega)]
      have hS := ss_puts h (f := insF s.cells k e) (c := insD s.cells k e z) (j := e) hfF (fun q _ => hicD q)
      have h0 : rd (restI s.cells k true) (0 : Int) = ((pl s.cells k 0 : Nat) : Int) := hrd 0 (by omega)
      rw [h0]
      have hp := pput hS (n := ((pl s.cells k 0 : Nat) : Int)) (nat_emod (hf _)) (hf _) z
      change ((m_space_Space_Put (wS s (puts s.cells (insF s.cells k e) (insD s.cells k e z) e)) _ _).bind _) = _
      rw [hp]
      have hlast : putI (wS s (puts s.cells (insF s.cells k e) (insD s.cells k e z) e)).cells (pl s.cells k 0) z = puts s.cells (pl s.cells k) (insC s.cells k z) (e + 1) := by
        rw [← ins_same (by omega) (by omega) hno]
        have e1 : insF s.cells k e e = pl s.cells k 0 := by unfold insF; rw [Nat.sub_self]
        have e2 : insD s.cells k e z e = z := by unfold insD insC; rw [Nat.sub_self, if_pos rfl]
        rw [puts, e1, e2]; rfl
      rw [hlast]
      have hS2 := ss_puts h (f := pl s.cells k) (c := insC s.cells k z) (j := e + 1) hf (fun q _ => hic q)
      have hm := pmod hS2 hk' hkN
      simp only [Option.bind_some]
      change ((m_field_Modify (wS s (puts s.cells (pl s.cells k) (insC s.cells k z) (e + 1))) n).bind _) = _
      rw [hm]; rfl
    · rw [if_neg hj, if_neg fun h => hj h.2]; rfl
end Go.Vt
set_option linter.unusedVariables false
set_option linter.unusedSimpArgs false
set_option maxRecDepth 100000
namespace Go.Vt
def pC (s : Vspace_Space) (p : Int) : Vspace_Space := ⟨s.model, s.alternate, s.size, s.cells, p, s.attrs⟩
def rC (x : Vvitrineref12_Space) (p : Int) : Vvitrineref12_Space := ⟨x.Model, x.Alt, x.Size, x.L, p⟩
theorem RS.c {m : Int} {N : Nat} {x : Vvitrineref12_Space} (h : RS m N x) {p : Int} (h0 : 0 ≤ p) (h1 : p < N) : RS m N (rC x p) := ⟨h.model, h.dim, h.len, h.ok, ⟨h0, h1⟩⟩
theorem SS.c {m : Int} {N : Nat} {s : Vspace_Space} (h : SS m N s) {p : Int} (h0 : 0 ≤ p) (h1 : p < N) : SS m N (pC s p) := ⟨h.model, h.dim, h.len, h.ok, ⟨h0, h1⟩, h.attrs⟩
theorem pplace {m : Int} {N : Nat} {s : Vspace_Space} (h : SS m N s) {p : Int} (h0 : 0 ≤ p) (h1 : p < N) : m_space_Space_Place s p = some (pC s p) := by
  rw [ss_place h, Int.emod_eq_of_lt h0 h1]; rfl
theorem nextI_lt {L : List Vapi_Cell} {k : Nat} (hL : 0 < L.length) : -1 ≤ nextI L k ∧ nextI L k < L.length := by
  unfold nextI
  split
  · have := Nat.mod_lt (k + 1 + hitN L k) hL; omega
  · omega
theorem prevI_lt {L : List Vapi_Cell} {k : Nat} (hL : 0 < L.length) : -1 ≤ prevI L k ∧ prevI L k < L.length := by
  unfold prevI
  split
  · have := Nat.mod_lt (k + (L.length - 1 - hitP L k)) hL; omega
  · omega
theorem imax0 {z : Int} {N : Nat} (hN : 0 < N) (h : -1 ≤ z ∧ z < N) : 0 ≤ imax z 0 ∧ imax z 0 < N := by unfold imax; split <;> omega
/-- the cursor's own place -/
theorem SS.k {m : Int} {N : Nat} {s : Vspace_Space} (h : SS m N s) : ∃ k : Nat, s.cursor = (k : Int) ∧ k < N := ⟨s.cursor.toNat, by have := h.cur; omega, by have := h.cur; omega⟩
theorem RS.k {m : Int} {N : Nat} {x : Vvitrineref12_Space} (h : RS m N x) : ∃ k : Nat, x.Cursor = (k : Int) ∧ k < N := ⟨x.Cursor.toNat, by have := h.cur; omega, by have := h.cur; omega⟩
def tabI (L : List Vapi_Cell) (k : Nat) : Int := imax (nextI L k) 0
def btabI (L : List Vapi_Cell) (k : Nat) : Int := imax (prevI L k) 0
def firstI (L : List Vapi_Cell) (k : Nat) : Int := if openI L k then (k : Int) else tabI L k
theorem tabI_lt {L : List Vapi_Cell} {N k : Nat} (hl : L.length = N) (hN : 0 < N) : 0 ≤ tabI L k ∧ tabI L k < N := imax0 hN (by have := nextI_lt (L := L) (k := k) (by omega); rw [hl] at this; exact this)
theorem btabI_lt {L : List Vapi_Cell} {N k : Nat} (hl : L.length = N) (hN : 0 < N) : 0 ≤ btabI L k ∧ btabI L k < N := imax0 hN (by have := prevI_lt (L := L) (k := k) (by omega); rw [hl] at this; exact this)
theorem firstI_lt {L : List Vapi_Cell} {N k : Nat} (hl : L.length = N) (hk : k < N) : 0 ≤ firstI L k ∧ firstI L k < N := by
  unfold firstI; split
  · omega
  · exact tabI_lt hl (by omega)
theorem ptab {m : Int} {N : Nat} {s : Vspace_Space} (h : SS m N s) {k : Nat} (hk : s.cursor = (k : Int)) (hkN : k < N) : m_cursor_Tab s = some (pC s (tabI s.cells k)) := by
  have hle := h.dim.dim.le
  have hb := tabI_lt (k := k) h.len (show 0 < N by omega)
  unfold m_cursor_Tab m_space_Space_Cursor
  simp only [Option.bind_some, hk, pnext h (nat_emod hkN) hkN]
  rw [show imax (nextI s.cells k) 0 = tabI s.cells k from rfl, pplace h hb.1 hb.2]; rfl
theorem pbtab {m : Int} {N : Nat} {s : Vspace_Space} (h : SS m N s) {k : Nat} (hk : s.cursor = (k : Int)) (hkN : k < N) : m_cursor_BackTab s = some (pC s (btabI s.cells k)) := by
  have hle := h.dim.dim.le
  have hb := btabI_lt (k := k) h.len (show 0 < N by omega)
  unfold m_cursor_BackTab m_space_Space_Cursor
  simp only [Option.bind_some, hk, pprev h (nat_emod hkN) hkN]
  rw [show imax (prevI s.cells k) 0 = btabI s.cells k from rfl, pplace h hb.1 hb.2]; rfl
theorem pfirstc {m : Int} {N : Nat} {s : Vspace_Space} (h : SS m N s) {n : Int} {k : Nat} (hk : n % N = (k : Int)) (hkN : k < N) : m_cursor_First s n = some (firstI s.cells k) := by
  unfold m_cursor_First m_space_Space_Size firstI
  simp only [popen h hk hkN, Option.bind_some]
  cases openI s.cells k with
  | true => simp only [cond_true, sz_wrap h, hk, Option.bind_some, if_true]
  | false => simp only [cond_false, pnext h hk hkN, Option.bind_some, Bool.false_eq_true, if_false]; rfl
/-! ### rows and columns -/
def atI (rn cn r c : Nat) : Nat := (r % rn) * cn + c % cn
def mvI (rn cn k dr dc : Nat) : Nat := atI rn cn ((k + dc) % (rn * cn) / cn + dr) ((k + dc) % (rn * cn) % cn)
theorem atI_lt {rn cn r c : Nat} (hr : 0 < rn) (hc : 0 < cn) : atI rn cn r c < rn * cn := by
  unfold atI
  have h1 := Nat.mod_lt r hr
  have h2 := Nat.mod_lt c hc
  have h3 := Nat.mul_le_mul_right cn (show r % rn + 1 ≤ rn from h1)
  rw [Nat.add_mul, Nat.one_mul] at h3; omega
theorem atI_self {rn cn k : Nat} (hc : 0 < cn) (hk : k < rn * cn) : atI rn cn (k / cn) (k % cn) = k := by
  unfold atI
  rw [Nat.mod_eq_of_lt (show k / cn < rn by rw [Nat.div_lt_iff_lt_mul hc]; exact hk), Nat.mod_mod, Nat.mul_comm]
  exact Nat.div_add_mod k cn
theorem w64n {a : Nat} (h : a < 1000000) : w64 ((a : Nat) : Int) = (a : Int) := w64_in (by omega) (by omega)
theorem w64n2 {a b : Nat} (h : a + b < 1000000) : w64 ((a : Int) + (b : Int)) = ((a + b : Nat) : Int) := by rw [w64_in (by omega) (by omega)]; omega
theorem dim_b {r c : Int} {N rn cn : Nat} (h : Dim r c N) (hr : r = (rn : Int)) (hc : c = (cn : Int)) (hN : N = rn * cn) : 80 ≤ cn ∧ cn ≤ 132 ∧ 24 ≤ rn ∧ rn ≤ 43 := by
  obtain ⟨rn', cn', h1, h2, h3, h4, h5, h6, h7⟩ := h.cn
  omega
theorem prowc {r c : Int} {N rn cn : Nat} (h : Dim r c N) (hr : r = (rn : Int)) (hc : c = (cn : Int)) (hN : N = rn * cn) {n : Int} {k : Nat} (hk : n % N = (k : Int)) : m_addr_Size_Row ⟨r, c⟩ n = some ((k / cn : Nat) : Int) := by
  obtain ⟨b1, b2, b3, b4⟩ := dim_b h hr hc hN
  have hle := h.le
  have hkN : k < N := by have := Int.emod_lt_of_pos n (show (0 : Int) < N by omega); omega
  unfold m_addr_Size_Row
  simp only [valid_ok h, wrap_ok h, hk, Option.bind_some, Bool.not_true, cond_false]
  subst hc
  have h9 : k / cn ≤ k := Nat.div_le_self _ _
  rw [gd_pos (by omega), show Int.tdiv (k : Int) (cn : Int) = ((k / cn : Nat) : Int) from rfl, w64n (by omega)]
theorem patc {r c : Int} {N rn cn : Nat} (h : Dim r c N) (hr : r = (rn : Int)) (hc : c = (cn : Int)) (hN : N = rn * cn) {a b : Int} {a' b' : Nat} (ha : a % (rn : Int) = (a' : Int)) (hb : b % (cn : Int) = (b' : Int)) : m_addr_Size_At ⟨r, c⟩ a b = some ((atI rn cn a' b' : Nat) : Int) := by
  obtain ⟨b1, b2, b3, b4⟩ := dim_b h hr hc hN
  have ha1 : a' < rn := by have := Int.emod_lt_of_pos a (show (0 : Int) < rn by omega); omega
  have hb1 : b' < cn := by have := Int.emod_lt_of_pos b (show (0 : Int) < cn by omega); omega
  have hml : a' * cn ≤ 43 * 132 := Nat.mul_le_mul (by omega) b2
  unfold m_addr_Size_At
  simp only [valid_ok h, Option.bind_some, Bool.not_true, cond_false]
  subst hr hc
  simp only [rest_ok (show 0 < rn by omega) (by omega), rest_ok (show 0 < cn by omega) (by omega), ha, hb, Option.bind_some]
  unfold atI
  rw [Nat.mod_eq_of_lt ha1, Nat.mod_eq_of_lt hb1]
  have e1 : ((a' : Int) * (cn : Int)) = ((a' * cn : Nat) : Int) := by simp
  rw [e1, w64_in (x := ((a' * cn : Nat) : Int)) (by omega) (by omega), w64_in (by omega) (by omega)]
  rfl
theorem pmove {r c : Int} {N rn cn : Nat} (h : Dim r c N) (hr : r = (rn : Int)) (hc : c = (cn : Int)) (hN : N = rn * cn) {n dr dc : Int} {k dr' dc' : Nat} (hk : n % N = (k : Int)) (hdr : dr % (rn : Int) = (dr' : Int)) (hdc : dc % (N : Int) = (dc' : Int)) : m_addr_Size_Move ⟨r, c⟩ n dr dc = some ((mvI rn cn k dr' dc' : Nat) : Int) := by
  obtain ⟨b1, b2, b3, b4⟩ := dim_b h hr hc hN
  have hle := h.le
  have hkN : k < N := by have := Int.emod_lt_of_pos n (show (0 : Int) < N by omega); omega
  have hdN : dc' < N := by have := Int.emod_lt_of_pos dc (show (0 : Int) < N by omega); omega
  have hdr1 : dr' < rn := by have := Int.emod_lt_of_pos dr (show (0 : Int) < rn by omega); omega
  have hq : (k + dc') % N < N := Nat.mod_lt _ (by omega)
  have hqd : (k + dc') % N / cn < rn := by rw [Nat.div_lt_iff_lt_mul (by omega), ← hN]; exact hq
  unfold m_addr_Size_Move
  simp only [valid_ok h, Option.bind_some, Bool.not_true, cond_false, wrap_ok h, hk, hdc]
  rw [w64_in (x := (k : Int) + (dc' : Int)) (by omega) (by omega), show ((k : Int) + (dc' : Int)) % (N : Int) = (((k + dc') % N : Nat) : Int) by rw [Int.natCast_emod]; rfl]
  simp only [prowc h hr hc hN (nat_emod hq), pcol h hc (nat_emod hq), Option.bind_some]
  have e2 : m_addr_rest dr r = some (dr' : Int) := by rw [hr, rest_ok (show 0 < rn by omega) (by omega), hdr]
  simp only [e2, Option.bind_some]
  rw [w64n2 (by omega), patc h hr hc hN (a' := ((k + dc') % N / cn + dr') % rn) (b' := (k + dc') % N % cn) (by rw [Int.natCast_emod]) (by rw [← Int.natCast_emod, Nat.mod_mod])]
  simp only [Option.bind_some]
  unfold mvI atI
  rw [← hN, Nat.mod_mod]
theorem mvI_lt {rn cn k dr dc : Nat} (hr : 0 < rn) (hc : 0 < cn) : mvI rn cn k dr dc < rn * cn := atI_lt hr hc
theorem mv_on {rn cn k : Nat} (hc : 0 < cn) (hN : 0 < rn * cn) : mvI rn cn k 0 1 = (k + 1) % (rn * cn) := by
  unfold mvI
  rw [Nat.add_zero]
  exact atI_self hc (Nat.mod_lt _ hN)
end Go.Vt
set_option linter.unusedVariables false
set_option linter.unusedSimpArgs false
set_option maxRecDepth 100000
namespace Go.Vt
def sgT (n : Int) : List Int := match m_page_others n with
  | some (os, _) => sgn os
  | none => []
def T37 : List Int := [0, 1, 2, 3, 156, 9, 134, 127, 151, 141, 142, 11, 12, 13, 14, 15, 16, 17, 18, 19, 157, 133, 8, 135, 24, 25, 146, 143, 28, 29, 30, 31, 128, 129, 130, 131, 132, 10, 23, 27, 136, 137, 138, 139, 140, 5, 6, 7, 144, 145, 22, 147, 148, 149, 150, 4, 152, 153, 154, 155, 20, 21, 158, 26, 32, 160, 226, 228, 224, 225, 227, 229, 231, 241, 162, 46, 60, 40, 43, 124, 38, 233, 234, 235, 232, 237, 238, 239, 236, 223, 33, 36, 42, 41, 59, 172, 45, 47, 194, 196, 192, 193, 195, 197, 199, 209, 166, 44, 37, 95, 62, 63, 248, 201, 202, 203, 200, 205, 206, 207, 204, 96, 58, 35, 64, 39, 61, 34, 216, 97, 98, 99, 100, 101, 102, 103, 104, 105, 171, 187, 240, 253, 254, 177, 176, 106, 107, 108, 109, 110, 111, 112, 113, 114, 170, 186, 230, 184, 198, 164, 181, 126, 115, 116, 117, 118, 119, 120, 121, 122, 161, 191, 208, 221, 222, 174, 94, 163, 165, 183, 169, 167, 182, 188, 189, 190, 91, 93, 175, 168, 180, 215, 123, 65, 66, 67, 68, 69, 70, 71, 72, 73, 173, 244, 246, 242, 243, 245, 125, 74, 75, 76, 77, 78, 79, 80, 81, 82, 185, 251, 252, 249, 250, 255, 92, 247, 83, 84, 85, 86, 87, 88, 89, 90, 178, 212, 214, 210, 211, 213, 48, 49, 50, 51, 52, 53, 54, 55, 56, 57, 179, 219, 220, 217, 218, 159]
def T273 : List Int := [0, 1, 2, 3, 156, 9, 134, 127, 151, 141, 142, 11, 12, 13, 14, 15, 16, 17, 18, 19, 157, 133, 8, 135, 24, 25, 146, 143, 28, 29, 30, 31, 128, 129, 130, 131, 132, 10, 23, 27, 136, 137, 138, 139, 140, 5, 6, 7, 144, 145, 22, 147, 148, 149, 150, 4, 152, 153, 154, 155, 20, 21, 158, 26, 32, 160, 226, 123, 224, 225, 227, 229, 231, 241, 196, 46, 60, 40, 43, 33, 38, 233, 234, 235, 232, 237, 238, 239, 236, 126, 220, 36, 42, 41, 59, 94, 45, 47, 194, 91, 192, 193, 195, 197, 199, 209, 246, 44, 37, 95, 62, 63, 248, 201, 202, 203, 200, 205, 206, 207, 204, 96, 58, 35, 167, 39, 61, 34, 216, 97, 98, 99, 100, 101, 102, 103, 104, 105, 171, 187, 240, 253, 254, 177, 176, 106, 107, 108, 109, 110, 111, 112, 113, 114, 170, 186, 230, 184, 198, 164, 181, 223, 115, 116, 117, 118, 119, 120, 121, 122, 161, 191, 208, 221, 222, 174, 162, 163, 165, 183, 169, 64, 182, 188, 189, 190, 172, 124, 175, 168, 180, 215, 228, 65, 66, 67, 68, 69, 70, 71, 72, 73, 173, 244, 166, 242, 243, 245, 252, 74, 75, 76, 77, 78, 79, 80, 81, 82, 185, 251, 125, 249, 250, 255, 214, 247, 83, 84, 85, 86, 87, 88, 89, 90, 178, 212, 92, 210, 211, 213, 48, 49, 50, 51, 52, 53, 54, 55, 56, 57, 179, 219, 93, 217, 218, 159]
def T297 : List Int := [0, 1, 2, 3, 156, 9, 134, 127, 151, 141, 142, 11, 12, 13, 14, 15, 16, 17, 18, 19, 157, 133, 8, 135, 24, 25, 146, 143, 28, 29, 30, 31, 128, 129, 130, 131, 132, 10, 23, 27, 136, 137, 138, 139, 140, 5, 6, 7, 144, 145, 22, 147, 148, 149, 150, 4, 152, 153, 154, 155, 20, 21, 158, 26, 32, 160, 226, 228, 64, 225, 227, 229, 92, 241, 176, 46, 60, 40, 43, 33, 38, 123, 234, 235, 125, 237, 238, 239, 236, 223, 167, 36, 42, 41, 59, 94, 45, 47, 194, 196, 192, 193, 195, 197, 199, 209, 249, 44, 37, 95, 62, 63, 248, 201, 202, 203, 200, 205, 206, 207, 204, 181, 58, 163, 224, 39, 61, 34, 216, 97, 98, 99, 100, 101, 102, 103, 104, 105, 171, 187, 240, 253, 254, 177, 91, 106, 107, 108, 109, 110, 111, 112, 113, 114, 170, 186, 230, 184, 198, 164, 96, 168, 115, 116, 117, 118, 119, 120, 121, 122, 161, 191, 208, 221, 222, 174, 162, 35, 165, 183, 169, 93, 182, 188, 189, 190, 172, 124, 175, 126, 180, 215, 233, 65, 66, 67, 68, 69, 70, 71, 72, 73, 173, 244, 246, 242, 243, 245, 232, 74, 75, 76, 77, 78, 79, 80, 81, 82, 185, 251, 252, 166, 250, 255, 231, 247, 83, 84, 85, 86, 87, 88, 89, 90, 178, 212, 214, 210, 211, 213, 48, 49, 50, 51, 52, 53, 54, 55, 56, 57, 179, 219, 220, 217, 218, 159]
def T500 : List Int := [0, 1, 2, 3, 156, 9, 134, 127, 151, 141, 142, 11, 12, 13, 14, 15, 16, 17, 18, 19, 157, 133, 8, 135, 24, 25, 146, 143, 28, 29, 30, 31, 128, 129, 130, 131, 132, 10, 23, 27, 136, 137, 138, 139, 140, 5, 6, 7, 144, 145, 22, 147, 148, 149, 150, 4, 152, 153, 154, 155, 20, 21, 158, 26, 32, 160, 226, 228, 224, 225, 227, 229, 231, 241, 91, 46, 60, 40, 43, 33, 38, 233, 234, 235, 232, 237, 238, 239, 236, 223, 93, 36, 42, 41, 59, 94, 45, 47, 194, 196, 192, 193, 195, 197, 199, 209, 166, 44, 37, 95, 62, 63, 248, 201, 202, 203, 200, 205, 206, 207, 204, 96, 58, 35, 64, 39, 61, 34, 216, 97, 98, 99, 100, 101, 102, 103, 104, 105, 171, 187, 240, 253, 254, 177, 176, 106, 107, 108, 109, 110, 111, 112, 113, 114, 170, 186, 230, 184, 198, 164, 181, 126, 115, 116, 117, 118, 119, 120, 121, 122, 161, 191, 208, 221, 222, 174, 162, 163, 165, 183, 169, 167, 182, 188, 189, 190, 172, 124, 175, 168, 180, 215, 123, 65, 66, 67, 68, 69, 70, 71, 72, 73, 173, 244, 246, 242, 243, 245, 125, 74, 75, 76, 77, 78, 79, 80, 81, 82, 185, 251, 252, 249, 250, 255, 92, 247, 83, 84, 85, 86, 87, 88, 89, 90, 178, 212, 214, 210, 211, 213, 48, 49, 50, 51, 52, 53, 54, 55, 56, 57, 179, 219, 220, 217, 218, 159]
def T1047 : List Int := [0, 1, 2, 3, 156, 9, 134, 127, 151, 141, 142, 11, 12, 13, 14, 15, 16, 17, 18, 19, 157, 133, 8, 135, 24, 25, 146, 143, 28, 29, 30, 31, 128, 129, 130, 131, 132, 10, 23, 27, 136, 137, 138, 139, 140, 5, 6, 7, 144, 145, 22, 147, 148, 149, 150, 4, 152, 153, 154, 155, 20, 21, 158, 26, 32, 160, 226, 228, 224, 225, 227, 229, 231, 241, 162, 46, 60, 40, 43, 124, 38, 233, 234, 235, 232, 237, 238, 239, 236, 223, 33, 36, 42, 41, 59, 94, 45, 47, 194, 196, 192, 193, 195, 197, 199, 209, 166, 44, 37, 95, 62, 63, 248, 201, 202, 203, 200, 205, 206, 207, 204, 96, 58, 35, 64, 39, 61, 34, 216, 97, 98, 99, 100, 101, 102, 103, 104, 105, 171, 187, 240, 253, 254, 177, 176, 106, 107, 108, 109, 110, 111, 112, 113, 114, 170, 186, 230, 184, 198, 164, 181, 126, 115, 116, 117, 118, 119, 120, 121, 122, 161, 191, 208, 91, 222, 174, 172, 163, 165, 183, 169, 167, 182, 188, 189, 190, 221, 168, 175, 93, 180, 215, 123, 65, 66, 67, 68, 69, 70, 71, 72, 73, 173, 244, 246, 242, 243, 245, 125, 74, 75, 76, 77, 78, 79, 80, 81, 82, 185, 251, 252, 249, 250, 255, 92, 247, 83, 84, 85, 86, 87, 88, 89, 90, 178, 212, 214, 210, 211, 213, 48, 49, 50, 51, 52, 53, 54, 55, 56, 57, 179, 219, 220, 217, 218, 159]
def T1140 : List Int := [0, 1, 2, 3, 156, 9, 134, 127, 151, 141, 142, 11, 12, 13, 14, 15, 16, 17, 18, 19, 157, 133, 8, 135, 24, 25, 146, 143, 28, 29, 30, 31, 128, 129, 130, 131, 132, 10, 23, 27, 136, 137, 138, 139, 140, 5, 6, 7, 144, 145, 22, 147, 148, 149, 150, 4, 152, 153, 154, 155, 20, 21, 158, 26, 32, 160, 226, 228, 224, 225, 227, 229, 231, 241, 162, 46, 60, 40, 43, 124, 38, 233, 234, 235, 232, 237, 238, 239, 236, 223, 33, 36, 42, 41, 59, 172, 45, 47, 194, 196, 192, 193, 195, 197, 199, 209, 166, 44, 37, 95, 62, 63, 248, 201, 202, 203, 200, 205, 206, 207, 204, 96, 58, 35, 64, 39, 61, 34, 216, 97, 98, 99, 100, 101, 102, 103, 104, 105, 171, 187, 240, 253, 254, 177, 176, 106, 107, 108, 109, 110, 111, 112, 113, 114, 170, 186, 230, 184, 198, 8364, 181, 126, 115, 116, 117, 118, 119, 120, 121, 122, 161, 191, 208, 221, 222, 174, 94, 163, 165, 183, 169, 167, 182, 188, 189, 190, 91, 93, 175, 168, 180, 215, 123, 65, 66, 67, 68, 69, 70, 71, 72, 73, 173, 244, 246, 242, 243, 245, 125, 74, 75, 76, 77, 78, 79, 80, 81, 82, 185, 251, 252, 249, 250, 255, 92, 247, 83, 84, 85, 86, 87, 88, 89, 90, 178, 212, 214, 210, 211, 213, 48, 49, 50, 51, 52, 53, 54, 55, 56, 57, 179, 219, 220, 217, 218, 159]
def tabS (n : Int) : List Int := if n = 37 then T37 else if n = 273 then T273 else if n = 297 then T297 else if n = 500 then T500 else if n = 1047 then T1047 else T1140
/-! ### digits to the base 16 -/
def hxI (z : Int) : Int := if z ≥ 97 then w64 ((w64 (IntKind.wrap .u8 (z - 97))) + 10) else w64 (IntKind.wrap .u8 (z - 48))
def numL (l : List Int) : Int := l.foldl (fun a b => w64 ((w64 (16 * a)) + hxI b)) 0
def bl (s : ByteArray) : List Int := s.data.toList.map fun b => (b.toNat : Int)
theorem bl_len (s : ByteArray) : (bl s).length = s.size := by simp [bl]
theorem sb_bl {s : ByteArray} {i : Nat} (h : i < (bl s).length) : sbyte s (i : Int) = (bl s)[i] := by
  have h' : i < s.data.toList.length := by simpa [bl] using h
  unfold sbyte
  simp only [Int.toNat_natCast, bl, List.getElem_map]
  rw [List.getD_eq_getElem?_getD, List.getElem?_eq_getElem h']; rfl
theorem bl_extract (s : ByteArray) (a b : Nat) : bl (s.extract a b) = ((bl s).drop a).take (b - a) := by
  unfold bl
  rw [ByteArray.data_extract, Array.toList_extract, List.extract_eq_take_drop, List.map_take, List.map_drop]
theorem num_ok {s : ByteArray} (hs : s.size < 100000) : m_vitrineref01_Num s = some (numL (bl s)) := by
  have hl := bl_len s
  unfold m_vitrineref01_Num
  have loop : vitrineref01_Num_l2 s fuel (0, 0) = some (numL (bl s)) := by
    refine while_ok (fun i => ((i : Int), numL ((bl s).take i))) s.size (by omega) (fun k i hi => ?_) (fun k => ?_)
    · have d1 : decide ((i : Int) < (s.size : Int)) = true := decide_eq_true (by omega)
      have hb := sb_bl (s := s) (i := i) (by omega)
      rw [vitrineref01_Num_l2.eq_2]
      simp only [d1, cond_true]
      rw [gd_pos (by omega), gd_pos (by omega), gd_pos (by omega), hb, w64s (by omega)]
      have hx : (cond (decide ((bl s)[i]'(by omega) ≥ 97)) (some (w64 ((w64 (IntKind.wrap .u8 ((bl s)[i]'(by omega) - 97))) + 10))) (some (w64 (IntKind.wrap .u8 ((bl s)[i]'(by omega) - 48)))) : Option Int) = some (hxI ((bl s)[i]'(by omega))) := by
        unfold hxI
        by_cases h : (bl s)[i]'(by omega) ≥ 97
        · rw [decide_eq_true h, if_pos h]; rfl
        · rw [decide_eq_false h, if_neg h]; rfl
      rw [hx]
      simp only [Option.bind_some]
      have e : numL ((bl s).take (i + 1)) = w64 ((w64 (16 * numL ((bl s).take i))) + hxI ((bl s)[i]'(by omega))) := by
        unfold numL; rw [List.take_succ_eq_append_getElem (by omega), List.foldl_append]; rfl
      rw [e]
    · have d1 : decide ((s.size : Int) < (s.size : Int)) = false := decide_eq_false (by omega)
      rw [vitrineref01_Num_l2.eq_2]
      simp only [d1, cond_false]
      rw [List.take_of_length_le (by omega)]
  rw [loop]; rfl
theorem num_ex {s : ByteArray} {a b : Nat} (hs : s.size < 100000) : m_vitrineref01_Num (s.extract a b) = some (numL (((bl s).drop a).take (b - a))) := by
  have h : (s.extract a b).size ≤ s.size := by
    have := bl_len (s.extract a b)
    rw [bl_extract, List.length_take, List.length_drop, bl_len] at this; omega
  rw [num_ok (by omega), bl_extract]
/-- the document's sign, out of lists -/
def oP (o : List Int) (c : Int) : Nat → Bool := fun i => !(numL ((o.drop (6 * i)).take 2) == c)
def dsg (b o : List Int) (c : Nat) : Int :=
  if tl (oP o c) (o.length / 6) < o.length / 6 then IntKind.wrap .i32 (numL ((o.drop (6 * tl (oP o c) (o.length / 6) + 2)).take 4)) else IntKind.wrap .i32 (numL ((b.drop (4 * c)).take 4))
def baseB : ByteArray := ByteArray.mk (List.toArray [48, 48, 48, 48, 48, 48, 48, 49, 48, 48, 48, 50, 48, 48, 48, 51, 48, 48, 57, 99, 48, 48, 48, 57, 48, 48, 56, 54, 48, 48, 55, 102, 48, 48, 57, 55, 48, 48, 56, 100, 48, 48, 56, 101, 48, 48, 48, 98, 48, 48, 48, 99, 48, 48, 48, 100, 48, 48, 48, 101, 48, 48, 48, 102, 48, 48, 49, 48, 48, 48, 49, 49, 48, 48, 49, 50, 48, 48, 49, 51, 48, 48, 57, 100, 48, 48, 56, 53, 48, 48, 48, 56, 48, 48, 56, 55, 48, 48, 49, 56, 48, 48, 49, 57, 48, 48, 57, 50, 48, 48, 56, 102, 48, 48, 49, 99, 48, 48, 49, 100, 48, 48, 49, 101, 48, 48, 49, 102, 48, 48, 56, 48, 48, 48, 56, 49, 48, 48, 56, 50, 48, 48, 56, 51, 48, 48, 56, 52, 48, 48, 48, 97, 48, 48, 49, 55, 48, 48, 49, 98, 48, 48, 56, 56, 48, 48, 56, 57, 48, 48, 56, 97, 48, 48, 56, 98, 48, 48, 56, 99, 48, 48, 48, 53, 48, 48, 48, 54, 48, 48, 48, 55, 48, 48, 57, 48, 48, 48, 57, 49, 48, 48, 49, 54, 48, 48, 57, 51, 48, 48, 57, 52, 48, 48, 57, 53, 48, 48, 57, 54, 48, 48, 48, 52, 48, 48, 57, 56, 48, 48, 57, 57, 48, 48, 57, 97, 48, 48, 57, 98, 48, 48, 49, 52, 48, 48, 49, 53, 48, 48, 57, 101, 48, 48, 49, 97, 48, 48, 50, 48, 48, 48, 97, 48, 48, 48, 101, 50, 48, 48, 101, 52, 48, 48, 101, 48, 48, 48, 101, 49, 48, 48, 101, 51, 48, 48, 101, 53, 48, 48, 101, 55, 48, 48, 102, 49, 48, 48, 97, 50, 48, 48, 50, 101, 48, 48, 51, 99, 48, 48, 50, 56, 48, 48, 50, 98, 48, 48, 55, 99, 48, 48, 50, 54, 48, 48, 101, 57, 48, 48, 101, 97, 48, 48, 101, 98, 48, 48, 101, 56, 48, 48, 101, 100, 48, 48, 101, 101, 48, 48, 101, 102, 48, 48, 101, 99, 48, 48, 100, 102, 48, 48, 50, 49, 48, 48, 50, 52, 48, 48, 50, 97, 48, 48, 50, 57, 48, 48, 51, 98, 48, 48, 97, 99, 48, 48, 50, 100, 48, 48, 50, 102, 48, 48, 99, 50, 48, 48, 99, 52, 48, 48, 99, 48, 48, 48, 99, 49, 48, 48, 99, 51, 48, 48, 99, 53, 48, 48, 99, 55, 48, 48, 100, 49, 48, 48, 97, 54, 48, 48, 50, 99, 48, 48, 50, 53, 48, 48, 53, 102, 48, 48, 51, 101, 48, 48, 51, 102, 48, 48, 102, 56, 48, 48, 99, 57, 48, 48, 99, 97, 48, 48, 99, 98, 48, 48, 99, 56, 48, 48, 99, 100, 48, 48, 99, 101, 48, 48, 99, 102, 48, 48, 99, 99, 48, 48, 54, 48, 48, 48, 51, 97, 48, 48, 50, 51, 48, 48, 52, 48, 48, 48, 50, 55, 48, 48, 51, 100, 48, 48, 50, 50, 48, 48, 100, 56, 48, 48, 54, 49, 48, 48, 54, 50, 48, 48, 54, 51, 48, 48, 54, 52, 48, 48, 54, 53, 48, 48, 54, 54, 48, 48, 54, 55, 48, 48, 54, 56, 48, 48, 54, 57, 48, 48, 97, 98, 48, 48, 98, 98, 48, 48, 102, 48, 48, 48, 102, 100, 48, 48, 102, 101, 48, 48, 98, 49, 48, 48, 98, 48, 48, 48, 54, 97, 48, 48, 54, 98, 48, 48, 54, 99, 48, 48, 54, 100, 48, 48, 54, 101, 48, 48, 54, 102, 48, 48, 55, 48, 48, 48, 55, 49, 48, 48, 55, 50, 48, 48, 97, 97, 48, 48, 98, 97, 48, 48, 101, 54, 48, 48, 98, 56, 48, 48, 99, 54, 48, 48, 97, 52, 48, 48, 98, 53, 48, 48, 55, 101, 48, 48, 55, 51, 48, 48, 55, 52, 48, 48, 55, 53, 48, 48, 55, 54, 48, 48, 55, 55, 48, 48, 55, 56, 48, 48, 55, 57, 48, 48, 55, 97, 48, 48, 97, 49, 48, 48, 98, 102, 48, 48, 100, 48, 48, 48, 100, 100, 48, 48, 100, 101, 48, 48, 97, 101, 48, 48, 53, 101, 48, 48, 97, 51, 48, 48, 97, 53, 48, 48, 98, 55, 48, 48, 97, 57, 48, 48, 97, 55, 48, 48, 98, 54, 48, 48, 98, 99, 48, 48, 98, 100, 48, 48, 98, 101, 48, 48, 53, 98, 48, 48, 53, 100, 48, 48, 97, 102, 48, 48, 97, 56, 48, 48, 98, 52, 48, 48, 100, 55, 48, 48, 55, 98, 48, 48, 52, 49, 48, 48, 52, 50, 48, 48, 52, 51, 48, 48, 52, 52, 48, 48, 52, 53, 48, 48, 52, 54, 48, 48, 52, 55, 48, 48, 52, 56, 48, 48, 52, 57, 48, 48, 97, 100, 48, 48, 102, 52, 48, 48, 102, 54, 48, 48, 102, 50, 48, 48, 102, 51, 48, 48, 102, 53, 48, 48, 55, 100, 48, 48, 52, 97, 48, 48, 52, 98, 48, 48, 52, 99, 48, 48, 52, 100, 48, 48, 52, 101, 48, 48, 52, 102, 48, 48, 53, 48, 48, 48, 53, 49, 48, 48, 53, 50, 48, 48, 98, 57, 48, 48, 102, 98, 48, 48, 102, 99, 48, 48, 102, 57, 48, 48, 102, 97, 48, 48, 102, 102, 48, 48, 53, 99, 48, 48, 102, 55, 48, 48, 53, 51, 48, 48, 53, 52, 48, 48, 53, 53, 48, 48, 53, 54, 48, 48, 53, 55, 48, 48, 53, 56, 48, 48, 53, 57, 48, 48, 53, 97, 48, 48, 98, 50, 48, 48, 100, 52, 48, 48, 100, 54, 48, 48, 100, 50, 48, 48, 100, 51, 48, 48, 100, 53, 48, 48, 51, 48, 48, 48, 51, 49, 48, 48, 51, 50, 48, 48, 51, 51, 48, 48, 51, 52, 48, 48, 51, 53, 48, 48, 51, 54, 48, 48, 51, 55, 48, 48, 51, 56, 48, 48, 51, 57, 48, 48, 98, 51, 48, 48, 100, 98, 48, 48, 100, 99, 48, 48, 100, 57, 48, 48, 100, 97, 48, 48, 57, 102])
def baseL : List Int := [48, 48, 48, 48, 48, 48, 48, 49, 48, 48, 48, 50, 48, 48, 48, 51, 48, 48, 57, 99, 48, 48, 48, 57, 48, 48, 56, 54, 48, 48, 55, 102, 48, 48, 57, 55, 48, 48, 56, 100, 48, 48, 56, 101, 48, 48, 48, 98, 48, 48, 48, 99, 48, 48, 48, 100, 48, 48, 48, 101, 48, 48, 48, 102, 48, 48, 49, 48, 48, 48, 49, 49, 48, 48, 49, 50, 48, 48, 49, 51, 48, 48, 57, 100, 48, 48, 56, 53, 48, 48, 48, 56, 48, 48, 56, 55, 48, 48, 49, 56, 48, 48, 49, 57, 48, 48, 57, 50, 48, 48, 56, 102, 48, 48, 49, 99, 48, 48, 49, 100, 48, 48, 49, 101, 48, 48, 49, 102, 48, 48, 56, 48, 48, 48, 56, 49, 48, 48, 56, 50, 48, 48, 56, 51, 48, 48, 56, 52, 48, 48, 48, 97, 48, 48, 49, 55, 48, 48, 49, 98, 48, 48, 56, 56, 48, 48, 56, 57, 48, 48, 56, 97, 48, 48, 56, 98, 48, 48, 56, 99, 48, 48, 48, 53, 48, 48, 48, 54, 48, 48, 48, 55, 48, 48, 57, 48, 48, 48, 57, 49, 48, 48, 49, 54, 48, 48, 57, 51, 48, 48, 57, 52, 48, 48, 57, 53, 48, 48, 57, 54, 48, 48, 48, 52, 48, 48, 57, 56, 48, 48, 57, 57, 48, 48, 57, 97, 48, 48, 57, 98, 48, 48, 49, 52, 48, 48, 49, 53, 48, 48, 57, 101, 48, 48, 49, 97, 48, 48, 50, 48, 48, 48, 97, 48, 48, 48, 101, 50, 48, 48, 101, 52, 48, 48, 101, 48, 48, 48, 101, 49, 48, 48, 101, 51, 48, 48, 101, 53, 48, 48, 101, 55, 48, 48, 102, 49, 48, 48, 97, 50, 48, 48, 50, 101, 48, 48, 51, 99, 48, 48, 50, 56, 48, 48, 50, 98, 48, 48, 55, 99, 48, 48, 50, 54, 48, 48, 101, 57, 48, 48, 101, 97, 48, 48, 101, 98, 48, 48, 101, 56, 48, 48, 101, 100, 48, 48, 101, 101, 48, 48, 101, 102, 48, 48, 101, 99, 48, 48, 100, 102, 48, 48, 50, 49, 48, 48, 50, 52, 48, 48, 50, 97, 48, 48, 50, 57, 48, 48, 51, 98, 48, 48, 97, 99, 48, 48, 50, 100, 48, 48, 50, 102, 48, 48, 99, 50, 48, 48, 99, 52, 48, 48, 99, 48, 48, 48, 99, 49, 48, 48, 99, 51, 48, 48, 99, 53, 48, 48, 99, 55, 48, 48, 100, 49, 48, 48, 97, 54, 48, 48, 50, 99, 48, 48, 50, 53, 48, 48, 53, 102, 48, 48, 51, 101, 48, 48, 51, 102, 48, 48, 102, 56, 48, 48, 99, 57, 48, 48, 99, 97, 48, 48, 99, 98, 48, 48, 99, 56, 48, 48, 99, 100, 48, 48, 99, 101, 48, 48, 99, 102, 48, 48, 99, 99, 48, 48, 54, 48, 48, 48, 51, 97, 48, 48, 50, 51, 48, 48, 52, 48, 48, 48, 50, 55, 48, 48, 51, 100, 48, 48, 50, 50, 48, 48, 100, 56, 48, 48, 54, 49, 48, 48, 54, 50, 48, 48, 54, 51, 48, 48, 54, 52, 48, 48, 54, 53, 48, 48, 54, 54, 48, 48, 54, 55, 48, 48, 54, 56, 48, 48, 54, 57, 48, 48, 97, 98, 48, 48, 98, 98, 48, 48, 102, 48, 48, 48, 102, 100, 48, 48, 102, 101, 48, 48, 98, 49, 48, 48, 98, 48, 48, 48, 54, 97, 48, 48, 54, 98, 48, 48, 54, 99, 48, 48, 54, 100, 48, 48, 54, 101, 48, 48, 54, 102, 48, 48, 55, 48, 48, 48, 55, 49, 48, 48, 55, 50, 48, 48, 97, 97, 48, 48, 98, 97, 48, 48, 101, 54, 48, 48, 98, 56, 48, 48, 99, 54, 48, 48, 97, 52, 48, 48, 98, 53, 48, 48, 55, 101, 48, 48, 55, 51, 48, 48, 55, 52, 48, 48, 55, 53, 48, 48, 55, 54, 48, 48, 55, 55, 48, 48, 55, 56, 48, 48, 55, 57, 48, 48, 55, 97, 48, 48, 97, 49, 48, 48, 98, 102, 48, 48, 100, 48, 48, 48, 100, 100, 48, 48, 100, 101, 48, 48, 97, 101, 48, 48, 53, 101, 48, 48, 97, 51, 48, 48, 97, 53, 48, 48, 98, 55, 48, 48, 97, 57, 48, 48, 97, 55, 48, 48, 98, 54, 48, 48, 98, 99, 48, 48, 98, 100, 48, 48, 98, 101, 48, 48, 53, 98, 48, 48, 53, 100, 48, 48, 97, 102, 48, 48, 97, 56, 48, 48, 98, 52, 48, 48, 100, 55, 48, 48, 55, 98, 48, 48, 52, 49, 48, 48, 52, 50, 48, 48, 52, 51, 48, 48, 52, 52, 48, 48, 52, 53, 48, 48, 52, 54, 48, 48, 52, 55, 48, 48, 52, 56, 48, 48, 52, 57, 48, 48, 97, 100, 48, 48, 102, 52, 48, 48, 102, 54, 48, 48, 102, 50, 48, 48, 102, 51, 48, 48, 102, 53, 48, 48, 55, 100, 48, 48, 52, 97, 48, 48, 52, 98, 48, 48, 52, 99, 48, 48, 52, 100, 48, 48, 52, 101, 48, 48, 52, 102, 48, 48, 53, 48, 48, 48, 53, 49, 48, 48, 53, 50, 48, 48, 98, 57, 48, 48, 102, 98, 48, 48, 102, 99, 48, 48, 102, 57, 48, 48, 102, 97, 48, 48, 102, 102, 48, 48, 53, 99, 48, 48, 102, 55, 48, 48, 53, 51, 48, 48, 53, 52, 48, 48, 53, 53, 48, 48, 53, 54, 48, 48, 53, 55, 48, 48, 53, 56, 48, 48, 53, 57, 48, 48, 53, 97, 48, 48, 98, 50, 48, 48, 100, 52, 48, 48, 100, 54, 48, 48, 100, 50, 48, 48, 100, 51, 48, 48, 100, 53, 48, 48, 51, 48, 48, 48, 51, 49, 48, 48, 51, 50, 48, 48, 51, 51, 48, 48, 51, 52, 48, 48, 51, 53, 48, 48, 51, 54, 48, 48, 51, 55, 48, 48, 51, 56, 48, 48, 51, 57, 48, 48, 98, 51, 48, 48, 100, 98, 48, 48, 100, 99, 48, 48, 100, 57, 48, 48, 100, 97, 48, 48, 57, 102]
def O37 : List Int := []
def O273 : List Int := [52, 51, 48, 48, 55, 98, 52, 97, 48, 48, 99, 52, 52, 102, 48, 48, 50, 49, 53, 57, 48, 48, 55, 101, 53, 97, 48, 48, 100, 99, 53, 102, 48, 48, 53, 101, 54, 51, 48, 48, 53, 98, 54, 97, 48, 48, 102, 54, 55, 99, 48, 48, 97, 55, 97, 49, 48, 48, 100, 102, 98, 48, 48, 48, 97, 50, 98, 53, 48, 48, 52, 48, 98, 97, 48, 48, 97, 99, 98, 98, 48, 48, 55, 99, 99, 48, 48, 48, 101, 52, 99, 99, 48, 48, 97, 54, 100, 48, 48, 48, 102, 99, 100, 99, 48, 48, 55, 100, 101, 48, 48, 48, 100, 54, 101, 99, 48, 48, 53, 99, 102, 99, 48, 48, 53, 100]
def O297 : List Int := [52, 52, 48, 48, 52, 48, 52, 56, 48, 48, 53, 99, 52, 97, 48, 48, 98, 48, 52, 102, 48, 48, 50, 49, 53, 49, 48, 48, 55, 98, 53, 52, 48, 48, 55, 100, 53, 97, 48, 48, 97, 55, 53, 102, 48, 48, 53, 101, 54, 97, 48, 48, 102, 57, 55, 57, 48, 48, 98, 53, 55, 98, 48, 48, 97, 51, 55, 99, 48, 48, 101, 48, 57, 48, 48, 48, 53, 98, 97, 48, 48, 48, 54, 48, 97, 49, 48, 48, 97, 56, 98, 48, 48, 48, 97, 50, 98, 49, 48, 48, 50, 51, 98, 53, 48, 48, 53, 100, 98, 97, 48, 48, 97, 99, 98, 98, 48, 48, 55, 99, 98, 100, 48, 48, 55, 101, 99, 48, 48, 48, 101, 57, 100, 48, 48, 48, 101, 56, 100, 100, 48, 48, 97, 54, 101, 48, 48, 48, 101, 55]
def O500 : List Int := [52, 97, 48, 48, 53, 98, 52, 102, 48, 48, 50, 49, 53, 97, 48, 48, 53, 100, 53, 102, 48, 48, 53, 101, 98, 48, 48, 48, 97, 50, 98, 97, 48, 48, 97, 99, 98, 98, 48, 48, 55, 99]
def O1047 : List Int := [53, 102, 48, 48, 53, 101, 97, 100, 48, 48, 53, 98, 98, 48, 48, 48, 97, 99, 98, 97, 48, 48, 100, 100, 98, 98, 48, 48, 97, 56, 98, 100, 48, 48, 53, 100]
def O1140 : List Int := [57, 102, 50, 48, 97, 99]
theorem baseB_l : bl baseB = baseL := by decide +kernel
theorem zero_all : rd T37 0 = 0 ∧ rd T273 0 = 0 ∧ rd T297 0 = 0 ∧ rd T500 0 = 0 ∧ rd T1047 0 = 0 ∧ rd T1140 0 = 0 := by decide +kernel
theorem d37 : (List.range 256).map (dsg baseL O37) = T37 := by decide +kernel
theorem s37 : sgT 37 = T37 := by decide +kernel
theorem n37 : T37.Nodup := by decide +kernel
theorem d273 : (List.range 256).map (dsg baseL O273) = T273 := by decide +kernel
theorem s273 : sgT 273 = T273 := by decide +kernel
theorem n273 : T273.Nodup := by decide +kernel
theorem d297 : (List.range 256).map (dsg baseL O297) = T297 := by decide +kernel
theorem s297 : sgT 297 = T297 := by decide +kernel
theorem n297 : T297.Nodup := by decide +kernel
theorem d500 : (List.range 256).map (dsg baseL O500) = T500 := by decide +kernel
theorem s500 : sgT 500 = T500 := by decide +kernel
theorem n500 : T500.Nodup := by decide +kernel
theorem d1047 : (List.range 256).map (dsg baseL O1047) = T1047 := by decide +kernel
theorem s1047 : sgT 1047 = T1047 := by decide +kernel
theorem n1047 : T1047.Nodup := by decide +kernel
theorem d1140 : (List.range 256).map (dsg baseL O1140) = T1140 := by decide +kernel
theorem s1140 : sgT 1140 = T1140 := by decide +kernel
theorem n1140 : T1140.Nodup := by decide +kernel

theorem rsign_gen {n : Int} {o : ByteArray} {bo : Bool} (ho : m_vitrineref01_others n = some (o, bo)) (h1 : o.size % 6 = 0) (h2 : o.size < 1000) {c : Nat} (hc : c < 256) : m_vitrineref01_Sign n (c : Int) = some (dsg (bl baseB) (bl o) c) := by
  have hol := bl_len o
  have hle := tl_le (oP (bl o) (c : Int)) ((bl o).length / 6)
  have hb : baseB.size = 1024 := rfl
  have hw : w64 (c : Int) = (c : Int) := w64n (by omega)
  unfold m_vitrineref01_Sign
  simp only [ho, Option.bind_some]
  have w2 : ∀ i d : Nat, i < 100000 → d < 100 → w64 (((i : Nat) : Int) + (d : Int)) = ((i + d : Nat) : Int) := fun i d h1 h2 => w64n2 (by omega)
  have loop : vitrineref01_Sign_l3 (c : Int) (o, bo) fuel 0 = some (if tl (oP (bl o) (c : Int)) ((bl o).length / 6) < (bl o).length / 6 then .inr (IntKind.wrap .i32 (numL (((bl o).drop (6 * tl (oP (bl o) (c : Int)) ((bl o).length / 6) + 2)).take 4))) else .inl ()) := by
    generalize hj : tl (oP (bl o) (c : Int)) ((bl o).length / 6) = j at hle
    refine while_ok (fun i => ((6 * i : Nat) : Int)) j (by omega) (fun q i hi => ?_) (fun q => ?_)
    · have d1 : decide (((6 * i : Nat) : Int) < (o.size : Int)) = true := decide_eq_true (by omega)
      have hb : oP (bl o) (c : Int) i = true := tl_lt (n := (bl o).length / 6) (by omega)
      have hb' : (numL (((bl o).drop (6 * i)).take 2) == (c : Int)) = false := by unfold oP at hb; simpa using hb
      have e2 : w64 (((6 * i : Nat) : Int) + 2) = ((6 * i + 2 : Nat) : Int) := w2 (6 * i) 2 (by omega) (by omega)
      have e6 : w64 (((6 * i : Nat) : Int) + 6) = ((6 * (i + 1) : Nat) : Int) := by have := w2 (6 * i) 6 (by omega) (by omega); rw [show 6 * (i + 1) = 6 * i + 6 by omega]; exact this
      rw [vitrineref01_Sign_l3.eq_2]
      simp only [d1, cond_true, e2, e6, hw]
      rw [gd_pos (by omega), Int.toNat_natCast, Int.toNat_natCast, num_ex (by omega), show 6 * i + 2 - 6 * i = 2 by omega]
      simp only [Option.bind_some, hb', cond_false]
    · rw [vitrineref01_Sign_l3.eq_2]
      by_cases hjn : j < (bl o).length / 6
      · have d1 : decide (((6 * j : Nat) : Int) < (o.size : Int)) = true := decide_eq_true (by omega)
        have hb : oP (bl o) (c : Int) j = false := by rw [← hj]; exact tl_end (by omega)
        have hb' : (numL (((bl o).drop (6 * j)).take 2) == (c : Int)) = true := by unfold oP at hb; simpa using hb
        have e2 : w64 (((6 * j : Nat) : Int) + 2) = ((6 * j + 2 : Nat) : Int) := w2 (6 * j) 2 (by omega) (by omega)
        have e6 : w64 (((6 * j : Nat) : Int) + 6) = ((6 * j + 6 : Nat) : Int) := w2 (6 * j) 6 (by omega) (by omega)
        simp only [d1, cond_true, e2, e6, hw]
        rw [gd_pos (by omega), Int.toNat_natCast, Int.toNat_natCast, num_ex (by omega), show 6 * j + 2 - 6 * j = 2 by omega]
        simp only [Option.bind_some, hb', cond_true]
        rw [gd_pos (by omega), Int.toNat_natCast, num_ex (by omega), show 6 * j + 6 - (6 * j + 2) = 4 by omega, if_pos hjn]
        rfl
      · have d1 : decide (((6 * j : Nat) : Int) < (o.size : Int)) = false := decide_eq_false (by omega)
        simp only [d1, cond_false, if_neg hjn]
  rw [loop]
  unfold dsg
  by_cases hj : tl (oP (bl o) (c : Int)) ((bl o).length / 6) < (bl o).length / 6
  · rw [if_pos hj, if_pos hj]; rfl
  · rw [if_neg hj, if_neg hj]
    simp only [jn]
    have e4 : w64 (4 * (c : Int)) = ((4 * c : Nat) : Int) := by rw [w64_in (by omega) (by omega)]; omega
    have e8 : w64 (((4 * c : Nat) : Int) + 4) = ((4 * c + 4 : Nat) : Int) := w2 (4 * c) 4 (by omega) (by omega)
    rw [hw, e4, e8]
    change gd ((0 : Int) ≤ ((4 * c : Nat) : Int) ∧ ((4 * c : Nat) : Int) ≤ ((4 * c + 4 : Nat) : Int) ∧ ((4 * c + 4 : Nat) : Int) ≤ (baseB.size : Int)) ((m_vitrineref01_Num (baseB.extract _ _)).bind _) = _
    rw [gd_pos (by omega), Int.toNat_natCast, Int.toNat_natCast, num_ex (by omega), show 4 * c + 4 - 4 * c = 4 by omega]
    rfl
theorem rsign_tab {n : Int} {o : ByteArray} {bo : Bool} {O T : List Int} (ho : m_vitrineref01_others n = some (o, bo)) (h1 : o.size % 6 = 0) (h2 : o.size < 1000) (hO : bl o = O) (hT : (List.range 256).map (dsg baseL O) = T) {c : Nat} (hc : c < 256) : m_vitrineref01_Sign n (c : Int) = some (rd T (c : Int)) := by
  rw [rsign_gen ho h1 h2 hc, baseB_l, hO, ← hT]
  rw [rdn (by simpa using hc)]; simp
theorem r37 {c : Nat} (hc : c < 256) : m_vitrineref01_Sign 37 (c : Int) = some (rd T37 (c : Int)) := rsign_tab (o := _) rfl (by decide +kernel) (by decide +kernel) (by decide +kernel) d37 hc
theorem r273 {c : Nat} (hc : c < 256) : m_vitrineref01_Sign 273 (c : Int) = some (rd T273 (c : Int)) := rsign_tab (o := _) rfl (by decide +kernel) (by decide +kernel) (by decide +kernel) d273 hc
theorem r297 {c : Nat} (hc : c < 256) : m_vitrineref01_Sign 297 (c : Int) = some (rd T297 (c : Int)) := rsign_tab (o := _) rfl (by decide +kernel) (by decide +kernel) (by decide +kernel) d297 hc
theorem r500 {c : Nat} (hc : c < 256) : m_vitrineref01_Sign 500 (c : Int) = some (rd T500 (c : Int)) := rsign_tab (o := _) rfl (by decide +kernel) (by decide +kernel) (by decide +kernel) d500 hc
theorem r1047 {c : Nat} (hc : c < 256) : m_vitrineref01_Sign 1047 (c : Int) = some (rd T1047 (c : Int)) := rsign_tab (o := _) rfl (by decide +kernel) (by decide +kernel) (by decide +kernel) d1047 hc
theorem r1140 {c : Nat} (hc : c < 256) : m_vitrineref01_Sign 1140 (c : Int) = some (rd T1140 (c : Int)) := rsign_tab (o := _) rfl (by decide +kernel) (by decide +kernel) (by decide +kernel) d1140 hc
theorem tab_all {n : Int} (h : n ∈ pgs) : sgT n = tabS n ∧ (tabS n).length = 256 ∧ (tabS n).Nodup ∧ rd (tabS n) 0 = 0 ∧ ∀ c : Nat, c < 256 → m_vitrineref01_Sign n (c : Int) = some (rd (tabS n) (c : Int)) := by
  simp only [pgs, List.mem_cons, List.not_mem_nil, or_false] at h
  obtain ⟨z1, z2, z3, z4, z5, z6⟩ := zero_all
  rcases h with rfl | rfl | rfl | rfl | rfl | rfl
  · exact ⟨s37, rfl, n37, z1, fun c hc => r37 hc⟩
  · exact ⟨s273, rfl, n273, z2, fun c hc => r273 hc⟩
  · exact ⟨s297, rfl, n297, z3, fun c hc => r297 hc⟩
  · exact ⟨s500, rfl, n500, z4, fun c hc => r500 hc⟩
  · exact ⟨s1047, rfl, n1047, z5, fun c hc => r1047 hc⟩
  · exact ⟨s1140, rfl, n1140, z6, fun c hc => r1140 hc⟩
end Go.Vt
set_option linter.unusedVariables false
set_option linter.unusedSimpArgs false
set_option maxRecDepth 100000
namespace Go.Vt
theorem pg_ok {n : Int} (h : n ∈ pgs) : ∃ os, m_page_others n = some (os, true) := by
  simp only [pgs, List.mem_cons, List.not_mem_nil, or_false] at h
  rcases h with rfl | rfl | rfl | rfl | rfl | rfl <;> exact ⟨_, rfl⟩
/-- a code's sign -/
def sgI (n c : Int) : Int := rd (sgT n) c
theorem sgT_of {n : Int} {os : List Vpage_other} {b : Bool} (h : m_page_others n = some (os, b)) : sgT n = sgn os := by unfold sgT; rw [h]
theorem pg_len {n : Int} (h : n ∈ pgs) : (sgT n).length = 256 := by rw [(tab_all h).1]; exact (tab_all h).2.1
theorem psign {n : Int} (h : n ∈ pgs) {c : Int} (hc : By c) : m_page_Page_Sign ⟨n⟩ c = some (sgI n c) := by
  obtain ⟨os, ho⟩ := pg_ok h
  have hlen := pg_len h
  obtain ⟨c1, c2⟩ := hc
  have e := sgT_of ho
  unfold m_page_Page_Sign pgSign sgI
  simp only [ho]
  rw [gd_pos ⟨c1, c2⟩, ← e, rd_eq ⟨c1, by omega⟩]
theorem rsign {n : Int} (h : n ∈ pgs) {c : Int} (hc : By c) : m_vitrineref01_Sign n c = some (sgI n c) := by
  obtain ⟨c1, c2⟩ := hc
  obtain ⟨k, rfl⟩ : ∃ k : Nat, c = (k : Int) := ⟨c.toNat, by omega⟩
  unfold sgI
  rw [(tab_all h).1]
  exact (tab_all h).2.2.2.2 k (by omega)
theorem pg_nodup {n : Int} (h : n ∈ pgs) : (sgT n).Nodup := by rw [(tab_all h).1]; exact (tab_all h).2.2.1
/-- a sign's code; -1: it has none -/
def cdN (n z : Int) : Nat := tl (fun i => !(sgI n (i : Int) == z)) 256
def cdI (n z : Int) : Int := if cdN n z < 256 then (cdN n z : Int) else -1
theorem cdI_lt (n z : Int) : -1 ≤ cdI n z ∧ cdI n z < 256 := by unfold cdI; split <;> omega
theorem rcode {n : Int} (h : n ∈ pgs) (z : Int) : m_vitrineref01_Code n z = some (cdI n z) := by
  have hle : cdN n z ≤ 256 := tl_le _ _
  have hs : ∀ i : Nat, i < 256 → m_vitrineref01_Sign n (IntKind.wrap .u8 (i : Int)) = some (sgI n (i : Int)) := fun i hi => by rw [wrap8 ⟨by omega, by omega⟩]; exact rsign h ⟨by omega, by omega⟩
  unfold m_vitrineref01_Code cdI
  have loop : vitrineref01_Code_l2 n z fuel 0 = some (if cdN n z < 256 then .inr (cdN n z : Int) else .inl ()) := by
    refine while_ok (fun i => (i : Int)) (cdN n z) (by omega) (fun q i hi => ?_) (fun q => ?_)
    · have d1 : decide ((i : Int) < 256) = true := decide_eq_true (by omega)
      have hb : (!(sgI n (i : Int) == z)) = true := tl_lt (p := fun i : Nat => !(sgI n (i : Int) == z)) hi
      have hb' : (sgI n (i : Int) == z) = false := by simpa using hb
      rw [vitrineref01_Code_l2.eq_2]
      simp only [d1, cond_true, hs i (by omega), Option.bind_some, hb', cond_false, w64s (show i < 1000000 by omega)]
    · rw [vitrineref01_Code_l2.eq_2]
      by_cases hj : cdN n z < 256
      · have d1 : decide ((cdN n z : Int) < 256) = true := decide_eq_true (by omega)
        have hb : (!(sgI n (cdN n z : Int) == z)) = false := tl_end (p := fun i : Nat => !(sgI n (i : Int) == z)) hj
        have hb' : (sgI n (cdN n z : Int) == z) = true := by simpa using hb
        simp only [d1, cond_true, hs _ hj, Option.bind_some, hb', if_pos hj]
        rfl
      · have d1 : decide ((cdN n z : Int) < 256) = false := decide_eq_false (by omega)
        simp only [d1, cond_false, if_neg hj]
  rw [loop]
  by_cases hj : cdN n z < 256
  · rw [if_pos hj, if_pos hj]; rfl
  · rw [if_neg hj, if_neg hj]; rfl
theorem alGet_put : ∀ (l : List (Int × Value)) (k : Int) (v : Value) (z : Int), alGet (alSet l k v) z = if k = z then some v else alGet l z
  | [], k, v, z => rfl
  | p :: r, k, v, z => by
    simp only [alSet]
    by_cases h : p.1 = k
    · rw [if_pos h]; simp only [alGet]
      by_cases h2 : k = z
      · rw [if_pos h2, if_pos h2]
      · rw [if_neg h2, if_neg h2, if_neg (by rw [h]; exact h2)]
    · rw [if_neg h]; simp only [alGet]
      by_cases h2 : p.1 = z
      · rw [if_pos h2, if_pos h2, if_neg (fun e => h (h2.trans e.symm))]
      · rw [if_neg h2, if_neg h2]; exact alGet_put r k v z
theorem mp_none {z : Int} : ∀ (ss : List Int) (c : Nat) (m : List (Int × Value)), z ∉ ss → alGet (mp c ss m) z = alGet m z
  | [], _, _, _ => rfl
  | s :: ss, c, m, h => by
    rw [mp, mp_none ss (c + 1) _ (fun e => h (List.mem_cons_of_mem _ e)), alGet_put, if_neg fun e => h (by rw [e]; exact List.mem_cons_self)]
theorem mp_some {z : Int} : ∀ (ss : List Int) (c : Nat) (m : List (Int × Value)) (i : Nat), ss.Nodup → ss[i]? = some z → alGet (mp c ss m) z = some (.int .u8 (IntKind.wrap .u8 ((c + i : Nat) : Int)))
  | [], _, _, i, _, h => by simp at h
  | s :: ss, c, m, 0, hn, h => by
    have e : s = z := by simpa using h
    subst e
    rw [mp, mp_none ss (c + 1) _ (List.nodup_cons.1 hn).1, alGet_put, if_pos rfl]; rfl
  | s :: ss, c, m, i + 1, hn, h => by
    rw [mp, mp_some ss (c + 1) _ i (List.nodup_cons.1 hn).2 (by simpa using h), show c + 1 + i = c + (i + 1) by omega]
theorem pcode {n : Int} (h : n ∈ pgs) (z : Int) : m_page_Page_Code ⟨n⟩ z = some (if cdI n z < 0 then (0, false) else (cdI n z, true)) := by
  obtain ⟨os, ho⟩ := pg_ok h
  have hlen := pg_len h
  have e := sgT_of ho
  have hle : cdN n z ≤ 256 := tl_le _ _
  unfold m_page_Page_Code pgCode
  simp only [ho]
  rw [← e]
  by_cases hj : cdN n z < 256
  · have hb : (!(sgI n (cdN n z : Int) == z)) = false := tl_end (p := fun i : Nat => !(sgI n (i : Int) == z)) hj
    have hb' : sgI n (cdN n z : Int) = z := by simpa using hb
    have hlt : cdN n z < (sgT n).length := by omega
    have hg : (sgT n)[cdN n z]? = some z := by
      have h9 := List.getElem?_eq_getElem hlt
      unfold sgI at hb'
      rw [rdn hlt] at hb'
      rw [h9, hb']
    rw [mp_some (sgT n) 0 [] (cdN n z) (pg_nodup h) hg, Nat.zero_add, wrap8 ⟨by omega, by omega⟩]
    unfold cdI
    rw [if_pos hj, if_neg (by omega)]
  · have hz : z ∉ sgT n := fun hm => by
      obtain ⟨i, hi, hv⟩ := List.getElem_of_mem hm
      have : (!(sgI n (i : Int) == z)) = true := tl_lt (p := fun i : Nat => !(sgI n (i : Int) == z)) (n := 256) (by unfold cdN at hj hle; omega)
      unfold sgI at this
      rw [rdn (by omega), hv] at this
      simp at this
    rw [mp_none _ _ _ hz]
    unfold cdI
    rw [if_neg hj, if_pos (by omega)]; rfl
/-! ### what a code may be used for -/
def dataB (c : Int) : Bool := decide (c ≥ 64) && decide (c < 255)
theorem pdata (c : Int) : m_class_Data c = some (dataB c) := by
  unfold m_class_Data dataB; cases decide (c ≥ 64) <;> rfl
def numB (n c : Int) : Bool := (c == 28) || (dataB c && ((decide (sgI n c ≥ 48) && decide (sgI n c ≤ 57)) || ((sgI n c == 46) || (sgI n c == 45))))
theorem pnum {n : Int} (h : n ∈ pgs) {c : Int} (hc : By c) : m_class_Numeric ⟨n⟩ c = some (numB n c) := by
  unfold m_class_Numeric m_class_sign numB
  simp only [psign h hc, pdata, Option.bind_some]
  cases (c == 28) <;> cases dataB c <;> cases decide (sgI n c ≥ 48) <;> cases decide (sgI n c ≤ 57) <;> cases (sgI n c == 46) <;> rfl
def desI (n c : Int) : Int := if c = 0 then 3 else if sgI n c = 63 then 1 else if sgI n c = 62 then 2 else if sgI n c = 32 then 3 else if sgI n c = 38 then 4 else 0
theorem pdes {n : Int} (h : n ∈ pgs) {c : Int} (hc : By c) : m_class_Designator ⟨n⟩ c = some (desI n c) := by
  unfold m_class_Designator m_class_sign desI
  simp only [psign h hc, Option.bind_some, Bool.cond_eq_ite, beq_iff_eq]
  repeat' split
  all_goals first | rfl | contradiction
end Go.Vt
set_option linter.unusedVariables false
set_option linter.unusedSimpArgs false
set_option maxRecDepth 100000
namespace Go.Vt
/-- behind a character was entered -/
def afterI (L : List Vapi_Cell) (k : Nat) : Int :=
  if isA' L ((k + 1) % L.length) then
    (if (fld (rd L (((k + 1) % L.length : Nat) : Int)).FA).Protected && (fld (rd L (((k + 1) % L.length : Nat) : Int)).FA).Numeric then tabI L ((k + 1) % L.length) else ((((k + 1) % L.length + 1) % L.length : Nat) : Int))
  else (((k + 1) % L.length : Nat) : Int)
theorem afterI_lt {L : List Vapi_Cell} {N : Nat} (hl : L.length = N) (hN : 0 < N) (k : Nat) : 0 ≤ afterI L k ∧ afterI L k < N := by
  have h1 := Nat.mod_lt (k + 1) (show 0 < L.length by omega)
  have h2 := Nat.mod_lt ((k + 1) % L.length + 1) (show 0 < L.length by omega)
  unfold afterI
  split
  · split
    · exact tabI_lt hl hN
    · omega
  · omega
theorem pcmove {m : Int} {N : Nat} {s : Vspace_Space} (h : SS m N s) {rn cn : Nat} (hr : s.size.Rows = (rn : Int)) (hc : s.size.Cols = (cn : Int)) (hN : N = rn * cn) {k : Nat} (hk : s.cursor = (k : Int)) (hkN : k < N) {dr dc : Int} {dr' dc' : Nat} (hdr : dr % (rn : Int) = (dr' : Int)) (hdc : dc % (N : Int) = (dc' : Int)) : m_cursor_Move s dr dc = some (pC s ((mvI rn cn k dr' dc' : Nat) : Int)) := by
  have hb := dim_b h.dim.dim hr hc hN
  unfold m_cursor_Move m_space_Space_Size m_space_Space_Cursor
  simp only [Option.bind_some, hk, pmove h.dim.dim hr hc hN (nat_emod hkN) hdr hdc]
  have hlt : mvI rn cn k dr' dc' < N := by rw [hN]; exact mvI_lt (by omega) (by omega)
  have := pplace h (p := ((mvI rn cn k dr' dc' : Nat) : Int)) (by omega) (by omega)
  have e : (⟨s.model, s.alternate, s.size, s.cells, (k : Int), s.attrs⟩ : Vspace_Space) = s := by rw [← hk]
  simp only [e, this, Option.bind_some]
theorem pafter {m : Int} {N : Nat} {s : Vspace_Space} (h : SS m N s) {rn cn : Nat} (hr : s.size.Rows = (rn : Int)) (hc : s.size.Cols = (cn : Int)) (hN : N = rn * cn) {k : Nat} (hk : s.cursor = (k : Int)) (hkN : k < N) : m_cursor_After s = some (pC s (afterI s.cells k)) := by
  have hl := h.len
  have hle := h.dim.dim.le
  have hb := dim_b h.dim.dim hr hc hN
  have e0 : (0 : Int) % (rn : Int) = ((0 : Nat) : Int) := Int.zero_emod _
  have e1 : (1 : Int) % (N : Int) = ((1 : Nat) : Int) := nat_emod (k := 1) (by omega)
  have mv : ∀ q, q < N → mvI rn cn q 0 1 = (q + 1) % N := fun q hq => by rw [mv_on (by omega) (by omega), ← hN]
  have hp : (k + 1) % N < N := Nat.mod_lt _ (by omega)
  have hS := h.c (p := (((k + 1) % N : Nat) : Int)) (by omega) (by omega)
  unfold m_cursor_After afterI
  simp only [pcmove h hr hc hN hk hkN e0 e1, mv k hkN, Option.bind_some, m_space_Space_Cursor, hl]
  change ((m_space_Space_At (pC s (((k + 1) % N : Nat) : Int)) (((k + 1) % N : Nat) : Int)).bind _) = _
  simp only [ss_at hS, nat_emod hp, Option.bind_some]
  have hA : (rd (pC s (((k + 1) % N : Nat) : Int)).cells (((k + 1) % N : Nat) : Int)).Attr = isA' s.cells ((k + 1) % N) := rfl
  rw [hA]
  cases isA' s.cells ((k + 1) % N) with
  | false => simp only [Bool.not_false, cond_true, Option.bind_some, Bool.false_eq_true, if_false]
  | true =>
    simp only [Bool.not_true, cond_false, pof, Option.bind_some, m_attr_Field_Skipped, if_true]
    have hF : (rd (pC s (((k + 1) % N : Nat) : Int)).cells (((k + 1) % N : Nat) : Int)).FA = (rd s.cells (((k + 1) % N : Nat) : Int)).FA := rfl
    rw [hF]
    have ht := ptab hS (k := (k + 1) % N) rfl hp
    have hm := pcmove hS hr hc hN (k := (k + 1) % N) rfl hp e0 e1
    rw [mv _ hp] at hm
    cases (fld (rd s.cells (((k + 1) % N : Nat) : Int)).FA).Protected <;> cases (fld (rd s.cells (((k + 1) % N : Nat) : Int)).FA).Numeric
    · simp only [cond_false, Option.bind_some, hm, Bool.and_false, Bool.false_eq_true, if_false]; rfl
    · simp only [cond_false, Option.bind_some, hm, Bool.and_true, Bool.false_eq_true, if_false]; rfl
    · simp only [cond_true, cond_false, Option.bind_some, hm, Bool.and_false, Bool.false_eq_true, if_false]; rfl
    · simp only [cond_true, Option.bind_some, ht, Bool.and_true, if_true]; rfl
theorem pline {m : Int} {N : Nat} {s : Vspace_Space} (h : SS m N s) {rn cn : Nat} (hr : s.size.Rows = (rn : Int)) (hc : s.size.Cols = (cn : Int)) (hN : N = rn * cn) {k : Nat} (hk : s.cursor = (k : Int)) (hkN : k < N) : m_cursor_NewLine s = some (pC s (firstI s.cells (atI rn cn (k / cn + 1) 0))) := by
  have hl := h.len
  have hle := h.dim.dim.le
  have hb := dim_b h.dim.dim hr hc hN
  have hq : k / cn < rn := by rw [Nat.div_lt_iff_lt_mul (by omega), ← hN]; exact hkN
  have hat : atI rn cn (k / cn + 1) 0 < N := by rw [hN]; exact atI_lt (by omega) (by omega)
  have hw : w64 (((k / cn : Nat) : Int) + 1) = ((k / cn + 1 : Nat) : Int) := w64n2 (b := 1) (by omega)
  have hline : m_addr_Size_Line ⟨s.size.Rows, s.size.Cols⟩ (k : Int) = some ((atI rn cn (k / cn + 1) 0 : Nat) : Int) := by
    unfold m_addr_Size_Line
    simp only [prowc h.dim.dim hr hc hN (nat_emod hkN), Option.bind_some, hw]
    rw [patc h.dim.dim hr hc hN (a' := (k / cn + 1) % rn) (b' := 0) (by rw [Int.natCast_emod]) (Int.zero_emod _)]
    simp only [Option.bind_some]
    unfold atI
    rw [Nat.mod_mod]
  have hf := firstI_lt (L := s.cells) (N := N) (k := atI rn cn (k / cn + 1) 0) hl hat
  unfold m_cursor_NewLine m_space_Space_Size m_space_Space_Cursor
  simp only [Option.bind_some, hk, hline, pfirstc h (nat_emod hat) hat, pplace h hf.1 hf.2]
theorem phome {m : Int} {N : Nat} {s : Vspace_Space} (h : SS m N s) {rn cn : Nat} (hr : s.size.Rows = (rn : Int)) (hc : s.size.Cols = (cn : Int)) (hN : N = rn * cn) : m_cursor_Home s = some (pC s (firstI s.cells 0)) := by
  have hl := h.len
  have hle := h.dim.dim.le
  have hf := firstI_lt (L := s.cells) (N := N) (k := 0) hl (by omega)
  unfold m_cursor_Home
  simp only [pfirstc h (n := 0) (k := 0) (Int.zero_emod _) (by omega), Option.bind_some, pplace h hf.1 hf.2]
end Go.Vt
set_option linter.unusedVariables false
set_option linter.unusedSimpArgs false
set_option maxRecDepth 100000
namespace Go.Vt
def blank (c : Vapi_Cell) : Vapi_Cell := { c with Char := 0 }
theorem ss_put0 {m : Int} {N : Nat} {s : Vspace_Space} (h : SS m N s) {j : Nat} (hj : j < N) :
    ∃ s', m_space_Space_Put s (j : Int) 0 = some s' ∧ SS m N s' ∧ s'.alternate = s.alternate ∧ s'.size = s.size ∧ s'.cursor = s.cursor ∧ ∀ q, q < N → rd s'.cells (q : Int) = if q = j ∧ (rd s.cells (j : Int)).Attr = false then blank (rd s.cells (q : Int)) else rd s.cells (q : Int) := by
  have hd := h.dim.dim.le
  have hl := h.len
  have hjm : (j : Int) % (N : Int) = (j : Int) := Int.emod_eq_of_lt (by omega) (by omega)
  have hjl : j < s.cells.length := by omega
  unfold m_space_Space_Put
  simp only [ss_wrap h, hjm, Option.bind_some]
  rw [gd_pos (by omega)]
  cases ha : (rd s.cells (j : Int)).Attr with
  | true =>
    simp only [Bool.not_true, cond_false]
    exact ⟨s, rfl, h, rfl, rfl, rfl, fun q hq => by rw [if_neg (by simp)]⟩
  | false =>
    simp only [Bool.not_false, cond_true]
    have hok := h.ok _ (List.getElem_mem hjl)
    rw [rdn hjl] at ha ⊢
    have hcn : cnt (s.cells.set j ⟨0, false, s.cells[j].FA, s.cells[j].High, s.cells[j].Color, s.cells[j].f_Set⟩) = cnt s.cells := by
      rw [cnt_set _ _ _ hjl]; unfold c1; simp [ha]
    refine ⟨_, rfl, ⟨h.model, h.dim, by simp [hl], fun d hd' => ?_, h.cur, ?_⟩, rfl, rfl, rfl, fun q hq => ?_⟩
    · rw [Int.toNat_natCast] at hd'
      rcases List.mem_or_eq_of_mem_set hd' with h1 | h1
      · exact h.ok d h1
      · subst h1
        exact ⟨by0, hok.fa, hok.high, hok.color, hok.set, (fun h2 => by cases h2), fun _ => hok.plain ha⟩
    · simp only [Int.toNat_natCast]; rw [hcn]; exact h.attrs
    · rw [rdn (by simp; omega), rdn (by omega)]
      simp only [Int.toNat_natCast, List.getElem_set]
      by_cases hqj : j = q
      · subst hqj; simp [blank, ha]
      · rw [if_neg hqj, if_neg (by omega)]
theorem ss_atn {m : Int} {N : Nat} {s : Vspace_Space} (h : SS m N s) {n : Nat} (hn : n < N) : m_space_Space_At s (n : Int) = some (rd s.cells (n : Int)) := by
  rw [ss_at h, Int.emod_eq_of_lt (by omega) (by omega)]
abbrev t7 (s : Vspace_Space) : T7 := (s.model, s.alternate, s.size.Rows, s.size.Cols, s.cells, s.cursor, s.attrs)
/-- all cells blank, where none is an attribute -/
theorem erase_all_ok {m : Int} {N : Nat} {s : Vspace_Space} (h : SS m N s) : ∃ s', m_erase_all s = some s' ∧ SS m N s' ∧ s'.alternate = s.alternate ∧ s'.size = s.size ∧ s'.cursor = s.cursor ∧ ∀ q, q < N → rd s'.cells (q : Int) = if (rd s.cells (q : Int)).Attr = false then blank (rd s.cells (q : Int)) else rd s.cells (q : Int) := by
  have hd := h.dim.dim.le
  unfold m_erase_all m_space_Space_Size
  simp only [Option.bind_some, sz_cells h]
  have key := loop_rel0 (L := erase_all_l4 (N : Int)) (n := N) (s := t7 s)
    (fun i y => ∃ u : Vspace_Space, SS m N u ∧ y = t7 u ∧ u.alternate = s.alternate ∧ u.size = s.size ∧ u.cursor = s.cursor ∧ ∀ q, q < N → rd u.cells (q : Int) = if q < i ∧ (rd s.cells (q : Int)).Attr = false then blank (rd s.cells (q : Int)) else rd s.cells (q : Int))
    (fun r => ∃ u : Vspace_Space, SS m N u ∧ r = t7 u ∧ u.alternate = s.alternate ∧ u.size = s.size ∧ u.cursor = s.cursor ∧ ∀ q, q < N → rd u.cells (q : Int) = if (rd s.cells (q : Int)).Attr = false then blank (rd s.cells (q : Int)) else rd s.cells (q : Int)) (by omega) ?_ ?_ ?_
  · obtain ⟨r, h1, u, h2, rfl, h3⟩ := key
    rw [h1]
    exact ⟨u, rfl, h2, h3⟩
  · rintro k i y hi ⟨u, hu, rfl, e1, e2, e3, e4⟩
    have d1 : decide ((i : Int) < (N : Int)) = true := decide_eq_true (by omega)
    obtain ⟨u', g1, g2, g3, g4, g5, g6⟩ := ss_put0 hu hi
    rw [erase_all_l4.eq_2]
    simp only [d1, cond_true, se, g1, Option.bind_some, w64_succ (show i < 9223372036854775807 by omega)]
    refine ⟨_, rfl, u', g2, rfl, g3.trans e1, g4.trans e2, g5.trans e3, fun q hq => ?_⟩
    rw [g6 q hq, e4 q hq, e4 i hi, if_neg (show ¬ (i < i ∧ (rd s.cells (i : Int)).Attr = false) by omega)]
    by_cases hqi : q = i
    · subst hqi
      by_cases ha : (rd s.cells (q : Int)).Attr = false
      · rw [if_pos ⟨rfl, ha⟩, if_neg (by omega), if_pos ⟨by omega, ha⟩]
      · rw [if_neg (fun h => ha h.2), if_neg (fun h => ha h.2), if_neg (fun h => ha h.2)]
    · rw [if_neg (fun h => hqi h.1)]
      by_cases ha : (rd s.cells (q : Int)).Attr = false
      · by_cases hq2 : q < i
        · rw [if_pos ⟨hq2, ha⟩, if_pos ⟨by omega, ha⟩]
        · rw [if_neg (fun h => hq2 h.1), if_neg (fun h => hq2 (by omega))]
      · rw [if_neg (fun h => ha h.2), if_neg (fun h => ha h.2)]
  · rintro k y ⟨u, hu, rfl, e1, e2, e3, e4⟩
    have d1 : decide ((N : Int) < (N : Int)) = false := decide_eq_false (by omega)
    rw [erase_all_l4.eq_2]
    simp only [d1, cond_false]
    refine ⟨_, rfl, u, hu, rfl, e1, e2, e3, fun q hq => ?_⟩
    rw [e4 q hq]
    simp [hq]
  · exact ⟨s, h, rfl, rfl, rfl, rfl, fun q hq => by simp⟩
/-- the i places behind place a are blank -/
structure RunSt (m : Int) (N : Nat) (s : Vspace_Space) (a i : Nat) (u : Vspace_Space) : Prop where
  ss : SS m N u
  alt : u.alternate = s.alternate
  sz : u.size = s.size
  cur : u.cursor = s.cursor
  na : ∀ t, 1 ≤ t → t ≤ i → (rd s.cells (((a + t) % N : Nat) : Int)).Attr = false
  inn : ∀ q, q < N → (∃ t, 1 ≤ t ∧ t ≤ i ∧ q = (a + t) % N) → rd u.cells (q : Int) = blank (rd s.cells (q : Int))
  out : ∀ q, q < N → (¬ ∃ t, 1 ≤ t ∧ t ≤ i ∧ q = (a + t) % N) → rd u.cells (q : Int) = rd s.cells (q : Int)
theorem RunSt.attr {m : Int} {N : Nat} {s u : Vspace_Space} {a i : Nat} (h : RunSt m N s a i u) {q : Nat} (hq : q < N) : (rd u.cells (q : Int)).Attr = (rd s.cells (q : Int)).Attr := by
  by_cases he : ∃ t, 1 ≤ t ∧ t ≤ i ∧ q = (a + t) % N
  · rw [h.inn q hq he]; rfl
  · rw [h.out q hq he]
/-- the places of one field blank -/
theorem erase_run {m : Int} {N : Nat} {s : Vspace_Space} (h : SS m N s) {a : Nat} (ha : a < N) (hat : (rd s.cells (a : Int)).Attr = true) :
    ∃ i u, i + 1 ≤ N ∧ erase_Unprotected_l42 ⟨s.size.Rows, s.size.Cols⟩ fuel ((((a + 1) % N : Nat) : Int), t7 s) = some (t7 u) ∧ RunSt m N s a i u ∧ (rd s.cells (((a + (i + 1)) % N : Nat) : Int)).Attr = true := by
  have hd := h.dim.dim.le
  have loop : ∀ (d i k : Nat) (u : Vspace_Space), i + 1 + d = N → d < k → RunSt m N s a i u →
      ∃ j v, j + 1 ≤ N ∧ erase_Unprotected_l42 ⟨s.size.Rows, s.size.Cols⟩ k ((((a + (i + 1)) % N : Nat) : Int), t7 u) = some (t7 v) ∧ RunSt m N s a j v ∧ (rd s.cells (((a + (j + 1)) % N : Nat) : Int)).Attr = true := by
    intro d
    induction d with
    | zero =>
      intro i k u e hk hu
      obtain ⟨k, rfl⟩ : ∃ j, k = j + 1 := ⟨k - 1, by omega⟩
      have hp : (a + (i + 1)) % N = a := by rw [show a + (i + 1) = a + N by omega, Nat.add_mod_right, Nat.mod_eq_of_lt ha]
      rw [erase_Unprotected_l42.eq_2]
      have h1 : (rd u.cells (((a + (i + 1)) % N : Nat) : Int)).Attr = true := by rw [hu.attr (Nat.mod_lt _ (by omega)), hp]; exact hat
      simp only [se, ss_atn hu.ss (Nat.mod_lt (a + (i + 1)) (show 0 < N by omega)), Option.bind_some, h1, Bool.not_true, cond_false]
      exact ⟨i, u, by omega, rfl, hu, by rw [hp]; exact hat⟩
    | succ d ih =>
      intro i k u e hk hu
      obtain ⟨k, rfl⟩ : ∃ j, k = j + 1 := ⟨k - 1, by omega⟩
      have hpl : (a + (i + 1)) % N < N := Nat.mod_lt _ (by omega)
      rw [erase_Unprotected_l42.eq_2]
      cases h1 : (rd s.cells (((a + (i + 1)) % N : Nat) : Int)).Attr with
      | true =>
        have h2 : (rd u.cells (((a + (i + 1)) % N : Nat) : Int)).Attr = true := by rw [hu.attr hpl]; exact h1
        simp only [se, ss_atn hu.ss hpl, Option.bind_some, h2, Bool.not_true, cond_false]
        exact ⟨i, u, by omega, rfl, hu, h1⟩
      | false =>
        have h2 : (rd u.cells (((a + (i + 1)) % N : Nat) : Int)).Attr = false := by rw [hu.attr hpl]; exact h1
        obtain ⟨v, g1, g2, g3, g4, g5, g6⟩ := ss_put0 hu.ss hpl
        have hw : w64 ((((a + (i + 1)) % N : Nat) : Int) + 1) = (((a + (i + 1)) % N + 1 : Nat) : Int) := by rw [w64_in (by omega) (by omega)]; omega
        have hm : (((a + (i + 1)) % N + 1 : Nat) : Int) % (N : Int) = (((a + (i + 1 + 1)) % N : Nat) : Int) := by
          rw [← Int.natCast_emod, Nat.mod_add_mod]; rfl
        simp only [se, ss_atn hu.ss hpl, Option.bind_some, h2, Bool.not_false, cond_true, g1, hw, sz_wrap h, hm]
        refine ih (i + 1) k v (by omega) (by omega) ⟨g2, g3.trans hu.alt, g4.trans hu.sz, g5.trans hu.cur, fun t h3 h4 => ?_, fun q hq hx => ?_, fun q hq hx => ?_⟩
        · by_cases ht : t = i + 1
          · subst ht; exact h1
          · exact hu.na t h3 (by omega)
        · rw [g6 q hq]
          obtain ⟨t, h3, h4, h5⟩ := hx
          by_cases ht : t = i + 1
          · subst ht
            rw [if_pos ⟨h5, h2⟩]
            by_cases he : ∃ t, 1 ≤ t ∧ t ≤ i ∧ q = (a + t) % N
            · rw [hu.inn q hq he]; rfl
            · rw [hu.out q hq he]
          · have he : ∃ t, 1 ≤ t ∧ t ≤ i ∧ q = (a + t) % N := ⟨t, h3, by omega, h5⟩
            rw [hu.inn q hq he]
            split <;> rfl
        · rw [g6 q hq]
          have h3 : ¬ (q = (a + (i + 1)) % N ∧ (rd u.cells (((a + (i + 1)) % N : Nat) : Int)).Attr = false) := fun h3 => hx ⟨i + 1, by omega, by omega, h3.1⟩
          rw [if_neg h3]
          exact hu.out q hq fun ⟨t, h4, h5, h6⟩ => hx ⟨t, h4, by omega, h6⟩
  have := loop (N - 1) 0 fuel s (by omega) (by unfold fuel; omega) ⟨h, rfl, rfl, rfl, fun t h1 h2 => by omega, fun q hq ⟨t, h1, h2, _⟩ => by omega, fun q hq _ => rfl⟩
  exact this
def demod (c : Vapi_Cell) : Vapi_Cell := ⟨c.Char, c.Attr, ibandn .u8 c.FA 1, c.High, c.Color, c.f_Set⟩
/-- what an erase leaves of place q -/
def er (L : List Vapi_Cell) (l0 : Int) (q : Nat) : Vapi_Cell :=
  let c := rd L (q : Int)
  if iband .u8 (rd L (stF L l0 q)).FA 32 = 0 then (if c.Attr then demod c else blank c) else c
theorem er_attr (L : List Vapi_Cell) (l0 : Int) (q : Nat) : (er L l0 q).Attr = (rd L (q : Int)).Attr := by
  unfold er blank demod; simp only; split
  · split
    · rfl
    · rfl
  · rfl
theorem band1 : ∀ f : Fin 256, By (ibandn .u8 (f.val : Int) 1) ∧ iband .u8 (ibandn .u8 (iband .u8 (f.val : Int) 61) 1) 61 = ibandn .u8 (iband .u8 (f.val : Int) 61) 1 ∧ ibandn .u8 (f.val : Int) 1 = iband .u8 (f.val : Int) 254 := by decide +kernel
structure ErSt (m : Int) (N : Nat) (s : Vspace_Space) (l0 : Int) (a : Nat) (u : Vspace_Space) : Prop where
  ss : SS m N u
  alt : u.alternate = s.alternate
  sz : u.size = s.size
  cur : u.cursor = s.cursor
  get : ∀ q, q < N → rd u.cells (q : Int) = if stF s.cells l0 q < (a : Int) then er s.cells l0 q else rd s.cells (q : Int)
theorem ErSt.attr {m : Int} {N : Nat} {s : Vspace_Space} {l0 : Int} {a : Nat} {u : Vspace_Space} (h : ErSt m N s l0 a u) {q : Nat} (hq : q < N) : (rd u.cells (q : Int)).Attr = (rd s.cells (q : Int)).Attr := by
  rw [h.get q hq]; split
  · exact er_attr _ _ _
  · rfl
theorem er_step {m : Int} {N : Nat} {s : Vspace_Space} (h : SS m N s) {l0 : Int} (hc : l0 = stF s.cells l0 (N - 1)) (hn : ∃ b, b < N ∧ isA' s.cells b = true) {a : Nat} (ha : a < N) {u : Vspace_Space} (hu : ErSt m N s l0 a u) (k : Nat) :
    ∃ v, erase_Unprotected_l20 (N : Int) (k + 1) ((a : Int), t7 u) = erase_Unprotected_l20 (N : Int) k (((a + 1 : Nat) : Int), t7 v) ∧ ErSt m N s l0 (a + 1) v := by
  have hd := h.dim.dim.le
  have hl := h.len
  have hul := hu.ss.len
  have d1 : decide ((a : Int) < (N : Int)) = true := decide_eq_true (by omega)
  have hA := hu.attr ha
  rw [erase_Unprotected_l20.eq_2]
  cases hat : (rd s.cells (a : Int)).Attr with
  | false =>
    rw [hat] at hA
    simp only [d1, cond_true, se, ss_atn hu.ss ha, Option.bind_some, hA, cond_false, w64_succ (show a < 9223372036854775807 by omega)]
    refine ⟨u, rfl, hu.ss, hu.alt, hu.sz, hu.cur, fun q hq => ?_⟩
    rw [hu.get q hq]
    obtain ⟨b, h1, h2, h3⟩ := stF_at hc hn q hq
    have hb : b ≠ a := by
      intro e; subst e
      unfold isA' at h3; rw [hat] at h3; cases h3
    rw [h1]
    by_cases h4 : b < a
    · rw [if_pos (by omega), if_pos (by omega)]
    · rw [if_neg (by omega), if_neg (by omega)]
  | true =>
    have hisA : isA' s.cells a = true := hat
    have hsa : stF s.cells l0 a = (a : Int) := stF_attr hisA
    have hua : rd u.cells (a : Int) = rd s.cells (a : Int) := by rw [hu.get a ha, hsa, if_neg (by omega)]
    have hap : (a : Int) % (N : Int) = (a : Int) := Int.emod_eq_of_lt (by omega) (by omega)
    have hw1 : w64 ((a : Int) + 1) = ((a + 1 : Nat) : Int) := w64_succ (by omega)
    have hm1 : ((a + 1 : Nat) : Int) % (N : Int) = (((a + 1) % N : Nat) : Int) := rfl
    have hok : COk (rd s.cells (a : Int)) := h.ok _ (rd_mem (by omega))
    rw [hat] at hA
    by_cases hp : iband .u8 (rd s.cells (a : Int)).FA 32 = 0
    · have hp' : (iband .u8 (rd s.cells (a : Int)).FA 32 != 0) = false := bne_f hp
      obtain ⟨i, w, hi, g1, g2, g3⟩ := erase_run hu.ss ha hA
      have hwa : rd w.cells (a : Int) = rd s.cells (a : Int) := by
        rw [g2.out a ha, hua]
        rintro ⟨t, h1, h2, h3⟩
        by_cases h4 : a + t < N
        · rw [Nat.mod_eq_of_lt h4] at h3; omega
        · rw [Nat.mod_eq_sub_mod (by omega), Nat.mod_eq_of_lt (by omega)] at h3; omega
      obtain ⟨f, hf⟩ := hok.fa.fin
      obtain ⟨b1, b2, b3⟩ := band1 f
      rw [hf] at b1 b2
      obtain ⟨c1', c2'⟩ := hok.attr hat
      have hcb : CB (demod (rd s.cells (a : Int))) := ⟨hok.char, b1, hok.high, hok.color, hok.set⟩
      obtain ⟨k1, k2⟩ := ss_set g2.ss (a : Int) hcb
      have hfit : Vt.fit (demod (rd s.cells (a : Int))) = demod (rd s.cells (a : Int)) := by
        unfold Vt.fit demod
        simp only [hat, if_true]
        rw [c2'] at b2
        rw [b2, c1']
      rw [hfit, hap, Int.toNat_natCast] at k1 k2
      have e1 : (⟨(rd s.cells (a : Int)).Char, true, ibandn .u8 (rd s.cells (a : Int)).FA 1, (rd s.cells (a : Int)).High, (rd s.cells (a : Int)).Color, (rd s.cells (a : Int)).f_Set⟩ : Vapi_Cell) = demod (rd s.cells (a : Int)) := by unfold demod; rw [hat]
      have hu42 : erase_Unprotected_l42 ⟨u.size.Rows, u.size.Cols⟩ fuel ((((a + 1) % N : Nat) : Int), u.model, u.alternate, u.size.Rows, u.size.Cols, u.cells, u.cursor, u.attrs) = some (t7 w) := g1
      have hsAttr : (rd s.cells (a : Int)).Attr = true := hat
      simp only [d1, cond_true, se, ss_atn hu.ss ha, Option.bind_some, hua, hat, m_attr_Of, hp', cond_false, m_field_Places, m_space_Space_Size, sz_wrap hu.ss, hap, Bool.not_true, hw1, hm1, hu42, ss_atn g2.ss ha, hwa, e1, k1]
      refine ⟨_, rfl, k2, g2.alt.trans hu.alt, g2.sz.trans hu.sz, g2.cur.trans hu.cur, fun q hq => ?_⟩
      have hwl := g2.ss.len
      simp only
      rw [rdn (by simp; omega)]
      simp only [List.getElem_set]
      have er_free : ∀ q, stF s.cells l0 q = (a : Int) → er s.cells l0 q = if (rd s.cells (q : Int)).Attr then demod (rd s.cells (q : Int)) else blank (rd s.cells (q : Int)) := fun q e => by
        unfold er; simp only [e, hp, if_true]
      by_cases hqa : a = q
      · subst hqa
        rw [if_pos rfl, hsa, if_pos (by omega), er_free a hsa, hat]; simp
      · rw [if_neg hqa]
        have hrdw : w.cells[q]'(by omega) = rd w.cells (q : Int) := (rdn (by omega)).symm
        rw [hrdw]
        have na' : ∀ t, 1 ≤ t → t ≤ i → isA' s.cells ((a + t) % N) = false := fun t h1 h2 => by
          have := g2.na t h1 h2
          rw [hu.attr (Nat.mod_lt _ (by omega))] at this; exact this
        by_cases he : ∃ t, 1 ≤ t ∧ t ≤ i ∧ q = (a + t) % N
        · rw [g2.inn q hq he]
          obtain ⟨t, h1, h2, h3⟩ := he
          have hst : stF s.cells l0 q = (a : Int) := by rw [h3]; exact stF_fwd hc ha hisA t fun t' h4 h5 => na' t' h4 (by omega)
          have hnq : (rd s.cells (q : Int)).Attr = false := by have := na' t h1 h2; rw [← h3] at this; exact this
          rw [hst, if_pos (by omega), er_free q hst, hnq, hu.get q hq, hst, if_neg (by omega)]; simp
        · rw [g2.out q hq he, hu.get q hq]
          have hq1 : q = (a + (q + N - a) % N) % N := by
            rw [Nat.add_mod_mod, show a + (q + N - a) = q + N by omega, Nat.add_mod_right, Nat.mod_eq_of_lt hq]
          have hdl : (q + N - a) % N < N := Nat.mod_lt _ (by omega)
          have hd0 : (q + N - a) % N ≠ 0 := by
            intro e; rw [e, Nat.add_zero, Nat.mod_eq_of_lt ha] at hq1; exact hqa hq1.symm
          have hdi : ¬ (q + N - a) % N ≤ i := fun e => he ⟨_, by omega, e, hq1⟩
          have hend : isA' s.cells ((a + (i + 1)) % N) = true := by
            have := g3
            rw [hu.attr (Nat.mod_lt _ (by omega))] at this; exact this
          have hne := stF_past hc ha (show 1 ≤ i + 1 by omega) hend ((q + N - a) % N - (i + 1)) (by omega)
          rw [show i + 1 + ((q + N - a) % N - (i + 1)) = (q + N - a) % N by omega, ← hq1] at hne
          obtain ⟨b, h1, h2, h3⟩ := stF_at hc hn q hq
          rw [h1] at hne ⊢
          by_cases h4 : b < a
          · rw [if_pos (by omega), if_pos (by omega)]
          · rw [if_neg (by omega), if_neg (by omega)]
    · have hp' : (iband .u8 (rd s.cells (a : Int)).FA 32 != 0) = true := bne_t hp
      simp only [d1, cond_true, se, ss_atn hu.ss ha, Option.bind_some, hua, hat, m_attr_Of, hp', hw1]
      refine ⟨u, rfl, hu.ss, hu.alt, hu.sz, hu.cur, fun q hq => ?_⟩
      rw [hu.get q hq]
      by_cases hst : stF s.cells l0 q = (a : Int)
      · rw [hst, if_neg (by omega), if_pos (by omega)]
        unfold er; simp only [hst, hp, if_false]
      · obtain ⟨b, h1, h2, h3⟩ := stF_at hc hn q hq
        rw [h1] at hst ⊢
        by_cases h4 : b < a
        · rw [if_pos (by omega), if_pos (by omega)]
        · rw [if_neg (by omega), if_neg (by omega)]
/-! ### the whole -/
/-- what an erase of all unprotected leaves -/
def eraC (L : List Vapi_Cell) (q : Nat) : Vapi_Cell := if Fmt L then er L (lastA L) q else blank (rd L (q : Int))
def eraI (L : List Vapi_Cell) : List Vapi_Cell := (List.range L.length).map (eraC L)
theorem eraI_len (L : List Vapi_Cell) : (eraI L).length = L.length := by simp [eraI]
theorem eraI_rd {L : List Vapi_Cell} {q : Nat} (h : q < L.length) : rd (eraI L) (q : Int) = eraC L q := by
  unfold eraI; rw [rdn (by simpa using h)]; simp
theorem eraI_isA {L : List Vapi_Cell} {q : Nat} (h : q < L.length) : isA' (eraI L) q = isA' L q := by
  unfold isA'
  rw [eraI_rd h]
  unfold eraC
  split
  · rw [er_attr]
  · rfl
theorem fmt_era {L : List Vapi_Cell} : Fmt (eraI L) ↔ Fmt L := by
  unfold Fmt
  rw [eraI_len]
  constructor
  · rintro ⟨a, h1, h2⟩; exact ⟨a, h1, by rwa [eraI_isA h1] at h2⟩
  · rintro ⟨a, h1, h2⟩; exact ⟨a, h1, by rwa [eraI_isA h1]⟩
theorem next_no {L : List Vapi_Cell} (h : ¬ Fmt L) (hL : 0 < L.length) (k : Nat) : nextI L k = -1 := by
  unfold nextI hitN
  rw [if_neg]
  have : tl (fun i => !frB L ((k + 1 + i) % L.length)) L.length = L.length := tl_eq (Nat.le_refl _) (fun i hi => by
    unfold frB
    rw [no_fmt h (Nat.mod_lt _ hL)]; rfl) (fun h => by omega)
  omega
theorem demod_ok {c : Vapi_Cell} (h : COk c) (ha : c.Attr = true) : COk (demod c) := by
  obtain ⟨f, hf⟩ := h.fa.fin
  obtain ⟨b1, b2, _⟩ := band1 f
  rw [hf] at b1 b2
  rw [(h.attr ha).2] at b2
  exact ⟨h.char, b1, h.high, h.color, h.set, (fun _ => ⟨(h.attr ha).1, b2⟩), fun e => by have e : c.Attr = false := e; rw [ha] at e; cases e⟩
theorem blank_ok {c : Vapi_Cell} (h : COk c) (ha : c.Attr = false) : COk (blank c) := chr_ok h ha by0
theorem eraI_ok {L : List Vapi_Cell} (ho : ∀ c ∈ L, COk c) : ∀ c ∈ eraI L, COk c := by
  intro c hc
  unfold eraI at hc
  obtain ⟨q, hq, rfl⟩ := List.mem_map.1 hc
  have hq' := List.mem_range.1 hq
  have hok := ho _ (rd_mem (l := L) (n := (q : Int)) (by omega))
  unfold eraC
  split
  · unfold er
    simp only
    split
    · split
      · rename_i h1; exact demod_ok hok h1
      · rename_i h1; exact blank_ok hok (by simpa using h1)
    · exact hok
  · rename_i hf
    exact blank_ok hok (no_fmt hf hq')
theorem pera {m : Int} {N : Nat} {s : Vspace_Space} (h : SS m N s) : m_erase_Unprotected s = some (pC (wS s (eraI s.cells)) (tabI (eraI s.cells) (N - 1))) := by
  have hd := h.dim.dim.le
  have hl := h.len
  have hcl := cnt_le s.cells
  have hE := h.w (L := eraI s.cells) (by rw [eraI_len]; exact hl) (eraI_ok h.ok)
  have hel := eraI_len s.cells
  unfold m_erase_Unprotected m_space_Space_Formatted
  rw [h.attrs]
  by_cases hf : Fmt s.cells
  · have d1 : decide (cnt s.cells > 0) = true := decide_eq_true (fmt_iff.1 hf)
    have hcy : lastA s.cells = stF s.cells (lastA s.cells) (N - 1) := by rw [← hl]; exact lastA_cyc hf
    have hn : ∃ b, b < N ∧ isA' s.cells b = true := by rw [← hl]; exact hf
    have key := loop_rel0 (L := erase_Unprotected_l20 (N : Int)) (n := N) (s := t7 s) (fun i y => ∃ u, y = t7 u ∧ ErSt m N s (lastA s.cells) i u) (fun r => ∃ u, r = t7 u ∧ ErSt m N s (lastA s.cells) N u) (by omega) ?_ ?_ ?_
    · obtain ⟨r, h1, u, rfl, hu⟩ := key
      have hcells : u.cells = eraI s.cells := by
        refine ext_rd (by rw [hu.ss.len, eraI_len, hl]) fun q hq => ?_
        rw [eraI_len, hl] at hq
        obtain ⟨b, h2, h3, _⟩ := stF_at hcy hn q hq
        rw [hu.get q hq, h2, if_pos (by omega), eraI_rd (by omega)]
        unfold eraC; rw [if_pos hf]
      have hu' : u = wS s (eraI s.cells) := by
        have e := hu.ss.attrs
        have e2 := hu.ss.model
        have e3 := h.model
        rw [hcells] at e
        obtain ⟨u1, u2, u3, u4, u5, u6⟩ := u
        have g1 := hu.alt
        have g2 := hu.sz
        have g3 := hu.cur
        simp only at e e2 g1 g2 g3 hcells
        subst e hcells g1 g2 g3
        unfold wS; rw [e2, ← e3]
      subst hu'
      have hb := tabI_lt (L := eraI s.cells) (N := N) (k := N - 1) (by omega) (by omega)
      have h1' : erase_Unprotected_l20 (N : Int) fuel (0, s.model, s.alternate, s.size.Rows, s.size.Cols, s.cells, s.cursor, s.attrs) = some (t7 (wS s (eraI s.cells))) := h1
      simp only [d1, Option.bind_some, Bool.not_true, cond_false, m_field_Fields, m_space_Space_Attrs, m_space_Space_All, m_space_Space_Size, sz_cells h, h.attrs] at h1' ⊢
      simp only [h1', Option.bind_some]
      have hm1 : (-1 : Int) % (N : Int) = ((N - 1 : Nat) : Int) := by
        rw [show (-1 : Int) = ((N - 1 : Nat) : Int) - N by omega, Int.sub_emod_right, nat_emod (by omega)]
      have hnx := pnext hE hm1 (show N - 1 < N by omega)
      change ((m_field_Next (wS s (eraI s.cells)) (-1)).bind _) = _
      rw [hnx]
      simp only [Option.bind_some]
      change ((m_space_Space_Place (wS s (eraI s.cells)) (tabI (eraI s.cells) (N - 1))).bind _) = _
      rw [pplace hE hb.1 hb.2]; rfl
    · rintro k i y hi ⟨u, rfl, hu⟩
      obtain ⟨v, h1, h2⟩ := er_step h hcy hn hi hu k
      exact ⟨_, h1, v, rfl, h2⟩
    · rintro k y ⟨u, rfl, hu⟩
      have d1 : decide ((N : Int) < (N : Int)) = false := decide_eq_false (by omega)
      rw [erase_Unprotected_l20.eq_2]
      simp only [d1, cond_false]
      exact ⟨_, rfl, u, rfl, hu⟩
    · refine ⟨s, rfl, h, rfl, rfl, rfl, fun q hq => ?_⟩
      obtain ⟨b, h2, _⟩ := stF_at hcy hn q hq
      rw [h2, if_neg (by omega)]
  · have d1 : decide (cnt s.cells > 0) = false := decide_eq_false fun e => hf (fmt_iff.2 e)
    obtain ⟨s', g1, g2, g3, g4, g5, g6⟩ := erase_all_ok h
    have hcells : s'.cells = eraI s.cells := by
      refine ext_rd (by rw [g2.len, eraI_len, hl]) fun q hq => ?_
      rw [eraI_len, hl] at hq
      have h1 : (rd s.cells (q : Int)).Attr = false := no_fmt hf (by omega)
      rw [g6 q hq, if_pos h1, eraI_rd (by omega)]
      unfold eraC; rw [if_neg hf]
    have hs' : s' = wS s (eraI s.cells) := by
      have e := g2.attrs
      have e2 := g2.model
      have e3 := h.model
      rw [hcells] at e
      obtain ⟨u1, u2, u3, u4, u5, u6⟩ := s'
      simp only at e e2 g3 g4 g5 hcells
      subst e hcells g3 g4 g5
      unfold wS; rw [e2, ← e3]
    subst hs'
    have ht : tabI (eraI s.cells) (N - 1) = 0 := by
      unfold tabI
      rw [next_no (fun e => hf (fmt_era.1 e)) (by omega)]; rfl
    simp only [d1, Option.bind_some, Bool.not_false, cond_true, g1, pplace hE (p := 0) (by omega) (by omega), ht]
/-! ### the document's -/
end Go.Vt
set_option linter.unusedVariables false
set_option linter.unusedSimpArgs false
set_option maxRecDepth 100000
namespace Go.Vt
def ent (c : Vapi_Cell) (z : Int) : Vapi_Cell := { c with Char := z, f_Set := 0 }
def entL (L : List Vapi_Cell) (k : Nat) (z : Int) : List Vapi_Cell := L.set k (ent (rd L (k : Int)) z)
theorem ent_ok {c : Vapi_Cell} (h : COk c) (ha : c.Attr = false) {z : Int} (hz : By z) : COk (ent c z) := ⟨hz, h.fa, h.high, h.color, by0, (fun e => by have e : c.Attr = true := e; rw [ha] at e; cases e), fun _ => h.plain ha⟩
theorem entL_len (L : List Vapi_Cell) (k : Nat) (z : Int) : (entL L k z).length = L.length := by unfold entL; simp
theorem entL_ok {L : List Vapi_Cell} (ho : ∀ c ∈ L, COk c) {k : Nat} (hk : k < L.length) (hA : isA' L k = false) {z : Int} (hz : By z) : ∀ c ∈ entL L k z, COk c := by
  intro c hc
  unfold entL at hc
  rcases List.mem_or_eq_of_mem_set hc with h1 | rfl
  · exact ho c h1
  · exact ent_ok (ho _ (rd_mem (by omega))) hA hz
theorem entL_isA {L : List Vapi_Cell} {k : Nat} (hk : k < L.length) {z : Int} {q : Nat} (hq : q < L.length) : isA' (entL L k z) q = isA' L q := by
  unfold entL isA'
  rw [rd_set hk hq]
  by_cases e : k = q
  · subst e; rw [if_pos rfl]; rfl
  · rw [if_neg e]
theorem modI_isA {L : List Vapi_Cell} {k : Nat} (hk : k < L.length) {q : Nat} (hq : q < L.length) : isA' (modI L k) q = isA' L q := by
  unfold modI
  split
  · rfl
  · rename_i hs
    have hf : Fmt L := by
      by_cases hf : Fmt L
      · exact hf
      · rw [stI_no hf hk] at hs; exact absurd (by omega) hs
    obtain ⟨b, h1, h2, h3⟩ := stI_at hf hk
    rw [h1, Int.toNat_natCast]
    unfold isA'
    rw [rd_set h2 hq]
    by_cases e : b = q
    · subst e; rw [if_pos rfl]; rfl
    · rw [if_neg e]
theorem insI_isA {L : List Vapi_Cell} {k : Nat} (hk : k < L.length) {z : Int} {q : Nat} (hq : q < L.length) : isA' (insI L k z) q = isA' L q := by
  unfold insI
  have hf : ∀ i, pl L k i < L.length := fun i => pl_lt (by omega) i
  rw [modI_isA (by rw [puts_len]; exact hk) (by rw [puts_len]; exact hq), puts_isA hf _ hq]
theorem insI_len (L : List Vapi_Cell) (k : Nat) (z : Int) : (insI L k z).length = L.length := by unfold insI; rw [modI_len, puts_len]
theorem insI_ok {L : List Vapi_Cell} (ho : ∀ c ∈ L, COk c) {k : Nat} (hk : k < L.length) {z : Int} (hz : By z) : ∀ c ∈ insI L k z, COk c := by
  have hf : ∀ i, pl L k i < L.length := fun i => pl_lt (by omega) i
  unfold insI
  exact modI_ok (puts_ok ho hf _ fun i _ => insC_by ho (by omega) hz i) (by rw [puts_len]; exact hk)
/-- what is answered: the screen, the board, an error -/
def enterI (n : Int) (B : Vkeys_Board) (x : Vvitrineref12_Space) (c : Int) : Vvitrineref12_Space × Vkeys_Board × Int :=
  if openI x.L x.Cursor.toNat = false then (x, { B with lock := 2 }, 13)
  else if ¬ (stI x.L x.Cursor.toNat < 0) ∧ (fld (faI x.L x.Cursor.toNat)).Numeric = true ∧ numB n c = false then (x, { B with lock := 3 }, 14)
  else if (B.inserts = true ∧ c ≠ 28) ∧ ¬ (insE x.L x.Cursor.toNat < rl x.L x.Cursor.toNat true) then (x, { B with lock := 4 }, 7)
  else
    let L3 := modI (entL (if B.inserts = true ∧ c ≠ 28 then insI x.L x.Cursor.toNat c else x.L) x.Cursor.toNat c) x.Cursor.toNat
    (rC (wL x L3) (if c = 28 then tabI L3 x.Cursor.toNat else afterI L3 x.Cursor.toNat), B, 0)
theorem RS.n {m : Int} {N : Nat} {x : Vvitrineref12_Space} (h : RS m N x) : x.Cursor = (x.Cursor.toNat : Int) ∧ x.Cursor.toNat < N := by have := h.cur; omega
/-- a character at the cursor, the field modified -/
theorem pset {m : Int} {N : Nat} {s : Vspace_Space} (h : SS m N s) {k : Nat} (hk : k < N) (hA : isA' s.cells k = false) {z : Int} (hz : By z) : m_space_Space_Set s (k : Int) (ent (rd s.cells (k : Int)) z) = some (wS s (entL s.cells k z)) := by
  have hl := h.len
  have hok := ent_ok (h.ok _ (rd_mem (l := s.cells) (n := (k : Int)) (by omega))) hA hz
  have := (ss_set h (k : Int) hok.cb).1
  rw [nat_emod hk, hok.fit] at this
  exact this
theorem enter_rs {m n : Int} {N : Nat} {x : Vvitrineref12_Space} (h : RS m N x) (hn : n ∈ pgs) {c : Int} (hc : By c) (B : Vkeys_Board) : RS m N (enterI n B x c).1 := by
  obtain ⟨hk, hkN⟩ := h.n
  have hl := h.len
  unfold enterI
  generalize x.Cursor.toNat = k at hk hkN
  split
  · exact h
  · rename_i ho
    split
    · exact h
    · split
      · exact h
      · have hA := open_no (by simpa using ho)
        simp only
        have h1 : ∀ L1 : List Vapi_Cell, L1.length = N → (∀ c ∈ L1, COk c) → isA' L1 k = false → RS m N (rC (wL x (modI (entL L1 k c) k)) (if c = 28 then tabI (modI (entL L1 k c) k) k else afterI (modI (entL L1 k c) k) k)) := fun L1 g1 g2 g3 => by
          have g4 : (modI (entL L1 k c) k).length = N := by rw [modI_len, entL_len]; exact g1
          have g5 := h.w g4 (modI_ok (entL_ok g2 (by omega) g3 hc) (by rw [entL_len]; omega))
          have g6 := tabI_lt (L := modI (entL L1 k c) k) (N := N) (k := k) g4 (by omega)
          have g7 := afterI_lt (L := modI (entL L1 k c) k) (N := N) g4 (by omega) k
          split
          · exact g5.c g6.1 g6.2
          · exact g5.c g7.1 g7.2
        split
        · exact h1 _ (by rw [insI_len]; exact hl) (insI_ok h.ok (by omega) hc) (by rw [insI_isA (by omega) (by omega)]; exact hA)
        · exact h1 _ hl h.ok hA
theorem penter {m n : Int} {N : Nat} {x : Vvitrineref12_Space} (h : RS m N x) (hn : n ∈ pgs) {c : Int} (hc : By c) (B : Vkeys_Board) : m_keys_Board_enter B (prog x) ⟨n⟩ c = some (prog (enterI n B x c).1, ⟨n⟩, (enterI n B x c).2.1, (enterI n B x c).2.2) := by
  obtain ⟨hk, hkN⟩ := h.n
  have hl := h.len
  have hle := h.dim.dim.le
  have hS := h.lk.ss
  unfold m_keys_Board_enter m_space_Space_Cursor enterI
  have hcur : (prog x).cursor = x.Cursor := rfl
  simp only [Option.bind_some, hcur]
  generalize x.Cursor.toNat = k at hk hkN
  have hcell : (prog x).cells = x.L := rfl
  rw [hk]
  simp only [pfof hS (nat_emod hkN) hkN, popen hS (nat_emod hkN) hkN, hcell, Option.bind_some]
  cases ho : openI x.L k with
  | false => rfl
  | true =>
    have hA := open_no ho
    rw [if_neg (show ¬ (true = false) by simp)]
    simp only [Bool.not_true, cond_false]
    have hnum : ((cond (if stI x.L k < 0 then ((⟨false, false, 0, false⟩ : Vattr_Field), false) else (fld (faI x.L k), true)).2 (cond (if stI x.L k < 0 then ((⟨false, false, 0, false⟩ : Vattr_Field), false) else (fld (faI x.L k), true)).1.Numeric ((m_class_Numeric ⟨n⟩ c).bind fun (d8 : Bool) => some (!d8)) (some false)) (some false)) : Option Bool) = some (decide (¬ (stI x.L k < 0) ∧ (fld (faI x.L k)).Numeric = true ∧ numB n c = false)) := by
      rw [pnum hn hc]
      by_cases hs : stI x.L k < 0
      · rw [if_pos hs, decide_eq_false (fun e => e.1 hs)]; rfl
      · rw [if_neg hs]
        cases (fld (faI x.L k)).Numeric <;> cases numB n c <;> simp [hs]
    rw [hnum]
    simp only [Option.bind_some]
    by_cases hq : ¬ (stI x.L k < 0) ∧ (fld (faI x.L k)).Numeric = true ∧ numB n c = false
    · rw [decide_eq_true hq, if_pos hq]; rfl
    · rw [decide_eq_false hq, if_neg hq]
      simp only [cond_false]
      have hins : ((cond B.inserts (some (c != 28)) (some false)) : Option Bool) = some (decide (B.inserts = true ∧ c ≠ 28)) := by
        cases B.inserts with
        | false => simp
        | true => by_cases h28 : c = 28 <;> simp [h28]
      rw [hins]
      simp only [Option.bind_some]
      -- behind the insertion
      have tail : ∀ L1 : List Vapi_Cell, L1.length = N → (∀ c ∈ L1, COk c) → isA' L1 k = false → ∀ d5 : T7, d5 = t7' (wS (prog x) L1) → ((m_space_Space_At (⟨d5.1, d5.2.1, (⟨d5.2.2.1, d5.2.2.2.1⟩ : Vaddr_Size), d5.2.2.2.2.1, d5.2.2.2.2.2.1, d5.2.2.2.2.2.2⟩ : Vspace_Space) (k : Int)).bind fun (d13 : Vapi_Cell) =>
          (m_space_Space_Set (⟨d5.1, d5.2.1, (⟨d5.2.2.1, d5.2.2.2.1⟩ : Vaddr_Size), d5.2.2.2.2.1, d5.2.2.2.2.2.1, d5.2.2.2.2.2.2⟩ : Vspace_Space) (k : Int) (⟨c, d13.Attr, d13.FA, d13.High, d13.Color, 0⟩ : Vapi_Cell)).bind fun (d15 : Vspace_Space) =>
          (m_field_Modify d15 (k : Int)).bind fun (d16 : Vspace_Space × Bool) =>
          (cond (c == 28) ((m_cursor_Tab d16.1).bind fun (d18 : Vspace_Space) => some (d18.model, d18.alternate, d18.size.Rows, d18.size.Cols, d18.cells, d18.cursor, d18.attrs)) ((m_cursor_After d16.1).bind fun (d19 : Vspace_Space) => some (d19.model, d19.alternate, d19.size.Rows, d19.size.Cols, d19.cells, d19.cursor, d19.attrs))).bind fun (d17 : T7) =>
          some ((⟨d17.1, d17.2.1, (⟨d17.2.2.1, d17.2.2.2.1⟩ : Vaddr_Size), d17.2.2.2.2.1, d17.2.2.2.2.2.1, d17.2.2.2.2.2.2⟩ : Vspace_Space), (⟨n⟩ : Vpage_Page), B, (0 : Int))) = some (prog (rC (wL x (modI (entL L1 k c) k)) (if c = 28 then tabI (modI (entL L1 k c) k) k else afterI (modI (entL L1 k c) k) k)), ⟨n⟩, B, 0) := by
        intro L1 g1 g2 g3 d5 hd5
        subst hd5
        have hS1 := hS.w g1 g2
        change ((m_space_Space_At (wS (prog x) L1) (k : Int)).bind _) = _
        simp only [ss_at hS1, nat_emod hkN, Option.bind_some]
        have hset := pset hS1 hkN g3 hc
        change ((m_space_Space_Set (wS (prog x) L1) (k : Int) (ent (rd L1 (k : Int)) c)).bind _) = _
        rw [show rd L1 (k : Int) = rd (wS (prog x) L1).cells (k : Int) from rfl, hset]
        simp only [Option.bind_some]
        have g4 : (modI (entL L1 k c) k).length = N := by rw [modI_len, entL_len]; exact g1
        have hS2 := hS.w (L := entL L1 k c) (by rw [entL_len]; exact g1) (entL_ok g2 (by omega) g3 hc)
        have hS3 := hS.w g4 (modI_ok (entL_ok g2 (by omega) g3 hc) (by rw [entL_len]; omega))
        have hm := pmod hS2 (nat_emod hkN) hkN
        change ((m_field_Modify (wS (prog x) (entL L1 k c)) (k : Int)).bind _) = _
        rw [hm]
        simp only [Option.bind_some]
        obtain ⟨rn, cn, r1, r2, r3, _⟩ := h.dim.dim.cn
        by_cases h28 : c = 28
        · rw [beq_t h28, if_pos h28]
          have ht := ptab hS3 (k := k) hk hkN
          simp only [cond_true]
          change (((m_cursor_Tab (wS (prog x) (modI (entL L1 k c) k))).bind _).bind _) = _
          rw [ht]; rfl
        · rw [beq_f h28, if_neg h28]
          have ht := pafter hS3 r1 r2 r3 (k := k) hk hkN
          simp only [cond_false]
          change (((m_cursor_After (wS (prog x) (modI (entL L1 k c) k))).bind _).bind _) = _
          rw [ht]; rfl
      by_cases hi : B.inserts = true ∧ c ≠ 28
      · rw [decide_eq_true hi]
        simp only [cond_true, pins hS (n := (k : Int)) rfl hkN hc, hcell, Option.bind_some]
        by_cases hj : insE x.L k < rl x.L k true
        · rw [if_pos ⟨ho, hj⟩, if_neg (fun e => e.2 hj), if_pos hi]
          simp only [Bool.not_true, cond_false, jn]
          exact tail (insI x.L k c) (by rw [insI_len]; exact hl) (insI_ok h.ok (by omega) hc) (by rw [insI_isA (by omega) (by omega)]; exact hA) _ rfl
        · rw [if_neg (fun e => hj e.2), if_pos ⟨hi, hj⟩]; rfl
      · rw [decide_eq_false hi, if_neg (fun e => hi e.1), if_neg hi]
        simp only [cond_false, jn]
        exact tail x.L hl h.ok hA ((prog x).model, (prog x).alternate, (prog x).size.Rows, (prog x).size.Cols, x.L, (k : Int), (prog x).attrs) (by unfold t7' wS prog; simp only [hk])
end Go.Vt
set_option linter.unusedVariables false
set_option linter.unusedSimpArgs false
set_option maxRecDepth 100000
namespace Go.Vt
theorem has_all {n : Int} (h : n ∈ pgs) : (62 : Int) ∈ tabS n ∧ (63 : Int) ∈ tabS n := by
  simp only [pgs, List.mem_cons, List.not_mem_nil, or_false] at h
  rcases h with rfl | rfl | rfl | rfl | rfl | rfl <;> exact ⟨by decide +kernel, by decide +kernel⟩
theorem cd_pos {n z : Int} (h : n ∈ pgs) (hz : z ∈ sgT n) : 0 ≤ cdI n z := by
  have hlen := pg_len h
  obtain ⟨i, hi, hv⟩ := List.getElem_of_mem hz
  have hle : cdN n z ≤ 256 := tl_le _ _
  have : cdN n z < 256 := by
    rcases Nat.lt_or_ge (cdN n z) 256 with h1 | h1
    · exact h1
    · exfalso
      have h2 : (!(sgI n (i : Int) == z)) = true := tl_lt (p := fun i : Nat => !(sgI n (i : Int) == z)) (n := 256) (by unfold cdN at h1; omega)
      unfold sgI at h2
      rw [rdn hi, hv] at h2
      simp at h2
  unfold cdI
  rw [if_pos this]; omega
theorem cd62 {n : Int} (h : n ∈ pgs) : 0 ≤ cdI n 62 := cd_pos h (by rw [(tab_all h).1]; exact (has_all h).1)
theorem cd63 {n : Int} (h : n ∈ pgs) : 0 ≤ cdI n 63 := cd_pos h (by rw [(tab_all h).1]; exact (has_all h).2)
theorem cd_by {n z : Int} (h : 0 ≤ cdI n z) : By (cdI n z) := ⟨h, (cdI_lt n z).2⟩
def atN (L : List Vapi_Cell) (k : Nat) : Nat := ((stI L k).toNat + 1) % L.length
/-- what is answered: the screen, the board, whether it was sent, an error -/
def chooseI (n : Int) (B : Vkeys_Board) (x : Vvitrineref12_Space) : Vvitrineref12_Space × Vkeys_Board × Bool × Int :=
  let L := x.L
  let k := x.Cursor.toNat
  if stI L k < 0 ∨ isA' L k = true ∨ ¬ ((fld (faI L k)).Display = 1 ∨ (fld (faI L k)).Display = 2) then (x, { B with lock := 2 }, false, 13)
  else
    let d := desI n (rd L (atN L k : Int)).Char
    if d = 0 ∨ (d < 3 ∧ (fld (faI L k)).Protected = true) then (x, { B with lock := 2 }, false, 13)
    else if d = 1 then (wL x (modI (putI L (atN L k) (cdI n 62)) k), B, false, 0)
    else if d = 2 then (wL x (putI L (atN L k) (cdI n 63)), B, false, 0)
    else if d = 3 then (wL x (modI L k), ⟨1, false, 126⟩, true, 0)
    else (wL x (modI L k), ⟨1, false, 125⟩, true, 0)
theorem choose_rs {m n : Int} {N : Nat} {x : Vvitrineref12_Space} (h : RS m N x) (hn : n ∈ pgs) (B : Vkeys_Board) : RS m N (chooseI n B x).1 := by
  obtain ⟨hk, hkN⟩ := h.n
  have hl := h.len
  have hp : atN x.L x.Cursor.toNat < x.L.length := Nat.mod_lt _ (by omega)
  have w1 : RS m N (wL x (modI x.L x.Cursor.toNat)) := h.w (by rw [modI_len]; exact hl) (modI_ok h.ok (by omega))
  unfold chooseI
  simp only
  split
  · exact h
  · split
    · exact h
    · split
      · exact h.w (by rw [modI_len, putI_len]; exact hl) (modI_ok (putI_ok h.ok hp (cd_by (cd62 hn))) (by rw [putI_len]; omega))
      · split
        · exact h.w (by rw [putI_len]; exact hl) (putI_ok h.ok hp (cd_by (cd63 hn)))
        · split
          · exact w1
          · exact w1
theorem desI_cases (n c : Int) : desI n c = 0 ∨ desI n c = 1 ∨ desI n c = 2 ∨ desI n c = 3 ∨ desI n c = 4 := by
  unfold desI; repeat' split
  all_goals simp
theorem pchoose {m n : Int} {N : Nat} {x : Vvitrineref12_Space} (h : RS m N x) (hn : n ∈ pgs) (B : Vkeys_Board) : m_keys_Board_choose B (prog x) ⟨n⟩ = some (prog (chooseI n B x).1, ⟨n⟩, (chooseI n B x).2.1, (chooseI n B x).2.2.1, (chooseI n B x).2.2.2) := by
  obtain ⟨hk, hkN⟩ := h.n
  have hl := h.len
  have hle := h.dim.dim.le
  have hS := h.lk.ss
  unfold m_keys_Board_choose m_space_Space_Cursor chooseI
  have hcur : (prog x).cursor = x.Cursor := rfl
  have hcell : (prog x).cells = x.L := rfl
  simp only [Option.bind_some, hcur]
  generalize x.Cursor.toNat = k at hk hkN
  rw [hk]
  simp only [pstart hS (nat_emod hkN) hkN, pfof hS (nat_emod hkN) hkN, hcell, Option.bind_some]
  have hA : (rd x.L (k : Int)).Attr = isA' x.L k := rfl
  by_cases hs : stI x.L k < 0
  · rw [if_pos hs, if_pos (.inl hs)]; rfl
  · rw [if_neg hs]
    have hf : Fmt x.L := by
      by_cases hf : Fmt x.L
      · exact hf
      · rw [stI_no hf (by omega)] at hs; exact absurd (by omega) hs
    obtain ⟨b, h1, h2, h3⟩ := stI_at hf (n := k) (by omega)
    have hd4 : ((cond (!true) (some true) ((m_space_Space_At (prog x) (k : Int)).bind fun (d5 : Vapi_Cell) => cond d5.Attr (some true) ((m_attr_Field_Detectable (fld (faI x.L k))).bind fun (d6 : Bool) => some (!d6)))) : Option Bool) = some (decide (isA' x.L k = true ∨ ¬ ((fld (faI x.L k)).Display = 1 ∨ (fld (faI x.L k)).Display = 2))) := by
      simp only [Bool.not_true, cond_false, ss_at hS, nat_emod hkN, hcell, Option.bind_some, hA]
      cases isA' x.L k with
      | true => simp
      | false =>
        unfold m_attr_Field_Detectable
        by_cases e1 : (fld (faI x.L k)).Display = 1
        · simp [e1]
        · by_cases e2 : (fld (faI x.L k)).Display = 2
          · simp [e2]
          · rw [beq_f e1, beq_f e2]; simp [e1, e2]
    rw [hd4]
    simp only [Option.bind_some]
    by_cases hr : isA' x.L k = true ∨ ¬ ((fld (faI x.L k)).Display = 1 ∨ (fld (faI x.L k)).Display = 2)
    · rw [decide_eq_true hr, if_pos (.inr hr)]; rfl
    · rw [decide_eq_false hr, if_neg (by rintro (e | e); exact hs e; exact hr e)]
      have hp : (b + 1) % N < N := Nat.mod_lt _ (by omega)
      have w1 : w64 ((b : Int) + 1) = ((b + 1 : Nat) : Int) := w64n2 (b := 1) (by omega)
      have hmod : ((b + 1 : Nat) : Int) % (N : Int) = (((b + 1) % N : Nat) : Int) := (Int.natCast_emod _ _).symm
      have hat : atN x.L k = (b + 1) % N := by unfold atN; rw [h1, hl, Int.toNat_natCast]
      rw [hat, h1]
      have hby : By (rd x.L (((b + 1) % N : Nat) : Int)).Char := (h.ok _ (rd_mem (by omega))).char
      simp only [cond_false, w1, ss_at hS, hmod, hcell, Option.bind_some, pdes hn hby]
      generalize hdd : desI n (rd x.L (((b + 1) % N : Nat) : Int)).Char = d
      have hcs := desI_cases n (rd x.L (((b + 1) % N : Nat) : Int)).Char
      rw [hdd] at hcs
      have hne : stI x.L k ≠ (((b + 1) % N : Nat) : Int) := by
        rw [h1]
        intro e
        have e' : b = (b + 1) % N := by omega
        by_cases h9 : b + 1 < N
        · rw [Nat.mod_eq_of_lt h9] at e'; omega
        · rw [show b + 1 = N by omega, Nat.mod_self] at e'; omega
      have hm0 := pmod hS (nat_emod hkN) hkN
      have hput : ∀ z, m_space_Space_Put (prog x) ((b + 1 : Nat) : Int) z = some (wS (prog x) (putI x.L ((b + 1) % N) z)) := fun z => pput hS hmod hp z
      have hmp : ∀ z, By z → m_field_Modify (wS (prog x) (putI x.L ((b + 1) % N) z)) (k : Int) = some (wS (prog x) (modI (putI x.L ((b + 1) % N) z) k), decide (0 ≤ stI (putI x.L ((b + 1) % N) z) k)) := fun z hz => by
        have hS2 := hS.w (L := putI x.L ((b + 1) % N) z) (by rw [putI_len]; exact hl) (putI_ok h.ok (by omega) hz)
        exact pmod hS2 (nat_emod hkN) hkN
      have c62 : m_page_Page_Code ⟨n⟩ 62 = some (cdI n 62, true) := by rw [pcode hn, if_neg (by have := cd62 hn; omega)]
      have c63 : m_page_Page_Code ⟨n⟩ 63 = some (cdI n 63, true) := by rw [pcode hn, if_neg (by have := cd63 hn; omega)]
      rcases hcs with rfl | rfl | rfl | rfl | rfl
      · rfl
      · cases hpr : (fld (faI x.L k)).Protected with
        | true => rw [if_pos (.inr ⟨by omega, rfl⟩)]; rfl
        | false =>
          rw [if_neg (by rintro (e | ⟨_, e⟩); omega; cases e)]
          simp only [beq_f (show (1 : Int) ≠ 0 by omega), show decide ((1 : Int) < 3) = true from rfl, cond_false, cond_true, Option.bind_some, show ((1 : Int) == 1) = true from rfl, m_keys_Board_designate, c62, w1, hput, jn, if_true]
          change ((m_field_Modify (wS (prog x) (putI x.L ((b + 1) % N) (cdI n 62))) (k : Int)).bind _) = _
          rw [hmp _ (cd_by (cd62 hn))]; rfl
      · cases hpr : (fld (faI x.L k)).Protected with
        | true => rw [if_pos (.inr ⟨by omega, rfl⟩)]; rfl
        | false =>
          rw [if_neg (by rintro (e | ⟨_, e⟩); omega; cases e)]
          simp only [beq_f (show (2 : Int) ≠ 0 by omega), show decide ((2 : Int) < 3) = true from rfl, cond_false, cond_true, Option.bind_some, show ((2 : Int) == 1) = false from rfl, show ((2 : Int) == 2) = true from rfl, m_keys_Board_designate, c63, w1, hput, jn, esc, if_neg (show ¬ (2 : Int) = 1 by omega), if_true]
          rfl
      · rw [if_neg (by rintro (e | ⟨e, _⟩) <;> omega), if_neg (by omega), if_neg (by omega), if_pos rfl]
        simp only [beq_f (show (3 : Int) ≠ 0 by omega), show decide ((3 : Int) < 3) = false from rfl, cond_false, cond_true, Option.bind_some, show ((3 : Int) == 1) = false from rfl, show ((3 : Int) == 2) = false from rfl, show ((3 : Int) == 3) = true from rfl, m_keys_Board_send, jn]
        have hmm : m_field_Modify ⟨(prog x).model, (prog x).alternate, ⟨(prog x).size.Rows, (prog x).size.Cols⟩, x.L, (k : Int), (prog x).attrs⟩ (k : Int) = some (wS (prog x) (modI x.L k), decide (0 ≤ stI x.L k)) := by rw [← hk] at hm0 ⊢; exact hm0
        rw [hmm]; rfl
      · rw [if_neg (by rintro (e | ⟨e, _⟩) <;> omega), if_neg (by omega), if_neg (by omega), if_neg (by omega)]
        simp only [beq_f (show (4 : Int) ≠ 0 by omega), show decide ((4 : Int) < 3) = false from rfl, cond_false, cond_true, Option.bind_some, show ((4 : Int) == 1) = false from rfl, show ((4 : Int) == 2) = false from rfl, show ((4 : Int) == 3) = false from rfl, m_keys_Board_send, jn]
        have hmm : m_field_Modify ⟨(prog x).model, (prog x).alternate, ⟨(prog x).size.Rows, (prog x).size.Cols⟩, x.L, (k : Int), (prog x).attrs⟩ (k : Int) = some (wS (prog x) (modI x.L k), decide (0 ≤ stI x.L k)) := by rw [← hk] at hm0 ⊢; exact hm0
        rw [hmm]; rfl
end Go.Vt
set_option linter.unusedVariables false
set_option linter.unusedSimpArgs false
set_option maxRecDepth 100000
namespace Go.Vt
def fnA : List Int := [241, 242, 243, 244, 245, 246, 247, 248, 249, 122, 123, 124, 193, 194, 195, 196, 197, 198, 199, 200, 201, 74, 75, 76]
def paA : List Int := [108, 110, 107]
def sendsB (k : Vkeys_Key) : Bool := k.Kind == 19 || k.Kind == 22 || (k.Kind == 20 && (decide (1 ≤ k.N) && decide (k.N ≤ 24))) || (k.Kind == 21 && (decide (1 ≤ k.N) && decide (k.N ≤ 3)))
def aidV (k : Vkeys_Key) : Int := if k.Kind = 19 then 125 else if k.Kind = 22 then 109 else if k.Kind = 20 then rd fnA (k.N - 1) else rd paA (k.N - 1)
theorem aid20 : ∀ i : Fin 24, m_keys_AID ⟨20, 0, (i.val : Int) + 1⟩ = some (rd fnA (i.val : Int), true) ∧ m_vitrineref18_AID ⟨20, 0, (i.val : Int) + 1⟩ = some (rd fnA (i.val : Int)) ∧ rd fnA (i.val : Int) ≠ 0 := by decide +kernel
theorem aid21 : ∀ i : Fin 3, m_keys_AID ⟨21, 0, (i.val : Int) + 1⟩ = some (rd paA (i.val : Int), true) ∧ m_vitrineref18_AID ⟨21, 0, (i.val : Int) + 1⟩ = some (rd paA (i.val : Int)) ∧ rd paA (i.val : Int) ≠ 0 := by decide +kernel
/-- both keys' AIDs -/
theorem aid_ok (k : Vkeys_Key) : m_keys_AID k = some (if sendsB k then (aidV k, true) else (0, false)) ∧ m_vitrineref18_AID ⟨k.Kind, k.Sign, k.N⟩ = some (if sendsB k then aidV k else 0) ∧ (sendsB k = true → aidV k ≠ 0) := by
  obtain ⟨kind, sg, N⟩ := k
  by_cases h19 : kind = 19
  · subst h19; exact ⟨rfl, rfl, fun _ => by simp [aidV]⟩
  by_cases h22 : kind = 22
  · subst h22; exact ⟨rfl, rfl, fun _ => by simp [aidV]⟩
  by_cases h20 : kind = 20
  · subst h20
    by_cases hN : 1 ≤ N ∧ N ≤ 24
    · obtain ⟨g1, g2, g3⟩ := aid20 ⟨(N - 1).toNat, by omega⟩
      have e : (((N - 1).toNat : Nat) : Int) = N - 1 := by omega
      simp only [e, Int.sub_add_cancel] at g1 g2 g3
      have hs : sendsB ⟨20, sg, N⟩ = true := by unfold sendsB; simp [hN]
      have ha : aidV ⟨20, sg, N⟩ = rd fnA (N - 1) := rfl
      rw [if_pos hs, if_pos hs, ha]
      exact ⟨g1, g2, fun _ => g3⟩
    · have hs : sendsB ⟨20, sg, N⟩ = false := by
        unfold sendsB; simp only [Int.reduceBEq, Bool.false_or, Bool.true_and, Bool.false_and, Bool.or_false]
        by_cases h1 : 1 ≤ N
        · rw [decide_eq_true h1, decide_eq_false (fun h2 => hN ⟨h1, h2⟩)]; rfl
        · rw [decide_eq_false h1]; rfl
      have hq : ((cond (decide (N ≥ 1)) (some (decide (N ≤ 24))) (some false)) : Option Bool) = some false := by
        by_cases h1 : N ≥ 1
        · rw [decide_eq_true h1, decide_eq_false (fun h2 => hN ⟨h1, h2⟩)]; rfl
        · rw [decide_eq_false h1]; rfl
      rw [hs]
      refine ⟨?_, ?_, fun e => by cases e⟩
      · unfold m_keys_AID; simp only [Int.reduceBEq, cond_true, cond_false, hq, Option.bind_some, Bool.false_eq_true, if_false]
      · unfold m_vitrineref18_AID; simp only [Int.reduceBEq, cond_true, cond_false, hq, Option.bind_some, Bool.false_eq_true, if_false, jn]
  by_cases h21 : kind = 21
  · subst h21
    by_cases hN : 1 ≤ N ∧ N ≤ 3
    · obtain ⟨g1, g2, g3⟩ := aid21 ⟨(N - 1).toNat, by omega⟩
      have e : (((N - 1).toNat : Nat) : Int) = N - 1 := by omega
      simp only [e, Int.sub_add_cancel] at g1 g2 g3
      have hs : sendsB ⟨21, sg, N⟩ = true := by unfold sendsB; simp [hN]
      have ha : aidV ⟨21, sg, N⟩ = rd paA (N - 1) := rfl
      rw [if_pos hs, if_pos hs, ha]
      exact ⟨g1, g2, fun _ => g3⟩
    · have hs : sendsB ⟨21, sg, N⟩ = false := by
        unfold sendsB; simp only [Int.reduceBEq, Bool.false_or, Bool.true_and, Bool.false_and, Bool.or_false]
        by_cases h1 : 1 ≤ N
        · rw [decide_eq_true h1, decide_eq_false (fun h2 => hN ⟨h1, h2⟩)]; rfl
        · rw [decide_eq_false h1]; rfl
      have hq : ((cond (decide (N ≥ 1)) (some (decide (N ≤ 3))) (some false)) : Option Bool) = some false := by
        by_cases h1 : N ≥ 1
        · rw [decide_eq_true h1, decide_eq_false (fun h2 => hN ⟨h1, h2⟩)]; rfl
        · rw [decide_eq_false h1]; rfl
      rw [hs]
      refine ⟨?_, ?_, fun e => by cases e⟩
      · unfold m_keys_AID; simp only [Int.reduceBEq, cond_true, cond_false, hq, Option.bind_some, Bool.false_eq_true, if_false]
      · unfold m_vitrineref18_AID; simp only [Int.reduceBEq, cond_true, cond_false, hq, Option.bind_some, Bool.false_eq_true, if_false, jn]
  have hs : sendsB ⟨kind, sg, N⟩ = false := by unfold sendsB; simp [h19, h20, h21, h22]
  rw [hs]
  refine ⟨?_, ?_, fun e => by cases e⟩
  · unfold m_keys_AID; simp only [beq_f h19, beq_f h20, beq_f h21, beq_f h22, cond_false, Option.bind_some, Bool.false_eq_true, if_false]
  · unfold m_vitrineref18_AID; simp only [beq_f h19, beq_f h20, beq_f h21, beq_f h22, cond_false, Option.bind_some, Bool.false_eq_true, if_false, jn]
/-- where a key takes the cursor -/
def curI (x : Vvitrineref12_Space) (kind : Int) : Int :=
  let k := x.Cursor.toNat; let rn := x.Size.Rows.toNat; let cn := x.Size.Cols.toNat
  if kind = 5 then tabI x.L k else if kind = 6 then btabI x.L k else if kind = 7 then firstI x.L (atI rn cn (k / cn + 1) 0) else if kind = 8 then firstI x.L 0
  else if kind = 9 then ((mvI rn cn k (rn - 1) 0 : Nat) : Int) else if kind = 10 then ((mvI rn cn k 1 0 : Nat) : Int) else if kind = 11 then ((mvI rn cn k 0 (x.L.length - 1) : Nat) : Int) else ((mvI rn cn k 0 1 : Nat) : Int)
def editI (n : Int) (B : Vkeys_Board) (x : Vvitrineref12_Space) (k : Vkeys_Key) : Vvitrineref12_Space × Vkeys_Board × Int :=
  if k.Kind = 1 then (if cdI n k.Sign < 0 ∨ dataB (cdI n k.Sign) = false then (x, B, 12) else enterI n B x (cdI n k.Sign))
  else if k.Kind = 2 then (if k.N < 64 ∨ k.N > 254 then (x, B, 1) else enterI n B x k.N)
  else if k.Kind = 3 then enterI n B x 28
  else if k.Kind = 4 then enterI n B x 30
  else if k.Kind = 13 then (if openI x.L x.Cursor.toNat then (wL x (delI x.L x.Size.Cols.toNat x.Cursor.toNat), B, 0) else (x, { B with lock := 2 }, 13))
  else if k.Kind = 14 then (if openI x.L x.Cursor.toNat then (wL x (endI x.L x.Cursor.toNat), B, 0) else (x, { B with lock := 2 }, 13))
  else if k.Kind = 15 then (rC (wL x (eraI x.L)) (tabI (eraI x.L) (x.L.length - 1)), B, 0)
  else (x, { B with inserts := !B.inserts }, 0)
/-- a key pressed: the screen, the board, whether it was sent, an error -/
def pressI (n : Int) (B : Vkeys_Board) (x : Vvitrineref12_Space) (k : Vkeys_Key) : Vvitrineref12_Space × Vkeys_Board × Bool × Int :=
  if k.Kind < 1 ∨ k.Kind > 22 then (x, B, false, 1)
  else if k.Kind = 17 then (x, ⟨if B.lock = 1 then 1 else 0, false, B.aid⟩, false, 0)
  else if B.lock ≠ 0 then (x, B, false, 8)
  else if k.Kind = 18 then chooseI n B x
  else if sendsB k = true then (if k.Kind = 22 then clr x.Model false else x, ⟨1, false, aidV k⟩, true, 0)
  else if k.Kind = 20 ∨ k.Kind = 21 then (x, B, false, 1)
  else if 5 ≤ k.Kind ∧ k.Kind ≤ 12 then (rC x (curI x k.Kind), B, false, 0)
  else ((editI n B x k).1, (editI n B x k).2.1, false, (editI n B x k).2.2)
theorem curI_lt {m : Int} {N : Nat} {x : Vvitrineref12_Space} (h : RS m N x) (kind : Int) : 0 ≤ curI x kind ∧ curI x kind < N := by
  obtain ⟨hk, hkN⟩ := h.n
  have hl := h.len
  have hle := h.dim.dim.le
  obtain ⟨rn, cn, r1, r2, r3, b1, b2, b3, b4⟩ := h.dim.dim.cn
  have e1 : x.Size.Rows.toNat = rn := by rw [r1]; rfl
  have e2 : x.Size.Cols.toNat = cn := by rw [r2]; rfl
  have hm : ∀ a b c, mvI rn cn a b c < N := fun a b c => by rw [r3]; exact mvI_lt (by omega) (by omega)
  have hat : ∀ a b, atI rn cn a b < N := fun a b => by rw [r3]; exact atI_lt (by omega) (by omega)
  unfold curI
  simp only [e1, e2]
  split
  · exact tabI_lt hl (by omega)
  split
  · exact btabI_lt hl (by omega)
  split
  · exact firstI_lt hl (hat _ _)
  split
  · exact firstI_lt hl (by omega)
  split
  · have := hm x.Cursor.toNat (rn - 1) 0; omega
  split
  · have := hm x.Cursor.toNat 1 0; omega
  split
  · have := hm x.Cursor.toNat 0 (x.L.length - 1); omega
  · have := hm x.Cursor.toNat 0 1; omega
theorem edit_rs {m n : Int} {N : Nat} {x : Vvitrineref12_Space} (h : RS m N x) (hn : n ∈ pgs) (B : Vkeys_Board) (k : Vkeys_Key) : RS m N (editI n B x k).1 := by
  obtain ⟨hk, hkN⟩ := h.n
  have hl := h.len
  have hle := h.dim.dim.le
  obtain ⟨rn, cn, r1, r2, r3, b1, b2, b3, b4⟩ := h.dim.dim.cn
  have e2 : x.Size.Cols.toNat = cn := by rw [r2]; rfl
  have hf : ∀ i, pl x.L x.Cursor.toNat i < x.L.length := fun i => pl_lt (by omega) i
  unfold editI
  split
  · split
    · exact h
    · rename_i h1
      exact enter_rs h hn (cd_by (by omega)) B
  split
  · split
    · exact h
    · exact enter_rs h hn ⟨by omega, by omega⟩ B
  split
  · exact enter_rs h hn ⟨by decide, by decide⟩ B
  split
  · exact enter_rs h hn ⟨by decide, by decide⟩ B
  split
  · split
    · exact h.w (by unfold delI; rw [modI_len, puts_len]; exact hl) (modI_ok (puts_ok h.ok hf _ fun i _ => delC_by h.ok (by omega)) (by rw [puts_len]; omega))
    · exact h
  split
  · split
    · exact h.w (by unfold endI; rw [modI_len, puts_len]; exact hl) (modI_ok (puts_ok h.ok hf _ fun i _ => by0) (by rw [puts_len]; omega))
    · exact h
  split
  · have hE := h.w (L := eraI x.L) (by rw [eraI_len]; exact hl) (eraI_ok h.ok)
    have hb := tabI_lt (L := eraI x.L) (N := N) (k := x.L.length - 1) (by rw [eraI_len]; exact hl) (by omega)
    exact hE.c hb.1 hb.2
  · exact h
theorem press_rs {m n : Int} {N : Nat} {x : Vvitrineref12_Space} (hm : Mod4 m) (h : RS m N x) (hn : n ∈ pgs) (B : Vkeys_Board) (k : Vkeys_Key) : ∃ N', RS m N' (pressI n B x k).1 ∧ (¬ (k.Kind = 22 ∧ (pressI n B x k).2.2.1 = true) → N' = N) := by
  unfold pressI
  split
  · exact ⟨N, h, fun _ => rfl⟩
  split
  · exact ⟨N, h, fun _ => rfl⟩
  split
  · exact ⟨N, h, fun _ => rfl⟩
  split
  · exact ⟨N, choose_rs h hn B, fun _ => rfl⟩
  split
  · by_cases h22 : k.Kind = 22
    · rw [if_pos h22, h.model]
      exact ⟨nOf m false, rs_clr hm false, fun e => absurd ⟨h22, rfl⟩ e⟩
    · rw [if_neg h22]; exact ⟨N, h, fun _ => rfl⟩
  split
  · exact ⟨N, h, fun _ => rfl⟩
  split
  · have hb := curI_lt h k.Kind
    exact ⟨N, h.c hb.1 hb.2, fun _ => rfl⟩
  · exact ⟨N, edit_rs h hn B k, fun _ => rfl⟩
theorem pmovek {m n : Int} {N : Nat} {x : Vvitrineref12_Space} (h : RS m N x) (B : Vkeys_Board) (kind : Int) : m_keys_Board_move B (prog x) ⟨n⟩ kind = some (if 5 ≤ kind ∧ kind ≤ 12 then (prog (rC x (curI x kind)), ⟨n⟩, B, true) else (prog x, ⟨n⟩, B, false)) := by
  obtain ⟨hk, hkN⟩ := h.n
  have hl := h.len
  have hle := h.dim.dim.le
  have hS := h.lk.ss
  obtain ⟨rn, cn, r1, r2, r3, b1, b2, b3, b4⟩ := h.dim.dim.cn
  have e1 : x.Size.Rows.toNat = rn := by rw [r1]; rfl
  have e2 : x.Size.Cols.toNat = cn := by rw [r2]; rfl
  have hcur : (prog x).cursor = x.Cursor := rfl
  have z0 : (0 : Int) % (rn : Int) = ((0 : Nat) : Int) := Int.zero_emod _
  have z0' : (0 : Int) % (N : Int) = ((0 : Nat) : Int) := Int.zero_emod _
  have z1 : (1 : Int) % (rn : Int) = ((1 : Nat) : Int) := nat_emod (k := 1) (by omega)
  have z1' : (1 : Int) % (N : Int) = ((1 : Nat) : Int) := nat_emod (k := 1) (by omega)
  have zm : (-1 : Int) % (rn : Int) = ((rn - 1 : Nat) : Int) := by rw [show (-1 : Int) = ((rn - 1 : Nat) : Int) - rn by omega, Int.sub_emod_right, nat_emod (by omega)]
  have zm' : (-1 : Int) % (N : Int) = ((N - 1 : Nat) : Int) := by rw [show (-1 : Int) = ((N - 1 : Nat) : Int) - N by omega, Int.sub_emod_right, nat_emod (by omega)]
  by_cases hr : 5 ≤ kind ∧ kind ≤ 12
  · rw [if_pos hr]
    unfold m_keys_Board_move curI
    simp only [e1, e2, hl]
    generalize hkk : x.Cursor.toNat = k at hk hkN
    have hc : kind = 5 ∨ kind = 6 ∨ kind = 7 ∨ kind = 8 ∨ kind = 9 ∨ kind = 10 ∨ kind = 11 ∨ kind = 12 := by omega
    have hck : (prog x).cursor = (k : Int) := by rw [hcur, hk]
    have t5 := ptab hS hck hkN
    have t6 := pbtab hS hck hkN
    have t7_ := pline hS r1 r2 r3 hck hkN
    have t8 := phome hS r1 r2 r3
    have t9 := pcmove hS r1 r2 r3 hck hkN zm z0'
    have t10 := pcmove hS r1 r2 r3 hck hkN z1 z0'
    have t11 := pcmove hS r1 r2 r3 hck hkN z0 zm'
    have t12 := pcmove hS r1 r2 r3 hck hkN z0 z1'
    rcases hc with rfl | rfl | rfl | rfl | rfl | rfl | rfl | rfl
    · simp only [Int.reduceLT, Int.reduceGT, Int.reduceLE, Int.reduceGE, Int.reduceBEq, Int.reduceBNe, Int.reduceEq, Int.reduceNe, decide_true, decide_false, cond_true, cond_false, Option.bind_some, gt_iff_lt, ge_iff_le, t5]; rfl
    · simp only [Int.reduceLT, Int.reduceGT, Int.reduceLE, Int.reduceGE, Int.reduceBEq, Int.reduceBNe, Int.reduceEq, Int.reduceNe, decide_true, decide_false, cond_true, cond_false, Option.bind_some, gt_iff_lt, ge_iff_le, t6]; rfl
    · simp only [Int.reduceLT, Int.reduceGT, Int.reduceLE, Int.reduceGE, Int.reduceBEq, Int.reduceBNe, Int.reduceEq, Int.reduceNe, decide_true, decide_false, cond_true, cond_false, Option.bind_some, gt_iff_lt, ge_iff_le, t7_]; rfl
    · simp only [Int.reduceLT, Int.reduceGT, Int.reduceLE, Int.reduceGE, Int.reduceBEq, Int.reduceBNe, Int.reduceEq, Int.reduceNe, decide_true, decide_false, cond_true, cond_false, Option.bind_some, gt_iff_lt, ge_iff_le, t8]; rfl
    · simp only [Int.reduceLT, Int.reduceGT, Int.reduceLE, Int.reduceGE, Int.reduceBEq, Int.reduceBNe, Int.reduceEq, Int.reduceNe, decide_true, decide_false, cond_true, cond_false, Option.bind_some, gt_iff_lt, ge_iff_le, t9]; rfl
    · simp only [Int.reduceLT, Int.reduceGT, Int.reduceLE, Int.reduceGE, Int.reduceBEq, Int.reduceBNe, Int.reduceEq, Int.reduceNe, decide_true, decide_false, cond_true, cond_false, Option.bind_some, gt_iff_lt, ge_iff_le, t10]; rfl
    · simp only [Int.reduceLT, Int.reduceGT, Int.reduceLE, Int.reduceGE, Int.reduceBEq, Int.reduceBNe, Int.reduceEq, Int.reduceNe, decide_true, decide_false, cond_true, cond_false, Option.bind_some, gt_iff_lt, ge_iff_le, t11]; rfl
    · simp only [Int.reduceLT, Int.reduceGT, Int.reduceLE, Int.reduceGE, Int.reduceBEq, Int.reduceBNe, Int.reduceEq, Int.reduceNe, decide_true, decide_false, cond_true, cond_false, Option.bind_some, gt_iff_lt, ge_iff_le, t12]; rfl
  · rw [if_neg hr]
    unfold m_keys_Board_move
    simp only [beq_f (show kind ≠ 5 by omega), beq_f (show kind ≠ 6 by omega), beq_f (show kind ≠ 7 by omega), beq_f (show kind ≠ 8 by omega), beq_f (show kind ≠ 9 by omega), beq_f (show kind ≠ 10 by omega), beq_f (show kind ≠ 11 by omega), beq_f (show kind ≠ 12 by omega), cond_false]
    rfl
end Go.Vt
set_option linter.unusedVariables false
set_option linter.unusedSimpArgs false
set_option maxRecDepth 100000
namespace Go.Vt
theorem edge1 (K : Int) : ((cond (decide (K < 1)) (some true) (some (decide (K > 22)))) : Option Bool) = some (decide (K < 1 ∨ K > 22)) := by
  by_cases h : K < 1
  · rw [decide_eq_true h, decide_eq_true (show K < 1 ∨ K > 22 from .inl h)]; rfl
  · rw [decide_eq_false h]
    by_cases h2 : K > 22
    · rw [decide_eq_true h2, decide_eq_true (show K < 1 ∨ K > 22 from .inr h2)]; rfl
    · rw [decide_eq_false h2, decide_eq_false (show ¬ (K < 1 ∨ K > 22) by omega)]; rfl
theorem edge2 (N : Int) : ((cond (decide (N < 64)) (some true) (some (decide (N > 254)))) : Option Bool) = some (decide (N < 64 ∨ N > 254)) := by
  by_cases h : N < 64
  · rw [decide_eq_true h, decide_eq_true (show N < 64 ∨ N > 254 from .inl h)]; rfl
  · rw [decide_eq_false h]
    by_cases h2 : N > 254
    · rw [decide_eq_true h2, decide_eq_true (show N < 64 ∨ N > 254 from .inr h2)]; rfl
    · rw [decide_eq_false h2, decide_eq_false (show ¬ (N < 64 ∨ N > 254) by omega)]; rfl
theorem dataN {c : Int} : dataB c = !decide (c < 64 ∨ c > 254) := by
  unfold dataB
  by_cases h1 : c < 64
  · rw [decide_eq_false (show ¬ (c ≥ 64) by omega), decide_eq_true (show c < 64 ∨ c > 254 from .inl h1)]; rfl
  · rw [decide_eq_true (show c ≥ 64 by omega)]
    by_cases h2 : c > 254
    · rw [decide_eq_false (show ¬ (c < 255) by omega), decide_eq_true (show c < 64 ∨ c > 254 from .inr h2)]; rfl
    · rw [decide_eq_true (show c < 255 by omega), decide_eq_false (show ¬ (c < 64 ∨ c > 254) by omega)]; rfl
theorem edge3 (N : Int) : ((cond (decide (N < 0)) (some true) (cond (decide (N > 255)) (some true) ((m_class_Data (IntKind.wrap .u8 N)).bind fun (d6 : Bool) => some (!d6)))) : Option Bool) = some (decide (N < 64 ∨ N > 254)) := by
  by_cases h : N < 0
  · rw [decide_eq_true h, decide_eq_true (show N < 64 ∨ N > 254 by omega)]; rfl
  · rw [decide_eq_false h]
    by_cases h2 : N > 255
    · rw [decide_eq_true h2, decide_eq_true (show N < 64 ∨ N > 254 by omega)]; rfl
    · rw [decide_eq_false h2, wrap8 ⟨by omega, by omega⟩, pdata, dataN]; simp
theorem pchar {m n : Int} {N : Nat} {x : Vvitrineref12_Space} (h : RS m N x) (hn : n ∈ pgs) (B : Vkeys_Board) (z : Int) : m_keys_Board_char B (prog x) ⟨n⟩ z = some (if cdI n z < 0 ∨ dataB (cdI n z) = false then (prog x, ⟨n⟩, B, 12) else (prog (enterI n B x (cdI n z)).1, ⟨n⟩, (enterI n B x (cdI n z)).2.1, (enterI n B x (cdI n z)).2.2)) := by
  unfold m_keys_Board_char
  rw [pcode hn]
  by_cases h0 : cdI n z < 0
  · rw [if_pos h0, if_pos (.inl h0)]; rfl
  · rw [if_neg h0]
    simp only [Option.bind_some, Bool.not_true, cond_false, pdata]
    cases hd : dataB (cdI n z) with
    | false => rw [if_pos (.inr rfl)]; rfl
    | true =>
      rw [if_neg (by rintro (e | e); exact h0 e; cases e)]
      simp only [Bool.not_true, cond_false]
      rw [penter h hn (cd_by (by omega))]; rfl
theorem pentered {m n : Int} {N : Nat} {x : Vvitrineref12_Space} (h : RS m N x) (hn : n ∈ pgs) (B : Vkeys_Board) (k : Vkeys_Key) (hk : (1 ≤ k.Kind ∧ k.Kind ≤ 4) ∨ (13 ≤ k.Kind ∧ k.Kind ≤ 16)) : m_keys_Board_entered B (prog x) ⟨n⟩ k = some (prog (editI n B x k).1, ⟨n⟩, (editI n B x k).2.1, (editI n B x k).2.2) := by
  obtain ⟨K, S, Nn⟩ := k
  obtain ⟨hc, hcN⟩ := h.n
  have hl := h.len
  have hle := h.dim.dim.le
  have hS := h.lk.ss
  have hcur : (prog x).cursor = x.Cursor := rfl
  have hcell : (prog x).cells = x.L := rfl
  obtain ⟨rn, cn, r1, r2, r3, b1, b2, b3, b4⟩ := h.dim.dim.cn
  have e2 : x.Size.Cols.toNat = cn := by rw [r2]; rfl
  have hi : I64 x.Cursor := by have := h.cur; constructor <;> omega
  have hm' : x.Cursor % (N : Int) = ((x.Cursor.toNat : Nat) : Int) := by
    have := h.cur
    rw [Int.emod_eq_of_lt this.1 (by omega)]; exact hc
  have hBe : (⟨B.lock, B.inserts, B.aid⟩ : Vkeys_Board) = B := rfl
  have hK : K = 1 ∨ K = 2 ∨ K = 3 ∨ K = 4 ∨ K = 13 ∨ K = 14 ∨ K = 15 ∨ K = 16 := by simp only at hk; omega
  unfold m_keys_Board_entered m_space_Space_Cursor editI
  rcases hK with rfl | rfl | rfl | rfl | rfl | rfl | rfl | rfl
  · simp only [Int.reduceLT, Int.reduceGT, Int.reduceLE, Int.reduceGE, Int.reduceBEq, Int.reduceBNe, Int.reduceEq, Int.reduceNe, decide_true, decide_false, cond_true, cond_false, Option.bind_some, gt_iff_lt, ge_iff_le, pchar h hn, if_true]
    by_cases hq : cdI n S < 0 ∨ dataB (cdI n S) = false
    · rw [if_pos hq, if_pos hq]; rfl
    · rw [if_neg hq, if_neg hq]; rfl
  · simp only [Int.reduceLT, Int.reduceGT, Int.reduceLE, Int.reduceGE, Int.reduceBEq, Int.reduceBNe, Int.reduceEq, Int.reduceNe, decide_true, decide_false, cond_true, cond_false, Option.bind_some, gt_iff_lt, ge_iff_le, edge3, if_false, if_true]
    by_cases hq : Nn < 64 ∨ Nn > 254
    · rw [decide_eq_true hq, if_pos hq]; rfl
    · have hb : By Nn := ⟨by omega, by omega⟩
      rw [decide_eq_false hq, if_neg hq]
      simp only [cond_false, wrap8 hb]
      rw [penter h hn hb]; rfl
  · simp only [Int.reduceLT, Int.reduceGT, Int.reduceLE, Int.reduceGE, Int.reduceBEq, Int.reduceBNe, Int.reduceEq, Int.reduceNe, decide_true, decide_false, cond_true, cond_false, Option.bind_some, gt_iff_lt, ge_iff_le, if_false, if_true]
    rw [penter h hn ⟨by decide, by decide⟩]; rfl
  · simp only [Int.reduceLT, Int.reduceGT, Int.reduceLE, Int.reduceGE, Int.reduceBEq, Int.reduceBNe, Int.reduceEq, Int.reduceNe, decide_true, decide_false, cond_true, cond_false, Option.bind_some, gt_iff_lt, ge_iff_le, if_false, if_true]
    rw [penter h hn ⟨by decide, by decide⟩]; rfl
  · simp only [Int.reduceLT, Int.reduceGT, Int.reduceLE, Int.reduceGE, Int.reduceBEq, Int.reduceBNe, Int.reduceEq, Int.reduceNe, decide_true, decide_false, cond_true, cond_false, Option.bind_some, gt_iff_lt, ge_iff_le, if_false, if_true]
    rw [show (prog x).cursor = x.Cursor from rfl, pdel hS (cn := cn) r2 hm' hcN hi]
    rw [show (prog x).cells = x.L from rfl, e2]
    cases openI x.L x.Cursor.toNat <;> rfl
  · simp only [Int.reduceLT, Int.reduceGT, Int.reduceLE, Int.reduceGE, Int.reduceBEq, Int.reduceBNe, Int.reduceEq, Int.reduceNe, decide_true, decide_false, cond_true, cond_false, Option.bind_some, gt_iff_lt, ge_iff_le, if_false, if_true]
    rw [show (prog x).cursor = x.Cursor from rfl, pend hS hm' hcN]
    rw [show (prog x).cells = x.L from rfl]
    cases openI x.L x.Cursor.toNat <;> rfl
  · simp only [Int.reduceLT, Int.reduceGT, Int.reduceLE, Int.reduceGE, Int.reduceBEq, Int.reduceBNe, Int.reduceEq, Int.reduceNe, decide_true, decide_false, cond_true, cond_false, Option.bind_some, gt_iff_lt, ge_iff_le, if_false, if_true]
    rw [pera hS, show (prog x).cells = x.L from rfl, hl]; rfl
  · simp only [Int.reduceLT, Int.reduceGT, Int.reduceLE, Int.reduceGE, Int.reduceBEq, Int.reduceBNe, Int.reduceEq, Int.reduceNe, decide_true, decide_false, cond_true, cond_false, Option.bind_some, gt_iff_lt, ge_iff_le, if_false]; rfl
theorem ppress {m n : Int} {N : Nat} {x : Vvitrineref12_Space} (hm : Mod4 m) (h : RS m N x) (hn : n ∈ pgs) (B : Vkeys_Board) (k : Vkeys_Key) : m_keys_Board_Press B (prog x) ⟨n⟩ k = some (prog (pressI n B x k).1, ⟨n⟩, (pressI n B x k).2.1, (pressI n B x k).2.2.1, (pressI n B x k).2.2.2) := by
  unfold m_keys_Board_Press pressI
  rw [(aid_ok k).1, edge1]
  simp only [Option.bind_some]
  by_cases hr : k.Kind < 1 ∨ k.Kind > 22
  · rw [decide_eq_true hr, if_pos hr]; rfl
  rw [decide_eq_false hr, if_neg hr]
  simp only [cond_false]
  by_cases h17 : k.Kind = 17
  · rw [beq_t h17, if_pos h17]
    unfold m_keys_Board_reset
    simp only [cond_true]
    by_cases hl : B.lock = 1
    · rw [if_pos hl, bne_f hl]; simp only [cond_false, Option.bind_some]; rw [hl]
    · rw [if_neg hl, bne_t hl]; rfl
  rw [beq_f h17, if_neg h17]
  simp only [cond_false]
  by_cases hl : B.lock = 0
  · rw [bne_f hl, if_neg (show ¬ (B.lock ≠ 0) from fun e => e hl)]
    simp only [cond_false]
    by_cases h18 : k.Kind = 18
    · rw [beq_t h18, if_pos h18]
      simp only [cond_true, pchoose h hn, Option.bind_some]
    rw [beq_f h18, if_neg h18]
    simp only [cond_false]
    cases hs : sendsB k with
    | true =>
      simp only [cond_true, if_true]
      by_cases h22 : k.Kind = 22
      · rw [beq_t h22, if_pos h22]
        simp only [cond_true, (clear_ok hm (s := prog x) h.model false).1, Option.bind_some, h.model]
        rfl
      · rw [beq_f h22, if_neg h22]
        rfl
    | false =>
      simp only [cond_false, Bool.false_eq_true, if_false]
      have hq : ((cond (k.Kind == 20) (some true) (some (k.Kind == 21))) : Option Bool) = some (decide (k.Kind = 20 ∨ k.Kind = 21)) := by
        by_cases h20 : k.Kind = 20
        · rw [beq_t h20, decide_eq_true (.inl h20)]; rfl
        · rw [beq_f h20]
          by_cases h21 : k.Kind = 21
          · rw [beq_t h21, decide_eq_true (.inr h21)]; rfl
          · rw [beq_f h21, decide_eq_false (by rintro (e | e); exact h20 e; exact h21 e)]; rfl
      rw [hq]
      simp only [Option.bind_some]
      by_cases h2 : k.Kind = 20 ∨ k.Kind = 21
      · rw [decide_eq_true h2, if_pos h2]; rfl
      · rw [decide_eq_false h2, if_neg h2]
        simp only [cond_false, pmovek h]
        by_cases h5 : 5 ≤ k.Kind ∧ k.Kind ≤ 12
        · rw [if_pos h5, if_pos h5]; rfl
        · rw [if_neg h5, if_neg h5]
          simp only [Option.bind_some, cond_false]
          have h19 : k.Kind ≠ 19 := by
            intro e
            unfold sendsB at hs
            rw [e] at hs
            simp at hs
          have h22 : k.Kind ≠ 22 := by
            intro e
            unfold sendsB at hs
            rw [e] at hs
            simp at hs
          rw [pentered h hn B k (by omega)]
          rfl
  · rw [bne_t hl, if_pos hl]; rfl
end Go.Vt
set_option linter.unusedVariables false
set_option linter.unusedSimpArgs false
set_option maxRecDepth 100000
namespace Go.Vt
theorem pl_st {L : List Vapi_Cell} {k i : Nat} (hk : k < L.length) (h : ∀ j, j ≤ i → isA' L (pl L k j) = false) : stI L (pl L k i) = stI L k := by
  by_cases hf : Fmt L
  · have h0 : isA' L k = false := by have := h 0 (by omega); simpa [pl, Nat.mod_eq_of_lt hk] using this
    obtain ⟨a, t, e1, e2, e3, e4, e5⟩ := in_run hf hk h0
    have he : ∀ j, pl L k j = (a + (1 + t + j)) % L.length := fun j => by
      show (k + j) % L.length = _
      rw [← e5, Nat.mod_add_mod]; congr 1; omega
    have hlt : 1 + t + i ≤ runI L a := by
      rcases Nat.lt_or_ge (t + i) (runI L a) with g | g
      · omega
      · exfalso
        have g1 := h (runI L a - t) (by omega)
        rw [he, show a + (1 + t + (runI L a - t)) = a + 1 + runI L a by omega, runI_end (by omega) e2 e3] at g1
        cases g1
    rw [he, stI_run e2 e3 hlt, e1]
  · rw [stI_no hf (Nat.mod_lt _ (by omega)), stI_no hf hk]
theorem modI_rd {L : List Vapi_Cell} {k q : Nat} (hk : k < L.length) (hq : q < L.length) : rd (modI L k) (q : Int) = if stI L k = (q : Int) then mdf (rd L (q : Int)) else rd L (q : Int) := by
  unfold modI
  by_cases hs : stI L k < 0
  · rw [if_pos hs, if_neg (by omega)]
  · have hf : Fmt L := by
      by_cases hf : Fmt L
      · exact hf
      · rw [stI_no hf hk] at hs; exact absurd (by omega) hs
    obtain ⟨b, h1, h2, h3⟩ := stI_at hf hk
    rw [if_neg hs, h1, Int.toNat_natCast, rd_set h2 hq]
    by_cases e : b = q
    · subst e; rw [if_pos rfl, if_pos rfl]
    · rw [if_neg e, if_neg (by omega)]
theorem puts_cell {L : List Vapi_Cell} {f : Nat → Nat} {c : Nat → Int} (hf : ∀ i, f i < L.length) : ∀ j {q : Nat}, q < L.length → rd (puts L f c j) (q : Int) = rd L (q : Int) ∨ ∃ i, i < j ∧ f i = q ∧ rd (puts L f c j) (q : Int) = chr (rd L (q : Int)) (c i)
  | 0, q, hq => .inl rfl
  | j + 1, q, hq => by
    have ih := puts_cell (c := c) hf j hq
    have hpl := puts_len L f c j
    simp only [puts]
    unfold putI
    by_cases ha : isA' (puts L f c j) (f j) = true
    · rw [if_pos ha]
      rcases ih with h | ⟨i, h1, h2, h3⟩
      · exact .inl h
      · exact .inr ⟨i, by omega, h2, h3⟩
    · rw [if_neg ha, rd_set (by rw [hpl]; exact hf j) (by rw [hpl]; exact hq)]
      by_cases e : f j = q
      · subst e
        rw [if_pos rfl]
        refine .inr ⟨j, by omega, rfl, ?_⟩
        rcases ih with h | ⟨i, h1, h2, h3⟩
        · rw [h]
        · rw [h3]; rfl
      · rw [if_neg e]
        rcases ih with h | ⟨i, h1, h2, h3⟩
        · exact .inl h
        · exact .inr ⟨i, by omega, h2, h3⟩
theorem entL_rd {L : List Vapi_Cell} {k q : Nat} {z : Int} (hk : k < L.length) (hq : q < L.length) : rd (entL L k z) (q : Int) = if k = q then ent (rd L (q : Int)) z else rd L (q : Int) := by
  unfold entL
  rw [rd_set hk hq]
  by_cases e : k = q
  · subst e; rw [if_pos rfl]
  · rw [if_neg e, if_neg e]
theorem bor11 : ∀ f : Fin 256, ibor .u8 (ibor .u8 (f.val : Int) 1) 1 = ibor .u8 (f.val : Int) 1 := by decide +kernel
theorem mdf_mdf {c : Vapi_Cell} (h : By c.FA) : mdf (mdf c) = mdf c := by
  have := bor11 ⟨c.FA.toNat, by have := h.1; have := h.2; omega⟩
  have e : ((c.FA.toNat : Nat) : Int) = c.FA := by have := h.1; omega
  simp only [e] at this
  unfold mdf
  simp only [this]
/-- the field of place q isn't protected -/
def Unp (L : List Vapi_Cell) (q : Nat) : Prop := stI L q < 0 ∨ (fld (faI L q)).Protected = false
def NumOk (n : Int) (L : List Vapi_Cell) (q : Nat) (c : Int) : Prop := stI L q < 0 ∨ (fld (faI L q)).Numeric = false ∨ numB n c = true
def DispOk (L : List Vapi_Cell) (q : Nat) : Prop := ¬ (stI L q < 0) ∧ ((fld (faI L q)).Display = 1 ∨ (fld (faI L q)).Display = 2)
def ChOk (n : Int) (L : List Vapi_Cell) (K : Int) (q : Nat) (c : Int) : Prop :=
  c = 0 ∨ (∃ p, p < L.length ∧ isA' L p = false ∧ stI L p = stI L q ∧ c = (rd L (p : Int)).Char) ∨ NumOk n L q c ∨ (K = 18 ∧ DispOk L q)
def Chg (n : Int) (L L' : List Vapi_Cell) (k : Nat) (K : Int) (q : Nat) : Prop :=
  rd L' (q : Int) = rd L (q : Int) ∨
  (isA' L q = true ∧ stI L k = (q : Int) ∧ rd L' (q : Int) = mdf (rd L (q : Int))) ∨
  (isA' L q = true ∧ K = 15 ∧ (fld (rd L (q : Int)).FA).Protected = false ∧ rd L' (q : Int) = demod (rd L (q : Int))) ∨
  (isA' L q = false ∧ (rd L' (q : Int)).Attr = false ∧ Unp L q ∧ ChOk n L K q (rd L' (q : Int)).Char)
theorem Chg.rfl {n : Int} {L : List Vapi_Cell} {k : Nat} {K : Int} {q : Nat} : Chg n L L k K q := .inl (Eq.refl _)
theorem st_pos {L : List Vapi_Cell} {k q : Nat} (hk : k < L.length) (h : stI L k = (q : Int)) : isA' L q = true := by
  have hf : Fmt L := by
    by_cases hf : Fmt L
    · exact hf
    · rw [stI_no hf hk] at h; omega
  obtain ⟨b, h1, h2, h3⟩ := stI_at hf hk
  rw [h1] at h
  have : b = q := by omega
  subst this; exact h3
theorem open_unp {L : List Vapi_Cell} {k : Nat} (h : openI L k = true) : Unp L k := by
  unfold openI at h
  simp only [Bool.and_eq_true, Bool.or_eq_true, decide_eq_true_eq, Bool.not_eq_true'] at h
  exact h.2
theorem Unp.st {L : List Vapi_Cell} {k q : Nat} (h : Unp L k) (e : stI L q = stI L k) : Unp L q := by
  unfold Unp faI at *
  rw [e]; exact h
/-- characters laid at places of the cursor's field, and the field marked -/
theorem chg_mod {n : Int} {L M : List Vapi_Cell} {k : Nat} {K : Int} (hk : k < L.length) (hl : M.length = L.length) (hA : ∀ q, q < L.length → isA' M q = isA' L q)
    (h : ∀ q, q < L.length → rd M (q : Int) = rd L (q : Int) ∨ (isA' L q = true ∧ stI L k = (q : Int) ∧ rd M (q : Int) = mdf (rd L (q : Int))) ∨ (isA' L q = false ∧ (rd M (q : Int)).Attr = false ∧ Unp L q ∧ ChOk n L K q (rd M (q : Int)).Char))
    (hb : ∀ c ∈ L, COk c) : ∀ q, q < L.length → Chg n L (modI M k) k K q := by
  intro q hq
  have hst : stI M k = stI L k := stI_isA hl hA hk
  unfold Chg
  rw [modI_rd (by omega) (by omega), hst]
  by_cases e : stI L k = (q : Int)
  · rw [if_pos e]
    have ha := st_pos hk e
    refine .inr (.inl ⟨ha, e, ?_⟩)
    rcases h q hq with g | ⟨_, _, g⟩ | ⟨g, _⟩
    · rw [g]
    · rw [g, mdf_mdf (hb _ (rd_mem (by omega))).fa]
    · rw [ha] at g; cases g
  · rw [if_neg e]
    rcases h q hq with g | g | g
    · exact .inl g
    · exact .inr (.inl g)
    · exact .inr (.inr (.inr g))
theorem puts_chg {n : Int} {L : List Vapi_Cell} {k : Nat} {K : Int} (hk : k < L.length) (ho : Unp L k) {c : Nat → Int} {R : Nat} (hR : ∀ i, i < R → isA' L (pl L k i) = false)
    (hc : ∀ i, i < R → c i = 0 ∨ (∃ j, j < R ∧ c i = (rd L ((pl L k j : Nat) : Int)).Char) ∨ NumOk n L k (c i)) :
    ∀ q, q < L.length → rd (puts L (pl L k) c R) (q : Int) = rd L (q : Int) ∨ (isA' L q = false ∧ (rd (puts L (pl L k) c R) (q : Int)).Attr = false ∧ Unp L q ∧ ChOk n L K q (rd (puts L (pl L k) c R) (q : Int)).Char) := by
  intro q hq
  have hf : ∀ i, pl L k i < L.length := fun i => pl_lt (by omega) i
  have hst : ∀ i, i < R → stI L (pl L k i) = stI L k := fun i hi => pl_st hk fun j hj => hR j (by omega)
  rcases puts_cell (c := c) hf R hq with h | ⟨i, h1, h2, h3⟩
  · exact .inl h
  · have hA := hR i h1
    have hs := hst i h1
    rw [h2] at hA hs
    refine .inr ⟨hA, by rw [h3]; exact hA, ho.st hs, ?_⟩
    rw [h3]
    show ChOk n L K q (c i)
    rcases hc i h1 with g | ⟨j, g1, g2⟩ | g
    · exact .inl g
    · exact .inr (.inl ⟨pl L k j, hf j, hR j g1, by rw [hst j g1, hs], g2⟩)
    · refine .inr (.inr (.inl ?_))
      unfold NumOk faI at g ⊢
      rw [hs]; exact g
theorem enter_chg {m n : Int} {N : Nat} {x : Vvitrineref12_Space} (h : RS m N x) (B : Vkeys_Board) (c : Int) (K : Int) : ∀ q, q < N → Chg n x.L (enterI n B x c).1.L x.Cursor.toNat K q := by
  obtain ⟨hk, hkN⟩ := h.n
  have hl := h.len
  unfold enterI
  generalize x.Cursor.toNat = k at hk hkN
  by_cases ho : openI x.L k = false
  · rw [if_pos ho]; exact fun q hq => .rfl
  rw [if_neg ho]
  have ho' : openI x.L k = true := by simpa using ho
  have hA := open_no ho'
  have hU := open_unp ho'
  by_cases hn : ¬ (stI x.L k < 0) ∧ (fld (faI x.L k)).Numeric = true ∧ numB n c = false
  · rw [if_pos hn]; exact fun q hq => .rfl
  rw [if_neg hn]
  have hN : NumOk n x.L k c := by
    unfold NumOk
    by_cases h1 : stI x.L k < 0
    · exact .inl h1
    · cases h2 : (fld (faI x.L k)).Numeric with
      | false => exact .inr (.inl rfl)
      | true =>
        cases h3 : numB n c with
        | true => exact .inr (.inr rfl)
        | false => exact absurd ⟨h1, h2, h3⟩ hn
  have hent : ∀ M : List Vapi_Cell, M.length = x.L.length → (∀ q, q < x.L.length → isA' M q = isA' x.L q) → (∀ q, q < x.L.length → rd M (q : Int) = rd x.L (q : Int) ∨ (isA' x.L q = true ∧ stI x.L k = (q : Int) ∧ rd M (q : Int) = mdf (rd x.L (q : Int))) ∨ (isA' x.L q = false ∧ (rd M (q : Int)).Attr = false ∧ Unp x.L q ∧ ChOk n x.L K q (rd M (q : Int)).Char)) →
      ∀ q, q < N → Chg n x.L (modI (entL M k c) k) k K q := by
    intro M m1 m2 m3 q hq
    refine chg_mod (by omega) (by rw [entL_len]; exact m1) (fun q hq => by rw [entL_isA (by omega) (by omega)]; exact m2 q hq) (fun q hq => ?_) h.ok q (by omega)
    rw [entL_rd (by omega) (by omega)]
    by_cases e : k = q
    · subst e
      rw [if_pos rfl]
      have := m2 k hq
      rw [hA] at this
      exact .inr (.inr ⟨hA, this, hU, .inr (.inr (.inl hN))⟩)
    · rw [if_neg e]; exact m3 q hq
  by_cases hi : B.inserts = true ∧ c ≠ 28
  · by_cases hj : insE x.L k < rl x.L k true
    · rw [if_neg (fun e => e.2 hj)]
      simp only [if_pos hi]
      refine hent (insI x.L k c) (insI_len _ _ _) (fun q hq => insI_isA (by omega) hq) (fun q hq => ?_)
      have hf : ∀ i, pl x.L k i < x.L.length := fun i => pl_lt (by omega) i
      have hp := puts_chg (n := n) (K := K) (k := k) (by omega) hU (c := insC x.L k c) (R := insE x.L k + 1) (fun i hi => rl_no (by omega) (show i < rl x.L k true by omega)) (fun i hi => by
        unfold insC
        by_cases h0 : i = 0
        · rw [if_pos h0]; exact .inr (.inr hN)
        · rw [if_neg h0]; exact .inr (.inl ⟨i - 1, by omega, rfl⟩)) q hq
      unfold insI
      rw [modI_rd (by rw [puts_len]; omega) (by rw [puts_len]; exact hq), puts_fmt hf (by omega)]
      by_cases e : stI x.L k = (q : Int)
      · rw [if_pos e]
        have ha := st_pos (by omega) e
        rcases hp with g | ⟨g, _⟩
        · rw [g]; exact .inr (.inl ⟨ha, e, rfl⟩)
        · rw [ha] at g; cases g
      · rw [if_neg e]
        rcases hp with g | g
        · exact .inl g
        · exact .inr (.inr g)
    · rw [if_pos ⟨hi, hj⟩]; exact fun q hq => .rfl
  · rw [if_neg (fun e => hi e.1)]
    simp only [if_neg hi]
    exact hent x.L rfl (fun _ _ => rfl) (fun q hq => .inl rfl)
theorem putI_rd {L : List Vapi_Cell} {p q : Nat} {z : Int} (hp : p < L.length) (hq : q < L.length) : rd (putI L p z) (q : Int) = if p = q ∧ isA' L p = false then chr (rd L (q : Int)) z else rd L (q : Int) := by
  unfold putI
  cases h : isA' L p with
  | true => rw [if_pos rfl, if_neg (by simp)]
  | false =>
    rw [if_neg (by simp), rd_set hp hq]
    by_cases e : p = q
    · subst e; rw [if_pos rfl, if_pos ⟨rfl, rfl⟩]
    · rw [if_neg e, if_neg (fun g => e g.1)]
theorem choose_chg {m n : Int} {N : Nat} {x : Vvitrineref12_Space} (h : RS m N x) (B : Vkeys_Board) : ∀ q, q < N → Chg n x.L (chooseI n B x).1.L x.Cursor.toNat 18 q := by
  obtain ⟨hk, hkN⟩ := h.n
  have hl := h.len
  unfold chooseI
  generalize x.Cursor.toNat = k at hk hkN
  simp only
  by_cases h1 : stI x.L k < 0 ∨ isA' x.L k = true ∨ ¬ ((fld (faI x.L k)).Display = 1 ∨ (fld (faI x.L k)).Display = 2)
  · rw [if_pos h1]; exact fun q hq => .rfl
  rw [if_neg h1]
  have g1 : ¬ (stI x.L k < 0) := fun e => h1 (.inl e)
  have g2 : isA' x.L k = false := by cases e : isA' x.L k with | false => rfl | true => exact absurd (.inr (.inl e)) h1
  have g3 : (fld (faI x.L k)).Display = 1 ∨ (fld (faI x.L k)).Display = 2 := Classical.byContradiction fun e => h1 (.inr (.inr e))
  have hD : DispOk x.L k := ⟨g1, g3⟩
  have hf : Fmt x.L := by
    by_cases hf : Fmt x.L
    · exact hf
    · rw [stI_no hf (by omega)] at g1; exact absurd (by omega) g1
  obtain ⟨b, b1, b2, b3⟩ := stI_at hf (n := k) (by omega)
  have hat : atN x.L k = (b + 1) % x.L.length := by unfold atN; rw [b1, Int.toNat_natCast]
  rw [hat]
  have hp : (b + 1) % x.L.length < x.L.length := Nat.mod_lt _ (by omega)
  -- the place behind the attribute is in the same field, if it's none itself
  have hsame : isA' x.L ((b + 1) % x.L.length) = false → stI x.L ((b + 1) % x.L.length) = stI x.L k := fun e => by
    have hr : 0 < runI x.L b := by
      rcases Nat.eq_zero_or_pos (runI x.L b) with g | g
      · have := runI_end (L := x.L) (a := b) (by omega) b2 b3
        rw [g, Nat.add_zero, e] at this; cases this
      · exact g
    rw [stI_run b2 b3 hr, b1]
  have hput : ∀ z, (fld (faI x.L k)).Protected = false → ∀ q, q < x.L.length → rd (putI x.L ((b + 1) % x.L.length) z) (q : Int) = rd x.L (q : Int) ∨ (isA' x.L q = false ∧ (rd (putI x.L ((b + 1) % x.L.length) z) (q : Int)).Attr = false ∧ Unp x.L q ∧ ChOk n x.L 18 q (rd (putI x.L ((b + 1) % x.L.length) z) (q : Int)).Char) := by
    intro z hpr q hq
    rw [putI_rd hp hq]
    by_cases e : (b + 1) % x.L.length = q ∧ isA' x.L ((b + 1) % x.L.length) = false
    · rw [if_pos e]
      have hs := hsame e.2
      have ha := e.2
      rw [e.1] at hs ha
      refine .inr ⟨ha, ha, .inr ?_, .inr (.inr (.inr ⟨rfl, ?_⟩))⟩
      · unfold faI at hpr ⊢; rw [hs]; exact hpr
      · unfold DispOk faI at hD ⊢; rw [hs]; exact hD
    · rw [if_neg e]; exact .inl rfl
  have hmod : ∀ q, q < N → Chg n x.L (modI x.L k) k 18 q := fun q hq => chg_mod (by omega) rfl (fun _ _ => rfl) (fun q hq => .inl rfl) h.ok q (by omega)
  by_cases hd : desI n (rd x.L (((b + 1) % x.L.length : Nat) : Int)).Char = 0 ∨ (desI n (rd x.L (((b + 1) % x.L.length : Nat) : Int)).Char < 3 ∧ (fld (faI x.L k)).Protected = true)
  · rw [if_pos hd]; exact fun q hq => .rfl
  rw [if_neg hd]
  have hprot : desI n (rd x.L (((b + 1) % x.L.length : Nat) : Int)).Char < 3 → (fld (faI x.L k)).Protected = false := fun e => by
    cases g : (fld (faI x.L k)).Protected with
    | false => rfl
    | true => exact absurd (.inr ⟨e, g⟩) hd
  by_cases d1 : desI n (rd x.L (((b + 1) % x.L.length : Nat) : Int)).Char = 1
  · rw [if_pos d1]
    intro q hq
    refine chg_mod (by omega) (putI_len _ _ _) (fun q hq => putI_isA hp hq) (fun q hq => ?_) h.ok q (by omega)
    rcases hput (cdI n 62) (hprot (by omega)) q hq with g | g
    · exact .inl g
    · exact .inr (.inr g)
  rw [if_neg d1]
  by_cases d2 : desI n (rd x.L (((b + 1) % x.L.length : Nat) : Int)).Char = 2
  · rw [if_pos d2]
    intro q hq
    rcases hput (cdI n 63) (hprot (by omega)) q (by omega) with g | g
    · exact .inl g
    · exact .inr (.inr (.inr g))
  rw [if_neg d2]
  by_cases d3 : desI n (rd x.L (((b + 1) % x.L.length : Nat) : Int)).Char = 3
  · rw [if_pos d3]; exact hmod
  · rw [if_neg d3]; exact hmod
theorem prot32 : ∀ f : Fin 256, (iband .u8 (f.val : Int) 32 = 0) ↔ (fld (f.val : Int)).Protected = false := by decide +kernel
theorem eraI_chg {n : Int} {L : List Vapi_Cell} {k : Nat} (hok : ∀ c ∈ L, COk c) (h0 : 0 < L.length) : ∀ q, q < L.length → Chg n L (eraI L) k 15 q := by
  intro q hq
  unfold Chg
  rw [eraI_rd hq]
  unfold eraC
  have hby : ∀ p : Nat, p < L.length → By (rd L (p : Int)).FA := fun p hp => (hok _ (rd_mem (by omega))).fa
  have h32 : ∀ p : Nat, p < L.length → iband .u8 (rd L (p : Int)).FA 32 = 0 → (fld (rd L (p : Int)).FA).Protected = false := fun p hp e => by
    have hb := hby p hp
    have := prot32 ⟨(rd L (p : Int)).FA.toNat, by have := hb.1; have := hb.2; omega⟩
    have e2 : (((rd L (p : Int)).FA.toNat : Nat) : Int) = (rd L (p : Int)).FA := by have := hb.1; omega
    simp only [e2] at this
    exact this.1 e
  by_cases hf : Fmt L
  · rw [if_pos hf]
    obtain ⟨b, b1, b2, b3⟩ := stI_at hf hq
    have hst : stF L (lastA L) q = (b : Int) := b1
    unfold er
    simp only [hst]
    by_cases h3 : iband .u8 (rd L (b : Int)).FA 32 = 0
    · rw [if_pos h3]
      have hp := h32 b b2 h3
      cases ha : (rd L (q : Int)).Attr with
      | true =>
        rw [if_pos rfl]
        have hs := stI_self (L := L) (n := q) ha
        rw [b1] at hs
        have e : b = q := by omega
        subst e
        exact .inr (.inr (.inl ⟨ha, trivial, hp, rfl⟩))
      | false =>
        rw [if_neg (by simp)]
        refine .inr (.inr (.inr ⟨ha, ha, .inr ?_, .inl rfl⟩))
        unfold faI; rw [b1]; exact hp
    · rw [if_neg h3]; exact .inl rfl
  · rw [if_neg hf]
    have hs := stI_no hf hq
    have ha := no_fmt hf hq
    exact .inr (.inr (.inr ⟨ha, ha, .inl (by omega), .inl rfl⟩))
/-- what a press changes that isn't Clear -/
theorem press_chg {m n : Int} {N : Nat} {x : Vvitrineref12_Space} (h : RS m N x) (B : Vkeys_Board) (k : Vkeys_Key) (hC : ¬ (k.Kind = 22 ∧ (pressI n B x k).2.2.1 = true)) :
    (pressI n B x k).1.Alt = x.Alt ∧ (pressI n B x k).1.L.length = N ∧ ∀ q, q < N → Chg n x.L (pressI n B x k).1.L x.Cursor.toNat k.Kind q := by
  have hl := h.len
  obtain ⟨hk, hkN⟩ := h.n
  have same : ∀ q, q < N → Chg n x.L x.L x.Cursor.toNat k.Kind q := fun q hq => .rfl
  unfold pressI at hC ⊢
  by_cases h1 : k.Kind < 1 ∨ k.Kind > 22
  · rw [if_pos h1]; exact ⟨rfl, hl, same⟩
  simp only [if_neg h1] at hC ⊢
  by_cases h17 : k.Kind = 17
  · rw [if_pos h17]; exact ⟨rfl, hl, same⟩
  simp only [if_neg h17] at hC ⊢
  by_cases hlk : B.lock ≠ 0
  · rw [if_pos hlk]; exact ⟨rfl, hl, same⟩
  simp only [if_neg hlk] at hC ⊢
  by_cases h18 : k.Kind = 18
  · rw [if_pos h18, h18]
    have e := choose_chg (n := n) h B
    refine ⟨?_, ?_, e⟩
    · unfold chooseI; simp only; repeat' split
      all_goals rfl
    · unfold chooseI; simp only; repeat' split
      all_goals first | exact hl | (show (modI _ _).length = N; rw [modI_len]; first | exact hl | (rw [putI_len]; exact hl)) | (show (putI _ _ _).length = N; rw [putI_len]; exact hl)
  simp only [if_neg h18] at hC ⊢
  by_cases hs : sendsB k = true
  · simp only [if_pos hs] at hC ⊢
    rw [if_neg (fun e => hC ⟨e, trivial⟩)]; exact ⟨rfl, hl, same⟩
  simp only [if_neg hs]
  by_cases h2 : k.Kind = 20 ∨ k.Kind = 21
  · rw [if_pos h2]; exact ⟨rfl, hl, same⟩
  rw [if_neg h2]
  by_cases h5 : 5 ≤ k.Kind ∧ k.Kind ≤ 12
  · rw [if_pos h5]; exact ⟨rfl, hl, same⟩
  rw [if_neg h5]
  have hent : ∀ c, (enterI n B x c).1.Alt = x.Alt ∧ (enterI n B x c).1.L.length = N ∧ ∀ q, q < N → Chg n x.L (enterI n B x c).1.L x.Cursor.toNat k.Kind q := fun c => by
    refine ⟨?_, ?_, enter_chg h B c k.Kind⟩
    · unfold enterI; simp only; repeat' split
      all_goals rfl
    · unfold enterI; simp only
      split
      · exact hl
      split
      · exact hl
      split
      · exact hl
      · show (modI (entL _ _ _) _).length = N
        rw [modI_len, entL_len]
        split
        · rw [insI_len]; exact hl
        · exact hl
  have hf : ∀ i, pl x.L x.Cursor.toNat i < x.L.length := fun i => pl_lt (by omega) i
  have hput : ∀ (c : Nat → Int) (R : Nat), openI x.L x.Cursor.toNat = true → (∀ i, i < R → isA' x.L (pl x.L x.Cursor.toNat i) = false) → (∀ i, i < R → c i = 0 ∨ (∃ j, j < R ∧ c i = (rd x.L ((pl x.L x.Cursor.toNat j : Nat) : Int)).Char) ∨ NumOk n x.L x.Cursor.toNat (c i)) →
      ∀ q, q < N → Chg n x.L (modI (puts x.L (pl x.L x.Cursor.toNat) c R) x.Cursor.toNat) x.Cursor.toNat k.Kind q := fun c R ho hR hc q hq => by
    refine chg_mod (by omega) (puts_len _ _ _ _) (fun q hq => puts_isA hf R hq) (fun q hq => ?_) h.ok q (by omega)
    rcases puts_chg (n := n) (K := k.Kind) (by omega) (open_unp ho) hR hc q hq with g | g
    · exact .inl g
    · exact .inr (.inr g)
  unfold editI
  by_cases k1 : k.Kind = 1
  · simp only [if_pos k1]
    split
    · exact ⟨rfl, hl, same⟩
    · exact hent _
  simp only [if_neg k1]
  by_cases k2 : k.Kind = 2
  · simp only [if_pos k2]
    split
    · exact ⟨rfl, hl, same⟩
    · exact hent _
  simp only [if_neg k2]
  by_cases k3 : k.Kind = 3
  · simp only [if_pos k3]; exact hent _
  simp only [if_neg k3]
  by_cases k4 : k.Kind = 4
  · simp only [if_pos k4]; exact hent _
  simp only [if_neg k4]
  by_cases k13 : k.Kind = 13
  · simp only [if_pos k13]
    by_cases ho : openI x.L x.Cursor.toNat = true
    · rw [if_pos ho]
      refine ⟨rfl, by show (delI _ _ _).length = N; unfold delI; rw [modI_len, puts_len]; exact hl, ?_⟩
      refine hput _ _ ho (fun i hi => rw_no hi) fun i hi => ?_
      unfold delC
      by_cases hi1 : i + 1 < rw' x.L x.Size.Cols.toNat x.Cursor.toNat
      · rw [if_pos hi1]; exact .inr (.inl ⟨i + 1, hi1, rfl⟩)
      · rw [if_neg hi1]; exact .inl rfl
    · rw [if_neg ho]; exact ⟨rfl, hl, same⟩
  simp only [if_neg k13]
  by_cases k14 : k.Kind = 14
  · simp only [if_pos k14]
    by_cases ho : openI x.L x.Cursor.toNat = true
    · rw [if_pos ho]
      refine ⟨rfl, by show (endI _ _).length = N; unfold endI; rw [modI_len, puts_len]; exact hl, ?_⟩
      exact hput _ _ ho (fun i hi => rl_no (by omega) hi) fun i hi => .inl rfl
    · rw [if_neg ho]; exact ⟨rfl, hl, same⟩
  simp only [if_neg k14]
  by_cases k15 : k.Kind = 15
  · simp only [if_pos k15]
    refine ⟨rfl, by show (eraI _).length = N; rw [eraI_len]; exact hl, ?_⟩
    rw [k15]
    intro q hq
    exact eraI_chg h.ok (by omega) q (by omega)
  simp only [if_neg k15]
  exact ⟨trivial, hl, same⟩
end Go.Vt
set_option linter.unusedVariables false
set_option linter.unusedSimpArgs false
set_option maxRecDepth 100000
namespace Go.Vt
def keyP (k : Vvitrineref18_Key) : Vkeys_Key := ⟨k.Kind, k.Sign, k.N⟩
def stepK (n : Int) (s : Vkeys_Board × Vvitrineref12_Space) (k : Vvitrineref18_Key) : Vkeys_Board × Vvitrineref12_Space :=
  if k.Kind = -1 then (⟨0, s.1.inserts, 96⟩, s.2) else if k.Kind = -2 then ({ s.1 with lock := 1 }, s.2) else ((pressI n s.1 s.2 (keyP k)).2.1, (pressI n s.1 s.2 (keyP k)).1)
def foldK (n : Int) (s : Vkeys_Board × Vvitrineref12_Space) (l : List Vvitrineref18_Key) (i : Nat) : Vkeys_Board × Vvitrineref12_Space := (l.take i).foldl (stepK n) s
abbrev T21 := Int × Int × Bool × Int × Int × Bool × Int × Int × (List Vapi_Cell) × Int × Int × Int × Bool × Int × Int × Bool × Int × Int × (List Vapi_Cell) × Int × Int
def tK (n : Int) (B : Vkeys_Board) (x : Vvitrineref12_Space) : T21 := (n, B.lock, B.inserts, B.aid, (prog x).model, (prog x).alternate, (prog x).size.Rows, (prog x).size.Cols, (prog x).cells, (prog x).cursor, (prog x).attrs, B.lock, B.inserts, B.aid, x.Model, x.Alt, x.Size.Rows, x.Size.Cols, x.L, x.Cursor, n)
end Go.Vt
set_option linter.unusedVariables false
set_option linter.unusedSimpArgs false
set_option maxRecDepth 100000
namespace Go.Vt
abbrev T11 := Int × Bool × Int × Int × (List Vapi_Cell) × Int × Int × Int × Bool × Int × Int
def tL (n : Int) (B : Vkeys_Board) (x : Vvitrineref12_Space) : T11 := ((prog x).model, (prog x).alternate, (prog x).size.Rows, (prog x).size.Cols, (prog x).cells, (prog x).cursor, (prog x).attrs, B.lock, B.inserts, B.aid, n)
end Go.Vt
set_option linter.unusedVariables false
set_option linter.unusedSimpArgs false
set_option maxRecDepth 100000
namespace Go.Vt
def zc0 : Vapi_Cell := ⟨0, false, 0, 0, 0, 0⟩
def atc (f : Int) : Vapi_Cell := ⟨0, true, iband .u8 f 61, 0, 0, 0⟩
theorem do_sf {m : Int} {N : Nat} {x : Vvitrineref12_Space} (h : RS m N x) {q : Nat} (hq : q < N) {f : Int} (hf : By f) : m_vitrineref12_Do x ⟨3, (q : Int), false, f, zc0, []⟩ = some (wL x (x.L.set q (atc f))) ∧ RS m N (wL x (x.L.set q (atc f))) := by
  have z : By 0 := ⟨by decide, by decide⟩
  have hs := rs_set h (q : Int) (c := ⟨0, true, f, 0, 0, 0⟩) ⟨z, hf, z, z, z⟩
  rw [nat_emod hq, Int.toNat_natCast] at hs
  have he : Vt.fit ⟨0, true, f, 0, 0, 0⟩ = atc f := rfl
  rw [he] at hs
  refine ⟨?_, hs.2⟩
  have hs1 := hs.1
  unfold m_vitrineref12_Do
  have t : Int.tmod 3 6 = 3 := by decide
  have hs2 : m_vitrineref12_Set ⟨x.Model, x.Alt, x.Size, x.L, x.Cursor⟩ (q : Int) ⟨0, true, f, 0, 0, 0⟩ = _ := hs1
  simp only [t, Int.reduceBEq, cond_true, cond_false, hs2, Option.bind_some]
  rfl
theorem do_cur {m : Int} {N : Nat} {x : Vvitrineref12_Space} (h : RS m N x) {q : Nat} (hq : q < N) : m_vitrineref12_Do x ⟨1, (q : Int), false, 0, zc0, []⟩ = some (rC x (q : Int)) ∧ RS m N (rC x (q : Int)) := by
  refine ⟨?_, h.c (by omega) (by omega)⟩
  unfold m_vitrineref12_Do
  have t : Int.tmod 1 6 = 1 := by decide
  have hw : m_vitrineref12_Wrap ⟨x.Model, x.Alt, x.Size, x.L, x.Cursor⟩ (q : Int) = some ((q : Int) % N) := rs_wrap h (q : Int)
  simp only [t, Int.reduceBEq, cond_true, cond_false, hw, nat_emod hq, Option.bind_some]
  rfl
def twoL (N : Nat) (f0 f1 : Int) (b : Nat) : List Vapi_Cell := ((List.replicate N zc).set 0 (atc f0)).set b (atc f1)
theorem twoL_rd {N : Nat} {f0 f1 : Int} {b q : Nat} (hb : b < N) (hq : q < N) : rd (twoL N f0 f1 b) (q : Int) = if b = q then atc f1 else if 0 = q then atc f0 else zc := by
  unfold twoL
  rw [rd_set (by simp; omega) (by simp; omega), rd_set (by simp; omega) (by simp; omega)]
  split
  · rfl
  split
  · rfl
  · rw [rdn (by simp; omega)]; simp
theorem nof_le {m : Int} (hm : Mod4 m) (a : Bool) : 1920 ≤ nOf m a ∧ nOf m a ≤ 3564 := by
  rcases hm with rfl | rfl | rfl | rfl <;> cases a <;> decide
theorem lay_two {p q : Int} (hp : By p) (hq : By q) {f0 f1 : Int} (hf0 : By f0) (hf1 : By f1) {b c : Nat} (hb : b < 1920) (hc : c < 1920) :
    ∃ m N x, Mod4 m ∧ RS m N x ∧ 1920 ≤ N ∧ x.L = twoL N f0 f1 b ∧ x.Cursor = (c : Int) ∧ m_vitrinelaw18_lay p q [⟨3, 0, false, f0, zc0, []⟩, ⟨3, (b : Int), false, f1, zc0, []⟩, ⟨1, (c : Int), false, 0, zc0, []⟩] = some (⟨0, false, 96⟩, prog x, ⟨pgN q⟩, ⟨pgN q, 0, false, 96⟩, x) := by
  have z : By 0 := ⟨by decide, by decide⟩
  have z3 : By 3 := ⟨by decide, by decide⟩
  have z1 : By 1 := ⟨by decide, by decide⟩
  have hcb : CB zc0 := ⟨z, z, z, z, z⟩
  have ha : ∀ a ∈ ([⟨3, 0, false, f0, zc0, []⟩, ⟨3, (b : Int), false, f1, zc0, []⟩, ⟨1, (c : Int), false, 0, zc0, []⟩] : List Vvitrineref12_Act), AOk a := by
    intro a h
    simp only [List.mem_cons, List.not_mem_nil, or_false] at h
    rcases h with rfl | rfl | rfl
    · exact ⟨z3, hf0, hcb, (fun n hn => nomatch hn), by simp⟩
    · exact ⟨z3, hf1, hcb, (fun n hn => nomatch hn), by simp⟩
    · exact ⟨z1, z, hcb, (fun n hn => nomatch hn), by simp⟩
  obtain ⟨N, x, hx, hr, hlay⟩ := vitrinelaw18_lay_ok hp hq ha (by simp)
  obtain ⟨_, hm⟩ := mod4_of hp
  refine ⟨2 + p % 4, N, x, hm, hr, ?_, ?_, ?_, hlay⟩
  all_goals
    generalize 2 + p % 4 = m at hm hx hr
    have h0 := rs_clr hm false
    have hn := (nof_le hm false).1
    obtain ⟨g1, r1⟩ := do_sf h0 (q := 0) (by omega) hf0
    obtain ⟨g2, r2⟩ := do_sf r1 (q := b) (by omega) hf1
    obtain ⟨g3, r3⟩ := do_cur r2 (q := c) (by omega)
    simp only [List.take_succ_cons, List.take_nil, doAll] at hx
    have g1' : m_vitrineref12_Do (clr m false) ⟨3, 0, false, f0, zc0, []⟩ = _ := g1
    rw [g1'] at hx
    simp only [Option.bind_some] at hx
    rw [g2] at hx
    simp only [Option.bind_some] at hx
    rw [g3] at hx
    simp only [Option.bind_some] at hx
    obtain rfl := Option.some.inj hx
    have hN : N = nOf m false := hr.nof
  · omega
  · rw [hN]; rfl
  · rfl
theorem stI_two {L : List Vapi_Cell} {N b : Nat} (hl : L.length = N) (hb0 : 0 < b) (hb : b < N) (hA : ∀ q, q < N → isA' L q = decide (q = 0 ∨ q = b)) : (∀ q, q < b → stI L q = 0) ∧ ∀ q, b ≤ q → q < N → stI L q = (b : Int) := by
  have h0 : isA' L 0 = true := by rw [hA 0 (by omega)]; simp
  have hbt : isA' L b = true := by rw [hA b hb]; simp
  have hf : Fmt L := ⟨0, by omega, h0⟩
  constructor
  · intro q hq
    have := stF_fwd (L := L) (N := L.length) (lastA_cyc hf) (a := 0) (by omega) h0 q (fun t h1 h2 => by
      rw [Nat.zero_add, Nat.mod_eq_of_lt (by omega), hA t (by omega)]; simp; omega)
    rw [Nat.zero_add, Nat.mod_eq_of_lt (by omega)] at this
    exact this
  · intro q h1 h2
    have := stF_fwd (L := L) (N := L.length) (lastA_cyc hf) (a := b) (by omega) hbt (q - b) (fun t h3 h4 => by
      rw [Nat.mod_eq_of_lt (by omega), hA (b + t) (by omega)]; simp; omega)
    rw [show b + (q - b) = q by omega, Nat.mod_eq_of_lt (by omega)] at this
    exact this
/-- two attributes mean the same but for the mark -/
def FEq (f g : Int) : Prop := (fld f).Protected = (fld g).Protected ∧ (fld f).Numeric = (fld g).Numeric ∧ (fld f).Display = (fld g).Display
theorem Chg.isA {n : Int} {L L' : List Vapi_Cell} {k : Nat} {K : Int} {q : Nat} (h : Chg n L L' k K q) : isA' L' q = isA' L q := by
  unfold isA'
  rcases h with g | ⟨_, _, g⟩ | ⟨_, _, _, g⟩ | ⟨g1, g2, _⟩
  · rw [g]
  · rw [g]; rfl
  · rw [g]; rfl
  · rw [g2]; exact g1.symm
end Go.Vt
set_option linter.unusedVariables false
set_option linter.unusedSimpArgs false
set_option maxRecDepth 100000
namespace Go.Vt
theorem rdW_pos (s : ByteArray) (i : Nat) (h : i < s.size) : 1 ≤ rdW s i := by
  unfold rdW
  by_cases ha : (s[i]'h).toNat < 128
  · rw [decode_ascii s i h ha]; exact Nat.le_refl _
  · exact (decode_high s i h (by omega)).2
/-- where the i-th rune begins -/
def rpos (s : ByteArray) : Nat → Nat
  | 0 => 0
  | i + 1 => rpos s i + rdW s (rpos s i)
def rcnt (s : ByteArray) : Nat := tl (fun i => decide (rpos s i < s.size)) s.size
theorem rcnt_lt {s : ByteArray} {i : Nat} (h : i < rcnt s) : rpos s i < s.size := by have := tl_lt h; simpa using this
theorem rpos_ge {s : ByteArray} : ∀ i, i ≤ rcnt s → i ≤ rpos s i
  | 0, _ => Nat.zero_le _
  | i + 1, h => by
    have h1 := rpos_ge (s := s) i (by omega)
    have h2 := rdW_pos s _ (rcnt_lt (s := s) (i := i) (by omega))
    show i + 1 ≤ rpos s i + rdW s (rpos s i); omega
theorem rcnt_end (s : ByteArray) : ¬ rpos s (rcnt s) < s.size := by
  rcases Nat.lt_or_ge (rcnt s) s.size with h | h
  · have h2 : decide (rpos s (rcnt s) < s.size) = false := tl_end h
    simpa using h2
  · have := rpos_ge (s := s) (rcnt s) (Nat.le_refl _); omega
theorem rcnt_le (s : ByteArray) : rcnt s ≤ s.size := tl_le _ _
abbrev cdT (n : Int) (s : ByteArray) (i : Nat) : Int := cdI n (rdR s (rpos s i))
structure TyI (n m : Int) (N w : Nat) (s : ByteArray) (j : Nat) (B : Vkeys_Board) (x : Vvitrineref12_Space) : Prop where
  rs : RS m N x
  isA : ∀ q, q < N → isA' x.L q = decide (q = 0 ∨ q = 1 + w)
  good : ∀ i, i < j → dataB (cdT n s i) = true
  small : j < w → B.lock = 0 ∧ x.Cursor = ((1 + j : Nat) : Int) ∧ (j = 0 → (rd x.L ((0 : Nat) : Int)).FA = 0) ∧ ∀ i, j ≤ i → i < w → (rd x.L ((1 + i : Nat) : Int)).Char = 0
  typed : j ≤ w → ∀ i, i < j → (rd x.L ((1 + i : Nat) : Int)).Char = cdT n s i
  mark : 0 < j → (rd x.L ((0 : Nat) : Int)).FA = 1
theorem dataB_iff {c : Int} : dataB c = true ↔ 64 ≤ c ∧ c ≤ 254 := by
  unfold dataB
  simp only [Bool.and_eq_true, decide_eq_true_eq]
  omega
/-- one key with a sign -/
theorem sign_err (n : Int) (B : Vkeys_Board) (x : Vvitrineref12_Space) (z : Int) (h : (pressI n B x ⟨1, z, 0⟩).2.2.2 ≠ 0) : (pressI n B x ⟨1, z, 0⟩).1 = x := by
  unfold pressI at h ⊢
  rw [if_neg (show ¬ ((1 : Int) < 1 ∨ (1 : Int) > 22) by omega), if_neg (show ¬ ((1 : Int) = 17) by omega)] at h ⊢
  by_cases hl : B.lock ≠ 0
  · rw [if_pos hl]
  rw [if_neg hl, if_neg (show ¬ ((1 : Int) = 18) by omega)] at h ⊢
  have hs : sendsB ⟨1, z, 0⟩ = false := rfl
  rw [hs] at h ⊢
  rw [if_neg (by simp), if_neg (show ¬ ((1 : Int) = 20 ∨ (1 : Int) = 21) by omega), if_neg (show ¬ (5 ≤ (1 : Int) ∧ (1 : Int) ≤ 12) by omega)] at h ⊢
  unfold editI at h ⊢
  rw [if_pos rfl] at h ⊢
  split at h
  · rename_i hq; rw [if_pos hq]
  · rename_i hq
    rw [if_neg hq]
    unfold enterI at h ⊢
    simp only at h ⊢
    split at h
    · rename_i h1; rw [if_pos h1]
    rename_i h1; rw [if_neg h1]
    split at h
    · rename_i h2; rw [if_pos h2]
    rename_i h2; rw [if_neg h2]
    split at h
    · rename_i h3; rw [if_pos h3]
    · exact absurd rfl h
theorem sign_good (n : Int) (B : Vkeys_Board) (x : Vvitrineref12_Space) (z : Int) (h : (pressI n B x ⟨1, z, 0⟩).2.2.2 = 0) : dataB (cdI n z) = true := by
  unfold pressI at h
  rw [if_neg (show ¬ ((1 : Int) < 1 ∨ (1 : Int) > 22) by omega), if_neg (show ¬ ((1 : Int) = 17) by omega)] at h
  by_cases hl : B.lock ≠ 0
  · rw [if_pos hl] at h; cases h
  rw [if_neg hl, if_neg (show ¬ ((1 : Int) = 18) by omega)] at h
  have hs : sendsB ⟨1, z, 0⟩ = false := rfl
  rw [hs] at h
  rw [if_neg (by simp), if_neg (show ¬ ((1 : Int) = 20 ∨ (1 : Int) = 21) by omega), if_neg (show ¬ (5 ≤ (1 : Int) ∧ (1 : Int) ≤ 12) by omega)] at h
  unfold editI at h
  rw [if_pos rfl] at h
  by_cases hq : cdI n z < 0 ∨ dataB (cdI n z) = false
  · rw [if_pos hq] at h; cases h
  · cases e : dataB (cdI n z) with
    | true => rfl
    | false => exact absurd (.inr e) hq
theorem chars_ins {L : List Vapi_Cell} {k : Nat} {c : Int} : puts L (pl L k) (insC L k c) 1 = putI L (pl L k 0) c := by
  simp only [puts]; rfl
theorem type_small {n m : Int} {N w : Nat} {s : ByteArray} {j : Nat} {B : Vkeys_Board} {x : Vvitrineref12_Space} (hm : Mod4 m) (hn : n ∈ pgs) (hw : 1 ≤ w ∧ w ≤ 20) (hN : 1920 ≤ N) (h : TyI n m N w s j B x) (hj : j < w) (hg : dataB (cdT n s j) = true) :
    TyI n m N w s (j + 1) (pressI n B x ⟨1, rdR s (rpos s j), 0⟩).2.1 (pressI n B x ⟨1, rdR s (rpos s j), 0⟩).1 ∧ (pressI n B x ⟨1, rdR s (rpos s j), 0⟩).2.2.2 = 0 := by
  obtain ⟨hB, hcur, hf0, hz⟩ := h.small hj
  have hr := h.rs
  have hl := hr.len
  have hle := hr.dim.dim.le
  have hg' := dataB_iff.1 hg
  have hby : By (cdT n s j) := ⟨by omega, by omega⟩
  have hbad : ¬ (cdI n (rdR s (rpos s j)) < 0 ∨ dataB (cdI n (rdR s (rpos s j))) = false) := by
    rintro (e | e)
    · have e' : cdT n s j < 0 := e
      omega
    · have e' : dataB (cdT n s j) = false := e
      rw [hg] at e'; cases e'
  -- what is pressed
  have hpress : pressI n B x ⟨1, rdR s (rpos s j), 0⟩ = ((enterI n B x (cdT n s j)).1, (enterI n B x (cdT n s j)).2.1, false, (enterI n B x (cdT n s j)).2.2) := by
    unfold pressI
    rw [if_neg (show ¬ ((1 : Int) < 1 ∨ (1 : Int) > 22) by omega), if_neg (show ¬ ((1 : Int) = 17) by omega), if_neg (show ¬ (B.lock ≠ 0) from fun e => e hB), if_neg (show ¬ ((1 : Int) = 18) by omega)]
    have hs : sendsB ⟨1, rdR s (rpos s j), 0⟩ = false := rfl
    rw [hs, if_neg (by simp), if_neg (show ¬ ((1 : Int) = 20 ∨ (1 : Int) = 21) by omega), if_neg (show ¬ (5 ≤ (1 : Int) ∧ (1 : Int) ≤ 12) by omega)]
    unfold editI
    rw [if_pos rfl, if_neg hbad]
  have hk : x.Cursor.toNat = 1 + j := by rw [hcur]; rfl
  have h0A : isA' x.L 0 = true := by rw [h.isA 0 (by omega)]; simp
  have hkA : isA' x.L (1 + j) = false := by rw [h.isA _ (by omega)]; simp; omega
  obtain ⟨s0, s1⟩ := stI_two hl (by omega) (by omega) h.isA
  have hst := s0 (1 + j) (by omega)
  have hfa : faI x.L (1 + j) = (rd x.L ((0 : Nat) : Int)).FA := by unfold faI; rw [hst]; rfl
  have hFA : (rd x.L ((0 : Nat) : Int)).FA = 0 ∨ (rd x.L ((0 : Nat) : Int)).FA = 1 := by
    rcases Nat.eq_zero_or_pos j with e | e
    · exact .inl (hf0 e)
    · exact .inr (h.mark e)
  have hP : (fld (faI x.L (1 + j))).Protected = false := by rw [hfa]; rcases hFA with e | e <;> rw [e] <;> rfl
  have hQ : (fld (faI x.L (1 + j))).Numeric = false := by rw [hfa]; rcases hFA with e | e <;> rw [e] <;> rfl
  have ho : openI x.L (1 + j) = true := by unfold openI; rw [hkA, hP]; simp
  have hc0 : (rd x.L ((1 + j : Nat) : Int)).Char = 0 := hz j (Nat.le_refl _) hj
  have hpl0 : pl x.L (1 + j) 0 = 1 + j := by show (1 + j + 0) % x.L.length = _; rw [Nat.add_zero, Nat.mod_eq_of_lt (by omega)]
  have hiE : insE x.L (1 + j) = 0 := by
    have hlt : 0 < rl x.L (1 + j) true := by
      unfold rl
      rw [if_pos ⟨0, by omega, h0A⟩]
      rcases Nat.eq_zero_or_pos (tl (fun i => !isA' x.L ((1 + j + i) % x.L.length)) x.L.length) with g | g
      · have := tl_end (p := fun i => !isA' x.L ((1 + j + i) % x.L.length)) (n := x.L.length) (by omega)
        rw [g, Nat.add_zero, Nat.mod_eq_of_lt (by omega), hkA] at this; cases this
      · exact g
    unfold insE
    rcases Nat.eq_zero_or_pos (tl (fun i => !((rd x.L ((pl x.L (1 + j) i : Nat) : Int)).Char == 0)) (rl x.L (1 + j) true)) with g | g
    · exact g
    · have := tl_lt (p := fun i => !((rd x.L ((pl x.L (1 + j) i : Nat) : Int)).Char == 0)) (n := rl x.L (1 + j) true) (i := 0) g
      simp only [hpl0, hc0] at this
      cases this
  have hrl : 0 < rl x.L (1 + j) true := by
    unfold rl
    rw [if_pos ⟨0, by omega, h0A⟩]
    rcases Nat.eq_zero_or_pos (tl (fun i => !isA' x.L ((1 + j + i) % x.L.length)) x.L.length) with g | g
    · have := tl_end (p := fun i => !isA' x.L ((1 + j + i) % x.L.length)) (n := x.L.length) (by omega)
      rw [g, Nat.add_zero, Nat.mod_eq_of_lt (by omega), hkA] at this; cases this
    · exact g
  have hne28 : cdT n s j ≠ 28 := by have := hg'.1; omega
  -- the list behind it
  have hent : ∃ M : List Vapi_Cell, M.length = N ∧ (∀ q, q < N → isA' M q = isA' x.L q) ∧ (∀ q, q < N → q ≠ 1 + j → q ≠ 0 → rd M (q : Int) = rd x.L (q : Int)) ∧ ((rd M ((0 : Nat) : Int)).FA = (rd x.L ((0 : Nat) : Int)).FA ∨ (rd M ((0 : Nat) : Int)).FA = 1) ∧
      enterI n B x (cdT n s j) = (rC (wL x (modI (entL M (1 + j) (cdT n s j)) (1 + j))) (afterI (modI (entL M (1 + j) (cdT n s j)) (1 + j)) (1 + j)), B, 0) := by
    have hn1 : ¬ (¬ (stI x.L (1 + j) < 0) ∧ (fld (faI x.L (1 + j))).Numeric = true ∧ numB n (cdT n s j) = false) := by rintro ⟨_, e, _⟩; rw [hQ] at e; cases e
    by_cases hi : B.inserts = true ∧ cdT n s j ≠ 28
    · refine ⟨insI x.L (1 + j) (cdT n s j), by rw [insI_len]; exact hl, fun q hq => insI_isA (by omega) (by omega), fun q hq hq1 hq2 => ?_, ?_, ?_⟩
      · unfold insI
        rw [hiE, chars_ins, hpl0, modI_rd (by rw [putI_len]; omega) (by rw [putI_len]; omega), stI_isA (putI_len _ _ _) (fun p hp => putI_isA (by omega) hp) (by omega), hst, if_neg (by omega), putI_rd (by omega) (by omega), if_neg (by rintro ⟨e, _⟩; omega)]
      · right
        unfold insI
        rw [hiE, chars_ins, hpl0, modI_rd (by rw [putI_len]; omega) (by rw [putI_len]; omega), stI_isA (putI_len _ _ _) (fun p hp => putI_isA (by omega) hp) (by omega), hst, if_pos (show (0 : Int) = ((0 : Nat) : Int) from rfl), putI_rd (by omega) (by omega), if_neg (by rintro ⟨e, _⟩; omega)]
        show ibor .u8 (rd x.L ((0 : Nat) : Int)).FA 1 = 1
        rcases hFA with e | e <;> rw [e] <;> rfl
      · unfold enterI
        simp only [hk]
        rw [if_neg (by rw [ho]; simp), if_neg hn1, if_neg (by rw [hiE]; exact fun e => e.2 hrl)]
        simp only [if_pos hi, if_neg hne28]
    · refine ⟨x.L, hl, fun _ _ => rfl, fun _ _ _ _ => rfl, .inl rfl, ?_⟩
      unfold enterI
      simp only [hk]
      rw [if_neg (by rw [ho]; simp), if_neg hn1, if_neg (fun e => hi e.1)]
      simp only [if_neg hi, if_neg hne28]
  obtain ⟨M, m1, m2, m3, m4, he⟩ := hent
  have hrs := enter_rs hr hn hby B
  rw [hpress, he]
  rw [he] at hrs
  have eA : ∀ q, q < N → isA' (entL M (1 + j) (cdT n s j)) q = isA' x.L q := fun q hq => by rw [entL_isA (by omega) (by omega)]; exact m2 q hq
  have eS : stI (entL M (1 + j) (cdT n s j)) (1 + j) = ((0 : Nat) : Int) := by
    rw [stI_isA (L := x.L) (by rw [entL_len, m1, hl]) (fun q hq => eA q (by omega)) (by omega), hst]; rfl
  have eR : ∀ q, q < N → rd (modI (entL M (1 + j) (cdT n s j)) (1 + j)) (q : Int) = if (0 : Nat) = q then mdf (rd M (q : Int)) else if 1 + j = q then ent (rd M (q : Int)) (cdT n s j) else rd M (q : Int) := fun q hq => by
    rw [modI_rd (by rw [entL_len]; omega) (by rw [entL_len]; omega), eS, entL_rd (by omega) (by omega)]
    by_cases e : 0 = q
    · subst e; rw [if_pos rfl, if_pos rfl, if_neg (by omega)]
    · rw [if_neg (by omega), if_neg e]
  have eA2 : ∀ q, q < N → isA' (modI (entL M (1 + j) (cdT n s j)) (1 + j)) q = isA' x.L q := fun q hq => by rw [modI_isA (by rw [entL_len]; omega) (by rw [entL_len]; omega)]; exact eA q hq
  have hfa0 : (rd (modI (entL M (1 + j) (cdT n s j)) (1 + j)) ((0 : Nat) : Int)).FA = 1 := by
    rw [eR 0 (by omega), if_pos rfl]
    show ibor .u8 (rd M ((0 : Nat) : Int)).FA 1 = 1
    rcases m4 with g | g
    · rw [g]; rcases hFA with e | e <;> rw [e] <;> rfl
    · rw [g]; rfl
  have hlen2 : (modI (entL M (1 + j) (cdT n s j)) (1 + j)).length = N := by rw [modI_len, entL_len]; exact m1
  refine ⟨⟨hrs, fun q hq => by rw [← h.isA q hq]; exact eA2 q hq, fun i hi => ?_, fun hj1 => ⟨hB, ?_, fun e => by omega, fun i hi1 hi2 => ?_⟩, fun hj1 i hi => ?_, fun _ => hfa0⟩, rfl⟩
  · by_cases e : i = j
    · subst e; exact hg
    · exact h.good i (by omega)
  · show afterI _ (1 + j) = _
    unfold afterI
    rw [hlen2, Nat.mod_eq_of_lt (by omega), eA2 _ (by omega), h.isA _ (by omega), decide_eq_false (by omega), if_neg (by simp)]
    omega
  · show (rd (modI (entL M (1 + j) (cdT n s j)) (1 + j)) ((1 + i : Nat) : Int)).Char = 0
    rw [eR _ (by omega), if_neg (by omega), if_neg (by omega), m3 _ (by omega) (by omega) (by omega)]
    exact hz i (by omega) hi2
  · show (rd (modI (entL M (1 + j) (cdT n s j)) (1 + j)) ((1 + i : Nat) : Int)).Char = cdT n s i
    rw [eR _ (by omega), if_neg (by omega)]
    by_cases e : i = j
    · subst e; rw [if_pos rfl]; rfl
    · rw [if_neg (by omega), m3 _ (by omega) (by omega) (by omega)]
      exact h.typed (by omega) i (by omega)
theorem type_big {n m : Int} {N w : Nat} {s : ByteArray} {j : Nat} {B : Vkeys_Board} {x : Vvitrineref12_Space} (hm : Mod4 m) (hn : n ∈ pgs) (hw : 1 ≤ w ∧ w ≤ 20) (hN : 1920 ≤ N) (h : TyI n m N w s j B x) (hj : w ≤ j)
    (he : (pressI n B x ⟨1, rdR s (rpos s j), 0⟩).2.2.2 = 0) : TyI n m N w s (j + 1) (pressI n B x ⟨1, rdR s (rpos s j), 0⟩).2.1 (pressI n B x ⟨1, rdR s (rpos s j), 0⟩).1 := by
  have hr := h.rs
  obtain ⟨N', g1, g2⟩ := press_rs hm hr hn B ⟨1, rdR s (rpos s j), 0⟩
  have h22 : ¬ ((1 : Int) = 22) := by decide
  obtain rfl := g2 (fun e => h22 e.1)
  obtain ⟨_, g4, g5⟩ := press_chg (n := n) hr B ⟨1, rdR s (rpos s j), 0⟩ (fun e => h22 e.1)
  have h0A : isA' x.L 0 = true := by rw [h.isA 0 (by omega)]; simp
  refine ⟨g1, fun q hq => by rw [(g5 q hq).isA]; exact h.isA q hq, fun i hi => ?_, fun e => by omega, fun e => by omega, fun _ => ?_⟩
  · by_cases e : i = j
    · subst e; exact sign_good n B x _ he
    · exact h.good i (by omega)
  · have hmk := h.mark (by omega)
    rcases g5 0 (by omega) with g | ⟨_, _, g⟩ | ⟨_, g, _⟩ | ⟨g, _⟩
    · rw [g]; exact hmk
    · rw [g]; show ibor .u8 (rd x.L ((0 : Nat) : Int)).FA 1 = 1; rw [hmk]; rfl
    · cases g
    · rw [h0A] at g; cases g
structure TyP (n m : Int) (N w : Nat) (s : ByteArray) (j : Nat) (x : Vvitrineref12_Space) : Prop where
  rs : RS m N x
  good : ∀ i, i < j → dataB (cdT n s i) = true
  typed : j ≤ w → ∀ i, i < j → (rd x.L ((1 + i : Nat) : Int)).Char = cdT n s i
  mark : 0 < j → (rd x.L ((0 : Nat) : Int)).FA = 1
abbrev T13 := Int × Int × Bool × Int × Int × (List Vapi_Cell) × Int × Int × Int × Int × Bool × Int
def tT (n : Int) (B : Vkeys_Board) (x : Vvitrineref12_Space) : Int × Bool × Int × Int × Bool × Int × Int × (List Vapi_Cell) × Int × Int × Int := (B.lock, B.inserts, B.aid, (prog x).model, (prog x).alternate, (prog x).size.Rows, (prog x).size.Cols, (prog x).cells, (prog x).cursor, (prog x).attrs, n)
def tF (d1 : T13) : Option (Vspace_Space × Vpage_Page × Vkeys_Board × Int × Int) :=
  some ((⟨d1.2.1, d1.2.2.1, (⟨d1.2.2.2.1, d1.2.2.2.2.1⟩ : Vaddr_Size), d1.2.2.2.2.2.1, d1.2.2.2.2.2.2.1, d1.2.2.2.2.2.2.2.1⟩ : Vspace_Space), (⟨d1.2.2.2.2.2.2.2.2.1⟩ : Vpage_Page), (⟨d1.2.2.2.2.2.2.2.2.2.1, d1.2.2.2.2.2.2.2.2.2.2.1, d1.2.2.2.2.2.2.2.2.2.2.2⟩ : Vkeys_Board), d1.1, 0)
theorem type_loop {n m : Int} {N w : Nat} {s : ByteArray} (hs : s.size ≤ 60) (hm : Mod4 m) (hn : n ∈ pgs) (hw : 1 ≤ w ∧ w ≤ 20) (hN : 1920 ≤ N) : ∀ d i, i + d = rcnt s → ∀ k, d < k → ∀ B x, TyI n m N w s i B x →
    ∃ (cnt : Nat) (B' : Vkeys_Board) (x' : Vvitrineref12_Space) (err : Int), jn (keys_Board_Type_l2 s k (rpos s i, (i : Int), tT n B x)) tF = some (prog x', ⟨n⟩, B', (cnt : Int), err) ∧ TyP n m N w s cnt x' ∧ cnt ≤ rcnt s ∧ (err = 0 → cnt = rcnt s)
  | 0, i, hi, k, hk, B, x, h => by
    obtain ⟨k, rfl⟩ : ∃ q, k = q + 1 := ⟨k - 1, by omega⟩
    have hi' : i = rcnt s := by omega
    rw [keys_Board_Type_l2.eq_2]
    have d1 : decide (rpos s i < s.size) = false := decide_eq_false (by rw [hi']; exact rcnt_end s)
    simp only [d1, cond_false]
    exact ⟨i, B, x, 0, rfl, ⟨h.rs, h.good, h.typed, h.mark⟩, by omega, fun _ => hi'⟩
  | d + 1, i, hi, k, hk, B, x, h => by
    obtain ⟨k, rfl⟩ : ∃ q, k = q + 1 := ⟨k - 1, by omega⟩
    have hlt := rcnt_lt (s := s) (i := i) (by omega)
    have hM := rcnt_le s
    rw [keys_Board_Type_l2.eq_2]
    have d1 : decide (rpos s i < s.size) = true := decide_eq_true hlt
    have hP := ppress hm h.rs hn B ⟨1, rdR s (rpos s i), 0⟩
    have hP' : m_keys_Board_Press ⟨B.lock, B.inserts, B.aid⟩ ⟨(prog x).model, (prog x).alternate, ⟨(prog x).size.Rows, (prog x).size.Cols⟩, (prog x).cells, (prog x).cursor, (prog x).attrs⟩ ⟨n⟩ ⟨1, rdR s (rpos s i), 0⟩ = _ := hP
    simp only [d1, cond_true, tT, hP', Option.bind_some]
    by_cases he : (pressI n B x ⟨1, rdR s (rpos s i), 0⟩).2.2.2 = 0
    · rw [bne_f he]
      simp only [cond_false]
      rw [w64_succ (by omega)]
      have hnext : TyI n m N w s (i + 1) (pressI n B x ⟨1, rdR s (rpos s i), 0⟩).2.1 (pressI n B x ⟨1, rdR s (rpos s i), 0⟩).1 := by
        rcases Nat.lt_or_ge i w with g | g
        · exact (type_small hm hn hw hN h g (sign_good n B x _ he)).1
        · exact type_big hm hn hw hN h g he
      exact type_loop hs hm hn hw hN d (i + 1) (by omega) k (by omega) _ _ hnext
    · rw [bne_t he]
      simp only [cond_true]
      rw [sign_err n B x _ he]
      exact ⟨i, _, x, _, rfl, ⟨h.rs, h.good, h.typed, h.mark⟩, by omega, fun e => absurd e he⟩
/-- how many codes the law expects -/
def wantN (n : Int) (s : ByteArray) (w : Nat) : Nat := tl (fun i => dataB (cdT n s i) && decide (i < w)) (rcnt s)
def wantL (n : Int) (s : ByteArray) (k : Nat) : List Int := (List.range k).map (cdT n s)
theorem want_loop {n : Int} (hn : n ∈ pgs) {s : ByteArray} (hs : s.size ≤ 60) {w : Nat} (hw : w ≤ 20) (d6 : Vkeys_Board × Vspace_Space × Vpage_Page × Vvitrineref18_Board × Vvitrineref12_Space) (h6 : d6.2.2.2.1.Page = n) :
    vitrinelaw18_KeysType_l12 (w : Int) d6 s fuel (0, 0, []) = some (wantL n s (wantN n s w)) := by
  have hM := rcnt_le s
  have hle : wantN n s w ≤ rcnt s := tl_le _ _
  refine while_ok (fun i => (rpos s i, (0 : Int), wantL n s i)) (wantN n s w) (by omega) (fun k i hi => ?_) (fun k => ?_)
  · have hp : (dataB (cdT n s i) && decide (i < w)) = true := tl_lt (p := fun i => dataB (cdT n s i) && decide (i < w)) hi
    simp only [Bool.and_eq_true, decide_eq_true_eq] at hp
    have hd := dataB_iff.1 hp.1
    have hc : m_vitrineref01_Code d6.2.2.2.1.Page (rdR s (rpos s i)) = some (cdT n s i) := by rw [h6]; exact rcode hn _
    have hlen : (wantL n s i).length = i := by simp [wantL]
    rw [vitrinelaw18_KeysType_l12.eq_2]
    have d1 : decide (rpos s i < s.size) = true := decide_eq_true (rcnt_lt (by omega))
    simp only [d1, cond_true, hc, Option.bind_some]
    rw [decide_eq_false (show ¬ (cdT n s i < 64) by omega), decide_eq_false (show ¬ (cdT n s i > 254) by omega)]
    simp only [cond_false, Option.bind_some, bne_self_eq_false, hlen]
    rw [decide_eq_false (show ¬ ((i : Int) ≥ (w : Int)) by omega)]
    simp only [cond_false]
    rw [gd_pos (by simp [hlen]; omega), wrap8 ⟨by omega, by omega⟩]
    congr 1
    show (rpos s i + rdW s (rpos s i), (0 : Int), wantL n s i ++ [cdT n s i]) = (rpos s (i + 1), 0, wantL n s (i + 1))
    unfold wantL
    rw [List.range_succ, List.map_append]; rfl
  · have hlen : (wantL n s (wantN n s w)).length = wantN n s w := by simp [wantL]
    rw [vitrinelaw18_KeysType_l12.eq_2]
    by_cases hj : wantN n s w < rcnt s
    · have hp : (dataB (cdT n s (wantN n s w)) && decide (wantN n s w < w)) = false := tl_end (p := fun i => dataB (cdT n s i) && decide (i < w)) hj
      have hc : m_vitrineref01_Code d6.2.2.2.1.Page (rdR s (rpos s (wantN n s w))) = some (cdT n s (wantN n s w)) := by rw [h6]; exact rcode hn _
      have d1 : decide (rpos s (wantN n s w) < s.size) = true := decide_eq_true (rcnt_lt (by omega))
      simp only [d1, cond_true, hc, Option.bind_some]
      by_cases hg : dataB (cdT n s (wantN n s w)) = true
      · have hd := dataB_iff.1 hg
        rw [hg] at hp
        have hge : ¬ wantN n s w < w := by simpa using hp
        rw [decide_eq_false (show ¬ (cdT n s (wantN n s w) < 64) by omega), decide_eq_false (show ¬ (cdT n s (wantN n s w) > 254) by omega)]
        simp only [cond_false, Option.bind_some, bne_self_eq_false, hlen]
        rw [decide_eq_true (show ((wantN n s w : Nat) : Int) ≥ (w : Int) by omega)]
        rfl
      · have hd : ¬ (64 ≤ cdT n s (wantN n s w) ∧ cdT n s (wantN n s w) ≤ 254) := fun e => hg (dataB_iff.2 e)
        by_cases h64 : cdT n s (wantN n s w) < 64
        · rw [decide_eq_true h64]; rfl
        · rw [decide_eq_false h64, decide_eq_true (show cdT n s (wantN n s w) > 254 by omega)]; rfl
    · have d1 : decide (rpos s (wantN n s w) < s.size) = false := decide_eq_false (by rw [show wantN n s w = rcnt s by omega]; exact rcnt_end s)
      simp only [d1, cond_false]
theorem cut60 (t : ByteArray) : ∃ s, m_vitrineref01_CutText t 60 = some s ∧ s.size ≤ 60 := by
  unfold m_vitrineref01_CutText
  by_cases h : (t.size : Int) > 60
  · rw [decide_eq_true h]
    simp only [cond_true]
    rw [gd_pos (by omega)]
    refine ⟨_, rfl, ?_⟩
    rw [ByteArray.size_extract]
    have : (Int.toNat 60) = 60 := rfl
    omega
  · rw [decide_eq_false h]
    exact ⟨t, rfl, by omega⟩
theorem keysType_true (p0 : Int) (p1 : ByteArray) (p2 : Int) (p3 : Bool) (h0 : By p0) (h2 : By p2) : m_vitrinelaw18_KeysType p0 p1 p2 p3 = some true := by
  obtain ⟨w, hw, hw1, hw2⟩ : ∃ w : Nat, w64 (1 + w64 (Int.tmod p2 20)) = (w : Int) ∧ 1 ≤ w ∧ w ≤ 20 := by
    have e : Int.tmod p2 20 = p2 % 20 := Int.tmod_eq_emod_of_nonneg h2.1
    have b1 := Int.emod_nonneg p2 (show (20 : Int) ≠ 0 by omega)
    have b2 := Int.emod_lt_of_pos p2 (show (0 : Int) < 20 by omega)
    refine ⟨(1 + p2 % 20).toNat, ?_, by omega, by omega⟩
    rw [e, w64_in (x := p2 % 20) (by omega) (by omega), w64_in (by omega) (by omega)]; omega
  have hb : w64 (1 + (w : Int)) = ((1 + w : Nat) : Int) := by rw [w64_in (by omega) (by omega)]; omega
  obtain ⟨m, N, x, hm, hr, hN, hL, hcur, hlay⟩ := lay_two (p := 0) (q := p0) ⟨by decide, by decide⟩ h0 (f0 := 0) (f1 := 48) ⟨by decide, by decide⟩ ⟨by decide, by decide⟩ (b := 1 + w) (c := 1) (by omega) (by omega)
  have hn := pgN_mem p0
  generalize pgN p0 = n at hlay hn
  obtain ⟨s, hcut, hs⟩ := cut60 p1
  have hM := rcnt_le s
  unfold m_vitrinelaw18_KeysType
  rw [awake18]
  simp only [Option.bind_some, Bool.not_true, cond_false, hw, hb]
  have hlay' : m_vitrinelaw18_lay 0 p0 [(⟨3, 0, false, 0, (⟨0, false, 0, 0, 0, 0⟩ : Vapi_Cell), ([] : List Int)⟩ : Vvitrineref12_Act), (⟨3, ((1 + w : Nat) : Int), false, 48, (⟨0, false, 0, 0, 0, 0⟩ : Vapi_Cell), ([] : List Int)⟩ : Vvitrineref12_Act), (⟨1, 1, false, 0, (⟨0, false, 0, 0, 0, 0⟩ : Vapi_Cell), ([] : List Int)⟩ : Vvitrineref12_Act)] = _ := hlay
  rw [hlay']
  simp only [Option.bind_some, hcut]
  have hA : ∀ q, q < N → isA' x.L q = decide (q = 0 ∨ q = 1 + w) := fun q hq => by
    rw [hL]; unfold isA'
    rw [twoL_rd (by omega) hq]
    by_cases e : 1 + w = q
    · subst e; rw [if_pos rfl, decide_eq_true (.inr rfl)]; try rfl
    · rw [if_neg e]
      by_cases e0 : 0 = q
      · subst e0; rfl
      · rw [if_neg e0, decide_eq_false (by omega)]; try rfl
  have hI : TyI n m N w s 0 ⟨0, p3, 96⟩ x := by
    refine ⟨hr, hA, fun i hi => by omega, fun _ => ⟨rfl, hcur, fun _ => ?_, fun i _ hi => ?_⟩, fun _ i hi => by omega, fun e => by omega⟩
    · rw [hL, twoL_rd (by omega) (by omega), if_neg (by omega), if_pos rfl]; try rfl
    · rw [hL, twoL_rd (by omega) (by omega), if_neg (by omega), if_neg (by omega)]; try rfl
  have hPr := ppress hm hr hn ⟨0, false, 96⟩ ⟨16, 0, 0⟩
  have hPr' : m_keys_Board_Press ⟨0, false, 96⟩ ⟨(prog x).model, (prog x).alternate, (prog x).size, (prog x).cells, (prog x).cursor, (prog x).attrs⟩ ⟨n⟩ ⟨16, 0, 0⟩ = some (prog x, ⟨n⟩, ⟨0, true, 96⟩, false, 0) := hPr
  have hins : ((cond p3 ((m_keys_Board_Press ⟨0, false, 96⟩ ⟨(prog x).model, (prog x).alternate, (prog x).size, (prog x).cells, (prog x).cursor, (prog x).attrs⟩ ⟨n⟩ ⟨16, 0, 0⟩).bind fun (d9 : Vspace_Space × Vpage_Page × Vkeys_Board × Bool × Int) => some (d9.1.model, d9.1.alternate, d9.1.size.Rows, d9.1.size.Cols, d9.1.cells, d9.1.cursor, d9.1.attrs, d9.2.2.1.lock, d9.2.2.1.inserts, d9.2.2.1.aid, d9.2.1.number)) (
     some ((prog x).model, (prog x).alternate, (prog x).size.Rows, (prog x).size.Cols, (prog x).cells, (prog x).cursor, (prog x).attrs, (0 : Int), false, (96 : Int), n))) : Option T11) = some (tL n ⟨0, p3, 96⟩ x) := by
    cases p3 with
    | true => simp only [cond_true, hPr', Option.bind_some]; rfl
    | false => rfl
  change ((cond p3 ((m_keys_Board_Press ⟨0, false, 96⟩ ⟨(prog x).model, (prog x).alternate, (prog x).size, (prog x).cells, (prog x).cursor, (prog x).attrs⟩ ⟨n⟩ ⟨16, 0, 0⟩).bind _) _).bind _) = _
  rw [hins]
  simp only [Option.bind_some]
  obtain ⟨cnt, B', x', err, hty, hP, hc1, hc2⟩ := type_loop hs hm hn ⟨hw1, hw2⟩ hN (rcnt s) 0 (by omega) fuel (by unfold fuel; omega) ⟨0, p3, 96⟩ x hI
  have hty' : m_keys_Board_Type ⟨(tL n ⟨0, p3, 96⟩ x).2.2.2.2.2.2.2.1, (tL n ⟨0, p3, 96⟩ x).2.2.2.2.2.2.2.2.1, (tL n ⟨0, p3, 96⟩ x).2.2.2.2.2.2.2.2.2.1⟩ ⟨(tL n ⟨0, p3, 96⟩ x).1, (tL n ⟨0, p3, 96⟩ x).2.1, ⟨(tL n ⟨0, p3, 96⟩ x).2.2.1, (tL n ⟨0, p3, 96⟩ x).2.2.2.1⟩, (tL n ⟨0, p3, 96⟩ x).2.2.2.2.1, (tL n ⟨0, p3, 96⟩ x).2.2.2.2.2.1, (tL n ⟨0, p3, 96⟩ x).2.2.2.2.2.2.1⟩ ⟨(tL n ⟨0, p3, 96⟩ x).2.2.2.2.2.2.2.2.2.2⟩ s = some (prog x', ⟨n⟩, B', (cnt : Int), err) := hty
  rw [hty']
  simp only [Option.bind_some]
  rw [want_loop hn hs hw2 _ rfl]
  simp only [Option.bind_some]
  have hlen : (wantL n s (wantN n s w)).length = wantN n s w := by simp [wantL]
  -- how many are expected, beside those typed
  have hle : wantN n s w ≤ rcnt s := tl_le _ _
  have hge : ∀ c, c ≤ cnt → c ≤ w → c ≤ wantN n s w := by
    intro c g1 g2
    rcases Nat.lt_or_ge (wantN n s w) c with g | g
    · exfalso
      have he : (dataB (cdT n s (wantN n s w)) && decide (wantN n s w < w)) = false := tl_end (p := fun i => dataB (cdT n s i) && decide (i < w)) (n := rcnt s) (show wantN n s w < rcnt s by omega)
      rw [hP.good _ (by omega), decide_eq_true (show wantN n s w < w by omega)] at he
      cases he
    · exact g
  have hq : ((cond (err == 0) (cond ((cnt : Int) != ((wantL n s (wantN n s w)).length : Int)) (some (decide ((cnt : Int) < (w : Int)))) (some false)) (some false)) : Option Bool) = some false := by
    by_cases he : err = 0
    · rw [beq_t he, hlen]
      have hcM := hc2 he
      by_cases hcw : cnt < w
      · have := hge cnt (Nat.le_refl _) (by omega)
        rw [bne_f (show (cnt : Int) = (wantN n s w : Int) by omega)]; rfl
      · rw [decide_eq_false (show ¬ ((cnt : Int) < (w : Int)) by omega)]
        cases ((cnt : Int) != (wantN n s w : Int)) <;> rfl
    · rw [beq_f he]; rfl
  rw [hq]
  simp only [Option.bind_some, cond_false]
  have hl' := hP.rs.len
  have hS := hP.rs.lk.ss
  have hat : ∀ q : Nat, q < N → m_space_Space_At (prog x') (q : Int) = some (rd x'.L (q : Int)) := fun q hq => by
    have := ss_at hS (q : Int)
    rw [nat_emod hq] at this; exact this
  have hmin : imin (cnt : Int) (w : Int) = ((min cnt w : Nat) : Int) := by unfold imin; split <;> omega
  have hscan : vitrinelaw18_KeysType_l21 (w : Int) (prog x', ⟨n⟩, B', (cnt : Int), err) (wantL n s (wantN n s w)) fuel 0 = some (.inl ()) := by
    refine while_ok (fun i => (i : Int)) (min cnt w) (by omega) (fun k i hi => ?_) (fun k => ?_)
    · rw [vitrinelaw18_KeysType_l21.eq_2]
      simp only [hmin]
      rw [decide_eq_true (show (i : Int) < ((min cnt w : Nat) : Int) by omega)]
      simp only [cond_true, Option.bind_some]
      rw [w64_succ (by omega)]
      by_cases hcw : cnt ≤ w
      · rw [decide_eq_true (show (cnt : Int) ≤ (w : Int) by omega)]
        have hD := hge cnt (Nat.le_refl _) hcw
        simp only [cond_true]
        rw [gd_pos (by rw [hlen]; omega), show w64 (1 + (i : Int)) = ((1 + i : Nat) : Int) by rw [w64_in (by omega) (by omega)]; omega, hat (1 + i) (by omega)]
        have hv : rd (wantL n s (wantN n s w)) (i : Int) = cdT n s i := by
          rw [rdn (by rw [hlen]; omega)]; simp [wantL]
        simp only [Option.bind_some]
        rw [hv, hP.typed hcw i (by omega), bne_f rfl]
        rfl
      · rw [decide_eq_false (show ¬ ((cnt : Int) ≤ (w : Int)) by omega)]; rfl
    · rw [vitrinelaw18_KeysType_l21.eq_2]
      simp only [hmin]
      rw [decide_eq_false (show ¬ (((min cnt w : Nat) : Int) < ((min cnt w : Nat) : Int)) by omega)]
      rfl
  rw [hscan]
  simp only [jn]
  by_cases hcw : cnt ≤ w
  · rw [decide_eq_true (show (cnt : Int) ≤ (w : Int) by omega)]; try rfl
  · rw [decide_eq_false (show ¬ ((cnt : Int) ≤ (w : Int)) by omega)]
    have h00 : m_space_Space_At (prog x') 0 = some (rd x'.L ((0 : Nat) : Int)) := hat 0 (by omega)
    simp only [cond_false, h00, Option.bind_some, hP.mark (by omega)]
    rfl
end Go.Vt
