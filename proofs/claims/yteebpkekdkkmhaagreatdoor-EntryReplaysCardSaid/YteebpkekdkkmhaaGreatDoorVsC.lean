/- What acts make: the document's space, and the program's like it. No conditions. -/
import Derived.Test.YteebpkekdkkmhaaGreatDoorVsB
set_option linter.unusedVariables false
set_option linter.unusedSimpArgs false
namespace Go.Vt
structure AOk (a : Vvitrineref12_Act) : Prop where
  do_ : By a.Do
  code : By a.Code
  c : CB a.C
  text : Bs a.Text
  len : a.Text.length ≤ 9223372036854775807
abbrev T6 := Int × Bool × Int × Int × List Vapi_Cell × Int
abbrev of6 (y : T6) : Vvitrineref12_Space := ⟨y.1, y.2.1, ⟨y.2.2.1, y.2.2.2.1⟩, y.2.2.2.2.1, y.2.2.2.2.2⟩
theorem do_loop {m : Int} {N : Nat} {a : Vvitrineref12_Act} (ha : AOk a) {y : T6} (h : RS m N (of6 y)) : ∃ r : T6, vitrineref12_Do_l9 a fuel (0, y) = some r ∧ RS m N (of6 r) := by
  refine loop_rel0 (L := vitrineref12_Do_l9 a) (n := a.Text.length) (fun _ y => RS m N (of6 y)) (fun r => RS m N (of6 r)) (by have := ha.len; omega) ?_ ?_ h
  · intro k i y hi hy
    have hle := hy.dim.dim.le
    rw [vitrineref12_Do_l9.eq_2]
    have hlen := ha.len
    have d1 : decide ((i : Int) < (a.Text.length : Int)) = true := decide_eq_true (by omega)
    simp only [d1, cond_true]
    rw [gd_pos (by omega)]
    by_cases h2 : i < 200
    · have d2 : decide ((i : Int) < 200) = true := decide_eq_true (by omega)
      have hB : By (rd a.Text (i : Int)) := ha.text _ (rd_mem (by omega))
      obtain ⟨j, hj, hjl⟩ := emod_nat a.N (N := N) (by omega)
      obtain ⟨x', h3, h4, _⟩ := rs_put hy (w64 (a.N % N + i)) hB
      simp only [d2, cond_true, rs_wrap hy, Option.bind_some, h3, w64_succ (show i < 9223372036854775807 by omega)]
      exact ⟨_, rfl, h4⟩
    · have d2 : decide ((i : Int) < 200) = false := decide_eq_false (by omega)
      simp only [d2, cond_false, Option.bind_some, w64_succ (show i < 9223372036854775807 by omega)]
      exact ⟨_, rfl, hy⟩
  · intro k y hy
    rw [vitrineref12_Do_l9.eq_2]
    have d1 : decide ((a.Text.length : Int) < (a.Text.length : Int)) = false := decide_eq_false (by omega)
    simp only [d1, cond_false]
    exact ⟨_, rfl, hy⟩
theorem RS.nof {m : Int} {N : Nat} {x : Vvitrineref12_Space} (h : RS m N x) : N = nOf m x.Alt := h.dim.n.2.2
theorem tmod6 {n : Int} (h : By n) : 0 ≤ n.tmod 6 ∧ n.tmod 6 < 6 := by
  have := h.1
  rw [Int.tmod_eq_emod_of_nonneg this]; omega
theorem rs_do {m : Int} {N : Nat} (hm : Mod4 m) {x : Vvitrineref12_Space} (h : RS m N x) {a : Vvitrineref12_Act} (ha : AOk a) : ∃ N' x', m_vitrineref12_Do x a = some x' ∧ RS m N' x' := by
  have hle := h.dim.dim.le
  unfold m_vitrineref12_Do
  have h6 := tmod6 ha.do_
  generalize hz : a.Do.tmod 6 = z at h6 ⊢
  have hx : (⟨x.Model, x.Alt, x.Size, x.L, x.Cursor⟩ : Vvitrineref12_Space) = x := rfl
  obtain ⟨j, hj, hjl⟩ := emod_nat a.N (N := N) (by omega)
  have cases6 : z = 0 ∨ z = 1 ∨ z = 2 ∨ z = 3 ∨ z = 4 ∨ z = 5 := by omega
  rcases cases6 with rfl | rfl | rfl | rfl | rfl | rfl
  · have e0 : ((0 : Int) == 0) = true := rfl
    simp only [e0, cond_true, (rclear_ok hm h.model a.On).1, Option.bind_some]
    exact ⟨_, _, rfl, rs_clr hm a.On⟩
  · have e0 : ((1 : Int) == 0) = false := rfl
    have e1 : ((1 : Int) == 1) = true := rfl
    simp only [e0, e1, cond_true, cond_false, hx, rs_wrap h, Option.bind_some]
    exact ⟨_, _, rfl, ⟨h.model, h.dim, h.len, h.ok, by simp only; omega⟩⟩
  · obtain ⟨x', h1, h2, _⟩ := rs_put h a.N ha.code
    have e0 : ((2 : Int) == 0) = false := rfl
    have e1 : ((2 : Int) == 1) = false := rfl
    have e2 : ((2 : Int) == 2) = true := rfl
    simp only [e0, e1, e2, cond_true, cond_false, hx, h1, Option.bind_some]
    exact ⟨_, _, rfl, h2⟩
  · obtain ⟨h1, h2⟩ := rs_set h a.N (c := ⟨0, true, a.Code, 0, 0, 0⟩) ⟨by0, ha.code, by0, by0, by0⟩
    have e0 : ((3 : Int) == 0) = false := rfl
    have e1 : ((3 : Int) == 1) = false := rfl
    have e2 : ((3 : Int) == 2) = false := rfl
    have e3 : ((3 : Int) == 3) = true := rfl
    simp only [e0, e1, e2, e3, cond_true, cond_false, hx, h1, Option.bind_some]
    exact ⟨_, _, rfl, h2⟩
  · obtain ⟨h1, h2⟩ := rs_set h a.N ha.c
    have e0 : ((4 : Int) == 0) = false := rfl
    have e1 : ((4 : Int) == 1) = false := rfl
    have e2 : ((4 : Int) == 2) = false := rfl
    have e3 : ((4 : Int) == 3) = false := rfl
    have e4 : ((4 : Int) == 4) = true := rfl
    simp only [e0, e1, e2, e3, e4, cond_true, cond_false, hx, h1, Option.bind_some]
    exact ⟨_, _, rfl, h2⟩
  · obtain ⟨r, h1, h2⟩ := do_loop ha (y := (x.Model, x.Alt, x.Size.Rows, x.Size.Cols, x.L, x.Cursor)) h
    have e0 : ((5 : Int) == 0) = false := rfl
    have e1 : ((5 : Int) == 1) = false := rfl
    have e2 : ((5 : Int) == 2) = false := rfl
    have e3 : ((5 : Int) == 3) = false := rfl
    have e4 : ((5 : Int) == 4) = false := rfl
    simp only [e0, e1, e2, e3, e4, cond_true, cond_false, h1, Option.bind_some]
    exact ⟨_, _, rfl, h2⟩
/-! ### the program's space -/
def cnt (l : List Vapi_Cell) : Int := ((l.filter (·.Attr)).length : Int)
theorem cnt_le (l : List Vapi_Cell) : 0 ≤ cnt l ∧ cnt l ≤ l.length := by
  have := List.length_filter_le (fun c : Vapi_Cell => c.Attr) l
  unfold cnt; omega
def c1 (c : Vapi_Cell) : Int := if c.Attr then 1 else 0
theorem cnt_cons (c : Vapi_Cell) (l : List Vapi_Cell) : cnt (c :: l) = c1 c + cnt l := by
  unfold cnt c1; cases h : c.Attr <;> simp [List.filter_cons, h]; omega
theorem cnt_set : ∀ (l : List Vapi_Cell) (n : Nat) (c : Vapi_Cell) (h : n < l.length), cnt (l.set n c) = cnt l + (c1 c - c1 l[n])
  | [], n, c, h => by simp at h
  | x :: l, 0, c, h => by simp only [List.set_cons_zero, cnt_cons, List.getElem_cons_zero]; omega
  | x :: l, n + 1, c, h => by
    simp only [List.set_cons_succ, cnt_cons, List.getElem_cons_succ]
    rw [cnt_set l n c (by simpa using h)]; omega
/-- the program's space of model m -/
structure SS (m : Int) (N : Nat) (s : Vspace_Space) : Prop where
  model : s.model = m
  dim : DimOf m s.alternate s.size.Rows s.size.Cols N
  len : s.cells.length = N
  ok : ∀ c ∈ s.cells, COk c
  cur : 0 ≤ s.cursor ∧ s.cursor < N
  attrs : s.attrs = cnt s.cells
theorem ss_wrap {m : Int} {N : Nat} {s : Vspace_Space} (h : SS m N s) (n : Int) : m_addr_Size_Wrap s.size n = some (n % N) := by
  rw [show s.size = ⟨s.size.Rows, s.size.Cols⟩ from rfl, wrap_ok h.dim.dim]
theorem ss_at {m : Int} {N : Nat} {s : Vspace_Space} (h : SS m N s) (n : Int) : m_space_Space_At s n = some (rd s.cells (n % N)) := by
  have hd := h.dim.dim.le
  obtain ⟨k, hk, hlt⟩ := emod_nat n (N := N) (by omega)
  unfold m_space_Space_At
  have hl := h.len
  simp only [ss_wrap h, Option.bind_some]
  rw [gd_pos (by omega)]
theorem count_ok (c : Vapi_Cell) : m_space_count c = some (c1 c) := by
  unfold m_space_count c1; cases c.Attr <;> rfl
theorem ss_set {m : Int} {N : Nat} {s : Vspace_Space} (h : SS m N s) (n : Int) {c : Vapi_Cell} (hc : CB c) :
    m_space_Space_Set s n c = some ⟨s.model, s.alternate, s.size, s.cells.set (n % N).toNat (Vt.fit c), s.cursor, cnt (s.cells.set (n % N).toNat (Vt.fit c))⟩ ∧ SS m N ⟨s.model, s.alternate, s.size, s.cells.set (n % N).toNat (Vt.fit c), s.cursor, cnt (s.cells.set (n % N).toNat (Vt.fit c))⟩ := by
  have hd := h.dim.dim.le
  obtain ⟨k, hk, hlt⟩ := emod_nat n (N := N) (by omega)
  have hl := h.len
  refine ⟨?_, h.model, h.dim, by simp [hl], fun d hd' => ?_, h.cur, rfl⟩
  · unfold m_space_Space_Set
    have hkl : k < s.cells.length := by omega
    have hcs := cnt_set s.cells k (Vt.fit c) hkl
    have hle := cnt_le s.cells
    have b1 : ∀ d : Vapi_Cell, 0 ≤ c1 d ∧ c1 d ≤ 1 := fun d => by unfold c1; split <;> omega
    have b2 := b1 (Vt.fit c)
    have b3 := b1 s.cells[k]
    have hf : ((cond c.Attr (some (0, iband .u8 c.FA 61)) (some (c.Char, 0))).bind fun (d1 : Int × Int) => some ({ c with Char := d1.1, FA := d1.2 } : Vapi_Cell)) = some (Vt.fit c) := by
      unfold Vt.fit; cases h : c.Attr <;> simp [h]
    obtain ⟨d1, h1, h2⟩ := bsome hf
    simp only [h1, ss_wrap h, Option.bind_some, Option.some.inj h2, count_ok]
    rw [gd_pos (by omega), gd_pos (by omega), hk, rdn hkl, h.attrs, Int.toNat_natCast, hcs, w64_in (x := c1 (Vt.fit c) - c1 s.cells[k]) (by omega) (by omega), w64_in (by omega) (by omega)]
  · rcases List.mem_or_eq_of_mem_set hd' with h1 | h1
    · exact h.ok d h1
    · rw [h1]; exact fit_ok hc
theorem model_ok {m : Int} (h : Mod4 m) : m_addr_Model m = some (⟨rOf m true, cOf m true⟩, 0) := by
  rcases h with rfl | rfl | rfl | rfl <;> decide +kernel
def sclr (m : Int) (alt : Bool) : Vspace_Space := ⟨m, alt, ⟨rOf m alt, cOf m alt⟩, List.replicate (nOf m alt) zc, 0, 0⟩
theorem cnt_rep (n : Nat) : cnt (List.replicate n zc) = 0 := by
  unfold cnt; simp [List.filter_replicate]
theorem ss_clr {m : Int} (h : Mod4 m) (alt : Bool) : SS m (nOf m alt) (sclr m alt) := by
  have hd := dimOf_mk h alt
  have := hd.dim.le
  exact ⟨rfl, hd, by simp [sclr], (fun c hc => by rw [(List.mem_replicate.1 hc).2]; exact zc_ok), (by simp only [sclr]; omega), (cnt_rep _).symm⟩
theorem clear_ok {s : Vspace_Space} {m : Int} (h : Mod4 m) (hs : s.model = m) (alt : Bool) : m_space_Space_Clear_2 s alt = some (sclr m alt) ∧ m_space_Space_Clear s alt = some (sclr m alt) := by
  have h2 := model_ok (m := 2) (.inl rfl)
  have hm := model_ok h
  have hd := dimOf_mk h alt
  have hle := hd.dim.le
  unfold m_space_Space_Clear_2 m_space_Space_Clear
  simp only [h2, hm, hs, Option.bind_some]
  cases alt with
  | true =>
    simp only [cond_true, Option.bind_some, hm, cells_ok hd.dim]
    rw [gd_pos (show (0 : Int) ≤ (nOf m true : Int) ∧ (nOf m true : Int) ≤ 68719476736 by omega)]
    exact ⟨rfl, rfl⟩
  | false =>
    have hd' : Dim (rOf 2 true) (cOf 2 true) (nOf m false) := ⟨.inl ⟨rfl, rfl, rfl⟩⟩
    simp only [cond_false, Option.bind_some, h2, cells_ok hd']
    rw [gd_pos (show (0 : Int) ≤ (nOf m false : Int) ∧ (nOf m false : Int) ≤ 68719476736 by omega)]
    exact ⟨rfl, rfl⟩
theorem new_ok {m : Int} (h : Mod4 m) : m_space_New m = some (.inr (sclr m false, 0)) := by
  unfold m_space_New
  simp only [model_ok h, Option.bind_some]
  have d0 : ((0 : Int) != 0) = false := rfl
  simp only [d0, cond_false, (clear_ok h (s := ⟨m, false, ⟨0, 0⟩, [], 0, 0⟩) rfl false).2, Option.bind_some]
theorem ss_place {m : Int} {N : Nat} {s : Vspace_Space} (h : SS m N s) (n : Int) : m_space_Space_Place s n = some { s with cursor := n % N } := by
  unfold m_space_Space_Place
  simp only [ss_wrap h, Option.bind_some]
/-- the program's space is the document's -/
structure Lk (m : Int) (N : Nat) (s : Vspace_Space) (x : Vvitrineref12_Space) : Prop where
  rs : RS m N x
  ss : SS m N s
  alt : s.alternate = x.Alt
  cells : s.cells = x.L
  cur : s.cursor = x.Cursor
  sz : s.size = ⟨x.Size.Rows, x.Size.Cols⟩
theorem mod4_of {p : Int} (h : By p) : w64 (2 + w64 (p.tmod 4)) = 2 + p % 4 ∧ Mod4 (2 + p % 4) := by
  have h0 := h.1
  rw [Int.tmod_eq_emod_of_nonneg h0]
  have h1 := Int.emod_nonneg p (show (4 : Int) ≠ 0 by omega)
  have h2 := Int.emod_lt_of_pos p (show (0 : Int) < 4 by omega)
  rw [w64_in (x := p % 4) (by omega) (by omega), w64_in (by omega) (by omega)]
  exact ⟨rfl, by unfold Mod4; omega⟩
end Go.Vt
