/- That something is answered at all; the program's screen, its cells left open. No conditions. -/
import Derived.Test.YtmemmonmlbfopaaGreatDoorVrF
set_option linter.unusedVariables false
set_option linter.unusedSimpArgs false
set_option maxRecDepth 100000
namespace Go.Vt
/-- an answer there is, and P of it -/
def Tot {α : Type} (x : Option α) (P : α → Prop) : Prop := ∃ r, x = some r ∧ P r
theorem tot_some {α : Type} {v : α} {P : α → Prop} (h : P v) : Tot (some v) P := ⟨v, rfl, h⟩
theorem tot_bind {α β : Type} {x : Option α} {f : α → Option β} {P : α → Prop} {Q : β → Prop} (h : Tot x P) (k : ∀ d, P d → Tot (f d) Q) : Tot (x.bind f) Q := by
  obtain ⟨r, rfl, hr⟩ := h; exact k r hr
theorem tot_cond {α : Type} {b : Bool} {x y : Option α} {Q : α → Prop} (h1 : b = true → Tot x Q) (h2 : b = false → Tot y Q) : Tot (cond b x y) Q := by
  cases b with
  | true => exact h1 rfl
  | false => exact h2 rfl
theorem tot_gd {α : Type} {c : Prop} [Decidable c] {x : Option α} {Q : α → Prop} (hc : c) (h : Tot x Q) : Tot (gd c x) Q := by rw [gd_pos hc]; exact h
theorem tot_esc {D O : Type} {M : Option O} {Q : D ⊕ O → Prop} (h : Tot M fun o => Q (.inr o)) : Tot (esc M : Option (D ⊕ O)) Q := by
  obtain ⟨r, rfl, hr⟩ := h; exact ⟨_, rfl, hr⟩
theorem tot_jn {D O : Type} {M : Option (D ⊕ O)} {f : D → Option O} {P : D → Prop} {Q : O → Prop} (h : Tot M fun r => match r with | .inl d => P d | .inr o => Q o) (k : ∀ d, P d → Tot (f d) Q) : Tot (jn M f) Q := by
  obtain ⟨r, rfl, hr⟩ := h
  cases r with
  | inl d => exact k d hr
  | inr o => exact ⟨o, rfl, hr⟩
theorem Tot.mono {α : Type} {x : Option α} {P Q : α → Prop} (h : Tot x P) (k : ∀ d, P d → Q d) : Tot x Q := by
  obtain ⟨r, e, hr⟩ := h; exact ⟨r, e, k r hr⟩
theorem tot_eq {α : Type} {x : Option α} {v : α} {P : α → Prop} (e : x = some v) (h : P v) : Tot x P := ⟨v, e, h⟩
abbrev t7 (s : Vspace_Space) : T7 := (s.model, s.alternate, s.size.Rows, s.size.Cols, s.cells, s.cursor, s.attrs)
abbrev o7 (y : T7) : Vspace_Space := ⟨y.1, y.2.1, ⟨y.2.2.1, y.2.2.2.1⟩, y.2.2.2.2.1, y.2.2.2.2.2.1, y.2.2.2.2.2.2⟩
/-- the program's space of model m, on that screen -/
structure WS (m : Int) (N : Nat) (alt : Bool) (s : Vspace_Space) : Prop where
  model : s.model = m
  altq : s.alternate = alt
  dim : DimOf m alt s.size.Rows s.size.Cols N
  len : s.cells.length = N
  attrs : s.attrs = cnt s.cells
section
variable {m : Int} {N : Nat} {alt : Bool} {s : Vspace_Space}
theorem WS.le (h : WS m N alt s) : 1920 ≤ N ∧ N ≤ 3564 := h.dim.dim.le
theorem ws_wrap (h : WS m N alt s) (n : Int) : m_addr_Size_Wrap s.size n = some (n % N) := by
  rw [show s.size = ⟨s.size.Rows, s.size.Cols⟩ from rfl, wrap_ok h.dim.dim]
theorem ws_cells (h : WS m N alt s) : m_addr_Size_Cells s.size = some (N : Int) := cells_ok h.dim.dim
theorem ws_at (h : WS m N alt s) (n : Int) : m_space_Space_At s n = some (rd s.cells (n % N)) := by
  have hd := h.le
  obtain ⟨k, hk, hlt⟩ := emod_nat n (N := N) (by omega)
  unfold m_space_Space_At
  have hl := h.len
  simp only [ws_wrap h, Option.bind_some]
  rw [gd_pos (by omega)]
theorem ws_set (h : WS m N alt s) (n : Int) (c : Vapi_Cell) : Tot (m_space_Space_Set s n c) fun r => WS m N alt r := by
  have hd := h.le
  obtain ⟨k, hk, hlt⟩ := emod_nat n (N := N) (by omega)
  have hl := h.len
  refine ⟨⟨s.model, s.alternate, s.size, s.cells.set (n % N).toNat (Vt.fit c), s.cursor, cnt (s.cells.set (n % N).toNat (Vt.fit c))⟩, ?_, h.model, h.altq, h.dim, by simp [hl], rfl⟩
  unfold m_space_Space_Set
  have hkl : k < s.cells.length := by omega
  have hcs := cnt_set s.cells k (Vt.fit c) hkl
  have hle := cnt_le s.cells
  have b1 : ∀ d : Vapi_Cell, 0 ≤ c1 d ∧ c1 d ≤ 1 := fun d => by unfold c1; split <;> omega
  have b2 := b1 (Vt.fit c)
  have b3 := b1 s.cells[k]
  have hf : ((cond c.Attr (some (0, iband .u8 c.FA 61)) (some (c.Char, 0))).bind fun (d1 : Int × Int) => some ({ c with Char := d1.1, FA := d1.2 } : Vapi_Cell)) = some (Vt.fit c) := by
    unfold Vt.fit; cases h : c.Attr <;> simp [h]
  obtain ⟨d1, h1, h2⟩ := bsome hf
  simp only [h1, ws_wrap h, Option.bind_some, Option.some.inj h2, count_ok]
  rw [gd_pos (by omega), gd_pos (by omega), hk, rdn hkl, h.attrs, Int.toNat_natCast, hcs, w64_in (x := c1 (Vt.fit c) - c1 s.cells[k]) (by omega) (by omega), w64_in (by omega) (by omega)]
theorem ws_put (h : WS m N alt s) (n : Int) (c : Int) : Tot (m_space_Space_Put s n c) fun r => WS m N alt r := by
  have hd := h.le
  obtain ⟨k, hk, hlt⟩ := emod_nat n (N := N) (by omega)
  have hl := h.len
  have hkl : k < s.cells.length := by omega
  unfold m_space_Space_Put
  simp only [ws_wrap h, Option.bind_some]
  rw [gd_pos (by omega), hk, rdn hkl]
  refine tot_cond (fun e => tot_some ⟨h.model, h.altq, h.dim, by simp [hl], ?_⟩) (fun _ => tot_some h)
  have ha : s.cells[k].Attr = false := by simpa using e
  simp only [Int.toNat_natCast]
  rw [cnt_set _ _ _ hkl, h.attrs]
  unfold c1; simp [ha]
theorem ws_place (h : WS m N alt s) (n : Int) : Tot (m_space_Space_Place s n) fun r => WS m N alt r := by
  unfold m_space_Space_Place
  simp only [ws_wrap h, Option.bind_some]
  exact tot_some ⟨h.model, h.altq, h.dim, h.len, h.attrs⟩
theorem ws_size : m_space_Space_Size s = some s.size := rfl
theorem ws_len (h : WS m N alt s) (a b : Int) : ∃ n : Nat, m_addr_Size_Length s.size a b = some (n : Int) ∧ n ≤ N := by
  have hd := h.le
  unfold m_addr_Size_Length
  simp only [ws_wrap h, ws_cells h, Option.bind_some]
  obtain ⟨k, hk, hlt⟩ := emod_nat (w64 (b % N - a % N)) (N := N) (by omega)
  rw [hk]
  by_cases hk0 : (k : Int) > 0
  · rw [decide_eq_true hk0]; exact ⟨k, rfl, by omega⟩
  · rw [decide_eq_false hk0]; exact ⟨N, rfl, by omega⟩
theorem mod_back {a d : Nat} (hN : 0 < N) (hd : 1 ≤ d) (hdN : d < N) (ha : a < N) : ((((a + d) % N : Nat) : Int) - 1) % (N : Int) = (((a + (d - 1)) % N : Nat) : Int) := by
  by_cases h : a + d < N
  · rw [Nat.mod_eq_of_lt h, Nat.mod_eq_of_lt (by omega), Int.emod_eq_of_lt (by omega) (by omega)]; omega
  · have h1 : (a + d) % N = a + d - N := by rw [Nat.mod_eq_sub_mod (by omega), Nat.mod_eq_of_lt (by omega)]
    rw [h1]
    by_cases h2 : a + d = N
    · have h3 : (((a + d - N : Nat) : Int) - 1) = ((N - 1 : Nat) : Int) - N := by omega
      rw [h3, Int.sub_emod_right, Int.emod_eq_of_lt (by omega) (by omega), Nat.mod_eq_of_lt (by omega)]; omega
    · have h3 : (a + (d - 1)) % N = a + d - 1 - N := by rw [Nat.mod_eq_sub_mod (by omega), Nat.mod_eq_of_lt (by omega)]; omega
      rw [h3, Int.emod_eq_of_lt (by omega) (by omega)]; omega
theorem start_loop (h : WS m N alt s) {a : Nat} (ha : a < N) (hat : isA' s.cells a = true) : ∀ (d k : Nat), d < N → d < k → Tot (field_Start_l6 s s.size k (((a + d) % N : Nat) : Int)) fun r => ∃ j : Nat, r = (j : Int)
  | d, 0, _, hk => by omega
  | d, k + 1, hd, hk => by
    have hle := h.le
    have hp : (a + d) % N < N := Nat.mod_lt _ (by omega)
    have hm : (((a + d) % N : Nat) : Int) % (N : Int) = (((a + d) % N : Nat) : Int) := Int.emod_eq_of_lt (by omega) (by omega)
    rw [field_Start_l6.eq_2]
    simp only [ws_at h, hm, Option.bind_some]
    refine tot_cond (fun e => ?_) (fun _ => tot_some ⟨_, rfl⟩)
    have hd0 : 1 ≤ d := by
      rcases Nat.eq_zero_or_pos d with h0 | h0
      · subst h0
        rw [Nat.add_zero, Nat.mod_eq_of_lt ha] at e
        unfold isA' at hat; rw [hat] at e; cases e
      · exact h0
    have hw : w64 ((((a + d) % N : Nat) : Int) - 1) = (((a + d) % N : Nat) : Int) - 1 := w64_in (by omega) (by omega)
    have hw2 := ws_wrap h (((((a + d) % N : Nat) : Int)) - 1)
    have hw3 : m_addr_Size_Wrap ⟨s.size.Rows, s.size.Cols⟩ (((((a + d) % N : Nat) : Int)) - 1) = _ := hw2
    simp only [hw, hw3, Option.bind_some, mod_back (by omega) hd0 hd ha]
    exact start_loop h ha hat (d - 1) k (by omega) (by omega)
theorem some_attr' {L : List Vapi_Cell} (h : cnt L ≠ 0) : ∃ a, a < L.length ∧ isA' L a = true := by
  rw [cnt_attrs] at h
  cases hl : attrsN L L.length with
  | nil => rw [hl] at h; simp at h
  | cons a r =>
    have : a ∈ attrsN L L.length := by rw [hl]; simp
    exact ⟨a, attrsN_mem.1 this⟩
theorem start_tot (h : WS m N alt s) (n : Int) : Tot (m_field_Start s n) fun _ => True := by
  have hd := h.le
  unfold m_field_Start m_space_Space_Formatted
  simp only [Option.bind_some, ws_size]
  refine tot_cond (fun _ => tot_some trivial) fun e => ?_
  have hz : cnt s.cells ≠ 0 := by
    rw [h.attrs] at e
    have : cnt s.cells > 0 := by simpa using e
    omega
  obtain ⟨a, ha, hat⟩ := some_attr' hz
  rw [h.len] at ha
  obtain ⟨j, hj, hlt⟩ := emod_nat n (N := N) (by omega)
  have hw2 : m_addr_Size_Wrap ⟨s.size.Rows, s.size.Cols⟩ n = _ := ws_wrap h n
  simp only [hw2, hj, Option.bind_some]
  have hq1 : j = (a + (j + N - a) % N) % N := by
    rw [Nat.add_mod_mod, show a + (j + N - a) = j + N by omega, Nat.add_mod_right, Nat.mod_eq_of_lt hlt]
  rw [hq1]
  exact tot_bind (start_loop h ha hat _ _ (Nat.mod_lt _ (by omega)) (by unfold fuel; have := Nat.mod_lt (j + N - a) (show 0 < N by omega); omega)) fun _ _ => tot_some trivial
theorem open_tot (h : WS m N alt s) (n : Int) : Tot (m_field_Open s n) fun _ => True := by
  unfold m_field_Open m_field_Of
  refine tot_bind (P := fun _ => True) (tot_bind (start_tot h n) fun d _ => tot_cond (fun _ => tot_some trivial) fun _ => ?_) fun d _ => ?_
  · simp only [ws_at h, Option.bind_some, m_attr_Of]; exact tot_some trivial
  · refine tot_bind (P := fun _ => True) ?_ fun _ _ => tot_some trivial
    simp only [ws_at h, Option.bind_some]
    exact tot_cond (fun _ => tot_cond (fun _ => tot_some trivial) fun _ => tot_some trivial) fun _ => tot_some trivial
theorem range_tot (h : WS m N alt s) (a b : Int) : Tot (m_erase_Range s a b) fun r => WS m N alt r := by
  have hd := h.le
  unfold m_erase_Range m_addr_Size_Span
  simp only [Option.bind_some, ws_size]
  obtain ⟨n, hn, hnN⟩ := ws_len h a b
  have hn' : m_addr_Size_Length ⟨s.size.Rows, s.size.Cols⟩ a b = some (n : Int) := hn
  have key := loop_rel0 (L := erase_Range_l8 a s.size (n : Int)) (n := n) (s := t7 s) (fun _ y => WS m N alt (o7 y)) (fun y => WS m N alt (o7 y)) (by omega) ?_ ?_ h
  · obtain ⟨r, h1, h2⟩ := key
    have h1' : erase_Range_l8 a s.size (n : Int) fuel (0, s.model, s.alternate, s.size.Rows, s.size.Cols, s.cells, s.cursor, s.attrs) = some r := h1
    simp only [hn', Option.bind_some, h1']
    exact tot_some h2
  · intro k i y hi hy
    have d1 : decide ((i : Int) < (n : Int)) = true := decide_eq_true (by omega)
    rw [erase_Range_l8.eq_2]
    have hw : ∀ z, m_addr_Size_Wrap ⟨s.size.Rows, s.size.Cols⟩ z = some (z % N) := ws_wrap h
    obtain ⟨b1, hb, _⟩ := open_tot hy (w64 (a % N + i) % N)
    simp only [d1, cond_true, hw, Option.bind_some, hb, w64_succ (show i < 9223372036854775807 by omega)]
    cases b1 with
    | true =>
      obtain ⟨u, hu, hu2⟩ := ws_put hy (w64 (a % N + i) % N) 0
      simp only [cond_true, hu, Option.bind_some]
      exact ⟨_, rfl, hu2⟩
    | false => exact ⟨_, rfl, hy⟩
  · intro k y hy
    have d1 : decide ((n : Int) < (n : Int)) = false := decide_eq_false (by omega)
    rw [erase_Range_l8.eq_2]
    simp only [d1, cond_false]
    exact ⟨_, rfl, hy⟩
theorem repeat_tot (h : WS m N alt s) (a b : Int) (c : Vapi_Cell) : Tot (m_erase_Repeat s a b c) fun r => WS m N alt r.1 := by
  have hd := h.le
  unfold m_erase_Repeat m_addr_Size_Span
  simp only [Option.bind_some, ws_size]
  obtain ⟨n, hn, hnN⟩ := ws_len h a b
  have hn' : m_addr_Size_Length ⟨s.size.Rows, s.size.Cols⟩ a b = some (n : Int) := hn
  have key := loop_rel0 (L := erase_Repeat_l8 a c s.size (n : Int)) (n := n) (s := (s.model, s.alternate, s.size.Rows, s.size.Cols, s.cells, s.cursor, s.attrs, 0)) (fun _ y => WS m N alt ⟨y.1, y.2.1, ⟨y.2.2.1, y.2.2.2.1⟩, y.2.2.2.2.1, y.2.2.2.2.2.1, y.2.2.2.2.2.2.1⟩) (fun y => WS m N alt ⟨y.1, y.2.1, ⟨y.2.2.1, y.2.2.2.1⟩, y.2.2.2.2.1, y.2.2.2.2.2.1, y.2.2.2.2.2.2.1⟩) (by omega) ?_ ?_ h
  · obtain ⟨r, h1, h2⟩ := key
    simp only [hn', Option.bind_some, h1]
    exact tot_some h2
  · intro k i y hi hy
    have d1 : decide ((i : Int) < (n : Int)) = true := decide_eq_true (by omega)
    rw [erase_Repeat_l8.eq_2]
    have hw : ∀ z, m_addr_Size_Wrap ⟨s.size.Rows, s.size.Cols⟩ z = some (z % N) := ws_wrap h
    obtain ⟨u, hu, hu2⟩ := ws_set hy (w64 (a % N + i) % N) c
    simp only [d1, cond_true, hw, Option.bind_some, hu, w64_succ (show i < 9223372036854775807 by omega)]
    exact ⟨_, rfl, hu2⟩
  · intro k y hy
    have d1 : decide ((n : Int) < (n : Int)) = false := decide_eq_false (by omega)
    rw [erase_Repeat_l8.eq_2]
    simp only [d1, cond_false]
    exact ⟨_, rfl, hy⟩
theorem first_tot' (h : WS m N alt s) (n : Int) : Tot (m_field_first s n) fun _ => True := by
  unfold m_field_first
  simp only [ws_at h, Option.bind_some, m_attr_Of]
  exact tot_bind (P := fun _ => True) (tot_cond (fun _ => tot_cond (fun _ => tot_some trivial) fun _ => tot_some trivial) fun _ => tot_some trivial) fun _ _ => tot_some trivial
theorem next_tot' (h : WS m N alt s) (n : Int) : Tot (m_field_Next s n) fun _ => True := by
  have hd := h.le
  have hw : ∀ z, m_addr_Size_Wrap ⟨s.size.Rows, s.size.Cols⟩ z = some (z % N) := ws_wrap h
  have hc : m_addr_Size_Cells ⟨s.size.Rows, s.size.Cols⟩ = some (N : Int) := ws_cells h
  unfold m_field_Next m_field_find
  simp only [Option.bind_some, ws_size, hw, hc]
  refine tot_bind (P := fun _ => True) (tot_jn (P := fun _ => True) ?_ fun _ _ => tot_some trivial) fun _ _ => tot_some trivial
  refine Tot.mono (P := fun _ => True) ?_ (fun r _ => by cases r <;> trivial)
  refine loop_ex0 (L := field_find_l4 s 1 s.size (N : Int)) (n := N) (fun _ _ => True) (fun _ => True) (by omega) ?_ ?_ trivial
  · intro k i v hi _
    have d1 : decide ((i : Int) < (N : Int)) = true := decide_eq_true (by omega)
    rw [field_find_l4.eq_2]
    obtain ⟨b, hb, _⟩ := first_tot' h (w64 (v + 1) % N)
    simp only [d1, cond_true, hw, Option.bind_some, hb, w64_succ (show i < 9223372036854775807 by omega)]
    cases b with
    | true => exact .inl ⟨_, rfl, trivial⟩
    | false => exact .inr ⟨_, rfl, trivial⟩
  · intro k v _
    have d1 : decide ((N : Int) < (N : Int)) = false := decide_eq_false (by omega)
    rw [field_find_l4.eq_2]
    simp only [d1, cond_false]
    exact ⟨_, rfl, trivial⟩
end
end Go.Vt
