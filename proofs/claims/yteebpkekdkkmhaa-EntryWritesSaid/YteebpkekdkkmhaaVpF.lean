/- What the program reads of a screen: modified fields as bytes. No conditions. -/
import Derived.Test.YteebpkekdkkmhaaVpE
set_option linter.unusedVariables false
set_option linter.unusedSimpArgs false
set_option maxRecDepth 100000
namespace Go.Vt
/-- the cells from a place on, round -/
def rot (L : List Vapi_Cell) (j : Nat) : List Vapi_Cell := L.drop j ++ L.take j
/-- up to the next attribute -/
def run (L : List Vapi_Cell) (j : Nat) : List Vapi_Cell := (rot L j).takeWhile (fun c => !c.Attr)
theorem tw_stop {α : Type} (p : α → Bool) : ∀ (t u : List α), (∃ c ∈ t, p c = false) → (t ++ u).takeWhile p = t.takeWhile p
  | [], u, ⟨c, h, _⟩ => by cases h
  | x :: t, u, h => by
    simp only [List.cons_append, List.takeWhile_cons]
    cases hx : p x with
    | false => rfl
    | true =>
      obtain ⟨c, hc, hp⟩ := h
      have : ∃ c ∈ t, p c = false := by
        cases hc with
        | head => rw [hx] at hp; cases hp
        | tail _ hc => exact ⟨c, hc, hp⟩
      simp only [if_true, tw_stop p t u this]
theorem rot_cons {L : List Vapi_Cell} {j : Nat} (h : j < L.length) : rot L j = L[j] :: (L.drop (j + 1) ++ L.take j) := by
  unfold rot; rw [List.drop_eq_getElem_cons h]; rfl
theorem rot_next {L : List Vapi_Cell} {j : Nat} (h : j < L.length) : rot L ((j + 1) % L.length) = (L.drop (j + 1) ++ L.take j) ++ [L[j]] := by
  unfold rot
  by_cases h1 : j + 1 < L.length
  · rw [Nat.mod_eq_of_lt h1, List.take_succ_eq_append_getElem h, List.append_assoc]
  · have : j + 1 = L.length := by omega
    rw [this, Nat.mod_self]
    have h2 : L.drop L.length = [] := List.drop_eq_nil_of_le (Nat.le_refl _)
    rw [h2]
    simp only [List.drop_zero, List.take_zero, List.append_nil, List.nil_append]
    have h3 := List.take_succ_eq_append_getElem h
    rw [this, List.take_of_length_le (Nat.le_refl _)] at h3
    exact h3
theorem rot_mem {L : List Vapi_Cell} (j : Nat) {c : Vapi_Cell} : c ∈ rot L j ↔ c ∈ L := by
  have h : L.take j ++ L.drop j = L := List.take_append_drop j L
  conv => rhs; rw [← h]
  unfold rot
  simp only [List.mem_append]
  exact Or.comm
theorem run_attr {L : List Vapi_Cell} {j : Nat} (h : j < L.length) (ha : L[j].Attr = true) : run L j = [] := by
  unfold run; rw [rot_cons h, List.takeWhile_cons]; simp [ha]
theorem run_step {L : List Vapi_Cell} {j : Nat} (h : j < L.length) (ha : L[j].Attr = false) (he : ∃ c ∈ L, c.Attr = true) : run L j = L[j] :: run L ((j + 1) % L.length) := by
  obtain ⟨c, hc, hca⟩ := he
  unfold run
  rw [rot_next h, rot_cons h, List.takeWhile_cons]
  simp only [ha, Bool.not_false, if_true]
  rw [tw_stop _ (L.drop (j + 1) ++ L.take j) [L[j]]]
  refine ⟨c, ?_, by simp [hca]⟩
  have h1 := (rot_mem j).2 hc
  rw [rot_cons h] at h1
  cases h1 with
  | head => rw [ha] at hca; cases hca
  | tail _ h1 => exact h1
theorem run_len (L : List Vapi_Cell) (j : Nat) : (run L j).length ≤ L.length := by
  unfold run
  have h1 : ((rot L j).takeWhile (fun c : Vapi_Cell => !c.Attr)).length ≤ (rot L j).length := (List.takeWhile_prefix _).length_le
  have h2 : (rot L j).length ≤ L.length := by unfold rot; simp; omega
  omega
abbrev T8 := List Int × Int × Bool × Int × Int × Int × Int × Int
abbrev t8 (s : St) (mode : Int) : T8 := (s.1, s.2.Char, s.2.Attr, s.2.FA, s.2.High, s.2.Color, s.2.f_Set, mode)
theorem emod_succ {j N : Nat} (h : j < N) : ((((j : Int) + 1) % (N : Int))) = (((j + 1) % N : Nat) : Int) := rfl
theorem places_loop {m : Int} {N : Nat} {sp : Vspace_Space} (hs : SS m N sp) (he : ∃ c ∈ sp.cells, c.Attr = true) (mode : Int) : ∀ (k j : Nat) (st : St), j < N → (run sp.cells j).length < k → st.1.length + 10 * (run sp.cells j).length ≤ 40000000000 →
    read_modified_l68 sp sp.size k ((j : Int), t8 st mode) = some (t8 ((run sp.cells j).foldl (sstep mode) st) mode)
  | 0, j, st, _, h, _ => by omega
  | k + 1, j, st, hj, hk, ho => by
    have hle := hs.dim.dim.le
    have hl := hs.len
    have hjl : j < sp.cells.length := by omega
    have hjm : (j : Int) % (N : Int) = (j : Int) := Int.emod_eq_of_lt (by omega) (by omega)
    have hC : COk sp.cells[j] := hs.ok _ (List.getElem_mem hjl)
    rw [read_modified_l68.eq_2]
    simp only [ss_at hs, hjm, rdn hjl, Option.bind_some]
    cases ha : sp.cells[j].Attr with
    | true => simp only [Bool.not_true, cond_false, run_attr hjl ha, List.foldl_nil]
    | false =>
      have hr := run_step hjl ha he
      have hq : (⟨sp.size.Rows, sp.size.Cols⟩ : Vaddr_Size) = sp.size := rfl
      have hc : (⟨sp.cells[j].Char, sp.cells[j].Attr, sp.cells[j].FA, sp.cells[j].High, sp.cells[j].Color, sp.cells[j].f_Set⟩ : Vapi_Cell) = sp.cells[j] := rfl
      have hc' : (⟨sp.cells[j].Char, false, sp.cells[j].FA, sp.cells[j].High, sp.cells[j].Color, sp.cells[j].f_Set⟩ : Vapi_Cell) = sp.cells[j] := by rw [← ha]
      have hst : (⟨st.2.Char, st.2.Attr, st.2.FA, st.2.High, st.2.Color, st.2.f_Set⟩ : Vapi_Cell) = st.2 := rfl
      simp only [Bool.not_false, cond_true, t8, hst, hc', hq]
      rw [some_ok hC.char (by omega)]
      simp only [Option.bind_some, ss_wrap hs]
      rw [w64_in (by omega) (by omega), emod_succ hj, hr]
      simp only [List.foldl_cons]
      rw [hl] at hr ⊢
      have h1 := sstep_len mode st sp.cells[j]
      have hrl : (run sp.cells j).length = (run sp.cells ((j + 1) % N)).length + 1 := by rw [hr]; rfl
      exact places_loop hs he mode k ((j + 1) % N) (sstep mode st sp.cells[j]) (Nat.mod_lt _ (by omega)) (by omega) (by omega)
def isMod (c : Vapi_Cell) : Bool := (iband .u8 c.FA 1) != 0
/-- one place of the screen: where a modified field begins, its address and its characters -/
def mstep (L : List Vapi_Cell) (mode : Int) (n : Nat) (s : St) : St :=
  if (rd L (n : Int)).Attr && isMod (rd L (n : Int)) then (run L ((n + 1) % L.length)).foldl (sstep mode) (s.1 ++ 17 :: adr (((n + 1) % L.length : Nat) : Int), s.2) else s
theorem mstep_len {L : List Vapi_Cell} (mode : Int) {n : Nat} (hl : L.length ≤ 3564) (h : n < L.length) (s : St) : (mstep L mode n s).1.length ≤ s.1.length + 35643 := by
  unfold mstep
  split
  · have h1 := fold_len mode (run L ((n + 1) % L.length)) (s.1 ++ 17 :: adr (((n + 1) % L.length : Nat) : Int), s.2)
    have h2 := run_len L ((n + 1) % L.length)
    have h3 := (enc_adr (n := (n + 1) % L.length) (by have := Nat.mod_lt (n + 1) (show 0 < L.length by omega); omega)).2.2
    simp only [List.length_append, List.length_cons, h3] at h1
    omega
  · omega
theorem addr_ok {out : List Int} {last : Vapi_Cell} {mode : Int} {n : Nat} (h : n < 4096) (ho : out.length ≤ 60000000000) : m_read_sender_addr ⟨out, last, mode⟩ (n : Int) = some ⟨out ++ adr n, last, mode⟩ := by
  obtain ⟨h1, _, h3⟩ := enc_adr h
  unfold m_read_sender_addr
  have e0 : ((0 : Int) == 0) = true := rfl
  simp only [h1, Option.bind_some, e0, cond_true]
  rw [gd_pos (by omega)]
theorem mod_loop {m : Int} {N : Nat} {sp : Vspace_Space} (hs : SS m N sp) (mode : Int) {st : St} (ho : st.1.length ≤ 1000) :
    read_modified_l40 sp (N : Int) fuel (0, t8 st mode) = some (t8 (iterN (mstep sp.cells mode) 0 N st) mode) := by
  have hle := hs.dim.dim.le
  have hl := hs.len
  have key := loop_rel0 (L := read_modified_l40 sp (N : Int)) (n := N) (s := t8 st mode) (fun i y => ∃ s : St, y = t8 s mode ∧ s = iterN (mstep sp.cells mode) 0 i st ∧ s.1.length ≤ 1000 + 35643 * i)
    (fun r => r = t8 (iterN (mstep sp.cells mode) 0 N st) mode) (by omega) ?_ ?_ ⟨st, rfl, rfl, by omega⟩
  · obtain ⟨r, h1, h2⟩ := key; rw [h1, h2]
  · rintro k i y hi ⟨s, rfl, e, hlen⟩
    have hil : i < sp.cells.length := by omega
    have him : (i : Int) % (N : Int) = (i : Int) := Int.emod_eq_of_lt (by omega) (by omega)
    have d1 : decide ((i : Int) < (N : Int)) = true := decide_eq_true (by omega)
    have hlen2 := mstep_len (L := sp.cells) mode (by omega) hil s
    have next : iterN (mstep sp.cells mode) 0 (i + 1) st = mstep sp.cells mode i s := by rw [iterN_snoc, ← e, Nat.zero_add]
    rw [read_modified_l40.eq_2]
    simp only [d1, cond_true, ss_at hs, him, rdn hil, Option.bind_some]
    rw [w64_succ (by omega)]
    have fin : ∀ s2 : St, s2 = mstep sp.cells mode i s → ∃ s' : T8, read_modified_l40 sp (N : Int) k (((i + 1 : Nat) : Int), t8 s2 mode) = read_modified_l40 sp (N : Int) k (((i + 1 : Nat) : Int), s') ∧ ∃ s3 : St, s' = t8 s3 mode ∧ s3 = iterN (mstep sp.cells mode) 0 (i + 1) st ∧ s3.1.length ≤ 1000 + 35643 * (i + 1) := fun s2 h2 =>
      ⟨_, rfl, s2, rfl, by rw [next, h2], by rw [h2]; omega⟩
    cases ha : sp.cells[i].Attr with
    | false =>
      simp only [cond_false, Option.bind_some]
      exact fin s (by unfold mstep; rw [rdn hil, ha]; rfl)
    | true =>
      simp only [cond_true, m_attr_Of, Option.bind_some]
      cases hm : ((iband .u8 sp.cells[i].FA 1) != 0) with
      | false =>
        simp only [cond_false, Option.bind_some]
        exact fin s (by unfold mstep isMod; rw [rdn hil, ha, hm]; rfl)
      | true =>
        have hq : (⟨sp.size.Rows, sp.size.Cols⟩ : Vaddr_Size) = sp.size := rfl
        have hst : (⟨s.2.Char, s.2.Attr, s.2.FA, s.2.High, s.2.Color, s.2.f_Set⟩ : Vapi_Cell) = s.2 := rfl
        have hmod : (i + 1) % N < N := Nat.mod_lt _ (by omega)
        have hw : ((i + 1 : Nat) : Int) % (N : Int) = (((i + 1) % N : Nat) : Int) := rfl
        have he : ∃ c ∈ sp.cells, c.Attr = true := ⟨_, List.getElem_mem hil, ha⟩
        simp only [cond_true, m_space_Space_Size, m_field_Places, Option.bind_some, hq, ss_wrap hs, hw, hst, t8]
        rw [gd_pos (by simp; omega)]
        rw [addr_ok (by omega) (by simp; omega)]
        simp only [Option.bind_some, him, ss_wrap hs, ss_at hs, rdn hil, ha, Bool.not_true, cond_false]
        rw [w64_succ (by omega), hw]
        have h3 := (enc_adr (n := (i + 1) % N) (by omega)).2.2
        have hrl := run_len sp.cells ((i + 1) % N)
        have hp := places_loop hs he mode fuel ((i + 1) % N) (s.1 ++ [17] ++ adr (((i + 1) % N : Nat) : Int), s.2) hmod (by unfold fuel; omega) (by simp only [List.length_append, List.length_cons, List.length_nil, h3]; omega)
        simp only [t8] at hp
        rw [hp]
        simp only [Option.bind_some]
        refine fin _ ?_
        unfold mstep isMod
        rw [rdn hil, ha, hm, hl]
        simp only [Bool.and_self, if_true, List.append_assoc, List.cons_append, List.nil_append]
  · rintro k y ⟨s, rfl, e, hlen⟩
    have d1 : decide ((N : Int) < (N : Int)) = false := decide_eq_false (by omega)
    rw [read_modified_l40.eq_2]
    simp only [d1, cond_false]
    exact ⟨_, rfl, by rw [e]⟩
theorem all_loop' {m : Int} {N : Nat} {sp : Vspace_Space} (hs : SS m N sp) (mode : Int) {st : St} (ho : st.1.length ≤ 1000) :
    read_modified_l15 sp (N : Int) fuel (0, t8 st mode) = some (t8 (sp.cells.foldl (sstep mode) st) mode) := by
  have hle := hs.dim.dim.le
  have hl := hs.len
  have key := loop_rel0 (L := read_modified_l15 sp (N : Int)) (n := N) (s := t8 st mode) (fun i y => ∃ s : St, y = t8 s mode ∧ s = (sp.cells.take i).foldl (sstep mode) st ∧ s.1.length ≤ 1000 + 10 * i)
    (fun r => r = t8 (sp.cells.foldl (sstep mode) st) mode) (by omega) ?_ ?_ ⟨st, rfl, rfl, by omega⟩
  · obtain ⟨r, h1, h2⟩ := key; rw [h1, h2]
  · rintro k i y hi ⟨s, rfl, e, hlen⟩
    have hil : i < sp.cells.length := by omega
    have him : (i : Int) % (N : Int) = (i : Int) := Int.emod_eq_of_lt (by omega) (by omega)
    have d1 : decide ((i : Int) < (N : Int)) = true := decide_eq_true (by omega)
    have hC : COk sp.cells[i] := hs.ok _ (List.getElem_mem hil)
    have hspe : (⟨sp.model, sp.alternate, sp.size, sp.cells, sp.cursor, sp.attrs⟩ : Vspace_Space) = sp := rfl
    have hst : (⟨s.2.Char, s.2.Attr, s.2.FA, s.2.High, s.2.Color, s.2.f_Set⟩ : Vapi_Cell) = s.2 := rfl
    have hc : (⟨sp.cells[i].Char, sp.cells[i].Attr, sp.cells[i].FA, sp.cells[i].High, sp.cells[i].Color, sp.cells[i].f_Set⟩ : Vapi_Cell) = sp.cells[i] := rfl
    rw [read_modified_l15.eq_2]
    simp only [d1, cond_true, hspe, ss_at hs, him, rdn hil, Option.bind_some, t8, hst, hc]
    rw [some_ok hC.char (by omega), w64_succ (by omega)]
    simp only [Option.bind_some]
    have h1 := sstep_len mode s sp.cells[i]
    refine ⟨_, rfl, sstep mode s sp.cells[i], rfl, ?_, by omega⟩
    rw [List.take_succ_eq_append_getElem hil, List.foldl_append, ← e]; rfl
  · rintro k y ⟨s, rfl, e, hlen⟩
    have d1 : decide ((N : Int) < (N : Int)) = false := decide_eq_false (by omega)
    rw [read_modified_l15.eq_2]
    simp only [d1, cond_false]
    refine ⟨_, rfl, ?_⟩
    rw [e, List.take_of_length_le (by omega)]
/-- what is sent of a screen: the AID, the cursor, what is modified -/
def sent (L : List Vapi_Cell) (cur aid mode : Int) : List Int :=
  if cnt L = 0 then (L.foldl (sstep mode) (aid :: adr cur, zc)).1 else (iterN (mstep L mode) 0 L.length (aid :: adr cur, zc)).1
theorem cnt_pos {L : List Vapi_Cell} (h : cnt L ≠ 0) : 0 < cnt L := by have := cnt_le L; omega
theorem modified_ok {m : Int} {N : Nat} {sp : Vspace_Space} (hs : SS m N sp) {aid mode : Int} (hm : 0 ≤ mode ∧ mode ≤ 2) (short : Bool) :
    m_read_modified sp aid mode short = some (sp, if short then [aid] else sent sp.cells sp.cursor aid mode, 0) := by
  have hle := hs.dim.dim.le
  have hcur := hs.cur
  have c1 : decide (mode < 0) = false := decide_eq_false (by omega)
  have c2 : decide (mode > 2) = false := decide_eq_false (by omega)
  have hspe : (⟨sp.model, sp.alternate, sp.size, sp.cells, sp.cursor, sp.attrs⟩ : Vspace_Space) = sp := rfl
  have hszq : (⟨sp.size.Rows, sp.size.Cols⟩ : Vaddr_Size) = sp.size := rfl
  have hcells : m_addr_Size_Cells sp.size = some (N : Int) := cells_ok hs.dim.dim
  have e0 : ((0 : Int) != 0) = false := rfl
  obtain ⟨n, hn⟩ : ∃ n : Nat, sp.cursor = (n : Int) := ⟨sp.cursor.toNat, by omega⟩
  have hadr := (enc_adr (n := n) (by omega)).2.2
  unfold m_read_modified m_read_begin
  cases short with
  | true =>
    simp only [c1, c2, cond_false, Option.bind_some, Bool.not_true, e0, cond_true, m_read_bytesOf, if_true]
  | false =>
    have ha := addr_ok (out := [aid]) (last := zc) (mode := mode) (n := n) (by omega) (by simp)
    rw [← hn] at ha
    simp only [c1, c2, cond_false, Option.bind_some, Bool.not_false, e0, cond_true, m_space_Space_Cursor, ha, m_space_Space_Formatted, hs.attrs, Bool.false_eq_true, if_false]
    unfold sent
    by_cases hz : cnt sp.cells = 0
    · have d1 : decide (cnt sp.cells > 0) = false := decide_eq_false (by omega)
      simp only [d1, Bool.not_false, cond_true, m_space_Space_All, m_space_Space_Size, hcells, Option.bind_some, if_pos hz]
      have := all_loop' hs mode (st := ([aid] ++ adr sp.cursor, zc)) (by rw [hn]; simp [hadr])
      simp only [t8] at this
      rw [this]; rfl
    · have d1 : decide (cnt sp.cells > 0) = true := decide_eq_true (cnt_pos hz)
      simp only [d1, Bool.not_true, cond_false, m_field_Modified, m_field_Fields, m_space_Space_Attrs, m_space_Space_All, m_space_Space_Size, hszq, hcells, Option.bind_some, if_neg hz]
      have := mod_loop hs mode (st := ([aid] ++ adr sp.cursor, zc)) (by rw [hn]; simp [hadr])
      simp only [t8] at this
      rw [this, hs.len]; rfl
/-- the AIDs of which nothing but themselves is sent -/
def shortA (a : Int) : Bool := decide (a ∈ [108, 110, 107, (109 : Int)])
theorem short_all : ∀ f : Fin 256, m_keys_Short (f.val : Int) = some (shortA (f.val : Int)) ∧ m_vitrineref18_Short (f.val : Int) = some (shortA (f.val : Int)) := by decide +kernel
theorem short_ok {a : Int} (h : By a) : m_keys_Short a = some (shortA a) ∧ m_vitrineref18_Short a = some (shortA a) := by
  obtain ⟨f, rfl⟩ := h.fin; exact short_all f
theorem Modified_ok {m : Int} {N : Nat} {sp : Vspace_Space} (hs : SS m N sp) {aid mode : Int} (ha : By aid) (hm : 0 ≤ mode ∧ mode ≤ 2) :
    m_read_Modified sp aid mode = some (sp, if shortA aid then [aid] else sent sp.cells sp.cursor aid mode, 0) := by
  unfold m_read_Modified
  simp only [(short_ok ha).1, modified_ok hs hm, Option.bind_some]
theorem All_ok {m : Int} {N : Nat} {sp : Vspace_Space} (hs : SS m N sp) {aid mode : Int} (hm : 0 ≤ mode ∧ mode ≤ 2) :
    m_read_All sp aid mode = some (sp, sent sp.cells sp.cursor aid mode, 0) := by
  unfold m_read_All
  simp only [modified_ok hs hm, Option.bind_some, Bool.false_eq_true, if_false]
end Go.Vt
