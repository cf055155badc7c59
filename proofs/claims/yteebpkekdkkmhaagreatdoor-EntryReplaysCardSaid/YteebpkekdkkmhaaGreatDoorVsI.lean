/- A screen that is read whole: its bytes, its pieces. No conditions. -/
import Derived.Test.YteebpkekdkkmhaaGreatDoorVsH
set_option linter.unusedVariables false
set_option linter.unusedSimpArgs false
set_option maxRecDepth 100000
namespace Go.Vt
def sixv (n : Int) : Int := (m_addr_Six n).getD 0
def chkS (n : Int) : Bool := decide (m_addr_Six n = some (sixv n)) && decide (By (sixv n)) && decide (iband .u8 (sixv n) 61 = iband .u8 n 61) && decide (w64 n = n)
theorem chkS_all : ∀ f : Fin 256, chkS (f.val : Int) = true := by decide +kernel
theorem six_ok {n : Int} (h : By n) : m_addr_Six n = some (sixv n) ∧ By (sixv n) ∧ iband .u8 (sixv n) 61 = iband .u8 n 61 ∧ w64 n = n := by
  obtain ⟨f, rfl⟩ := h.fin
  have := chkS_all f
  simp only [chkS, Bool.and_eq_true, decide_eq_true_eq] at this
  exact ⟨this.1.1.1, this.1.1.2, this.1.2, this.2⟩
/-- an attribute's pairs -/
def prs (c : Vapi_Cell) : List (Int × Int) := (192, sixv c.FA) :: dif zc c
theorem pairs_c {c : Vapi_Cell} (h : COk c) (ha : c.Attr = true) : m_attr_Pairs c = some ((prs c).map mkA) := by
  obtain ⟨h1, h2⟩ := h.attr ha
  obtain ⟨s1, s2, s3, s4⟩ := six_ok h.fa
  unfold m_attr_Pairs m_attr_looks
  simp only [ha, cond_true, h2, s4, s1, Option.bind_some]
  rw [gd_pos (by simp)]
  simp only [Option.bind_some, List.nil_append]
  obtain ⟨k, f3⟩ : ∃ k, fuel = Nat.succ (Nat.succ (Nat.succ (Nat.succ k))) := ⟨fuel - 4, by unfold fuel; omega⟩
  have e0 : w64 (0 + 1) = 1 := by decide
  have e1 : w64 (1 + 1) = 2 := by decide
  have e2 : w64 (2 + 1) = 3 := by decide
  have g0 : (0 : Int) ≤ 0 ∧ (0 : Int) < 3 := by omega
  have g1 : (0 : Int) ≤ 1 ∧ (1 : Int) < 3 := by omega
  have g2 : (0 : Int) ≤ 2 ∧ (2 : Int) < 3 := by omega
  have d0 : decide ((0 : Int) < 3) = true := rfl
  have d1 : decide ((1 : Int) < 3) = true := rfl
  have d2 : decide ((2 : Int) < 3) = true := rfl
  have d3 : decide ((3 : Int) < 3) = false := rfl
  have r0 : ∀ (x y z : Vattr_Pair), rd [x, y, z] 0 = x := fun _ _ _ => rfl
  have r1 : ∀ (x y z : Vattr_Pair), rd [x, y, z] 1 = y := fun _ _ _ => rfl
  have r2 : ∀ (x y z : Vattr_Pair), rd [x, y, z] 2 = z := fun _ _ _ => rfl
  have loop : ∀ d : Vattr_Pair × Vattr_Pair × Vattr_Pair, d = (⟨65, c.High⟩, ⟨66, c.Color⟩, ⟨67, c.f_Set⟩) → attr_Pairs_l5 d fuel (0, [⟨192, sixv c.FA⟩]) = some ((prs c).map mkA) := fun d hd => by
    subst hd
    rw [f3]
    unfold prs dif
    have nz : ∀ n : Int, ((∀ x : List (Int × Int), (if (0 : Int) = n then [] else x) = []) ∧ (n != 0) = false) ∨ ((∀ x : List (Int × Int), (if (0 : Int) = n then [] else x) = x) ∧ (n != 0) = true) := fun n => by
      by_cases h : n = 0
      · exact .inl ⟨fun x => if_pos h.symm, bne_f h⟩
      · exact .inr ⟨fun x => if_neg fun e => h e.symm, bne_t h⟩
    rcases nz c.High with ⟨h1, q1⟩ | ⟨h1, q1⟩ <;> rcases nz c.Color with ⟨h2, q2⟩ | ⟨h2, q2⟩ <;> rcases nz c.f_Set with ⟨h3, q3⟩ | ⟨h3, q3⟩
    all_goals
      rw [attr_Pairs_l5.eq_2]
      simp only [d0, cond_true, if_pos g0, r0, e0, q1, q2, q3, cond_false, Option.bind_some, gd]
      try rw [if_pos (by simp)]
      try simp only [Option.bind_some]
      rw [attr_Pairs_l5.eq_2]
      simp only [d1, cond_true, if_pos g1, r1, e1, q1, q2, q3, cond_false, Option.bind_some, gd]
      try rw [if_pos (by simp)]
      try simp only [Option.bind_some]
      rw [attr_Pairs_l5.eq_2]
      simp only [d2, cond_true, if_pos g2, r2, e2, q1, q2, q3, cond_false, Option.bind_some, gd]
      try rw [if_pos (by simp)]
      try simp only [Option.bind_some]
      rw [attr_Pairs_l5.eq_2]
      simp only [d3, cond_false]
      simp only [zc, h1, h2, h3, List.nil_append, List.cons_append, List.append_nil, List.map_cons, List.map_nil]
  rw [loop _ rfl]; rfl
def chkAll (l : List (Int × Int)) : Bool := l.all fun p => decide (m_attr_Pair_Check (mkA p) = some 0)
theorem abytes_loop (l : List (Int × Int)) (hl : l.length ≤ 4) : ∀ (d i k : Nat), i + d = l.length → d < k → (∀ p ∈ l.take i, m_attr_Pair_Check (mkA p) = some 0) →
    (chkAll l = true ∧ attr_Bytes_l3 (l.map mkA) k ((i : Int), (l.length : Int) :: fl (l.take i)) = some (.inl ((l.length : Int) :: fl l))) ∨ (chkAll l = false ∧ ∃ e, e ≠ 0 ∧ attr_Bytes_l3 (l.map mkA) k ((i : Int), (l.length : Int) :: fl (l.take i)) = some (.inr ([], e)))
  | d, i, 0, _, hk, _ => by omega
  | 0, i, k + 1, e, hk, hc => by
    have d1 : decide ((i : Int) < ((l.map mkA).length : Int)) = false := decide_eq_false (by simp; omega)
    rw [List.take_of_length_le (by omega)] at hc ⊢
    refine .inl ⟨by simpa [chkAll] using hc, ?_⟩
    rw [attr_Bytes_l3.eq_2, d1, cond_false]
  | d + 1, i, k + 1, e, hk, hc => by
    have hi : i < l.length := by omega
    have d1 : decide ((i : Int) < ((l.map mkA).length : Int)) = true := decide_eq_true (by simp; omega)
    have hfl := fl_len (l.take i)
    rw [attr_Bytes_l3.eq_2, d1, cond_true, gd_pos (by simp; omega), rdn (by simp; omega), w64_succ (by omega)]
    simp only [List.getElem_map]
    obtain ⟨r, hr⟩ := check_tot (mkA l[i])
    rw [hr, Option.bind_some]
    by_cases h0 : r = 0
    · subst h0
      rw [bne_f rfl, cond_false, gd_pos (by simp [hfl]; omega)]
      have hs : ((l.length : Int) :: fl (l.take i)) ++ [l[i].1, l[i].2] = (l.length : Int) :: fl (l.take (i + 1)) := by rw [List.take_succ_eq_append_getElem hi]; simp only [fl, List.flatMap_append, List.flatMap_cons, List.flatMap_nil, List.cons_append, List.append_nil, List.nil_append]
      rw [hs]
      refine abytes_loop l hl d (i + 1) k (by omega) (by omega) fun p hp => ?_
      rw [List.take_succ_eq_append_getElem hi, List.mem_append] at hp
      rcases hp with hp | hp
      · exact hc p hp
      · rw [List.mem_singleton.1 hp]; exact hr
    · rw [bne_t h0, cond_true]
      refine .inr ⟨?_, r, h0, rfl⟩
      rw [Bool.eq_false_iff]
      intro hall
      have := List.all_eq_true.1 hall l[i] (List.getElem_mem hi)
      simp only [decide_eq_true_eq] at this
      rw [hr] at this
      exact h0 (Option.some.inj this)
theorem abytes (l : List (Int × Int)) (hl : l.length ≤ 4) : (chkAll l = true ∧ m_attr_Bytes (l.map mkA) = some ((l.length : Int) :: fl l, 0)) ∨ (chkAll l = false ∧ ∃ e, e ≠ 0 ∧ m_attr_Bytes (l.map mkA) = some ([], e)) := by
  unfold m_attr_Bytes
  have d1 : decide (((l.map mkA).length : Int) > 255) = false := decide_eq_false (by simp; omega)
  have hw : IntKind.wrap .u8 ((l.map mkA).length : Int) = (l.length : Int) := by rw [List.length_map]; exact wrap8 ⟨by omega, by omega⟩
  simp only [d1, cond_false, hw]
  rcases abytes_loop l hl l.length 0 fuel (by omega) (by unfold fuel; omega) (fun p hp => by simp at hp) with ⟨h1, h2⟩ | ⟨h1, e, he, h2⟩
  · have h2' : attr_Bytes_l3 (l.map mkA) fuel (0, [(l.length : Int)]) = _ := h2
    rw [h2']; exact .inl ⟨h1, rfl⟩
  · have h2' : attr_Bytes_l3 (l.map mkA) fuel (0, [(l.length : Int)]) = _ := h2
    rw [h2']; exact .inr ⟨h1, e, he, rfl⟩
/-- an attribute's bytes -/
def attB (mode : Int) (c : Vapi_Cell) : List Int := if mode = 0 then [29, sixv c.FA] else if chkAll (prs c) then 41 :: ((prs c).length : Int) :: fl (prs c) else []
theorem prs_len (c : Vapi_Cell) : (prs c).length ≤ 4 := by
  have := dif_len zc c
  simp [prs]; omega
theorem attB_len (mode : Int) (c : Vapi_Cell) : (attB mode c).length ≤ 10 := by
  have := prs_len c
  unfold attB
  split
  · simp
  · split
    · simp [fl_len]; omega
    · simp
def rone (mode : Int) (s : St) (c : Vapi_Cell) : St := if c.Attr then (s.1 ++ attB mode c, s.2) else sone mode s c
theorem rone_len (mode : Int) (s : St) (c : Vapi_Cell) : (rone mode s c).1.length ≤ s.1.length + 10 := by
  have h1 := attB_len mode c
  have h2 := chr_len mode s.2 c
  unfold rone sone
  split
  · simp; omega
  · simp; omega
theorem att_ok {mode : Int} {s : St} {c : Vapi_Cell} (h : COk c) (ha : c.Attr = true) (ho : s.1.length ≤ 50000000000) : m_read_sender_attribute ⟨s.1, s.2, mode⟩ c = some ⟨(rone mode s c).1, (rone mode s c).2, mode⟩ := by
  obtain ⟨s1, s2, s3, s4⟩ := six_ok h.fa
  have hpl := prs_len c
  unfold m_read_sender_attribute rone
  rw [if_pos ha]
  by_cases hm : mode = 0
  · simp only [beq_t hm, cond_true, s4, s1, Option.bind_some]
    rw [gd_pos (by simp; omega)]
    simp [attB, hm]
  · simp only [beq_f hm, cond_false, pairs_c h ha, Option.bind_some]
    rcases abytes (prs c) hpl with ⟨h1, h2⟩ | ⟨h1, e, he, h2⟩
    · have z : ((0 : Int) == 0) = true := rfl
      simp only [h2, Option.bind_some, z, cond_true]
      rw [gd_pos (by simp; omega), gd_pos (by simp [fl_len]; omega)]
      simp [attB, hm, h1]
    · simp only [h2, Option.bind_some, beq_f he, cond_false]
      simp [attB, hm, h1]
theorem rfold_len (mode : Int) : ∀ (l : List Vapi_Cell) (s : St), (l.foldl (rone mode) s).1.length ≤ s.1.length + 10 * l.length
  | [], s => by simp
  | c :: l, s => by
    have h1 := rfold_len mode l (rone mode s c)
    have h2 := rone_len mode s c
    simp only [List.foldl_cons, List.length_cons]; omega
theorem ss_atn {m : Int} {N : Nat} {s : Vspace_Space} (h : SS m N s) {n : Nat} (hn : n < N) : m_space_Space_At s (n : Int) = some (rd s.cells (n : Int)) := by
  rw [ss_at h, Int.emod_eq_of_lt (by omega) (by omega)]
theorem buf_loop {m : Int} {N : Nat} {u : Vspace_Space} (h : SS m N u) (mode : Int) : ∀ (d i k : Nat) (s : St), i + d = N → d < k → s.1.length ≤ 100 + 10 * i →
    read_Buffer_l11 u (N : Int) k ((i : Int), s.1, s.2.Char, s.2.Attr, s.2.FA, s.2.High, s.2.Color, s.2.f_Set, mode) = some (((u.cells.drop i).foldl (rone mode) s).1, ((u.cells.drop i).foldl (rone mode) s).2.Char, ((u.cells.drop i).foldl (rone mode) s).2.Attr, ((u.cells.drop i).foldl (rone mode) s).2.FA, ((u.cells.drop i).foldl (rone mode) s).2.High, ((u.cells.drop i).foldl (rone mode) s).2.Color, ((u.cells.drop i).foldl (rone mode) s).2.f_Set, mode)
  | d, i, 0, _, _, hk, _ => by omega
  | 0, i, k + 1, s, e, hk, _ => by
    have hl := h.len
    have d1 : decide ((i : Int) < (N : Int)) = false := decide_eq_false (by omega)
    rw [read_Buffer_l11.eq_2]
    simp only [d1, cond_false]
    rw [List.drop_eq_nil_of_le (by omega)]; rfl
  | d + 1, i, k + 1, s, e, hk, hs => by
    have hl := h.len
    have hle := h.dim.dim.le
    have hi : i < u.cells.length := by omega
    have d1 : decide ((i : Int) < (N : Int)) = true := decide_eq_true (by omega)
    have hok : COk u.cells[i] := h.ok _ (List.getElem_mem hi)
    have hue : (⟨u.model, u.alternate, u.size, u.cells, u.cursor, u.attrs⟩ : Vspace_Space) = u := rfl
    have hse : (⟨s.1, ⟨s.2.Char, s.2.Attr, s.2.FA, s.2.High, s.2.Color, s.2.f_Set⟩, mode⟩ : Vread_sender) = ⟨s.1, s.2, mode⟩ := rfl
    have hce : (⟨u.cells[i].Char, u.cells[i].Attr, u.cells[i].FA, u.cells[i].High, u.cells[i].Color, u.cells[i].f_Set⟩ : Vapi_Cell) = u.cells[i] := rfl
    rw [read_Buffer_l11.eq_2]
    simp only [d1, cond_true, hue, ss_atn h (show i < N by omega), rdn hi, Option.bind_some, hse, hce, w64_succ (show i < 9223372036854775807 by omega)]
    have hstep : ((cond u.cells[i].Attr ((m_read_sender_attribute ⟨s.1, s.2, mode⟩ u.cells[i]).bind fun (d17 : Vread_sender) => some (d17.out, d17.last.Char, d17.last.Attr, d17.last.FA, d17.last.High, d17.last.Color, d17.last.f_Set, d17.mode))
        ((m_read_sender_character ⟨s.1, s.2, mode⟩ u.cells[i]).bind fun (d18 : Vread_sender) => some (d18.out, d18.last.Char, d18.last.Attr, d18.last.FA, d18.last.High, d18.last.Color, d18.last.f_Set, d18.mode))) : Option (List Int × Int × Bool × Int × Int × Int × Int × Int))
        = some ((rone mode s u.cells[i]).1, (rone mode s u.cells[i]).2.Char, (rone mode s u.cells[i]).2.Attr, (rone mode s u.cells[i]).2.FA, (rone mode s u.cells[i]).2.High, (rone mode s u.cells[i]).2.Color, (rone mode s u.cells[i]).2.f_Set, mode) := by
      cases ha : u.cells[i].Attr with
      | true => rw [cond_true, att_ok hok ha (by omega)]; rfl
      | false =>
        rw [cond_false, char_ok hok.char (by omega)]
        have : rone mode s u.cells[i] = sone mode s u.cells[i] := by unfold rone; rw [ha]; simp
        rw [this]; rfl
    have hr := rone_len mode s u.cells[i]
    rw [hstep]
    simp only [Option.bind_some]
    rw [buf_loop h mode d (i + 1) k _ (by omega) (by omega) (by omega), List.drop_eq_getElem_cons hi]
    rfl
theorem mode3 {k : Int} (h : By k) : w64 (k.tmod 3) = k % 3 ∧ 0 ≤ k % 3 ∧ k % 3 ≤ 2 := by
  have h0 := h.1
  rw [Int.tmod_eq_emod_of_nonneg h0, w64_in (by omega) (by omega)]
  exact ⟨rfl, by omega, by omega⟩
theorem buffer_ok {m : Int} {N : Nat} {u : Vspace_Space} (h : SS m N u) (aid : Int) {mode : Int} (hm : 0 ≤ mode ∧ mode ≤ 2) :
    m_read_Buffer u aid mode = some (u, (u.cells.foldl (rone mode) (aid :: adr u.cursor, zc)).1, 0) := by
  have hle := h.dim.dim.le
  have hc := h.cur
  obtain ⟨n, hn⟩ : ∃ n : Nat, u.cursor = (n : Int) := ⟨u.cursor.toNat, by omega⟩
  obtain ⟨e1, _, e3⟩ := enc_adr (n := n) (by omega)
  rw [← hn] at e1 e3
  have hue : (⟨u.model, u.alternate, u.size, u.cells, u.cursor, u.attrs⟩ : Vspace_Space) = u := rfl
  unfold m_read_Buffer m_read_begin m_read_sender_addr m_space_Space_Cursor
  have d1 : decide (mode < 0) = false := decide_eq_false (by omega)
  have d2 : decide (mode > 2) = false := decide_eq_false (by omega)
  have z : ((0 : Int) == 0) = true := rfl
  have z2 : ((0 : Int) != 0) = false := rfl
  have hcells : m_addr_Size_Cells u.size = some (N : Int) := cells_ok h.dim.dim
  simp only [d1, d2, cond_false, Option.bind_some, Bool.not_false, cond_true, e1, z]
  rw [gd_pos (by simp only [List.length_cons, List.length_nil]; omega)]
  simp only [Option.bind_some, z2, cond_false, m_space_Space_All, m_space_Space_Size, hcells, hue]
  have hl := buf_loop h mode N 0 fuel ([aid] ++ adr u.cursor, zc) (by omega) (by unfold fuel; omega) (by simp only [List.length_append, List.length_cons, List.length_nil]; omega)
  have hl' : read_Buffer_l11 u (N : Int) fuel (0, [aid] ++ adr u.cursor, 0, false, 0, 0, 0, 0, mode) = _ := hl
  rw [hl']
  rfl
/-! ### pieces -/
def code (c : Vapi_Cell) : Int := if isO c.Char then 63 else c.Char
theorem code_ok {c : Vapi_Cell} (h : By c.Char) : By (code c) ∧ isO (code c) = false := by
  unfold code
  cases ho : isO c.Char with
  | true => simp only [if_true]; exact ⟨⟨by omega, by omega⟩, by decide⟩
  | false => simp only [Bool.false_eq_true, if_false]; exact ⟨h, ho⟩
def cellA (mode : Int) (last c : Vapi_Cell) : List AO :=
  if c.Attr then (if mode = 0 then [.sf (sixv c.FA)] else [.sfe (prs c)])
  else (if mode = 2 then (dif last c).map fun p => AO.sa p.1 p.2 else []) ++ [if mode = 2 then .text [code c] else if c.f_Set = 241 then .ge (code c) else .text [code c]]
def cellsA (mode : Int) : Vapi_Cell → List Vapi_Cell → List AO
  | _, [] => []
  | last, c :: r => cellA mode last c ++ cellsA mode (if c.Attr then last else if mode = 2 then c else last) r
/-- all of how it looks can be said -/
def LkOk (c : Vapi_Cell) : Prop := ∀ p ∈ dif zc c, PrOk p.1 p.2
theorem sas_bytes (l : List (Int × Int)) : bytesL (l.map fun p => AO.sa p.1 p.2) = sas l := by
  unfold bytesL sas; rw [List.flatMap_map]; rfl
theorem prs_ok {c : Vapi_Cell} (h : LkOk c) (hf : By c.FA) : ∀ p ∈ prs c, PrOk p.1 p.2 := fun p hp => by
  obtain ⟨_, s2, _, _⟩ := six_ok hf
  rcases List.mem_cons.1 hp with rfl | hp
  · refine ⟨⟨by simp, by simp⟩, s2, ?_, ?_⟩
    · unfold m_attr_Pair_Check; simp
    · unfold m_vitrineref05_Right; simp [esc, jn]
  · exact h p hp
theorem rone_bytes {mode : Int} {s : St} {c : Vapi_Cell} (h : COk c) (hk : LkOk c) : rone mode s c = (s.1 ++ bytesL (cellA mode s.2 c), if c.Attr then s.2 else if mode = 2 then c else s.2) := by
  unfold rone sone cellA attB
  cases ha : c.Attr with
  | true =>
    have hc : chkAll (prs c) = true := by
      unfold chkAll
      rw [List.all_eq_true]
      intro p hp
      simpa using (prs_ok hk h.fa p hp).chk
    by_cases hm : mode = 0
    · simp [hm, bytesL, AO.bytes]
    · simp [hm, hc, bytesL, AO.bytes]
  | false =>
    unfold chr
    by_cases hm : mode = 2
    · simp only [hm, Bool.false_eq_true, if_false, if_true, bytesL_app, sas_bytes]
      simp [bytesL, AO.bytes, code]
    · by_cases hs : c.f_Set = 241
      · simp [hm, hs, bytesL, AO.bytes, code]
      · simp [hm, hs, bytesL, AO.bytes, code]
theorem fold_bytes (mode : Int) : ∀ (l : List Vapi_Cell) (s : St), (∀ c ∈ l, COk c ∧ LkOk c) → (l.foldl (rone mode) s).1 = s.1 ++ bytesL (cellsA mode s.2 l)
  | [], s, _ => by simp [cellsA, bytesL]
  | c :: l, s, h => by
    have hc := h c (by simp)
    rw [List.foldl_cons, rone_bytes hc.1 hc.2, fold_bytes mode l _ (fun d hd => h d (by simp [hd]))]
    simp only [cellsA, bytesL_app, List.append_assoc]
theorem pr0 (t : Int) (ht : t = 65 ∨ t = 66 ∨ t = 67) : PrOk t 0 := by
  rcases ht with rfl | rfl | rfl
  · exact ⟨⟨by omega, by omega⟩, by0, by decide +kernel, by decide +kernel⟩
  · exact ⟨⟨by omega, by omega⟩, by0, by decide +kernel, by decide +kernel⟩
  · exact ⟨⟨by omega, by omega⟩, by0, by decide +kernel, by decide +kernel⟩
theorem dif_ok {c : Vapi_Cell} (h : LkOk c) (a : Vapi_Cell) : ∀ p ∈ dif a c, PrOk p.1 p.2 := fun p hp => by
  have h65 : PrOk 65 c.High := by
    by_cases e : c.High = 0
    · rw [e]; exact pr0 65 (.inl rfl)
    · exact h (65, c.High) (by unfold dif; rw [if_neg (show ¬ zc.High = c.High from fun x => e x.symm)]; simp)
  have h66 : PrOk 66 c.Color := by
    by_cases e : c.Color = 0
    · rw [e]; exact pr0 66 (.inr (.inl rfl))
    · exact h (66, c.Color) (by unfold dif; rw [if_neg (show ¬ zc.Color = c.Color from fun x => e x.symm)]; simp)
  have h67 : PrOk 67 c.f_Set := by
    by_cases e : c.f_Set = 0
    · rw [e]; exact pr0 67 (.inr (.inr rfl))
    · exact h (67, c.f_Set) (by unfold dif; rw [if_neg (show ¬ zc.f_Set = c.f_Set from fun x => e x.symm)]; simp)
  unfold dif at hp
  rcases List.mem_append.1 hp with hp | hp
  · split at hp
    · cases hp
    · rw [List.mem_singleton.1 hp]; exact h65
  · rcases List.mem_append.1 hp with hp | hp
    · split at hp
      · cases hp
      · rw [List.mem_singleton.1 hp]; exact h66
    · split at hp
      · cases hp
      · rw [List.mem_singleton.1 hp]; exact h67
theorem cell_items {mode : Int} {last c : Vapi_Cell} (h : COk c) (hk : LkOk c) : ∀ o ∈ cellA mode last c, Item o := fun o ho => by
  have hc := code_ok h.char
  have htx : Item (.text [code c]) := ⟨⟨by simp, fun b hb => by rw [List.mem_singleton.1 hb]; exact hc, by simp⟩, fun _ => rfl⟩
  unfold cellA at ho
  split at ho
  · split at ho
    · rw [List.mem_singleton.1 ho]; exact ⟨(six_ok h.fa).2.1, fun e => by cases e⟩
    · rw [List.mem_singleton.1 ho]; exact ⟨⟨prs_len c, prs_ok hk h.fa⟩, fun e => by cases e⟩
  · rcases List.mem_append.1 ho with ho | ho
    · split at ho
      · obtain ⟨p, hp, rfl⟩ := List.mem_map.1 ho
        exact ⟨dif_ok hk last p hp, fun e => by cases e⟩
      · cases ho
    · rw [List.mem_singleton.1 ho]
      split
      · exact htx
      · split
        · exact ⟨hc, fun e => by cases e⟩
        · exact htx
theorem cells_items (mode : Int) : ∀ (l : List Vapi_Cell) (last : Vapi_Cell), (∀ c ∈ l, COk c ∧ LkOk c) → (∀ o ∈ cellsA mode last l, Item o) ∧ (cellsA mode last l).length ≤ 4 * l.length
  | [], last, _ => ⟨(fun o ho => by cases ho), by simp [cellsA]⟩
  | c :: r, last, h => by
    have hc := h c (by simp)
    obtain ⟨i1, i2⟩ := cells_items mode r (if c.Attr then last else if mode = 2 then c else last) fun d hd => h d (by simp [hd])
    have hlen : (cellA mode last c).length ≤ 4 := by
      have := dif_len last c
      unfold cellA
      split
      · split <;> simp
      · split <;> simp <;> omega
    refine ⟨fun o ho => ?_, by simp only [cellsA, List.length_append, List.length_cons]; omega⟩
    rcases List.mem_append.1 ho with ho | ho
    · exact cell_items hc.1 hc.2 o ho
    · exact i1 o ho
/-! ### what they come to -/
def lkm (mode : Int) (last : Vapi_Cell) : Vapi_Cell := if mode = 2 then ⟨0, false, 0, last.High, last.Color, last.f_Set⟩ else zc
/-- the cell that is written -/
def Dc2 (mode : Int) (c : Vapi_Cell) : Vapi_Cell :=
  if c.Attr then (if mode = 0 then ⟨0, true, c.FA, 0, 0, 0⟩ else ⟨0, true, c.FA, c.High, c.Color, c.f_Set⟩)
  else if mode = 2 then ⟨code c, false, 0, c.High, c.Color, c.f_Set⟩ else ⟨code c, false, 0, 0, 0, if c.f_Set = 241 then 241 else 0⟩
theorem ap_dif (ch : Int) (at_ : Bool) (fa : Int) (a c : Vapi_Cell) : (dif a c).foldl ap ⟨ch, at_, fa, a.High, a.Color, a.f_Set⟩ = ⟨ch, at_, fa, c.High, c.Color, c.f_Set⟩ := by
  unfold dif
  by_cases h1 : a.High = c.High <;> by_cases h2 : a.Color = c.Color <;> by_cases h3 : a.f_Set = c.f_Set <;> simp [h1, h2, h3, ap]
theorem sem_sas : ∀ (l : List (Int × Int)) (s : Lk2), sem (l.map fun p => AO.sa p.1 p.2) s = (l.foldl ap s.1, s.2)
  | [], s => rfl
  | p :: l, s => by
    have := sem_sas l (sem1 s (.sa p.1 p.2))
    simp only [sem, List.map_cons, List.foldl_cons] at this ⊢
    rw [this]; rfl
theorem sem_app (a b : List AO) (s : Lk2) : sem (a ++ b) s = sem b (sem a s) := by unfold sem; rw [List.foldl_append]
theorem sem_cell {mode : Int} {last c : Vapi_Cell} (h : COk c) (out : List Vapi_Cell) : sem (cellA mode last c) (lkm mode last, out) = (lkm mode (if c.Attr then last else if mode = 2 then c else last), out ++ [Dc2 mode c]) := by
  unfold cellA Dc2
  cases ha : c.Attr with
  | true =>
    obtain ⟨a1, a2⟩ := h.attr ha
    obtain ⟨_, _, s3, _⟩ := six_ok h.fa
    by_cases hm : mode = 0
    · simp [hm, sem, sem1, ap, s3, a2]
    · simp only [hm, if_true, if_false, sem, List.foldl_cons, List.foldl_nil, sem1]
      have e1 : (prs c).foldl ap ⟨0, true, 0, 0, 0, 0⟩ = ⟨0, true, c.FA, c.High, c.Color, c.f_Set⟩ := by
        have e2 : ap ⟨0, true, 0, 0, 0, 0⟩ (192, sixv c.FA) = ⟨0, true, c.FA, 0, 0, 0⟩ := by simp [ap, s3, a2]
        rw [prs, List.foldl_cons, e2]
        exact ap_dif 0 true c.FA zc c
      rw [e1]
  | false =>
    by_cases hm : mode = 2
    · subst hm
      simp only [Bool.false_eq_true, if_false, if_true, sem_app, sem_sas, lkm]
      rw [ap_dif 0 false 0 last c]
      simp [sem, sem1]
    · by_cases hs : c.f_Set = 241
      · simp [hm, hs, sem, sem1, lkm, zc]
      · simp [hm, hs, sem, sem1, lkm, zc]
theorem sem_cells (mode : Int) : ∀ (l : List Vapi_Cell) (last : Vapi_Cell) (out : List Vapi_Cell), (∀ c ∈ l, COk c) → ∃ last', sem (cellsA mode last l) (lkm mode last, out) = (lkm mode last', out ++ l.map (Dc2 mode))
  | [], last, out, _ => ⟨last, by simp [cellsA, sem]⟩
  | c :: r, last, out, h => by
    obtain ⟨l', hl'⟩ := sem_cells mode r (if c.Attr then last else if mode = 2 then c else last) (out ++ [Dc2 mode c]) fun d hd => h d (by simp [hd])
    refine ⟨l', ?_⟩
    rw [cellsA, sem_app, sem_cell (h c (by simp)), hl']; simp
end Go.Vt
