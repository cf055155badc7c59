/- 'EntryReplays' answers true at every input that it can get. No conditions. -/
import Derived.Test.YteebpkekdkkmhaaGreatDoorVsM
set_option linter.unusedVariables false
set_option linter.unusedSimpArgs false
set_option maxRecDepth 100000
namespace Go.Vt
theorem cmd245 : m_write_Command 245 = some (2, true) := by decide +kernel
theorem cmd126 : m_write_Command 126 = some (3, true) := by decide +kernel
theorem run_clear {x : Vspace_Space} {b c : Int} (hc : m_write_Command b = some (c, true)) (h23 : c = 2 ∨ c = 3) (p : List Int) {r : Vspace_Space × Vwrite_Result × Int} (h : m_write_written x ⟨c, false, false, false, 0, []⟩ p = some r) : m_write_Run x (b :: p) = some r := by
  unfold m_write_Run
  have b0 : (((b :: p).length : Int) == 0) = false := beq_f (by simp; omega)
  have r0 : rd (b :: p) 0 = b := rfl
  simp only [b0, cond_false]
  rw [gd_pos (by simp only [List.length_cons]; omega)]
  simp only [r0, hc, Option.bind_some, Bool.not_true, cond_false]
  have b1 : (c == 1) = false := beq_f (by rcases h23 with rfl | rfl <;> decide)
  have hb : (cond (c == 2) (some (c == 2)) (some (c == 3)) : Option Bool) = some true := by rcases h23 with rfl | rfl <;> rfl
  simp only [b1, cond_false, hb, Option.bind_some, cond_true]
  rw [gd_pos (by simp only [List.length_cons]; omega)]
  simp only [List.drop_succ_cons, List.drop_zero, h, Option.bind_some, esc, jn]
theorem written_ok {m : Int} {N : Nat} (hm : Mod4 m) {x : Vspace_Space} (hx : x.model = m) {c : Int} (hc : c ≠ 1) {rest : List Int} {a : Vspace_Space} {n : Int} {j : Nat} (hN : N = nOf m (c == 3)) (hl : rest.length ≤ 900000)
    (hev : Ev rest (sclr m (c == 3)) ⟨0, ⟨0, false, 0, 0, 0, 0⟩, false⟩ a n j 0) : ∃ b1 b2 b3, m_write_written x ⟨c, false, false, false, 0, []⟩ (64 :: rest) = some (a, ⟨c, b1, b2, b3, (j : Int), []⟩, 0) := by
  have hS := ss_clr hm (c == 3)
  have hc1 : (c != 1) = true := bne_t hc
  have d1 : decide (((64 :: rest).length : Int) > 0) = true := decide_eq_true (by simp only [List.length_cons]; omega)
  have z : ((0 : Int) == 0) = true := rfl
  have hev' : Ev rest (sclr m (c == 3)) ⟨0 % ((nOf m (c == 3) : Nat) : Int), ⟨0, false, 0, 0, 0, 0⟩, false⟩ a n j 0 := by rw [Int.zero_emod]; exact hev
  have ho := orders_ev hS (by omega) hev'
  have hse : (⟨(sclr m (c == 3)).model, (sclr m (c == 3)).alternate, ⟨(sclr m (c == 3)).size.Rows, (sclr m (c == 3)).size.Cols⟩, (sclr m (c == 3)).cells, (sclr m (c == 3)).cursor, (sclr m (c == 3)).attrs⟩ : Vspace_Space) = sclr m (c == 3) := rfl
  have hcur : m_space_Space_Cursor (sclr m (c == 3)) = some 0 := rfl
  unfold m_write_written
  simp only [d1, cond_true]
  rw [gd_pos (by simp only [List.length_cons]; omega), gd_pos (by simp only [List.length_cons]; omega)]
  simp only [List.drop_succ_cons, List.drop_zero, Option.bind_some, hc1, cond_true, (clear_ok hm hx (c == 3)).1, hse, hcur, ho, z]
  exact ⟨_, _, _, rfl⟩
theorem sent_ok {n : Int} (h : By n) : m_vitrinelaw20_sent n = some (if isO n then 63 else n) := by
  unfold m_vitrinelaw20_sent
  rw [ris_spec h]
  cases isO n <;> rfl
theorem set_ok {c : Vapi_Cell} (h : LkOk c) : c.f_Set = 0 ∨ c.f_Set = 241 := by
  by_cases e : c.f_Set = 0
  · exact .inl e
  · have hp := h (67, c.f_Set) (by unfold dif; rw [if_neg (show ¬ zc.f_Set = c.f_Set from fun x => e x.symm)]; simp)
    have hk := hp.chk
    unfold m_attr_Pair_Check at hk
    simp only [Int.reduceBEq, cond_true, cond_false, beq_f e, Option.bind_some] at hk
    by_cases e2 : c.f_Set = 241
    · exact .inr e2
    · simp only [beq_f e2, Bool.not_false, cond_true] at hk
      cases hk
theorem lkm_zc (mode : Int) : lkm mode zc = zc := by unfold lkm; split <;> rfl
theorem last_loop {mode : Int} (p4 : Int) (hw : w64 (p4.tmod 3) = mode) (hm : 0 ≤ mode ∧ mode ≤ 2) {m : Int} {N : Nat} {s : Vspace_Space} {x : Vvitrineref12_Space} (hr : RS m N x) (hk : ∀ c ∈ x.L, LkOk c) {cur : Int} {a : Vspace_Space} {alt : Bool} (ha : Wr m N alt a (x.L.map (Dc2 mode))) (rr : Vwrite_Result × Int) : ∀ (d i k : Nat), i + d = N → d < k →
    vitrinelaw20_EntryReplays_l19 p4 (s, x) (x.L.map (Dc2 mode), cur, 0) (a, rr) k (i : Int) = some (.inl ())
  | d, i, 0, _, hk' => by omega
  | 0, i, k + 1, e, hk' => by
    have hl := hr.len
    have d1 : decide ((i : Int) < (x.L.length : Int)) = false := decide_eq_false (by omega)
    rw [vitrinelaw20_EntryReplays_l19.eq_2]
    simp only [d1, cond_false]
  | d + 1, i, k + 1, e, hk' => by
    have hl := hr.len
    have hle := hr.dim.dim.le
    have hi : i < x.L.length := by omega
    have d1 : decide ((i : Int) < (x.L.length : Int)) = true := decide_eq_true (by omega)
    have hok := hr.ok _ (List.getElem_mem hi)
    have hlk := hk _ (List.getElem_mem hi)
    have hat : m_space_Space_At a (i : Int) = some (Dc2 mode x.L[i]) := by
      rw [ss_atn ha.ss (by omega)]
      congr 1
      have hac : a.cells = x.L.map (Dc2 mode) := by rw [ha.cells]; simp [hl]
      rw [hac, rdn (by simpa using hi)]; simp
    have hld : rd (x.L.map (Dc2 mode)) (i : Int) = Dc2 mode x.L[i] := by rw [rdn (by simpa using hi)]; simp
    have ih := last_loop p4 hw hm hr hk (s := s) (cur := cur) ha rr d (i + 1) k (by omega) (by omega)
    rw [vitrinelaw20_EntryReplays_l19.eq_2]
    simp only [d1, cond_true]
    rw [gd_pos (by omega), rdn hi, w64_succ (by omega)]
    simp only [hat, sent_ok hok.char, Option.bind_some, hw]
    have hg : ∀ z : Option Bool, gd ((0 : Int) ≤ (i : Int) ∧ (i : Int) < ((x.L.map (Dc2 mode)).length : Int)) z = z := fun z => gd_pos (by simp; omega)
    simp only [hg, hld]
    generalize x.L[i] = c at hok hlk ih ⊢
    cases hA : c.Attr with
    | true =>
      obtain ⟨a1, a2⟩ := hok.attr hA
      by_cases h0 : mode = 0
      · subst h0
        simp only [Dc2, hA, if_true, cond_true, cond_false, Int.reduceLT, decide_true, Bool.not_true, Option.bind_some, Int.reduceBEq, beq_self_eq_true, Bool.and_true, Bool.and_self, Bool.not_true, ih]
      · have c2 : (mode == 0) = false := beq_f h0
        cases hlt : decide (mode < 2) <;> simp only [Dc2, hA, h0, if_true, if_false, cond_true, cond_false, hlt, c2, Bool.not_true, Option.bind_some, beq_self_eq_true, Bool.and_true, Bool.and_self, ih]
    | false =>
      have a3 := hok.plain hA
      have hcode : (if isO c.Char = true then (63 : Int) else c.Char) = code c := rfl
      by_cases h2 : mode = 2
      · subst h2
        simp only [Dc2, hA, if_true, if_false, Bool.false_eq_true, cond_true, cond_false, Int.reduceLT, decide_false, Bool.not_false, Option.bind_some, Int.reduceBEq, hcode, a3, beq_self_eq_true, Bool.and_true, Bool.and_self, Bool.not_true, ih]
      · have hlt : decide (mode < 2) = true := decide_eq_true (by omega)
        have hset : (if c.f_Set = 241 then (241 : Int) else 0) = c.f_Set := by
          rcases set_ok hlk with h | h
          · rw [h]; rfl
          · rw [h]; rfl
        cases hz : (mode == 0) <;> simp only [Dc2, hA, h2, if_false, Bool.false_eq_true, cond_true, cond_false, hlt, hz, Bool.not_false, Option.bind_some, hcode, a3, hset, beq_self_eq_true, Bool.and_true, Bool.and_self, Bool.not_true, ih]
theorem entryReplays_true (p : Int) (acts other : List Vvitrineref12_Act) (aid k : Int) (hp : By p) (h1 : ∀ a ∈ acts, AOk a) (l1 : acts.length ≤ 9223372036854775807) (h2 : ∀ a ∈ other, AOk a) (l2 : other.length ≤ 9223372036854775807) (hk : By k) :
    m_vitrinelaw20_EntryReplays p acts other aid k = some true := by
  obtain ⟨N, x, _, hr, hlay⟩ := vitrinelaw20_lay_ok hp h1 l1
  obtain ⟨N2, x2, _, hr2, hlay2⟩ := vitrinelaw20_lay_ok hp h2 l2
  have hm : Mod4 (2 + p % 4) := (mod4_of hp).2
  generalize 2 + p % 4 = m at hr hr2 hm
  obtain ⟨hw, hmode⟩ := mode3 hk
  generalize k % 3 = mode at hw hmode
  have hS := hr.lk.ss
  have hle := hr.dim.dim.le
  have hlen := hr.len
  have hcur := hr.cur
  obtain ⟨cur, hcn⟩ : ∃ n : Nat, x.Cursor = (n : Int) := ⟨x.Cursor.toNat, by omega⟩
  have hpe : (⟨(prog x).model, (prog x).alternate, (prog x).size, (prog x).cells, (prog x).cursor, (prog x).attrs⟩ : Vspace_Space) = prog x := rfl
  have hpe2 : (⟨(prog x2).model, (prog x2).alternate, (prog x2).size, (prog x2).cells, (prog x2).cursor, (prog x2).attrs⟩ : Vspace_Space) = prog x2 := rfl
  have hbuf := buffer_ok hS aid hmode
  have hpc : (prog x).cells = x.L := rfl
  have hpu : (prog x).cursor = (cur : Int) := hcn
  rw [hpc, hpu] at hbuf
  obtain ⟨b, hlooks, hlk⟩ := looks_ok (x := x) (by omega) hr.ok
  have z : ((0 : Int) != 0) = false := rfl
  unfold m_vitrinelaw20_EntryReplays
  simp only [awake20, hlay, Option.bind_some, Bool.not_true, cond_false, hpe, hw, hbuf, z, hlooks]
  cases b with
  | false => rfl
  | true =>
    have hL := hlk rfl
    have hboth : ∀ c ∈ x.L, COk c ∧ LkOk c := fun c hc => ⟨hr.ok c hc, hL c hc⟩
    obtain ⟨xa, ya, hE, hadr⟩ := adr_ok (n := cur) (by omega)
    have hP := fold_bytes mode x.L (aid :: adr (cur : Int), zc) hboth
    have hPl := rfold_len mode x.L (aid :: adr (cur : Int), zc)
    obtain ⟨it1, it2⟩ := cells_items mode x.L zc hboth
    obtain ⟨hnrm, _⟩ := norm_nrm (cellsA mode zc x.L) it1 (by omega)
    have hnl := norm_len (cellsA mode zc x.L)
    have hnb := norm_bytes (cellsA mode zc x.L)
    obtain ⟨lst, hsem⟩ := sem_cells mode x.L zc [] hr.ok
    rw [lkm_zc, List.nil_append] at hsem
    have hsn := sem_norm (cellsA mode zc x.L) (zc, [])
    rw [hsem] at hsn
    simp only at hP hPl
    rw [hP] at hPl
    rw [← hnb] at hP hPl
    generalize hos : norm (cellsA mode zc x.L) = os at hnrm hnl hP hPl hsn
    rw [hadr] at hP hPl
    simp only [List.length_append, List.length_cons, List.length_nil] at hPl
    have hbl : (bytesL os).length ≤ 900000 := by omega
    have hol : os.length ≤ 900000 := by omega
    have hP' : (x.L.foldl (rone mode) (aid :: adr (cur : Int), zc)).1 = aid :: xa :: ya :: bytesL os := by rw [hadr, hP]; rfl
    have r1 := ebuffer (a := aid) hE.dec hnrm hbl hol
    rw [hsn] at r1
    have r2 := ereplay (a := aid) (by omega) hE.dec hnrm hbl hol x.Alt
    have r3 := rreplay (a := aid) (by omega) hE hnrm hbl hol x.Alt
    -- the write
    have hN := hr.nof
    obtain ⟨cb, c, hcb, hcmd, h23, hc3⟩ : ∃ cb c, (if x.Alt then (126 : Int) else 245) = cb ∧ m_write_Command cb = some (c, true) ∧ (c = 2 ∨ c = 3) ∧ (c == 3) = x.Alt := by
      cases x.Alt with
      | true => exact ⟨126, 3, rfl, cmd126, .inr rfl, rfl⟩
      | false => exact ⟨245, 2, rfl, cmd245, .inl rfl, rfl⟩
    have hc1 : c ≠ 1 := by rcases h23 with rfl | rfl <;> decide
    have hSc := ss_clr hm x.Alt
    rw [← hN] at hSc
    have hW0 : Wr m N x.Alt (sclr m x.Alt) [] := ⟨hSc, rfl, by simp only [List.nil_append, List.length_nil, Nat.sub_zero, sclr, hN], by simp⟩
    have hmapl : (x.L.map (Dc2 mode)).length = N := by simp [hlen]
    obtain ⟨a, n, j, v1, v2, v3⟩ := ev_items (m := m) (N := N) (alt := x.Alt) (tl := [17, xa, ya, 19]) (.inr ⟨17, _, rfl, by decide⟩) (fun w hw2 => by
        simp only [List.mem_cons, List.mem_nil_iff, or_false] at hw2
        rcases hw2 with rfl | rfl | rfl | rfl
        · exact ⟨by omega, by omega⟩
        · exact hE.bx
        · exact hE.by_
        · exact ⟨by omega, by omega⟩) (by simp) os (sclr m x.Alt) ⟨0, ⟨0, false, 0, 0, 0, 0⟩, false⟩ [] hnrm hW0 (by simp) ⟨by0, by0, by0, by0, rfl, rfl⟩ hbl (by rw [hsn]; simp only; omega) (cur := (cur : Int)) (by rw [hsn]; exact ends_ok (by omega) (by omega) hE)
    rw [hsn] at v2
    simp only at v2
    rw [← hc3] at v1
    obtain ⟨b1, b2, b3, hwr⟩ := written_ok hm (x := prog x2) hr2.model hc1 (N := N) (by rw [hc3]; exact hN) (by simp; omega) v1
    have hrun := run_clear hcmd h23 _ hwr
    have hq : (if x.Alt then (126 : Int) else 245) :: 64 :: (bytesL os ++ 17 :: (adr (cur : Int) ++ [19])) = cb :: 64 :: (bytesL os ++ [17, xa, ya, 19]) := by rw [hcb, hadr]; rfl
    rw [hq] at r2 r3
    have hsame : m_vitrineref01_Same (cb :: 64 :: (bytesL os ++ [17, xa, ya, 19])) (cb :: 64 :: (bytesL os ++ [17, xa, ya, 19])) = some true := by unfold m_vitrineref01_Same; simp
    have hcm : (cond (c != 2) (some (!x.Alt)) (some false) : Option Bool) = some false := by
      rcases h23 with rfl | rfl
      · rfl
      · rw [← hc3]; rfl
    have hcc : ((cur : Int) != x.Cursor) = false := bne_f hcn.symm
    have hlc : (((x.L.map (Dc2 mode)).length : Int) != (x.L.length : Int)) = false := bne_f (by simp)
    have hloop := last_loop (mode := mode) k hw hmode (s := prog x) hr hL (cur := (cur : Int)) v2 (⟨c, b1, b2, b3, (j : Int), []⟩, 0) N 0 fuel (by omega) (by unfold fuel; omega)
    have hloop' : vitrinelaw20_EntryReplays_l19 k (prog x, x) (x.L.map (Dc2 mode), (cur : Int), 0) (a, ⟨c, b1, b2, b3, (j : Int), []⟩, 0) fuel 0 = some (.inl ()) := hloop
    have hac : (a.cursor == x.Cursor) = true := beq_t (by rw [v3, hcn])
    have haa : (a.alternate == x.Alt) = true := by rw [v2.alt]; simp
    simp only [hP', r1, r2, r3, hlay2, hpe2, hrun, Option.bind_some, Bool.not_true, cond_false, z, hcc, hlc, hsame, hcm, hloop', jn, m_space_Space_Cursor, hac, cond_true, m_space_Space_Alternate, haa]
end Go.Vt
