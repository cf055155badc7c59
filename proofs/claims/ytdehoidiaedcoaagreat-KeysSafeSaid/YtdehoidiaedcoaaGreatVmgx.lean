/- Lemmas. No conditions. -/
import Derived.Test.YtdehoidiaedcoaaGreatVmfx
set_option linter.unusedVariables false
set_option linter.unusedSimpArgs false
set_option linter.unusedVariables false
set_option linter.unusedSimpArgs false
set_option maxRecDepth 100000
namespace Go.Vt
theorem faBits : ∀ f : Fin 256, ¬ (iband .u8 (f.val : Int) 1 > iband .u8 (ibor .u8 (f.val : Int) 1) 1) ∧ ibor .u8 (ibor .u8 (f.val : Int) 1) 1 = ibor .u8 (f.val : Int) 1 ∧
    ¬ (iband .u8 (f.val : Int) 1 < iband .u8 (ibandn .u8 (f.val : Int) 1) 1) ∧ ibor .u8 (ibandn .u8 (f.val : Int) 1) 1 = ibor .u8 (f.val : Int) 1 := by decide +kernel
theorem fa_bits {f : Int} (h : By f) : ¬ (iband .u8 f 1 > iband .u8 (ibor .u8 f 1) 1) ∧ ibor .u8 (ibor .u8 f 1) 1 = ibor .u8 f 1 ∧ ¬ (iband .u8 f 1 < iband .u8 (ibandn .u8 f 1) 1) ∧ ibor .u8 (ibandn .u8 f 1) 1 = ibor .u8 f 1 := by
  have := faBits ⟨f.toNat, by have := h.1; have := h.2; omega⟩
  have e : ((f.toNat : Nat) : Int) = f := by have := h.1; omega
  simp only [e] at this
  exact this
/-- keys pressed, up to a number of them -/
def pressN (n : Int) (s : Vkeys_Board × Vvitrineref12_Space) (k : Vvitrineref18_Key) : Vkeys_Board × Vvitrineref12_Space := ((pressI n s.1 s.2 (keyP k)).2.1, (pressI n s.1 s.2 (keyP k)).1)
theorem safe_loop {m n : Int} (hm : Mod4 m) (hn : n ∈ pgs) {x : Vvitrineref12_Space} (h : ∃ N, RS m N x) (B : Vkeys_Board) (l : List Vvitrineref18_Key) (hl : l.length ≤ 9223372036854775807) :
    ∃ r, vitrinelaw18_KeysSafe_l6 l fuel (0, tL n B x) = some r ∧ ∃ N B' y, RS m N y ∧ r = tL n B' y := by
  refine loop_rel0 (L := vitrinelaw18_KeysSafe_l6 l) (n := l.length) (fun i s => ∃ N B' y, RS m N y ∧ s = tL n B' y) (fun r => ∃ N B' y, RS m N y ∧ r = tL n B' y) hl ?_ ?_ (by obtain ⟨N, h⟩ := h; exact ⟨N, B, x, h, rfl⟩)
  · rintro k i s hi ⟨N, B, x, hr, rfl⟩
    rw [vitrinelaw18_KeysSafe_l6.eq_2]
    have d1 : decide ((i : Int) < (l.length : Int)) = true := decide_eq_true (by omega)
    simp only [d1, cond_true]
    rw [gd_pos (by omega), w64_succ (by omega), rdn hi]
    by_cases h10 : i < 10
    · have d2 : decide ((i : Int) < 10) = true := decide_eq_true (by omega)
      have hP := ppress hm hr hn B (keyP l[i])
      have hP' : m_keys_Board_Press ⟨B.lock, B.inserts, B.aid⟩ ⟨(prog x).model, (prog x).alternate, ⟨(prog x).size.Rows, (prog x).size.Cols⟩, (prog x).cells, (prog x).cursor, (prog x).attrs⟩ ⟨n⟩ ⟨l[i].Kind, l[i].Sign, l[i].N⟩ = _ := hP
      obtain ⟨N', hr', _⟩ := press_rs hm hr hn B (keyP l[i])
      simp only [d2, cond_true, tL, hP', Option.bind_some]
      exact ⟨_, rfl, N', _, _, hr', rfl⟩
    · have d2 : decide ((i : Int) < 10) = false := decide_eq_false (by omega)
      simp only [d2, cond_false, tL, Option.bind_some]
      exact ⟨_, rfl, N, B, x, hr, rfl⟩
  · rintro k s hs
    rw [vitrinelaw18_KeysSafe_l6.eq_2]
    have d1 : decide ((l.length : Int) < (l.length : Int)) = false := decide_eq_false (by omega)
    simp only [d1, cond_false]
    exact ⟨_, rfl, hs⟩
theorem safe_copy {m : Int} {N : Nat} {y : Vvitrineref12_Space} (hr : RS m N y) (d : Int × Bool × Int × Int × List Vapi_Cell × Int) (hd : d.2.2.2.2.1 = List.replicate N zc) :
    vitrinelaw18_KeysSafe_l25 (prog y) d fuel (0, List.replicate N zc) = some y.L := by
  have hle := hr.dim.dim.le
  have hl := hr.len
  have hS := hr.lk.ss
  refine while_ok (fun i => ((i : Int), y.L.take i ++ List.replicate (N - i) zc)) N (by omega) (fun k i hi => ?_) (fun k => ?_)
  · rw [vitrinelaw18_KeysSafe_l25.eq_2]
    have d1 : decide ((i : Int) < (d.2.2.2.2.1.length : Int)) = true := decide_eq_true (by rw [hd]; simp; omega)
    have hc : (prog y).cells = y.L := rfl
    have hi' : i < y.L.length := by omega
    simp only [d1, cond_true, ss_at hS, nat_emod hi, hc, rdn hi', Option.bind_some]
    rw [gd_pos (by simp; omega), w64_succ (by omega), Int.toNat_natCast]
    congr 2
    show List.set _ i y.L[i] = _
    rw [List.set_append_right _ _ (by simp; omega)]
    have h5 : i - (y.L.take i).length = 0 := by simp; omega
    rw [h5, show N - i = (N - (i + 1)) + 1 by omega, List.replicate_succ, List.set_cons_zero, List.take_succ_eq_append_getElem hi']
    simp only [List.append_assoc, List.cons_append, List.nil_append]
  · rw [vitrinelaw18_KeysSafe_l25.eq_2]
    have d1 : decide ((N : Int) < (d.2.2.2.2.1.length : Int)) = false := decide_eq_false (by rw [hd]; simp)
    simp only [d1, cond_false, Nat.sub_self, List.replicate_zero, List.append_nil]
    rw [List.take_of_length_le (by omega)]
theorem safe_scan {m n : Int} {N : Nat} {y z : Vvitrineref12_Space} (hy : RS m N y) {p4 : Vvitrineref18_Key} (hz : RS m N z) (hC : ∀ q, q < N → Chg n y.L z.L y.Cursor.toNat p4.Kind q)
    (e : Vpage_Page × Vkeys_Board × Bool × Int) (hS : RS m N ⟨m, y.Alt, ⟨rOf m y.Alt, cOf m y.Alt⟩, y.L, 0⟩) :
    vitrinelaw18_KeysSafe_l32 p4 y.Cursor (prog z, e) (m, y.Alt, rOf m y.Alt, cOf m y.Alt, List.replicate N zc, 0) y.L (startsL y.L (lastA y.L) N) fuel 0 = some (.inl ()) := by
  have hle := hy.dim.dim.le
  have hl := hy.len
  have hlz := hz.len
  have hSz := hz.lk.ss
  have hcur := hy.cur
  have hstl : (startsL y.L (lastA y.L) N).length = N := by simp [startsL]
  obtain ⟨hk, hkN⟩ := hy.n
  refine while_ok (fun i => (i : Int)) N (by omega) (fun k i hi => ?_) (fun k => ?_)
  · rw [vitrinelaw18_KeysSafe_l32.eq_2]
    have d1 : decide ((i : Int) < (y.L.length : Int)) = true := decide_eq_true (by omega)
    have hc : (prog z).cells = z.L := rfl
    have hat : m_space_Space_At ⟨(prog z).model, (prog z).alternate, (prog z).size, (prog z).cells, (prog z).cursor, (prog z).attrs⟩ (i : Int) = some (rd z.L (i : Int)) := by
      have := ss_at hSz (i : Int)
      rw [nat_emod hi] at this; exact this
    have hby : By (rd y.L (i : Int)).FA := (hy.ok _ (rd_mem (by omega))).fa
    obtain ⟨f1, f2, f3, f4⟩ := fa_bits hby
    simp only [d1, cond_true]
    rw [gd_pos (by omega)]
    simp only [hat, Option.bind_some]
    rw [w64_succ (by omega)]
    have hfi := fun (b : Nat) (hb : b < N) => rfield hS hb
    have hstart : ∀ q : Nat, q < N → rd (startsL y.L (lastA y.L) N) (q : Int) = stI y.L q := fun q hq => starts_get hq
    have hC' := hC i hi
    unfold Chg at hC'
    cases ha : (rd y.L (i : Int)).Attr with
    | true =>
      have hA : isA' y.L i = true := ha
      have hgoal : ∃ d : Bool, d = false ∧ ((cond (decide ((iband .u8 (rd y.L (i : Int)).FA 1) < (iband .u8 (rd z.L (i : Int)).FA 1))) (
         gd ((0 : Int) ≤ y.Cursor ∧ y.Cursor < ((startsL y.L (lastA y.L) N).length : Int)) <|
         cond ((rd (startsL y.L (lastA y.L) N) y.Cursor) != (i : Int)) (some true) (
          cond (decide ((iband .u8 (rd y.L (i : Int)).FA 1) > (iband .u8 (rd z.L (i : Int)).FA 1))) (
           cond (p4.Kind != 15) (some true) (
            (m_vitrineref13_Field ⟨m, y.Alt, ⟨rOf m y.Alt, cOf m y.Alt⟩, y.L, 0⟩ (i : Int)).bind fun (d39 : Vvitrineref05_Field) => some d39.Protected)) (
           some false))) (
         cond (decide ((iband .u8 (rd y.L (i : Int)).FA 1) > (iband .u8 (rd z.L (i : Int)).FA 1))) (
          cond (p4.Kind != 15) (some true) (
           (m_vitrineref13_Field ⟨m, y.Alt, ⟨rOf m y.Alt, cOf m y.Alt⟩, y.L, 0⟩ (i : Int)).bind fun (d40 : Vvitrineref05_Field) => some d40.Protected)) (
          some false))) = some d) ∧ ibor .u8 (rd z.L (i : Int)).FA 1 = ibor .u8 (rd y.L (i : Int)).FA 1 ∧ (rd z.L (i : Int)).Char = (rd y.L (i : Int)).Char ∧ (rd z.L (i : Int)).Attr = (rd y.L (i : Int)).Attr ∧ (rd z.L (i : Int)).High = (rd y.L (i : Int)).High ∧ (rd z.L (i : Int)).Color = (rd y.L (i : Int)).Color ∧ (rd z.L (i : Int)).f_Set = (rd y.L (i : Int)).f_Set := by
        refine ⟨false, rfl, ?_⟩
        rcases hC' with g | ⟨_, g1, g2⟩ | ⟨_, g1, g2, g3⟩ | ⟨g, _⟩
        · rw [g, decide_eq_false (show ¬ (iband .u8 (rd y.L (i : Int)).FA 1 < iband .u8 (rd y.L (i : Int)).FA 1) by omega)]
          exact ⟨rfl, rfl, rfl, rfl, rfl, rfl, rfl⟩
        · rw [g2]
          have e1 : (mdf (rd y.L (i : Int))).FA = ibor .u8 (rd y.L (i : Int)).FA 1 := rfl
          rw [e1, decide_eq_false f1, gd_pos (by omega), show y.Cursor = ((y.Cursor.toNat : Nat) : Int) from hk, hstart _ hkN, g1, bne_f (show (i : Int) = i from rfl)]
          refine ⟨?_, f2, rfl, rfl, rfl, rfl, rfl⟩
          cases decide (iband .u8 (rd y.L (i : Int)).FA 1 < iband .u8 (ibor .u8 (rd y.L (i : Int)).FA 1) 1) <;> rfl
        · rw [g3]
          have e1 : (demod (rd y.L (i : Int))).FA = ibandn .u8 (rd y.L (i : Int)).FA 1 := rfl
          rw [e1, decide_eq_false f3, hfi i hi, bne_f g1]
          refine ⟨?_, f4, rfl, rfl, rfl, rfl, rfl⟩
          simp only [Option.bind_some, g2, cond_false]
          cases decide (iband .u8 (rd y.L (i : Int)).FA 1 > iband .u8 (ibandn .u8 (rd y.L (i : Int)).FA 1) 1) <;> rfl
        · rw [hA] at g; cases g
      obtain ⟨d, rfl, g1, g2, g3, g4, g5, g6, g7⟩ := hgoal
      simp only [cond_true, g1, Option.bind_some, cond_false, jn, g2, g3, g4, g5, g6, g7, ha, beq_self_eq_true, Bool.and_self, Bool.not_true]
    | false =>
      have hA : isA' y.L i = false := ha
      simp only [cond_false, jn]
      rw [gd_pos (by omega), hstart i hi]
      have hsame : rd z.L (i : Int) = rd y.L (i : Int) ∨ Unp y.L i := by
        rcases hC' with g | ⟨g, _⟩ | ⟨g, _⟩ | ⟨_, _, g, _⟩
        · exact .inl g
        · rw [hA] at g; cases g
        · rw [hA] at g; cases g
        · exact .inr g
      by_cases hs : stI y.L i < 0
      · rw [decide_eq_false (show ¬ (stI y.L i ≥ 0) by omega)]
        simp only [cond_false, Option.bind_some]
      · have hf : Fmt y.L := by
          by_cases hf : Fmt y.L
          · exact hf
          · rw [stI_no hf (by omega)] at hs; exact absurd (by omega) hs
        obtain ⟨b, b1, b2, b3⟩ := stI_at hf (n := i) (by omega)
        rw [decide_eq_true (show stI y.L i ≥ 0 by omega), gd_pos (by omega), b1, hfi b (by omega)]
        simp only [cond_true, Option.bind_some]
        rcases hsame with g | g
        · rw [g]
          cases (fld (rd y.L (b : Int)).FA).Protected
          · simp only [cond_false, Option.bind_some]
          · simp only [cond_true, ha, cell_refl, beq_self_eq_true, Bool.and_self, Bool.not_true, Option.bind_some, cond_false]
        · have : (fld (rd y.L (b : Int)).FA).Protected = false := by
            unfold Unp faI at g
            rw [b1] at g
            rcases g with g | g
            · omega
            · exact g
          simp only [this, cond_false, Option.bind_some]
  · rw [vitrinelaw18_KeysSafe_l32.eq_2]
    have d1 : decide ((N : Int) < (y.L.length : Int)) = false := decide_eq_false (by omega)
    simp only [d1, cond_false]
theorem aid22 {k : Vkeys_Key} (h : k.Kind = 22) (n : Int) (B : Vkeys_Board) (x : Vvitrineref12_Space) (hs : (pressI n B x k).2.2.1 = true) : (pressI n B x k).2.1.aid = 109 := by
  unfold pressI at hs ⊢
  rw [if_neg (by omega)] at hs ⊢
  rw [if_neg (by omega)] at hs ⊢
  by_cases hl : B.lock ≠ 0
  · rw [if_pos hl] at hs; cases hs
  rw [if_neg hl] at hs ⊢
  rw [if_neg (by omega)] at hs ⊢
  have hb : sendsB k = true := by unfold sendsB; rw [h]; rfl
  rw [if_pos hb]
  show aidV k = 109
  unfold aidV
  rw [if_neg (by omega), if_pos h]
theorem keysSafe_true (p0 p1 : Int) (p2 : List Vvitrineref12_Act) (p3 : List Vvitrineref18_Key) (p4 : Vvitrineref18_Key) (h0 : By p0) (h1 : By p1) (h2 : ∀ a ∈ p2, AOk a) (l2 : p2.length ≤ 9223372036854775807) (l3 : p3.length ≤ 9223372036854775807) : m_vitrinelaw18_KeysSafe p0 p1 p2 p3 p4 = some true := by
  obtain ⟨N, x, hx, hr, hlay⟩ := vitrinelaw18_lay_ok h0 h1 h2 l2
  obtain ⟨_, hm⟩ := mod4_of h0
  have hn := pgN_mem p1
  generalize 2 + p0 % 4 = m at hr hm
  generalize pgN p1 = n at hlay hn
  unfold m_vitrinelaw18_KeysSafe
  rw [awake18, hlay]
  simp only [Option.bind_some, Bool.not_true, cond_false]
  obtain ⟨r, hloop, N', B, y, hy, rfl⟩ := safe_loop hm hn ⟨N, hr⟩ ⟨0, false, 96⟩ p3 l3
  change ((vitrinelaw18_KeysSafe_l6 p3 fuel (0, tL n ⟨0, false, 96⟩ x)).bind _) = _
  rw [hloop]
  clear hx hr hlay hloop
  have hl := hy.len
  have hle := hy.dim.dim.le
  have c1 : m_space_Space_Copy ⟨(prog y).model, (prog y).alternate, ⟨(prog y).size.Rows, (prog y).size.Cols⟩, (prog y).cells, (prog y).cursor, (prog y).attrs⟩ = some (prog y) := copy18 (s := prog y) (by show y.L.length ≤ _; omega)
  have c2 : m_space_Space_Cursor ⟨(prog y).model, (prog y).alternate, ⟨(prog y).size.Rows, (prog y).size.Cols⟩, (prog y).cells, (prog y).cursor, (prog y).attrs⟩ = some y.Cursor := rfl
  have k1 := ppress hm hy hn B (keyP p4)
  have k1' : m_keys_Board_Press ⟨B.lock, B.inserts, B.aid⟩ ⟨(prog y).model, (prog y).alternate, ⟨(prog y).size.Rows, (prog y).size.Cols⟩, (prog y).cells, (prog y).cursor, (prog y).attrs⟩ ⟨n⟩ ⟨p4.Kind, p4.Sign, p4.N⟩ = _ := k1
  simp only [Option.bind_some, tL, c1, c2, k1']
  have hchg := press_chg (n := n) hy B (keyP p4)
  have haid := fun e => aid22 (k := keyP p4) e n B y
  obtain ⟨Nz, hz, hNz⟩ := press_rs hm hy hn B (keyP p4)
  generalize pressI n B y (keyP p4) = w at hchg haid hz hNz ⊢
  obtain ⟨z, B', sent, er⟩ := w
  simp only at hchg haid hz hNz ⊢
  simp only [m_keys_Board_AID, Option.bind_some]
  have hK : (keyP p4).Kind = p4.Kind := rfl
  rw [hK] at hchg haid hNz
  have tail : ¬ (p4.Kind = 22 ∧ sent = true) → ((m_space_Space_Model ⟨(prog z).model, (prog z).alternate, (prog z).size, (prog z).cells, (prog z).cursor, (prog z).attrs⟩).bind fun (d19 : Int) =>
    (m_vitrineref12_New d19).bind fun (d20 : (Unit) ⊕ (Vvitrineref12_Space)) => match d20 with
    | .inl d20 => (
     none)
    | .inr d20 => (
     (m_space_Space_Alternate (prog y)).bind fun (d21 : Bool) =>
     (
      cond d21 (
       (m_vitrineref12_Clear_2 (⟨d20.Model, d20.Alt, d20.Size, d20.L, d20.Cursor⟩ : Vvitrineref12_Space) true).bind fun (d23 : Vvitrineref12_Space) =>
       some (d23.Model, d23.Alt, d23.Size.Rows, d23.Size.Cols, d23.L, d23.Cursor)) (
       some (d20.Model, d20.Alt, d20.Size.Rows, d20.Size.Cols, d20.L, d20.Cursor))).bind fun (d22 : Int × Bool × Int × Int × (List Vapi_Cell) × Int) =>
     (
      vitrinelaw18_KeysSafe_l25 (prog y) d22 fuel (0, d22.2.2.2.2.1)).bind fun (d24 : (List Vapi_Cell)) =>
     (m_vitrineref13_Starts (⟨d22.1, d22.2.1, (⟨d22.2.2.1, d22.2.2.2.1⟩ : Vvitrineref04_Size), d24, d22.2.2.2.2.2⟩ : Vvitrineref12_Space)).bind fun (d30 : (List Int)) =>
     jn (
      vitrinelaw18_KeysSafe_l32 p4 y.Cursor (prog z, (⟨n⟩ : Vpage_Page), B', sent, er) d22 d24 d30 fuel 0) fun (d31 : Unit) =>
     (m_space_Space_Alternate ⟨(prog z).model, (prog z).alternate, (prog z).size, (prog z).cells, (prog z).cursor, (prog z).attrs⟩).bind fun (d45 : Bool) =>
     (m_space_Space_Alternate (prog y)).bind fun (d46 : Bool) =>
     some (d45 == d46))) = some true := by
    intro hns
    obtain ⟨a1, a2, a3⟩ := hchg hns
    obtain rfl := hNz hns
    have hmz : (prog z).model = m := hz.model
    have hsz := hy.dim.n
    have hS : RS m Nz ⟨m, y.Alt, ⟨rOf m y.Alt, cOf m y.Alt⟩, y.L, 0⟩ := by
      refine ⟨rfl, ?_, hy.len, hy.ok, ⟨Int.le_refl _, by simp only; omega⟩⟩
      have := hy.dim
      rw [hsz.1, hsz.2.1] at this
      exact this
    have hcl : (cond y.Alt ((m_vitrineref12_Clear_2 (clr m false) true).bind fun (d23 : Vvitrineref12_Space) => some (d23.Model, d23.Alt, d23.Size.Rows, d23.Size.Cols, d23.L, d23.Cursor)) (some ((clr m false).Model, (clr m false).Alt, (clr m false).Size.Rows, (clr m false).Size.Cols, (clr m false).L, (clr m false).Cursor)) : Option T6) = some (m, y.Alt, rOf m y.Alt, cOf m y.Alt, List.replicate Nz zc, 0) := by
      rw [hsz.2.2]
      cases y.Alt with
      | true => simp only [cond_true, (rclear_ok hm (x := clr m false) rfl true).1, Option.bind_some]; rfl
      | false => rfl
    have hal : ∀ s, m_space_Space_Alternate s = some s.alternate := fun _ => rfl
    have hml : ∀ s, m_space_Space_Model s = some s.model := fun _ => rfl
    simp only [hml, hmz, Option.bind_some, rnew_ok hm, hal]
    change ((cond y.Alt ((m_vitrineref12_Clear_2 (clr m false) true).bind _) _).bind _) = _
    rw [hcl]
    simp only [Option.bind_some]
    rw [safe_copy hy _ rfl]
    simp only [Option.bind_some, rstarts hS]
    rw [safe_scan hy hz a3 _ hS]
    simp only [jn]
    have e1 : (prog z).alternate = z.Alt := rfl
    have e2 : (prog y).alternate = y.Alt := rfl
    rw [e1, e2, a1]; simp
  by_cases h22 : p4.Kind = 22
  · rw [beq_t h22]
    simp only [cond_true, Option.bind_some]
    by_cases hs : sent = true
    · rw [haid h22 hs]; rfl
    · by_cases h9 : B'.aid = 109
      · rw [beq_t h9]; rfl
      · rw [beq_f h9]
        exact tail (fun e => hs e.2)
  · rw [beq_f h22]
    exact tail (fun e => h22 e.1)
end Go.Vt
