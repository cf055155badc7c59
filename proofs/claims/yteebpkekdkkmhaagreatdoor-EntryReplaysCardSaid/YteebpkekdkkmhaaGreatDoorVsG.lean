/- What a screen is sent as, piece by piece: the program's and the document's reading. No conditions. -/
import Derived.Test.YteebpkekdkkmhaaGreatDoorVsF
set_option linter.unusedVariables false
set_option linter.unusedSimpArgs false
set_option maxRecDepth 100000
namespace Go.Vt
theorem hd1 (c : Int) (r : List Int) (e : Int) : m_order_scanner_take ⟨c :: r, e⟩ 1 = some (⟨r, e⟩, [c]) := by rw [take_ok (z := 1) 1 rfl (by simp)]; simp
theorem hd2 (x y : Int) (r : List Int) (e : Int) : m_order_scanner_take ⟨x :: y :: r, e⟩ 2 = some (⟨r, e⟩, [x, y]) := by rw [take_ok (z := 2) 2 rfl (by simp)]; simp
theorem chr_ok {x : Int} (r : List Int) (h : m_order_Is x = some false) : m_order_scanner_character ⟨x :: r, 0⟩ = some (⟨r, 0⟩, x) := by
  unfold m_order_scanner_character
  have r0 : rd [x] 0 = x := rfl
  simp only [hd1, Option.bind_some, r0, h, cond_false]
  rw [gd_pos (by simp)]
section
variable {r : List Int}
theorem gg {c : Int} : (0 : Int) ≤ 0 ∧ (0 : Int) < ((c :: r).length : Int) := by simp only [List.length_cons]; omega
theorem g1' {c : Int} : (0 : Int) ≤ 0 ∧ (0 : Int) < (([c] : List Int).length : Int) := by simp
theorem is8 : m_order_Is 8 = some true := by decide +kernel
theorem is29 : m_order_Is 29 = some true := by decide +kernel
theorem is41 : m_order_Is 41 = some true := by decide +kernel
theorem hr0 {c : Int} {r : List Int} : rd (c :: r) 0 = c := rfl
theorem op29 {x : Int} : m_order_scanner_op ⟨29 :: x :: r, 0⟩ = some (⟨r, 0⟩, ⟨29, 0, 0, false, x, [], []⟩) := by
  have ew : w64 29 = 29 := by decide
  unfold m_order_scanner_op
  simp only [gd_pos gg, gd_pos g1', hr0, is29, Option.bind_some, Bool.not_true, cond_false, cond_true, hd1, ew, Int.reduceBEq]
theorem op8 {x : Int} (h : m_order_Is x = some false) : m_order_scanner_op ⟨8 :: x :: r, 0⟩ = some (⟨r, 0⟩, ⟨8, 0, x, false, 0, [], []⟩) := by
  have ew : w64 8 = 8 := by decide
  unfold m_order_scanner_op
  simp only [gd_pos gg, gd_pos g1', hr0, is8, Option.bind_some, Bool.not_true, cond_false, cond_true, hd1, ew, Int.reduceBEq, chr_ok _ h]
theorem pairs_ok {c : Nat} (h : Prs r c) : m_order_scanner_pairs ⟨r, 0⟩ = some (⟨r.drop (1 + 2 * c), 0⟩, prsL r c) := by
  have hn : ((0 : Int) != 0) = false := rfl
  unfold m_order_scanner_pairs
  simp only [pparse h, Option.bind_some, hn, cond_false]
  rw [take_ok _ rfl h.len]; rfl
theorem op41 {c : Nat} (h : Prs r c) : m_order_scanner_op ⟨41 :: r, 0⟩ = some (⟨r.drop (1 + 2 * c), 0⟩, ⟨41, 0, 0, false, 0, prsL r c, []⟩) := by
  have ew : w64 41 = 41 := by decide
  unfold m_order_scanner_op
  simp only [gd_pos gg, gd_pos g1', hr0, is41, Option.bind_some, Bool.not_true, cond_false, cond_true, hd1, ew, Int.reduceBEq, pairs_ok h]
theorem is40 : m_order_Is 40 = some true := by decide +kernel
theorem pair_ok {t v : Int} (hc : m_attr_Pair_Check ⟨t, v⟩ = some 0) : m_order_scanner_pair ⟨t :: v :: r, 0⟩ = some (⟨r, 0⟩, [⟨t, v⟩]) := by
  unfold m_order_scanner_pair
  have hn : ((0 : Int) != 0) = false := rfl
  have r0 : rd [t, v] 0 = t := rfl
  have r1 : rd [t, v] 1 = v := rfl
  simp only [hd2, Option.bind_some, r0, r1, hc, hn, cond_false]
  rw [gd_pos (by simp), gd_pos (by simp)]
theorem op40 {t v : Int} (hc : m_attr_Pair_Check ⟨t, v⟩ = some 0) : m_order_scanner_op ⟨40 :: t :: v :: r, 0⟩ = some (⟨r, 0⟩, ⟨40, 0, 0, false, 0, [⟨t, v⟩], []⟩) := by
  have ew : w64 40 = 40 := by decide
  unfold m_order_scanner_op
  simp only [gd_pos gg, gd_pos g1', hr0, is40, Option.bind_some, Bool.not_true, cond_false, cond_true, hd1, ew, Int.reduceBEq, pair_ok hc]
end
theorem op_txt {p : List Int} (hb : Bs p) (hl : p.length ≤ 10000000000) {c : Int} {r : List Int} (hp : p = c :: r) (ho : isO c = false) :
    m_order_scanner_op ⟨p, 0⟩ = some (⟨p.dropWhile (fun c => !isO c), 0⟩, ⟨0, 0, 0, false, 0, [], p.takeWhile (fun c => !isO c)⟩) := by
  have hB : By c := hb c (by rw [hp]; simp)
  have hr : rd p 0 = c := by rw [hp]; rfl
  have g0 : (0 : Int) ≤ 0 ∧ (0 : Int) < (p.length : Int) := by rw [hp]; simp only [List.length_cons]; omega
  unfold m_order_scanner_op
  rw [gd_pos g0]
  simp only [hr, is_spec hB, Option.bind_some, ho, Bool.not_false, cond_true, text_spec (s := ⟨p, 0⟩) hb hl]
theorem rtext_loop {p : List Int} (hb : Bs p) (hl : p.length ≤ 10000000000) : ∀ (k n : Nat), n ≤ p.length → p.length - n < k →
    vitrineref16_next_l4 p k (n : Int) = some ((n + ((p.drop n).takeWhile (fun c => !isO c)).length : Nat) : Int)
  | 0, n, _, h => by omega
  | k + 1, n, hn, hk => by
    rw [vitrineref16_next_l4.eq_2]
    by_cases hlt : n < p.length
    · have h1 : decide ((n : Int) < (p.length : Int)) = true := by simp; omega
      have hB : By (p[n]) := hb _ (List.getElem_mem hlt)
      simp only [h1, cond_true]
      rw [gd_pos (by omega), rd_nat hlt, ris_spec hB]
      simp only [Option.bind_some]
      have hd : p.drop n = p[n] :: p.drop (n + 1) := List.drop_eq_getElem_cons hlt
      cases ho : isO p[n] with
      | true =>
        rw [hd]
        simp only [List.takeWhile_cons, ho, Bool.not_true, Bool.false_eq_true, if_false, cond_false, List.length_nil, Nat.add_zero]
      | false =>
        have hw : w64 ((n : Int) + 1) = ((n + 1 : Nat) : Int) := by rw [w64_small (by omega)]; omega
        simp only [Bool.not_false, cond_true, hw]
        rw [rtext_loop hb hl k (n + 1) (by omega) (by omega), hd]
        simp only [List.takeWhile_cons, ho, Bool.not_false, if_true, List.length_cons]
        congr 2; omega
    · have h1 : decide ((n : Int) < (p.length : Int)) = false := by simp; omega
      simp only [h1, cond_false, Option.bind_some]
      have : p.drop n = [] := List.drop_eq_nil_of_le (by omega)
      simp [this]
theorem rcopy_ok {l : List Int} (h : l.length ≤ 68719476736) : m_vitrineref01_Copy l = some l := by
  unfold m_vitrineref01_Copy; rw [gd_pos (by simpa using h)]; simp

/-! ### pieces -/
inductive AO
  | text (t : List Int)
  | ge (b : Int)
  | sf (f : Int)
  | sfe (l : List (Int × Int))
  | sa (t v : Int)
abbrev mkR (p : Int × Int) : Vvitrineref05_Pair := ⟨p.1, p.2⟩
def fl (l : List (Int × Int)) : List Int := l.flatMap fun p => [p.1, p.2]
def AO.bytes : AO → List Int
  | .text t => t
  | .ge b => [8, b]
  | .sf f => [29, f]
  | .sfe l => 41 :: (l.length : Int) :: fl l
  | .sa t v => [40, t, v]
def AO.p : AO → Vorder_Op
  | .text t => ⟨0, 0, 0, false, 0, [], t⟩
  | .ge b => ⟨8, 0, b, false, 0, [], []⟩
  | .sf f => ⟨29, 0, 0, false, f, [], []⟩
  | .sfe l => ⟨41, 0, 0, false, 0, l.map mkA, []⟩
  | .sa t v => ⟨40, 0, 0, false, 0, [⟨t, v⟩], []⟩
def AO.r : AO → Vvitrineref16_Op
  | .text t => ⟨0, 0, 0, false, 0, [], t⟩
  | .ge b => ⟨8, 0, b, false, 0, [], []⟩
  | .sf f => ⟨29, 0, 0, false, f, [], []⟩
  | .sfe l => ⟨41, 0, 0, false, 0, l.map mkR, []⟩
  | .sa t v => ⟨40, 0, 0, false, 0, [⟨t, v⟩], []⟩
structure PrOk (t v : Int) : Prop where
  bt : By t
  bv : By v
  chk : m_attr_Pair_Check ⟨t, v⟩ = some 0
  rgt : m_vitrineref05_Right ⟨t, v⟩ = some true
def AO.ok : AO → Prop
  | .text t => t ≠ [] ∧ (∀ b ∈ t, By b ∧ isO b = false) ∧ t.length ≤ 100000
  | .ge b => By b ∧ isO b = false
  | .sf f => By f
  | .sfe l => l.length ≤ 4 ∧ ∀ p ∈ l, PrOk p.1 p.2
  | .sa t v => PrOk t v
def AO.tx : AO → Bool
  | .text _ => true
  | _ => false
/-- nothing, or an order -/
def Stt (tl : List Int) : Prop := tl = [] ∨ ∃ c r, tl = c :: r ∧ isO c = true
theorem tw_st {tl : List Int} (h : Stt tl) : ∀ t : List Int, (∀ b ∈ t, By b ∧ isO b = false) → (t ++ tl).takeWhile (fun c => !isO c) = t ∧ (t ++ tl).dropWhile (fun c => !isO c) = tl
  | [], _ => by
    rcases h with rfl | ⟨c, r, rfl, hc⟩
    · simp
    · simp [List.takeWhile_cons, List.dropWhile_cons, hc]
  | b :: t, hb => by
    obtain ⟨h1, h2⟩ := tw_st h t fun x hx => hb x (by simp [hx])
    have h3 := (hb b (by simp)).2
    simp [List.takeWhile_cons, List.dropWhile_cons, h3, h1, h2]
theorem fl_len : ∀ l : List (Int × Int), (fl l).length = 2 * l.length
  | [] => rfl
  | p :: l => by
    have := fl_len l
    simp only [fl, List.flatMap_cons, List.length_append, List.length_cons, List.length_nil] at this ⊢
    omega
theorem fl_get (rest : List Int) : ∀ (l : List (Int × Int)) (j : Nat) (h : j < l.length), (fl l ++ rest)[2 * j]? = some l[j].1 ∧ (fl l ++ rest)[2 * j + 1]? = some l[j].2
  | [], j, h => by simp at h
  | p :: l, 0, h => by simp [fl]
  | p :: l, j + 1, h => by
    have ih := fl_get rest l j (by simpa using h)
    have e : fl (p :: l) ++ rest = p.1 :: p.2 :: (fl l ++ rest) := by simp [fl]
    rw [e, show 2 * (j + 1) = 2 * j + 1 + 1 by omega]
    simp only [List.getElem?_cons_succ, List.getElem_cons_succ]
    exact ih
theorem fl_rd (c : Int) (l : List (Int × Int)) (rest : List Int) (j : Nat) (h : j < l.length) : rd (c :: (fl l ++ rest)) ((1 + 2 * j : Nat) : Int) = l[j].1 ∧ rd (c :: (fl l ++ rest)) ((2 + 2 * j : Nat) : Int) = l[j].2 := by
  obtain ⟨h1, h2⟩ := fl_get rest l j h
  unfold rd
  simp only [Int.toNat_natCast, List.getD_eq_getElem?_getD]
  rw [show 1 + 2 * j = 2 * j + 1 by omega, show 2 + 2 * j = 2 * j + 1 + 1 by omega]
  simp only [List.getElem?_cons_succ, h1, h2, Option.getD_some, and_self]
theorem fl_prs {l : List (Int × Int)} (hl : l.length ≤ 4) (hp : ∀ p ∈ l, PrOk p.1 p.2) (rest : List Int) : Prs ((l.length : Int) :: (fl l ++ rest)) l.length ∧ prsL ((l.length : Int) :: (fl l ++ rest)) l.length = l.map mkA ∧ ((l.length : Int) :: (fl l ++ rest)).drop (1 + 2 * l.length) = rest := by
  have hfl := fl_len l
  refine ⟨⟨by omega, by simp [hfl]; omega, rfl, fun j hj => ?_⟩, ?_, ?_⟩
  · obtain ⟨h1, h2⟩ := fl_rd (l.length : Int) l rest j hj
    rw [h1, h2]; exact (hp _ (List.getElem_mem hj)).chk
  · unfold prsL
    apply List.ext_getElem (by simp)
    intro j h1 h2
    have hj : j < l.length := by simpa using h1
    obtain ⟨h3, h4⟩ := fl_rd (l.length : Int) l rest j hj
    simp only [List.getElem_map, List.getElem_range, h3, h4]
  · rw [Nat.add_comm, List.drop_succ_cons, ← hfl, List.drop_left]
/-- one piece, whatever follows -/
theorem op_ao {o : AO} (ho : o.ok) {rest : List Int} (hr : o.tx = true → Stt rest) (hb : Bs rest) (hl : rest.length ≤ 1000000) : m_order_scanner_op ⟨o.bytes ++ rest, 0⟩ = some (⟨rest, 0⟩, o.p) := by
  cases o with
  | text t =>
    obtain ⟨h1, h2, h3⟩ := ho
    obtain ⟨w1, w2⟩ := tw_st (hr rfl) t h2
    match t, h1 with
    | c :: t', _ =>
      have hbt : Bs ((c :: t') ++ rest) := fun x hx => by
        rcases List.mem_append.1 hx with h | h
        · exact (h2 x h).1
        · exact hb x h
      have := op_txt hbt (by rw [List.length_append]; omega) (c := c) (r := t' ++ rest) rfl (h2 c (by simp)).2
      rw [w1, w2] at this
      exact this
  | ge b => exact op8 (by rw [is_spec ho.1, ho.2])
  | sf f => exact op29
  | sfe l =>
    obtain ⟨h1, h2, h3⟩ := fl_prs ho.1 ho.2 rest
    have := op41 h1
    rw [h2, h3] at this
    exact this
  | sa t v => exact op40 ho.chk
/-! ### the document's -/
section
variable {r : List Int}
theorem ris8 : m_vitrineref16_Is 8 = some true := by decide +kernel
theorem ris29 : m_vitrineref16_Is 29 = some true := by decide +kernel
theorem ris40 : m_vitrineref16_Is 40 = some true := by decide +kernel
theorem ris41 : m_vitrineref16_Is 41 = some true := by decide +kernel
theorem nx29 {x : Int} : m_vitrineref16_next (29 :: x :: r) = some (⟨29, 0, 0, false, x, [], []⟩, 2, 0) := by
  have ew : w64 29 = 29 := by decide
  have d1 : decide (((29 :: x :: r).length : Int) < 2) = false := decide_eq_false (by simp only [List.length_cons]; omega)
  have r1 : rd (29 :: x :: r) 1 = x := rfl
  unfold m_vitrineref16_next
  simp only [gd_pos gg, hr0, ris29, Option.bind_some, Bool.not_true, cond_false, cond_true, ew, Int.reduceBEq, jn_inl, d1]
  rw [gd_pos (by simp only [List.length_cons]; omega), r1]; rfl
theorem nx8 {x : Int} (hx : By x) (ho : isO x = false) : m_vitrineref16_next (8 :: x :: r) = some (⟨8, 0, x, false, 0, [], []⟩, 2, 0) := by
  have ew : w64 8 = 8 := by decide
  have d1 : decide (((8 :: x :: r).length : Int) < 2) = false := decide_eq_false (by simp only [List.length_cons]; omega)
  have r1 : rd (8 :: x :: r) 1 = x := rfl
  unfold m_vitrineref16_next
  simp only [gd_pos gg, hr0, ris8, Option.bind_some, Bool.not_true, cond_false, cond_true, ew, Int.reduceBEq, jn_inl, d1]
  rw [gd_pos (by simp only [List.length_cons]; omega), r1, ris_spec hx, ho]
  simp only [Option.bind_some, cond_false]
  rw [gd_pos (by simp only [List.length_cons]; omega)]; rfl
theorem nx40 {t v : Int} (h : m_vitrineref05_Right ⟨t, v⟩ = some true) : m_vitrineref16_next (40 :: t :: v :: r) = some (⟨40, 0, 0, false, 0, [⟨t, v⟩], []⟩, 3, 0) := by
  have ew : w64 40 = 40 := by decide
  have d1 : decide (((40 :: t :: v :: r).length : Int) < 3) = false := decide_eq_false (by simp only [List.length_cons]; omega)
  have r1 : rd (40 :: t :: v :: r) 1 = t := rfl
  have r2 : rd (40 :: t :: v :: r) 2 = v := rfl
  unfold m_vitrineref16_next
  simp only [gd_pos gg, hr0, ris40, Option.bind_some, Bool.not_true, cond_false, cond_true, ew, Int.reduceBEq, jn_inl, d1]
  rw [gd_pos (by simp only [List.length_cons]; omega), gd_pos (by simp only [List.length_cons]; omega), r1, r2, h]; rfl
theorem rpl {l : List (Int × Int)} (hl : l.length ≤ 4) (hp : ∀ p ∈ l, PrOk p.1 p.2) (rest : List Int) : ∀ (d i k : Nat), i + d = l.length → d < k → vitrineref05_Parse_l4 ((l.length : Int) :: (fl l ++ rest)) k ((i : Int), (l.take i).map mkR) = some (.inl (l.map mkR))
  | d, i, 0, _, hk => by omega
  | d, i, k + 1, e, hk => by
    have hfl := fl_len l
    have hw : w64 (rd ((l.length : Int) :: (fl l ++ rest)) 0) = (l.length : Int) := by rw [hr0, w64_in (by omega) (by omega)]
    rw [vitrineref05_Parse_l4.eq_2, gd_pos gg]
    match d with
    | 0 =>
      have d1 : decide ((i : Int) < (l.length : Int)) = false := decide_eq_false (by omega)
      rw [hw, d1, cond_false, List.take_of_length_le (by omega)]
    | d + 1 =>
      have d1 : decide ((i : Int) < (l.length : Int)) = true := decide_eq_true (by omega)
      have hi : i < l.length := by omega
      obtain ⟨h1, h2⟩ := fl_rd (l.length : Int) l rest i hi
      have w1 : w64 (1 + w64 (2 * (i : Int))) = ((1 + 2 * i : Nat) : Int) := by rw [w64_in (x := 2 * (i : Int)) (by omega) (by omega), w64_in (by omega) (by omega)]; omega
      have w2 : w64 (2 + w64 (2 * (i : Int))) = ((2 + 2 * i : Nat) : Int) := by rw [w64_in (x := 2 * (i : Int)) (by omega) (by omega), w64_in (by omega) (by omega)]; omega
      simp only [hw, d1, cond_true, w1, w2, h1, h2, w64_succ (show i < 9223372036854775807 by omega)]
      rw [gd_pos (by simp [hfl]; omega), gd_pos (by simp [hfl]; omega), (hp _ (List.getElem_mem hi)).rgt]
      simp only [Option.bind_some, Bool.not_true, cond_false]
      rw [gd_pos (by simp; omega)]
      have hs : (l.take i).map mkR ++ [⟨l[i].1, l[i].2⟩] = (l.take (i + 1)).map mkR := by rw [List.take_succ_eq_append_getElem hi, List.map_append]; rfl
      rw [hs]
      exact rpl hl hp rest d (i + 1) k (by omega) (by omega)
theorem nx41 {l : List (Int × Int)} (hl : l.length ≤ 4) (hp : ∀ p ∈ l, PrOk p.1 p.2) (hlr : r.length ≤ 1000000) : m_vitrineref16_next (41 :: (l.length : Int) :: (fl l ++ r)) = some (⟨41, 0, 0, false, 0, l.map mkR, []⟩, ((2 + 2 * l.length : Nat) : Int), 0) := by
  have ew : w64 41 = 41 := by decide
  have hfl := fl_len l
  unfold m_vitrineref16_next
  simp only [gd_pos gg, hr0, ris41, Option.bind_some, Bool.not_true, cond_false, cond_true, ew, Int.reduceBEq]
  rw [gd_pos (by simp only [List.length_cons]; omega)]
  simp only [List.drop_succ_cons, List.drop_zero]
  have hP : m_vitrineref05_Parse ((l.length : Int) :: (fl l ++ r)) = some (l.map mkR, ((1 + 2 * l.length : Nat) : Int), 0) := by
    unfold m_vitrineref05_Parse
    have hlen : ((l.length : Int) :: (fl l ++ r)).length = 1 + 2 * l.length + r.length := by simp [hfl]; omega
    have d1 : ((((l.length : Int) :: (fl l ++ r)).length : Int) == 0) = false := beq_f (by rw [hlen]; omega)
    have hw : w64 (2 * w64 (l.length : Int)) = ((2 * l.length : Nat) : Int) := by rw [w64_in (x := (l.length : Int)) (by omega) (by omega), w64_in (by omega) (by omega)]; omega
    have hw2 : w64 ((((l.length : Int) :: (fl l ++ r)).length : Int) - 1) = ((2 * l.length + r.length : Nat) : Int) := by rw [hlen, w64_in (by omega) (by omega)]; omega
    have d2 : decide (((2 * l.length + r.length : Nat) : Int) < ((2 * l.length : Nat) : Int)) = false := decide_eq_false (by omega)
    simp only [d1, cond_false, gd_pos gg, hr0, hw, hw2, d2, Option.bind_some]
    have hloop := rpl hl hp r l.length 0 fuel (by omega) (by unfold fuel; omega)
    have hloop' : vitrineref05_Parse_l4 ((l.length : Int) :: (fl l ++ r)) fuel (0, []) = some (.inl (l.map mkR)) := by simpa using hloop
    rw [hloop', jn_inl, List.length_map, w64_in (x := 2 * (l.length : Int)) (by omega) (by omega), w64_in (by omega) (by omega)]
    all_goals (congr 3 <;> omega)
  simp only [hP, Option.bind_some, esc, jn]
  rw [w64_in (by omega) (by omega)]
  all_goals (congr 3 <;> omega)
end
theorem nx_text {c : Int} {r t rest : List Int} (ht : ∀ b ∈ t, By b ∧ isO b = false) (h0 : t = c :: r) (hs : Stt rest) (hb : Bs rest) (hl : t.length ≤ 100000) (hlr : rest.length ≤ 1000000) : m_vitrineref16_next (t ++ rest) = some (⟨0, 0, 0, false, 0, [], t⟩, (t.length : Int), 0) := by
  obtain ⟨w1, w2⟩ := tw_st hs t ht
  have hbt : Bs (t ++ rest) := fun x hx => by
    rcases List.mem_append.1 hx with h | h
    · exact (ht x h).1
    · exact hb x h
  have hlen : (t ++ rest).length ≤ 1100000 := by simp; omega
  have h1 := rtext_loop hbt (by omega) fuel 0 (by omega) (by unfold fuel; omega)
  simp only [Int.natCast_zero, List.drop_zero, Nat.zero_add, w1] at h1
  have h1' : vitrineref16_next_l4 (t ++ rest) fuel 0 = some (t.length : Int) := h1
  subst h0
  have hB := ht c (by simp)
  have e0 : ∀ (x : Int) (y : List Int), (c :: r) ++ rest = c :: (r ++ rest) := fun _ _ => rfl
  unfold m_vitrineref16_next
  simp only [h1', Option.bind_some]
  rw [gd_pos (by simp only [List.cons_append, List.length_cons]; omega), gd_pos (by simp only [List.cons_append, List.length_cons]; omega)]
  have r0 : rd ((c :: r) ++ rest) 0 = c := rfl
  simp only [r0, ris_spec hB.1, hB.2, Option.bind_some, Bool.not_false, cond_true]
  rw [gd_pos (by simp only [List.length_append]; omega), Int.toNat_natCast, List.take_left, rcopy_ok (by omega)]
  rfl
theorem nx_ao {o : AO} (ho : o.ok) {rest : List Int} (hr : o.tx = true → Stt rest) (hb : Bs rest) (hl : rest.length ≤ 1000000) : m_vitrineref16_next (o.bytes ++ rest) = some (o.r, (o.bytes.length : Int), 0) := by
  cases o with
  | text t =>
    obtain ⟨h1, h2, h3⟩ := ho
    match t, h1 with
    | c :: t', _ => exact nx_text h2 rfl (hr rfl) hb h3 hl
  | ge b => exact nx8 ho.1 ho.2
  | sf f => exact nx29
  | sfe l =>
    have := nx41 ho.1 ho.2 hl
    have e : (AO.sfe l).bytes.length = 2 + 2 * l.length := by simp [AO.bytes, fl_len]; omega
    rw [e]; exact this
  | sa t v => exact nx40 ho.rgt
end Go.Vt
