/- One order of the document's is one of the program's, whatever follows. No conditions. -/
import Derived.Test.YtmemmonmlbfopaaGreatDoorVrG
set_option linter.unusedVariables false
set_option linter.unusedSimpArgs false
set_option maxRecDepth 100000
namespace Go.Vt
def Okt (t : List Int) : Prop := Bs t ∧ t.length ≤ 1000000 ∧ (t = [] ∨ ∃ r, t = 17 :: r)
def Good (p : List Int) (n : Nat) : Prop := ∃ o : Vorder_Op, o.Kind ≠ 40 ∧ o.Text.length ≤ 68719476736 ∧ o.Pairs.length ≤ 68719476736 ∧ Lo o.Addr ∧ ∀ t, Okt t → m_order_scanner_op ⟨p ++ t, 0⟩ = some (⟨p.drop n ++ t, 0⟩, o)
theorem good_of {c : Int} {l r0 : List Int} {o : Vorder_Op} (hk : o.Kind ≠ 40) (ht : o.Text = []) (hp : o.Pairs.length ≤ 68719476736) (ha : Lo o.Addr) (h : ∀ r, m_order_scanner_op ⟨c :: (l ++ r), 0⟩ = some (⟨r, 0⟩, o)) : Good (c :: (l ++ r0)) (1 + l.length) := by
  refine ⟨o, hk, by rw [ht]; simp, hp, ha, fun t _ => ?_⟩
  have e1 : (c :: (l ++ r0)) ++ t = c :: (l ++ (r0 ++ t)) := by simp
  have e2 : (c :: (l ++ r0)).drop (1 + l.length) = r0 := by rw [Nat.add_comm]; simp
  rw [e1, e2]; exact h (r0 ++ t)
theorem hd1 (c : Int) (r : List Int) (e : Int) : m_order_scanner_take ⟨c :: r, e⟩ 1 = some (⟨r, e⟩, [c]) := by rw [take_ok (z := 1) 1 rfl (by simp)]; simp
theorem hd2 (x y : Int) (r : List Int) (e : Int) : m_order_scanner_take ⟨x :: y :: r, e⟩ 2 = some (⟨r, e⟩, [x, y]) := by rw [take_ok (z := 2) 2 rfl (by simp)]; simp
theorem addr_ok {x y v : Int} (r : List Int) (hd : m_addr_Decode 12 [x, y] = some (v, 0)) : m_order_scanner_addr ⟨x :: y :: r, 0⟩ = some (⟨r, 0⟩, v) := by
  unfold m_order_scanner_addr
  have hn : ((0 : Int) != 0) = false := rfl
  simp only [hd2, Option.bind_some, hn, cond_false, hd]
theorem char_ok {x : Int} (r : List Int) (h : m_order_Is x = some false) : m_order_scanner_character ⟨x :: r, 0⟩ = some (⟨r, 0⟩, x) := by
  unfold m_order_scanner_character
  have r0 : rd [x] 0 = x := rfl
  simp only [hd1, Option.bind_some, r0, h, cond_false]
  rw [gd_pos (by simp)]
section
variable {r : List Int}
theorem gg {c : Int} : (0 : Int) ≤ 0 ∧ (0 : Int) < ((c :: r).length : Int) := by simp only [List.length_cons]; omega
theorem g1' {c : Int} : (0 : Int) ≤ 0 ∧ (0 : Int) < (([c] : List Int).length : Int) := by simp
theorem is5 : m_order_Is 5 = some true := by decide +kernel
theorem is8 : m_order_Is 8 = some true := by decide +kernel
theorem is17 : m_order_Is 17 = some true := by decide +kernel
theorem is18 : m_order_Is 18 = some true := by decide +kernel
theorem is19 : m_order_Is 19 = some true := by decide +kernel
theorem is29 : m_order_Is 29 = some true := by decide +kernel
theorem is41 : m_order_Is 41 = some true := by decide +kernel
theorem is44 : m_order_Is 44 = some true := by decide +kernel
theorem is60 : m_order_Is 60 = some true := by decide +kernel
theorem hr0 {c : Int} {r : List Int} : rd (c :: r) 0 = c := rfl
theorem op5 : m_order_scanner_op ⟨5 :: r, 0⟩ = some (⟨r, 0⟩, ⟨5, 0, 0, false, 0, [], []⟩) := by
  have ew : w64 5 = 5 := by decide
  unfold m_order_scanner_op
  simp only [gd_pos gg, gd_pos g1', hr0, is5, Option.bind_some, Bool.not_true, cond_false, cond_true, hd1, ew, Int.reduceBEq]
theorem op19 : m_order_scanner_op ⟨19 :: r, 0⟩ = some (⟨r, 0⟩, ⟨19, 0, 0, false, 0, [], []⟩) := by
  have ew : w64 19 = 19 := by decide
  unfold m_order_scanner_op
  simp only [gd_pos gg, gd_pos g1', hr0, is19, Option.bind_some, Bool.not_true, cond_false, cond_true, hd1, ew, Int.reduceBEq]
theorem op29 {x : Int} : m_order_scanner_op ⟨29 :: x :: r, 0⟩ = some (⟨r, 0⟩, ⟨29, 0, 0, false, x, [], []⟩) := by
  have ew : w64 29 = 29 := by decide
  unfold m_order_scanner_op
  simp only [gd_pos gg, gd_pos g1', hr0, is29, Option.bind_some, Bool.not_true, cond_false, cond_true, hd1, ew, Int.reduceBEq]
theorem op8 {x : Int} (h : m_order_Is x = some false) : m_order_scanner_op ⟨8 :: x :: r, 0⟩ = some (⟨r, 0⟩, ⟨8, 0, x, false, 0, [], []⟩) := by
  have ew : w64 8 = 8 := by decide
  unfold m_order_scanner_op
  simp only [gd_pos gg, gd_pos g1', hr0, is8, Option.bind_some, Bool.not_true, cond_false, cond_true, hd1, ew, Int.reduceBEq, char_ok _ h]
theorem op17 {x y v : Int} (hd : m_addr_Decode 12 [x, y] = some (v, 0)) : m_order_scanner_op ⟨17 :: x :: y :: r, 0⟩ = some (⟨r, 0⟩, ⟨17, v, 0, false, 0, [], []⟩) := by
  have ew : w64 17 = 17 := by decide
  unfold m_order_scanner_op
  simp only [gd_pos gg, gd_pos g1', hr0, is17, Option.bind_some, Bool.not_true, cond_false, cond_true, hd1, ew, Int.reduceBEq, addr_ok _ hd]
theorem op18 {x y v : Int} (hd : m_addr_Decode 12 [x, y] = some (v, 0)) : m_order_scanner_op ⟨18 :: x :: y :: r, 0⟩ = some (⟨r, 0⟩, ⟨18, v, 0, false, 0, [], []⟩) := by
  have ew : w64 18 = 18 := by decide
  unfold m_order_scanner_op
  simp only [gd_pos gg, gd_pos g1', hr0, is18, Option.bind_some, Bool.not_true, cond_false, cond_true, hd1, ew, Int.reduceBEq, addr_ok _ hd]
theorem op60 {x y v z : Int} (hd : m_addr_Decode 12 [x, y] = some (v, 0)) (hz : z ≠ 8) (h : m_order_Is z = some false) : m_order_scanner_op ⟨60 :: x :: y :: z :: r, 0⟩ = some (⟨r, 0⟩, ⟨60, v, z, false, 0, [], []⟩) := by
  have ew : w64 60 = 60 := by decide
  have d1 : decide (((z :: r).length : Int) > 0) = true := decide_eq_true (by simp only [List.length_cons]; omega)
  unfold m_order_scanner_op
  simp only [gd_pos gg, gd_pos g1', hr0, is60, Option.bind_some, Bool.not_true, cond_false, cond_true, hd1, ew, Int.reduceBEq, addr_ok _ hd, d1, beq_f hz, char_ok _ h]
theorem op60g {x y v z : Int} (hd : m_addr_Decode 12 [x, y] = some (v, 0)) (h : m_order_Is z = some false) : m_order_scanner_op ⟨60 :: x :: y :: 8 :: z :: r, 0⟩ = some (⟨r, 0⟩, ⟨60, v, z, true, 0, [], []⟩) := by
  have ew : w64 60 = 60 := by decide
  have d1 : decide (((8 :: z :: r).length : Int) > 0) = true := decide_eq_true (by simp only [List.length_cons]; omega)
  unfold m_order_scanner_op
  simp only [gd_pos gg, gd_pos g1', hr0, is60, Option.bind_some, Bool.not_true, cond_false, cond_true, hd1, ew, Int.reduceBEq, addr_ok _ hd, d1, char_ok _ h]
theorem pairs_ok {c : Nat} (h : Prs r c) : m_order_scanner_pairs ⟨r, 0⟩ = some (⟨r.drop (1 + 2 * c), 0⟩, prsL r c) := by
  have hn : ((0 : Int) != 0) = false := rfl
  unfold m_order_scanner_pairs
  simp only [pparse h, Option.bind_some, hn, cond_false]
  rw [take_ok _ rfl h.len]; rfl
theorem op41 {c : Nat} (h : Prs r c) : m_order_scanner_op ⟨41 :: r, 0⟩ = some (⟨r.drop (1 + 2 * c), 0⟩, ⟨41, 0, 0, false, 0, prsL r c, []⟩) := by
  have ew : w64 41 = 41 := by decide
  unfold m_order_scanner_op
  simp only [gd_pos gg, gd_pos g1', hr0, is41, Option.bind_some, Bool.not_true, cond_false, cond_true, hd1, ew, Int.reduceBEq, pairs_ok h]
theorem op44 {c : Nat} (h : Prs r c) : m_order_scanner_op ⟨44 :: r, 0⟩ = some (⟨r.drop (1 + 2 * c), 0⟩, ⟨44, 0, 0, false, 0, prsL r c, []⟩) := by
  have ew : w64 44 = 44 := by decide
  unfold m_order_scanner_op
  simp only [gd_pos gg, gd_pos g1', hr0, is44, Option.bind_some, Bool.not_true, cond_false, cond_true, hd1, ew, Int.reduceBEq, pairs_ok h]
theorem good_prs {k : Int} (hk : k ≠ 40) {c : Nat} (h : Prs r c) (ho : ∀ r', Prs r' c → m_order_scanner_op ⟨k :: r', 0⟩ = some (⟨r'.drop (1 + 2 * c), 0⟩, ⟨k, 0, 0, false, 0, prsL r' c, []⟩)) : Good (k :: r) (1 + (1 + 2 * c)) := by
  have hle := h.le
  have hlen := h.len
  refine ⟨⟨k, 0, 0, false, 0, prsL r c, []⟩, hk, by simp, by simp [prsL]; omega, lo_nn (by simp), fun t _ => ?_⟩
  obtain ⟨h1, h2⟩ := h.app t
  have e1 : (k :: r) ++ t = k :: (r ++ t) := rfl
  have e2 : (k :: r).drop (1 + (1 + 2 * c)) = r.drop (1 + 2 * c) := by rw [Nat.add_comm 1 (1 + 2 * c)]; rfl
  rw [e1, e2, ho _ h1, h2, List.drop_append_of_le_length hlen]
end
/-! ### text -/
theorem tw_app' {t : List Int} (ht : t = [] ∨ ∃ r, t = 17 :: r) : ∀ p : List Int, (p ++ t).takeWhile (fun c => !isO c) = p.takeWhile (fun c => !isO c) ∧ (p ++ t).dropWhile (fun c => !isO c) = p.dropWhile (fun c => !isO c) ++ t
  | [] => by
    rcases ht with rfl | ⟨r, rfl⟩
    · simp
    · have h17 : isO 17 = true := by decide
      simp [List.takeWhile_cons, List.dropWhile_cons, h17]
  | x :: p => by
    obtain ⟨h1, h2⟩ := tw_app' ht p
    simp only [List.cons_append, List.takeWhile_cons, List.dropWhile_cons]
    cases isO x with
    | true => simp
    | false => simp [h1, h2]
theorem op_txt {p : List Int} (hb : Bs p) (hl : p.length ≤ 10000000000) {c : Int} {r : List Int} (hp : p = c :: r) (ho : isO c = false) :
    m_order_scanner_op ⟨p, 0⟩ = some (⟨p.dropWhile (fun c => !isO c), 0⟩, ⟨0, 0, 0, false, 0, [], p.takeWhile (fun c => !isO c)⟩) := by
  have hB : By c := hb c (by rw [hp]; simp)
  have hr : rd p 0 = c := by rw [hp]; rfl
  have g0 : (0 : Int) ≤ 0 ∧ (0 : Int) < (p.length : Int) := by rw [hp]; simp only [List.length_cons]; omega
  unfold m_order_scanner_op
  rw [gd_pos g0]
  simp only [hr, is_spec hB, Option.bind_some, ho, Bool.not_false, cond_true, text_spec (s := ⟨p, 0⟩) hb hl]
theorem rtext_loop {p : List Int} (hb : Bs p) (hl : p.length ≤ 10000000000) : ∀ (k n : Nat), n ≤ p.length → p.length - n < k →
    vitrineref16_next_l4 p k (n : Int) = some ((n + ((p.drop n).takeWhile (fun c => !isO c)).length : Nat) : Int)
  | 0, n, _, h => by omega
  | k + 1, n, hn, hk => by
    rw [vitrineref16_next_l4.eq_2]
    by_cases hlt : n < p.length
    · have h1 : decide ((n : Int) < (p.length : Int)) = true := by simp; omega
      have hB : By (p[n]) := hb _ (List.getElem_mem hlt)
      simp only [h1, cond_true]
      rw [gd_pos (by omega), rd_nat hlt, ris_spec hB]
      simp only [Option.bind_some]
      have hd : p.drop n = p[n] :: p.drop (n + 1) := List.drop_eq_getElem_cons hlt
      cases ho : isO p[n] with
      | true =>
        rw [hd]
        simp only [List.takeWhile_cons, ho, Bool.not_true, Bool.false_eq_true, if_false, cond_false, List.length_nil, Nat.add_zero]
      | false =>
        have hw : w64 ((n : Int) + 1) = ((n + 1 : Nat) : Int) := by rw [w64_small (by omega)]; omega
        simp only [Bool.not_false, cond_true, hw]
        rw [rtext_loop hb hl k (n + 1) (by omega) (by omega), hd]
        simp only [List.takeWhile_cons, ho, Bool.not_false, if_true, List.length_cons]
        congr 2; omega
    · have h1 : decide ((n : Int) < (p.length : Int)) = false := by simp; omega
      simp only [h1, cond_false, Option.bind_some]
      have : p.drop n = [] := List.drop_eq_nil_of_le (by omega)
      simp [this]
theorem rcopy_ok {l : List Int} (h : l.length ≤ 68719476736) : m_vitrineref01_Copy l = some l := by
  unfold m_vitrineref01_Copy; rw [gd_pos (by simpa using h)]; simp
/-- what the document's step says -/
def Post (p : List Int) (d : Vvitrineref16_Op × Int × Int) : Prop := d.2.2 = 0 → ∃ n : Nat, d.2.1 = (n : Int) ∧ 1 ≤ n ∧ n ≤ p.length ∧ (d.1.Kind = 40 ∨ Good p n)
theorem post_err {p : List Int} {o : Vvitrineref16_Op} {n e : Int} (he : e ≠ 0) : Post p (o, n, e) := fun h => absurd h he
theorem next_text {c : Int} {r : List Int} (hb : Bs (c :: r)) (hl : (c :: r).length ≤ 1000000) (ho : isO c = false) : Tot (m_vitrineref16_next (c :: r)) (Post (c :: r)) := by
  have hB : By c := hb c (by simp)
  have hlen := tw_len (fun c => !isO c) (c :: r)
  have h0 := rtext_loop hb (by omega) fuel 0 (by omega) (by unfold fuel; omega)
  simp only [Int.natCast_zero, List.drop_zero, Nat.zero_add] at h0
  have h0' : vitrineref16_next_l4 (c :: r) fuel 0 = some (((c :: r).takeWhile (fun c => !isO c)).length : Int) := h0
  unfold m_vitrineref16_next
  simp only [gd_pos gg, hr0, ris_spec hB, ho, Option.bind_some, Bool.not_false, cond_true, h0']
  rw [gd_pos (by omega), Int.toNat_natCast, tw_take, rcopy_ok (by omega)]
  refine tot_some fun _ => ⟨_, rfl, ?_, hlen, .inr ⟨⟨0, 0, 0, false, 0, [], (c :: r).takeWhile (fun c => !isO c)⟩, by simp, by simp only; omega, by simp, lo_nn (by simp), fun t ht => ?_⟩⟩
  · simp [List.takeWhile_cons, ho]
  · obtain ⟨t1, t2, t3⟩ := ht
    obtain ⟨w1, w2⟩ := tw_app' t3 (c :: r)
    have hbt : Bs ((c :: r) ++ t) := fun x hx => by
      rcases List.mem_append.1 hx with h | h
      · exact hb x h
      · exact t1 x h
    rw [op_txt hbt (by rw [List.length_append]; omega) (c := c) (r := r ++ t) rfl ho, w1, w2, tw_drop]
end Go.Vt
