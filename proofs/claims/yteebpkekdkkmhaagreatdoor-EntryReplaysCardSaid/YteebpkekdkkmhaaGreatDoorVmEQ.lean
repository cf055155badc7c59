/- Of the models of EntryAgain: it answers true. No conditions. -/
import Derived.Test.YteebpkekdkkmhaaGreatDoorVmEM
set_option linter.unusedVariables false
set_option linter.unusedSimpArgs false
namespace Go.Vt
def isO (n : Int) : Bool := decide (n ∈ [5, 8, 17, 18, 19, 29, 40, 41, 44, (60 : Int)])
def By (n : Int) : Prop := 0 ≤ n ∧ n < 256
def Bs (l : List Int) : Prop := ∀ n ∈ l, By n
theorem By.fin {n : Int} (h : By n) : ∃ f : Fin 256, (f.val : Int) = n := ⟨⟨n.toNat, by have := h.1; have := h.2; omega⟩, by have := h.1; simp; omega⟩
theorem is_all : ∀ n : Fin 256, m_order_Is (n.val : Int) = some (isO (n.val : Int)) := by decide +kernel
theorem is_spec {n : Int} (h : By n) : m_order_Is n = some (isO n) := by
  obtain ⟨f, rfl⟩ := h.fin; exact is_all f
theorem w64_small {x : Int} (h : -9223372036854775808 ≤ x ∧ x < 9223372036854775808) : w64 x = x := by
  unfold w64 IntKind.wrap; simp only [IntKind.bits, IntKind.signed, Bool.true_and]
  split
  · rename_i h1; simp at h1; omega
  · rename_i h1; simp at h1; omega
theorem wrap8 {x : Int} (h : By x) : IntKind.wrap .u8 x = x := by
  have h1 := h.1; have h2 := h.2
  unfold IntKind.wrap; simp only [IntKind.bits, IntKind.signed, Bool.false_and]
  simp; omega
theorem Bs.drop {l : List Int} (h : Bs l) (n : Nat) : Bs (l.drop n) := fun x hx => h x (List.mem_of_mem_drop hx)
theorem Bs.take {l : List Int} (h : Bs l) (n : Nat) : Bs (l.take n) := fun x hx => h x (List.mem_of_mem_take hx)
theorem rd_nat {l : List Int} {n : Nat} (h : n < l.length) : rd l (n : Int) = l[n] := by
  unfold rd; simp [List.getD_eq_getElem?_getD, h]
/-! ### the scanner -/
theorem take_ok {s : Vorder_scanner} {z : Int} (n : Nat) (hz : z = (n : Int)) (h : n ≤ s.p.length) : m_order_scanner_take s z = some (⟨s.p.drop n, s.code⟩, s.p.take n) := by
  subst hz
  unfold m_order_scanner_take
  have h1 : decide ((s.p.length : Int) < (n : Int)) = false := by simp; omega
  simp only [h1, cond_false, gd]
  rw [if_pos (by omega), if_pos (by omega), if_pos (by omega)]
  simp
theorem clone_ok {l : List Int} (h : l.length ≤ 68719476736) : m_bytes_Clone l = some l := by
  unfold m_bytes_Clone gd; rw [if_pos h]
theorem text_loop {s : Vorder_scanner} (hb : Bs s.p) (hl : s.p.length ≤ 10000000000) : ∀ (k n : Nat), n ≤ s.p.length → s.p.length - n < k →
    order_scanner_text_l2 s k (n : Int) = some ((n + ((s.p.drop n).takeWhile (fun c => !isO c)).length : Nat) : Int)
  | 0, n, _, h => by omega
  | k + 1, n, hn, hk => by
    rw [order_scanner_text_l2.eq_2]
    by_cases hlt : n < s.p.length
    · have h1 : decide ((n : Int) < (s.p.length : Int)) = true := by simp; omega
      have hB : By (s.p[n]) := hb _ (List.getElem_mem hlt)
      simp only [h1, cond_true, gd]
      rw [if_pos (by omega), rd_nat hlt, is_spec hB]
      simp only [Option.bind_some]
      have hd : s.p.drop n = s.p[n] :: s.p.drop (n + 1) := List.drop_eq_getElem_cons hlt
      cases ho : isO s.p[n] with
      | true =>
        rw [hd]
        simp only [List.takeWhile_cons, ho, Bool.not_true, Bool.false_eq_true, if_false, cond_false, List.length_nil, Nat.add_zero]
      | false =>
        have hw : w64 ((n : Int) + 1) = ((n + 1 : Nat) : Int) := by rw [w64_small (by omega)]; omega
        simp only [Bool.not_false, cond_true, hw]
        rw [text_loop hb hl k (n + 1) (by omega) (by omega), hd]
        simp only [List.takeWhile_cons, ho, Bool.not_false, if_true, List.length_cons]
        congr 2; omega
    · have h1 : decide ((n : Int) < (s.p.length : Int)) = false := by simp; omega
      simp only [h1, cond_false, Option.bind_some]
      have : s.p.drop n = [] := List.drop_eq_nil_of_le (by omega)
      simp [this]
theorem tw_len (f : Int → Bool) : ∀ l : List Int, (l.takeWhile f).length ≤ l.length
  | [] => by simp
  | x :: r => by
    rw [List.takeWhile_cons]; split
    · have := tw_len f r; simp; omega
    · simp
theorem tw_take (f : Int → Bool) : ∀ l : List Int, l.take (l.takeWhile f).length = l.takeWhile f
  | [] => by simp
  | x :: r => by
    rw [List.takeWhile_cons]; split
    · simp [tw_take f r]
    · simp
theorem tw_drop (f : Int → Bool) : ∀ l : List Int, l.drop (l.takeWhile f).length = l.dropWhile f
  | [] => by simp
  | x :: r => by
    rw [List.takeWhile_cons, List.dropWhile_cons]; split
    · simp [tw_drop f r]
    · simp
theorem text_spec {s : Vorder_scanner} (hb : Bs s.p) (hl : s.p.length ≤ 10000000000) : m_order_scanner_text s = some (⟨s.p.dropWhile (fun c => !isO c), s.code⟩, s.p.takeWhile (fun c => !isO c)) := by
  unfold m_order_scanner_text
  have h0 := text_loop hb hl fuel 0 (by omega) (by unfold fuel; omega)
  simp only [Int.natCast_zero, List.drop_zero, Nat.zero_add] at h0
  have h0' : order_scanner_text_l2 s fuel 0 = some ((s.p.takeWhile (fun c => !isO c)).length : Int) := h0
  rw [h0']
  have hle := tw_len (fun c => !isO c) s.p
  simp only [Option.bind_some]
  rw [take_ok _ rfl hle]
  simp only [Option.bind_some, tw_take, tw_drop]
  rw [clone_ok (by omega)]
  rfl
/-- on the way: what is left, and that the error stays -/
structure Adv (s s' : Vorder_scanner) : Prop where
  bs : Bs s'.p
  le : s'.p.length ≤ s.p.length
  ok : s'.code = 0 → s.code = 0 ∧ ∃ n, n ≤ s.p.length ∧ s'.p = s.p.drop n
theorem Adv.refl {s : Vorder_scanner} (h : Bs s.p) : Adv s s := ⟨h, Nat.le_refl _, fun e => ⟨e, 0, by omega, by simp⟩⟩
theorem Adv.trans {a b c : Vorder_scanner} (h : Adv a b) (k : Adv b c) : Adv a c := ⟨k.bs, Nat.le_trans k.le h.le, fun e => by
  obtain ⟨e1, n, hn, h1⟩ := k.ok e
  obtain ⟨e2, m, hm, h2⟩ := h.ok e1
  refine ⟨e2, m + n, ?_, by rw [h1, h2, List.drop_drop]⟩
  rw [h2] at hn; simp at hn; omega⟩
theorem Adv.fail {s s' : Vorder_scanner} (h : Adv s s') {e : Int} (he : e ≠ 0) : Adv s ⟨s'.p, if s'.code = 0 then e else s'.code⟩ := ⟨h.bs, h.le, fun x => by
  by_cases h0 : s'.code = 0
  · simp [h0] at x; exact absurd x he
  · simp [h0] at x⟩
theorem decode_pre (x y : Int) (r : List Int) : m_addr_Decode 12 (x :: y :: r) = m_addr_Decode 12 [x, y] := by
  have r0 : rd (x :: y :: r) 0 = x := rfl
  have r1 : rd (x :: y :: r) 1 = y := rfl
  have q0 : rd [x, y] 0 = x := rfl
  have q1 : rd [x, y] 1 = y := rfl
  have l1 : decide (((x :: y :: r).length : Int) < 2) = false := by simp; omega
  have l2 : decide ((([x, y] : List Int).length : Int) < 2) = false := by simp
  have g0 : (0 : Int) ≤ 0 ∧ (0 : Int) < ((x :: y :: r).length : Int) := by simp; omega
  have g1 : (0 : Int) ≤ 1 ∧ (1 : Int) < ((x :: y :: r).length : Int) := by simp; omega
  have k0 : (0 : Int) ≤ 0 ∧ (0 : Int) < (([x, y] : List Int).length : Int) := by simp
  have k1 : (0 : Int) ≤ 1 ∧ (1 : Int) < (([x, y] : List Int).length : Int) := by simp
  unfold m_addr_Decode gd
  simp only [r0, r1, q0, q1, l1, l2, if_pos g0, if_pos g1, if_pos k0, if_pos k1]
theorem two {l : List Int} (h : l.length = 2) : ∃ a b, l = [a, b] := by
  match l, h with
  | [a, b], _ => exact ⟨a, b, rfl⟩
theorem one {l : List Int} (h : l.length = 1) : ∃ a, l = [a] := by
  match l, h with
  | [a], _ => exact ⟨a, rfl⟩
theorem check_tot (x : Vattr_Pair) : ∃ r, m_attr_Pair_Check x = some r := by
  unfold m_attr_Pair_Check
  simp only [Bool.cond_eq_ite]
  repeat' split
  all_goals first
    | exact ⟨_, rfl⟩
    | (simp; done)
    | (simp; split <;> exact ⟨_, rfl⟩)
end Go.Vt
