/- Of the models of EntryAgain: addresses as bytes, and back. No conditions. -/
import Derived.Test.YteebpkekdkkmhaaVmCS
set_option linter.unusedVariables false
set_option linter.unusedSimpArgs false
set_option maxRecDepth 100000
namespace Go.Vt
def chk64 (n : Int) : Bool := match m_addr_Six n with
  | some x => decide (0 ≤ x) && decide (x < 256) && decide (m_addr_Unsix x = some n) && !(ishr .u8 x 6 == 0) && !(ishr .u8 x 6 == 2) && decide (iband .i64 n 63 = n)
  | none => false
theorem chk64_all : ∀ f : Fin 64, chk64 (f.val : Int) = true := by decide +kernel
def chkA (n : Nat) : Bool := decide (iband .i64 (n : Int) 63 = ((n % 64 : Nat) : Int)) && decide (ishr .i64 (n : Int) 6 = ((n / 64 : Nat) : Int)) && decide (ibor .i64 (ishl .i64 ((n / 64 : Nat) : Int) 6) ((n % 64 : Nat) : Int) = (n : Int))
theorem chkA_all : ∀ f : Fin 4096, chkA f.val = true := by decide +kernel
structure Enc (n x y : Int) : Prop where
  enc : m_addr_Encode 12 n = some ([x, y], 0)
  bx : By x
  by_ : By y
  dec : m_addr_Decode 12 [x, y] = some (n, 0)
theorem six_mod {n : Nat} (h : n < 4096) : m_addr_Six (n : Int) = m_addr_Six ((n % 64 : Nat) : Int) := by
  have h1 := chkA_all ⟨n, h⟩
  have h2 := chkA_all ⟨n % 64, by omega⟩
  simp only [chkA, Bool.and_eq_true, decide_eq_true_eq] at h1 h2
  have e1 := h1.1.1
  have e2 := h2.1.1
  rw [Nat.mod_mod] at e2
  unfold m_addr_Six
  rw [e1, e2]
theorem enc_ok {n : Nat} (h : n < 4096) : ∃ x y, Enc (n : Int) x y := by
  have h1 := chkA_all ⟨n, h⟩
  simp only [chkA, Bool.and_eq_true, decide_eq_true_eq] at h1
  obtain ⟨⟨e1, e2⟩, e3⟩ := h1
  have g1 := chk64_all ⟨n / 64, by omega⟩
  have g2 := chk64_all ⟨n % 64, by omega⟩
  simp only [chk64] at g1 g2
  cases hx : m_addr_Six ((n / 64 : Nat) : Int) with
  | none => rw [hx] at g1; cases g1
  | some x =>
    cases hy : m_addr_Six ((n % 64 : Nat) : Int) with
    | none => rw [hy] at g2; cases g2
    | some y =>
      rw [hx] at g1
      rw [hy] at g2
      simp only [Bool.and_eq_true, decide_eq_true_eq, Bool.not_eq_true'] at g1 g2
      obtain ⟨⟨⟨⟨⟨a1, a2⟩, a3⟩, a4⟩, a5⟩, _⟩ := g1
      obtain ⟨⟨⟨⟨⟨b1, b2⟩, b3⟩, b4⟩, b5⟩, _⟩ := g2
      refine ⟨x, y, ?_, ⟨a1, a2⟩, ⟨b1, b2⟩, ?_⟩
      · have c1 : decide ((n : Int) < 0) = false := decide_eq_false (by omega)
        have c2 : decide ((n : Int) ≥ ishl .i64 1 12) = false := by
          have : ishl .i64 1 12 = 4096 := by decide
          rw [this]; exact decide_eq_false (by omega)
        unfold m_addr_Encode gd
        simp only [c1, c2, e2, six_mod h, hx, hy]
        rfl
      · have q0 : rd [x, y] 0 = x := rfl
        have q1 : rd [x, y] 1 = y := rfl
        unfold m_addr_Decode gd
        simp only [q0, q1, a3, b3, a4, a5, e3, Option.bind_some]
        rfl
theorem enc_cases (n : Int) : (∃ x y, Enc n x y) ∨ m_addr_Encode 12 n = some ([], 9) := by
  by_cases h : 0 ≤ n ∧ n < 4096
  · left
    obtain ⟨x, y, hE⟩ := enc_ok (n := n.toNat) (by omega)
    refine ⟨x, y, ?_⟩
    rwa [show ((n.toNat : Nat) : Int) = n by omega] at hE
  · right
    unfold m_addr_Encode gd
    by_cases h0 : n < 0
    · have c1 : decide (n < 0) = true := decide_eq_true h0
      simp only [c1]; rfl
    · have c1 : decide (n < 0) = false := decide_eq_false h0
      have c2 : decide (n ≥ ishl .i64 1 12) = true := by
        have : ishl .i64 1 12 = 4096 := by decide
        rw [this]; exact decide_eq_true (by omega)
      simp only [c1, c2]; rfl
/-! ### the bytes of a piece -/
theorem sba_bytes (a : Int) : (∃ x y, Enc a x y ∧ m_order_Op_Bytes ⟨17, a, 0, false, 0, [], []⟩ = some ([17, x, y], 0)) ∨ m_order_Op_Bytes ⟨17, a, 0, false, 0, [], []⟩ = some ([], 9) := by
  have ew : IntKind.wrap .u8 17 = 17 := by decide
  rcases enc_cases a with ⟨x, y, hE⟩ | h9
  · left
    refine ⟨x, y, hE, ?_⟩
    have hp : m_order_place 17 a = some ([17, x, y], 0) := by
      unfold m_order_place gd
      simp only [hE.enc, Option.bind_some]; rfl
    unfold m_order_Op_Bytes
    simp only [ew, hp]; rfl
  · right
    have hp : m_order_place 17 a = some ([], 9) := by
      unfold m_order_place gd
      simp only [h9, Option.bind_some]; rfl
    unfold m_order_Op_Bytes
    simp only [ew, hp]; rfl
theorem index_loop {p : List Int} (ht : Txt p) (hl : p.length ≤ 10000000000) : ∀ (k n : Nat), n ≤ p.length → p.length - n < k → slices_IndexFunc_l2 p k (n : Int) = some (.inl ())
  | 0, n, _, h => by omega
  | k + 1, n, hn, hk => by
    rw [slices_IndexFunc_l2.eq_2]
    by_cases hlt : n < p.length
    · have d1 : decide ((n : Int) < (p.length : Int)) = true := decide_eq_true (by omega)
      have hT := ht p[n] (List.getElem_mem hlt)
      have ew : w64 ((n : Int) + 1) = ((n + 1 : Nat) : Int) := by rw [w64_small (by omega)]; omega
      simp only [d1, cond_true, gd]
      rw [if_pos (by omega), rd_nat hlt, is_spec hT.1]
      simp only [Option.bind_some, hT.2, cond_false, ew]
      exact index_loop ht hl k (n + 1) (by omega) (by omega)
    · have d1 : decide ((n : Int) < (p.length : Int)) = false := decide_eq_false (by omega)
      simp only [d1, cond_false]
theorem text_bytes {t : List Int} (ht : Txt t) (hl : t.length ≤ 10000000000) (h0 : 0 < t.length) : m_order_Op_Bytes ⟨0, 0, 0, false, 0, [], t⟩ = some (t, 0) := by
  have hc : m_slices_ContainsFunc t = some false := by
    unfold m_slices_ContainsFunc m_slices_IndexFunc
    have := index_loop ht hl fuel 0 (by omega) (by unfold fuel; omega)
    have h1 : slices_IndexFunc_l2 t fuel 0 = some (.inl ()) := this
    rw [h1]; rfl
  have d0 : ((t.length : Int) == 0) = false := beq_eq_false_iff_ne.2 (by omega)
  unfold m_order_Op_Bytes
  simp only [d0, hc, clone_ok (show t.length ≤ 68719476736 by omega)]
  rfl
theorem bytes_loop {l : List Vorder_Op} {f : Vorder_Op → List Int × Int} (hl : l.length ≤ 10) (hf : ∀ o ∈ l, m_order_Op_Bytes o = some (f o)) (hb : ∀ o ∈ l, (f o).1.length ≤ 1000000000) : ∀ (k n : Nat) (acc : List Int), n ≤ l.length → l.length - n < k → acc.length ≤ n * 1000000000 →
    order_Bytes_l2 l k ((n : Int), acc) = (match (l.drop n).find? (fun o => (f o).2 != 0) with
      | some o => some (.inr ([], (f o).2))
      | none => some (.inl (acc ++ (l.drop n).flatMap fun o => (f o).1)))
  | 0, n, acc, _, h, _ => by omega
  | k + 1, n, acc, hn, hk, ha => by
    rw [order_Bytes_l2.eq_2]
    by_cases hlt : n < l.length
    · have d1 : decide ((n : Int) < (l.length : Int)) = true := decide_eq_true (by omega)
      have hr : rd l (n : Int) = l[n] := by unfold rd; simp [List.getD_eq_getElem?_getD, hlt]
      have hdr : l.drop n = l[n] :: l.drop (n + 1) := List.drop_eq_getElem_cons hlt
      have hm := List.getElem_mem hlt
      have ew : w64 ((n : Int) + 1) = ((n + 1 : Nat) : Int) := by rw [w64_small (by omega)]; omega
      have hb1 := hb _ hm
      simp only [d1, cond_true, gd, hr, hf _ hm, Option.bind_some]
      rw [if_pos (by omega), hdr]
      cases hc : ((f l[n]).2 != 0) with
      | true => simp only [cond_true, List.find?_cons, hc]; rfl
      | false =>
        simp only [cond_false, List.find?_cons, hc]
        rw [if_pos (by omega), ew, bytes_loop hl hf hb k (n + 1) _ (by omega) (by omega) (by simp; omega)]
        cases hq : (l.drop (n + 1)).find? (fun o => (f o).2 != 0) with
        | none => simp only [List.append_assoc, List.flatMap_cons]
        | some q => rfl
    · have d1 : decide ((n : Int) < (l.length : Int)) = false := decide_eq_false (by omega)
      have : l.drop n = [] := List.drop_eq_nil_of_le (by omega)
      simp only [d1, cond_false, this]
      simp
end Go.Vt
