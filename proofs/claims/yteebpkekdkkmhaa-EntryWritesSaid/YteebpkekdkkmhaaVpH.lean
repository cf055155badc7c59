/- Fields of the document's screen: attributes, starts, places. No conditions. -/
import Derived.Test.YteebpkekdkkmhaaVpS
set_option linter.unusedVariables false
set_option linter.unusedSimpArgs false
set_option maxRecDepth 100000
namespace Go.Vt
theorem rot_get {L : List Vapi_Cell} {j i : Nat} (hj : j < L.length) (hi : i < L.length) : (rot L j)[i]? = L[(j + i) % L.length]? := by
  unfold rot
  by_cases h : j + i < L.length
  · rw [List.getElem?_append_left (by simp; omega), List.getElem?_drop, Nat.mod_eq_of_lt h]
  · rw [List.getElem?_append_right (by simp; omega), List.length_drop, List.getElem?_take, if_pos (by omega)]
    have : (j + i) % L.length = i - (L.length - j) := by
      rw [Nat.mod_eq_sub_mod (by omega), Nat.mod_eq_of_lt (by omega)]; omega
    rw [this]
theorem rot_len {L : List Vapi_Cell} {j : Nat} (hj : j < L.length) : (rot L j).length = L.length := by unfold rot; simp; omega
theorem tw_get {α : Type} (p : α → Bool) : ∀ (l : List α) (i : Nat), i < (l.takeWhile p).length → ∃ x, l[i]? = some x ∧ (l.takeWhile p)[i]? = some x ∧ p x = true
  | [], i, h => by simp at h
  | y :: l, i, h => by
    rw [List.takeWhile_cons] at h ⊢
    split at h
    · rename_i hy
      cases i with
      | zero => exact ⟨y, rfl, by simp [hy], hy⟩
      | succ i =>
        obtain ⟨x, h1, h2, h3⟩ := tw_get p l i (by simpa using h)
        exact ⟨x, h1, by simp [hy, h2], h3⟩
    · simp at h
theorem tw_end {α : Type} (p : α → Bool) : ∀ (l : List α), (l.takeWhile p).length < l.length → ∃ x, l[(l.takeWhile p).length]? = some x ∧ p x = false
  | [], h => by simp at h
  | y :: l, h => by
    rw [List.takeWhile_cons] at h ⊢
    cases hy : p y with
    | true =>
      simp only [hy, if_true, List.length_cons] at h ⊢
      obtain ⟨x, h1, h2⟩ := tw_end p l (by omega)
      exact ⟨x, by simpa using h1, h2⟩
    | false => exact ⟨y, by simp, hy⟩
/-- the run behind a place, by places -/
theorem run_get {L : List Vapi_Cell} {j i : Nat} (hj : j < L.length) (hi : i < (run L j).length) : ∃ c, L[(j + i) % L.length]? = some c ∧ (run L j)[i]? = some c ∧ c.Attr = false := by
  have hlen : i < L.length := Nat.lt_of_lt_of_le hi (run_len L j)
  obtain ⟨x, h1, h2, h3⟩ := tw_get (fun c : Vapi_Cell => !c.Attr) (rot L j) i hi
  rw [rot_get hj hlen] at h1
  exact ⟨x, h1, h2, by simpa using h3⟩
theorem run_end {L : List Vapi_Cell} {j : Nat} (hj : j < L.length) (hi : (run L j).length < L.length) : ∃ c, L[(j + (run L j).length) % L.length]? = some c ∧ c.Attr = true := by
  obtain ⟨x, h1, h2⟩ := tw_end (fun c : Vapi_Cell => !c.Attr) (rot L j) (by rw [rot_len hj]; exact hi)
  have h1' : (rot L j)[(run L j).length]? = some x := h1
  rw [rot_get hj hi] at h1'
  exact ⟨x, h1', by simpa using h2⟩
/-- behind an attribute the run doesn't come round -/
theorem run_lt {L : List Vapi_Cell} {a : Nat} (ha : a < L.length) (hat : L[a].Attr = true) : (run L ((a + 1) % L.length)).length < L.length := by
  have hj : (a + 1) % L.length < L.length := Nat.mod_lt _ (by omega)
  rcases Nat.lt_or_ge (run L ((a + 1) % L.length)).length L.length with h | h
  · exact h
  · exfalso
    obtain ⟨c, h1, _, h3⟩ := run_get (i := L.length - 1) hj (by omega)
    have : ((a + 1) % L.length + (L.length - 1)) % L.length = a := by
      by_cases h2 : a + 1 < L.length
      · rw [Nat.mod_eq_of_lt h2, show a + 1 + (L.length - 1) = a + L.length by omega, Nat.add_mod_right, Nat.mod_eq_of_lt ha]
      · have : a + 1 = L.length := by omega
        rw [this, Nat.mod_self, Nat.zero_add, Nat.mod_eq_of_lt (by omega)]; omega
    rw [this, List.getElem?_eq_getElem ha] at h1
    cases h1
    rw [hat] at h3; cases h3
/-! ### the places of attributes -/
def isA' (L : List Vapi_Cell) (i : Nat) : Bool := (rd L (i : Int)).Attr
def attrsN (L : List Vapi_Cell) (n : Nat) : List Nat := (List.range n).filter (isA' L)
theorem attrsN_succ (L : List Vapi_Cell) (n : Nat) : attrsN L (n + 1) = attrsN L n ++ (if isA' L n then [n] else []) := by
  unfold attrsN; rw [List.range_succ, List.filter_append]
  cases h : isA' L n <;> simp [List.filter_cons, h]
theorem attrsN_len (L : List Vapi_Cell) (n : Nat) : (attrsN L n).length ≤ n := by
  unfold attrsN; have := List.length_filter_le (isA' L) (List.range n); simpa using this
theorem attrs_ok {m : Int} {N : Nat} {x : Vvitrineref12_Space} (h : RS m N x) : m_vitrineref12_Attrs x = some ((attrsN x.L N).map (fun i : Nat => (i : Int))) := by
  have hle := h.dim.dim.le
  have hl := h.len
  have key := loop_rel0 (L := vitrineref12_Attrs_l2 x) (n := N) (s := ([] : List Int)) (fun i y => y = (attrsN x.L i).map (fun i : Nat => (i : Int))) (fun r => r = (attrsN x.L N).map (fun i : Nat => (i : Int))) (by omega) ?_ ?_ rfl
  · obtain ⟨r, h1, h2⟩ := key
    unfold m_vitrineref12_Attrs; rw [h1, h2]; rfl
  · rintro k i y hi rfl
    have d1 : decide ((i : Int) < (x.L.length : Int)) = true := decide_eq_true (by omega)
    have hlen := attrsN_len x.L i
    rw [vitrineref12_Attrs_l2.eq_2]
    simp only [d1, cond_true]
    rw [gd_pos (by omega), w64_succ (by omega), attrsN_succ]
    have hA : (rd x.L (i : Int)).Attr = isA' x.L i := rfl
    rw [hA]
    cases isA' x.L i with
    | true => simp only [cond_true]; rw [gd_pos (by simp; omega)]; exact ⟨_, rfl, by simp⟩
    | false => simp only [cond_false, Option.bind_some]; exact ⟨_, rfl, by simp⟩
  · rintro k y rfl
    have d1 : decide ((N : Int) < (x.L.length : Int)) = false := decide_eq_false (by omega)
    rw [vitrineref12_Attrs_l2.eq_2]
    simp only [d1, cond_false]
    exact ⟨_, rfl, rfl⟩
theorem attrsN_mem {L : List Vapi_Cell} {n a : Nat} : a ∈ attrsN L n ↔ a < n ∧ isA' L a = true := by unfold attrsN; simp
theorem cnt_attrs : ∀ (L : List Vapi_Cell), cnt L = ((attrsN L L.length).length : Int) := by
  intro L
  have key : ∀ n, n ≤ L.length → cnt (L.take n) = ((attrsN L n).length : Int) := by
    intro n
    induction n with
    | zero => intro _; simp [cnt, attrsN]
    | succ n ih =>
      intro h
      have hlt : n < L.length := by omega
      rw [List.take_succ_eq_append_getElem hlt, cnt_app, ih (by omega), attrsN_succ]
      have hA : isA' L n = L[n].Attr := by unfold isA'; rw [rdn hlt]
      rw [hA, cnt_cons]
      have h0 : cnt [] = 0 := rfl
      unfold c1
      cases L[n].Attr <;> simp [h0]
  have := key L.length (Nat.le_refl _)
  rwa [List.take_of_length_le (Nat.le_refl _)] at this
/-! ### the place of a place's attribute -/
def stF (L : List Vapi_Cell) (l0 : Int) : Nat → Int
  | 0 => if isA' L 0 then 0 else l0
  | n + 1 => if isA' L (n + 1) then ((n + 1 : Nat) : Int) else stF L l0 n
theorem stF_attr {L : List Vapi_Cell} {l0 : Int} {n : Nat} (h : isA' L n = true) : stF L l0 n = (n : Int) := by
  cases n with
  | zero => simp [stF, h]
  | succ n => simp [stF, h]
theorem stF_last {L : List Vapi_Cell} (l0 : Int) : ∀ n, (∃ a, a < n + 1 ∧ isA' L a = true) → (attrsN L (n + 1)).getLast? = some (stF L l0 n).toNat ∧ 0 ≤ stF L l0 n
  | 0, ⟨a, h1, h2⟩ => by
    have : a = 0 := by omega
    subst this
    rw [attrsN_succ, h2]
    simp [stF, h2]
  | n + 1, ⟨a, h1, h2⟩ => by
    rw [attrsN_succ]
    cases hA : isA' L (n + 1) with
    | true => simp [stF, hA]; omega
    | false =>
      have : a < n + 1 := by
        rcases Nat.lt_or_ge a (n + 1) with h | h
        · exact h
        · have : a = n + 1 := by omega
          subst this; rw [hA] at h2; cases h2
      obtain ⟨g1, g2⟩ := stF_last l0 n ⟨a, this, h2⟩
      simp only [Bool.false_eq_true, if_false, List.append_nil, stF, hA]
      exact ⟨g1, g2⟩
def startsL (L : List Vapi_Cell) (l0 : Int) (N : Nat) : List Int := (List.range N).map (stF L l0)
theorem starts_ok {m : Int} {N : Nat} {x : Vvitrineref12_Space} (h : RS m N x) : ∃ l0, m_vitrineref13_Starts x = some (startsL x.L l0 N) ∧ ((∃ a, a < N ∧ isA' x.L a = true) → l0 = stF x.L l0 (N - 1)) ∧ ((∀ a, a < N → isA' x.L a = false) → l0 = -1) := by
  have hle := h.dim.dim.le
  have hl := h.len
  have hal := attrsN_len x.L N
  -- the last one's place
  obtain ⟨l0, hl0, hcyc, hno⟩ : ∃ l0, ((cond (decide ((((attrsN x.L N).map (fun i : Nat => (i : Int))).length : Int) > 0)) (gd ((0 : Int) ≤ (w64 ((((attrsN x.L N).map (fun i : Nat => (i : Int))).length : Int) - 1)) ∧ (w64 ((((attrsN x.L N).map (fun i : Nat => (i : Int))).length : Int) - 1)) < (((attrsN x.L N).map (fun i : Nat => (i : Int))).length : Int)) <| some (rd ((attrsN x.L N).map (fun i : Nat => (i : Int))) (w64 ((((attrsN x.L N).map (fun i : Nat => (i : Int))).length : Int) - 1)))) (some (-1))) : Option Int) = some l0 ∧ ((∃ a, a < N ∧ isA' x.L a = true) → l0 = stF x.L l0 (N - 1)) ∧ ((∀ a, a < N → isA' x.L a = false) → l0 = -1) := by
    by_cases hz : (attrsN x.L N).length = 0
    · have d1 : decide ((((attrsN x.L N).map (fun i : Nat => (i : Int))).length : Int) > 0) = false := decide_eq_false (by simp only [List.length_map]; omega)
      rw [d1]
      refine ⟨-1, rfl, fun ⟨a, h1, h2⟩ => ?_, fun _ => rfl⟩
      have := attrsN_mem.2 ⟨h1, h2⟩
      rw [List.length_eq_zero_iff.1 hz] at this; cases this
    · have d1 : decide ((((attrsN x.L N).map (fun i : Nat => (i : Int))).length : Int) > 0) = true := decide_eq_true (by simp only [List.length_map]; omega)
      rw [d1]
      have hw : w64 ((((attrsN x.L N).map (fun i : Nat => (i : Int))).length : Int) - 1) = (((attrsN x.L N).length - 1 : Nat) : Int) := by
        rw [List.length_map, w64_in (by omega) (by omega)]; omega
      simp only [cond_true]
      rw [hw, gd_pos (by rw [List.length_map]; omega), rdn (by rw [List.length_map]; omega)]
      have hlast : (attrsN x.L N).getLast? = some ((attrsN x.L N)[(attrsN x.L N).length - 1]'(by omega)) := by
        rw [List.getLast?_eq_getElem?]; simp [show (attrsN x.L N).length - 1 < (attrsN x.L N).length by omega]
      refine ⟨_, rfl, fun ⟨a, h1, h2⟩ => ?_, fun hn => ?_⟩
      · obtain ⟨g1, g2⟩ := stF_last (L := x.L) ((attrsN x.L N)[(attrsN x.L N).length - 1]'(by omega) : Int) (N - 1) ⟨a, by omega, h2⟩
        rw [show N - 1 + 1 = N by omega, hlast] at g1
        have g3 := Option.some.inj g1
        simp only [List.getElem_map]
        omega
      · have hm := List.getElem_mem (l := attrsN x.L N) (n := (attrsN x.L N).length - 1) (by omega)
        obtain ⟨h1, h2⟩ := attrsN_mem.1 hm
        rw [hn _ h1] at h2; cases h2
  refine ⟨l0, ?_, hcyc, hno⟩
  unfold m_vitrineref13_Starts
  simp only [attrs_ok h, Option.bind_some]
  rw [gd_pos (by omega)]
  simp only [hl0, Option.bind_some]
  have key := loop_rel0 (L := vitrineref13_Starts_l4 x) (n := N) (s := (l0, List.replicate (Int.toNat (x.L.length : Int)) 0)) (fun i y => y.1 = (if i = 0 then l0 else stF x.L l0 (i - 1)) ∧ y.2 = startsL x.L l0 i ++ List.replicate (N - i) 0)
    (fun r => r = startsL x.L l0 N) (by omega) ?_ ?_ ⟨rfl, by simp [startsL, hl]⟩
  · obtain ⟨r, h1, h2⟩ := key; rw [h1, h2]; rfl
  · rintro k i ⟨u, y⟩ hi ⟨hu, hy⟩
    simp only at hu hy
    subst hy
    have d1 : decide ((i : Int) < (x.L.length : Int)) = true := decide_eq_true (by omega)
    have hA : (rd x.L (i : Int)).Attr = isA' x.L i := rfl
    have hslen : (startsL x.L l0 i).length = i := by simp [startsL]
    rw [vitrineref13_Starts_l4.eq_2]
    simp only [d1, cond_true]
    rw [gd_pos (by omega), w64_succ (by omega), hA]
    have hv : (cond (isA' x.L i) (some (i : Int)) (some u) : Option Int) = some (stF x.L l0 i) := by
      cases hA2 : isA' x.L i with
      | true => rw [stF_attr hA2]; rfl
      | false =>
        rw [hu]
        cases i with
        | zero => simp [stF, hA2]
        | succ i => simp [stF, hA2]
    rw [hv]
    simp only [Option.bind_some]
    rw [gd_pos (by simp [hslen]; omega)]
    refine ⟨_, rfl, by simp, ?_⟩
    simp only
    rw [Int.toNat_natCast, List.set_append_right _ _ (by omega), hslen, Nat.sub_self, show N - i = (N - (i + 1)) + 1 by omega, List.replicate_succ, List.set_cons_zero]
    have : startsL x.L l0 (i + 1) = startsL x.L l0 i ++ [stF x.L l0 i] := by unfold startsL; rw [List.range_succ, List.map_append]; rfl
    rw [this]; simp only [List.append_assoc, List.cons_append, List.nil_append]
  · rintro k ⟨u, y⟩ ⟨hu, hy⟩
    simp only at hu hy
    subst hy
    have d1 : decide ((N : Int) < (x.L.length : Int)) = false := decide_eq_false (by omega)
    rw [vitrineref13_Starts_l4.eq_2]
    simp only [d1, cond_false]
    exact ⟨_, rfl, by simp⟩
/-- round: a place without an attribute has the one of the place ahead -/
theorem stF_prev {L : List Vapi_Cell} {l0 : Int} {N n : Nat} (hc : l0 = stF L l0 (N - 1)) (hn : n < N) (h : isA' L ((n + 1) % N) = false) : stF L l0 ((n + 1) % N) = stF L l0 n := by
  by_cases h1 : n + 1 < N
  · rw [Nat.mod_eq_of_lt h1] at h ⊢; simp [stF, h]
  · have : n + 1 = N := by omega
    rw [this, Nat.mod_self] at h ⊢
    have e : n = N - 1 := by omega
    rw [e, ← hc]; simp [stF, h]
theorem stF_run {L : List Vapi_Cell} {l0 : Int} {N a : Nat} (hN : L.length = N) (hc : l0 = stF L l0 (N - 1)) (ha : a < N) (hat : isA' L a = true) : ∀ i, i ≤ (run L ((a + 1) % N)).length → stF L l0 ((a + i) % N) = (a : Int)
  | 0, _ => by rw [Nat.add_zero, Nat.mod_eq_of_lt ha]; exact stF_attr hat
  | i + 1, hi => by
    have ih := stF_run hN hc ha hat i (by omega)
    have hj : (a + 1) % N < L.length := by rw [hN]; exact Nat.mod_lt _ (by omega)
    obtain ⟨c, h1, _, h3⟩ := run_get (L := L) (j := (a + 1) % N) (i := i) hj (by omega)
    rw [hN] at h1
    have e1 : ((a + 1) % N + i) % N = ((a + i) % N + 1) % N := by simp only [Nat.mod_add_mod]; congr 1; omega
    have e2 : (a + (i + 1)) % N = ((a + i) % N + 1) % N := by simp only [Nat.mod_add_mod]; rfl
    rw [e1] at h1
    have hm : ((a + i) % N + 1) % N < N := Nat.mod_lt _ (by omega)
    have hna : isA' L (((a + i) % N + 1) % N) = false := by
      unfold isA'; rw [rdn (by omega)]
      rw [List.getElem?_eq_getElem (by omega)] at h1
      cases h1; exact h3
    rw [e2, stF_prev hc (Nat.mod_lt _ (by omega)) hna]; exact ih
/-- the places of a field -/
def posL (L : List Vapi_Cell) (N a : Nat) : List Int := (List.range (run L ((a + 1) % N)).length).map fun i => (((a + (i + 1)) % N : Nat) : Int)
theorem places_ok {m : Int} {N : Nat} {x : Vvitrineref12_Space} (h : RS m N x) {a : Nat} (ha : a < N) (hat : isA' x.L a = true) : m_vitrineref13_Places x (a : Int) = some (posL x.L N a) := by
  have hle := h.dim.dim.le
  have hl := h.len
  obtain ⟨l0, hs, hcyc, _⟩ := starts_ok h
  have hc := hcyc ⟨a, ha, hat⟩
  have ham : (a : Int) % (N : Int) = (a : Int) := Int.emod_eq_of_lt (by omega) (by omega)
  have hA : (rd x.L (a : Int)).Attr = true := hat
  have hrl := run_lt (L := x.L) (a := a) (by omega) (by have := hat; unfold isA' at this; rwa [rdn (by omega)] at this)
  rw [hl] at hrl
  unfold m_vitrineref13_Places
  simp only [rs_wrap h, ham, Option.bind_some]
  rw [gd_pos (by omega)]
  simp only [hA, Bool.not_true, cond_false, hs, Option.bind_some]
  have slen : (startsL x.L l0 N).length = N := by simp [startsL]
  have sget : ∀ n, n < N → rd (startsL x.L l0 N) (n : Int) = stF x.L l0 n := fun n hn => by rw [rdn (by omega)]; simp [startsL]
  have posS : ∀ i, (List.range (i + 1)).map (fun i => (((a + (i + 1)) % N : Nat) : Int)) = (List.range i).map (fun i => (((a + (i + 1)) % N : Nat) : Int)) ++ [(((a + (i + 1)) % N : Nat) : Int)] := fun i => by rw [List.range_succ, List.map_append]; rfl
  have loop : ∀ (k i : Nat), i ≤ (run x.L ((a + 1) % N)).length → (run x.L ((a + 1) % N)).length - i < k →
      vitrineref13_Places_l5 x (a : Int) (startsL x.L l0 N) k (((i + 1 : Nat) : Int), (List.range i).map (fun i => (((a + (i + 1)) % N : Nat) : Int))) = some (posL x.L N a) := by
    intro k
    induction k with
    | zero => intro i _ h; omega
    | succ k ih =>
      intro i hi hk
      rw [vitrineref13_Places_l5.eq_2]
      by_cases hlt : i + 1 < N
      · have d1 : decide (((i + 1 : Nat) : Int) < (x.L.length : Int)) = true := decide_eq_true (by omega)
        have hw : w64 ((a : Int) + ((i + 1 : Nat) : Int)) = ((a + (i + 1) : Nat) : Int) := by rw [w64_in (by omega) (by omega)]; omega
        have hpos : ((a + (i + 1) : Nat) : Int) % (N : Int) = (((a + (i + 1)) % N : Nat) : Int) := rfl
        have hpl : (a + (i + 1)) % N < N := Nat.mod_lt _ (by omega)
        simp only [d1, cond_true, hw]
        rw [hl, mod_ok (by omega) (by omega)]
        simp only [Option.bind_some, hpos]
        rw [gd_pos (by rw [slen]; omega), sget _ hpl]
        by_cases hr : i < (run x.L ((a + 1) % N)).length
        · have hS := stF_run hl hc ha hat (i + 1) (by omega)
          rw [hS]
          simp only [bne_f rfl, cond_false]
          rw [gd_pos (by simp; omega), w64_succ (by omega), ← posS]
          exact ih (i + 1) (by omega) (by omega)
        · have hri : i = (run x.L ((a + 1) % N)).length := by omega
          have hj : (a + 1) % N < x.L.length := by rw [hl]; exact Nat.mod_lt _ (by omega)
          obtain ⟨c, h1, h2⟩ := run_end (L := x.L) (j := (a + 1) % N) hj (by omega)
          rw [← hri, hl] at h1
          have e1 : ((a + 1) % N + i) % N = (a + (i + 1)) % N := by rw [Nat.mod_add_mod]; congr 1; omega
          rw [e1, List.getElem?_eq_getElem (by omega)] at h1
          have hna : isA' x.L ((a + (i + 1)) % N) = true := by unfold isA'; rw [rdn (by omega)]; cases h1; exact h2
          rw [stF_attr hna]
          have hne : (((a + (i + 1)) % N : Nat) : Int) ≠ (a : Int) := by
            intro e
            have e : (a + (i + 1)) % N = a := by omega
            by_cases h3 : a + (i + 1) < N
            · rw [Nat.mod_eq_of_lt h3] at e; omega
            · rw [Nat.mod_eq_sub_mod (by omega), Nat.mod_eq_of_lt (by omega)] at e; omega
          simp only [bne_t hne, cond_true]
          rw [posL, ← hri]
      · have d1 : decide (((i + 1 : Nat) : Int) < (x.L.length : Int)) = false := decide_eq_false (by omega)
        simp only [d1, cond_false]
        rw [posL, show i = (run x.L ((a + 1) % N)).length by omega]
  have := loop fuel 0 (by omega) (by unfold fuel; omega)
  simp only [List.range_zero, List.map_nil, Nat.zero_add] at this
  have h1 : vitrineref13_Places_l5 x (a : Int) (startsL x.L l0 N) fuel (1, []) = some (posL x.L N a) := this
  rw [h1]; rfl
end Go.Vt
