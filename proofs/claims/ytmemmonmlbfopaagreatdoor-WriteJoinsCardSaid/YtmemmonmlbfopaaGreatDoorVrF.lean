/- Places of attributes on the document's screen; loops that may end early. No conditions. -/
import Derived.Test.YtmemmonmlbfopaaGreatDoorVrE
set_option linter.unusedVariables false
set_option linter.unusedSimpArgs false
set_option maxRecDepth 100000
namespace Go.Vt
/-! ### the places of attributes -/
def isA' (L : List Vapi_Cell) (i : Nat) : Bool := (rd L (i : Int)).Attr
def attrsN (L : List Vapi_Cell) (n : Nat) : List Nat := (List.range n).filter (isA' L)
theorem attrsN_succ (L : List Vapi_Cell) (n : Nat) : attrsN L (n + 1) = attrsN L n ++ (if isA' L n then [n] else []) := by
  unfold attrsN; rw [List.range_succ, List.filter_append]
  cases h : isA' L n <;> simp [List.filter_cons, h]
theorem attrsN_len (L : List Vapi_Cell) (n : Nat) : (attrsN L n).length ≤ n := by
  unfold attrsN; have := List.length_filter_le (isA' L) (List.range n); simpa using this
theorem attrsN_mem {L : List Vapi_Cell} {n a : Nat} : a ∈ attrsN L n ↔ a < n ∧ isA' L a = true := by unfold attrsN; simp
theorem cnt_attrs : ∀ (L : List Vapi_Cell), cnt L = ((attrsN L L.length).length : Int) := by
  intro L
  have key : ∀ n, n ≤ L.length → cnt (L.take n) = ((attrsN L n).length : Int) := by
    intro n
    induction n with
    | zero => intro _; simp [cnt, attrsN]
    | succ n ih =>
      intro h
      have hlt : n < L.length := by omega
      rw [List.take_succ_eq_append_getElem hlt, cnt_app, ih (by omega), attrsN_succ]
      have hA : isA' L n = L[n].Attr := by unfold isA'; rw [rdn hlt]
      rw [hA, cnt_cons]
      have h0 : cnt [] = 0 := rfl
      unfold c1
      cases L[n].Attr <;> simp [h0]
  have := key L.length (Nat.le_refl _)
  rwa [List.take_of_length_le (Nat.le_refl _)] at this
/-! ### the place of a place's attribute -/
def stF (L : List Vapi_Cell) (l0 : Int) : Nat → Int
  | 0 => if isA' L 0 then 0 else l0
  | n + 1 => if isA' L (n + 1) then ((n + 1 : Nat) : Int) else stF L l0 n
theorem stF_attr {L : List Vapi_Cell} {l0 : Int} {n : Nat} (h : isA' L n = true) : stF L l0 n = (n : Int) := by
  cases n with
  | zero => simp [stF, h]
  | succ n => simp [stF, h]
theorem stF_last {L : List Vapi_Cell} (l0 : Int) : ∀ n, (∃ a, a < n + 1 ∧ isA' L a = true) → (attrsN L (n + 1)).getLast? = some (stF L l0 n).toNat ∧ 0 ≤ stF L l0 n
  | 0, ⟨a, h1, h2⟩ => by
    have : a = 0 := by omega
    subst this
    rw [attrsN_succ, h2]
    simp [stF, h2]
  | n + 1, ⟨a, h1, h2⟩ => by
    rw [attrsN_succ]
    cases hA : isA' L (n + 1) with
    | true => simp [stF, hA]; omega
    | false =>
      have : a < n + 1 := by
        rcases Nat.lt_or_ge a (n + 1) with h | h
        · exact h
        · have : a = n + 1 := by omega
          subst this; rw [hA] at h2; cases h2
      obtain ⟨g1, g2⟩ := stF_last l0 n ⟨a, this, h2⟩
      simp only [Bool.false_eq_true, if_false, List.append_nil, stF, hA]
      exact ⟨g1, g2⟩
def startsL (L : List Vapi_Cell) (l0 : Int) (N : Nat) : List Int := (List.range N).map (stF L l0)
/-- round: a place without an attribute has the one of the place ahead -/
theorem stF_prev {L : List Vapi_Cell} {l0 : Int} {N n : Nat} (hc : l0 = stF L l0 (N - 1)) (hn : n < N) (h : isA' L ((n + 1) % N) = false) : stF L l0 ((n + 1) % N) = stF L l0 n := by
  by_cases h1 : n + 1 < N
  · rw [Nat.mod_eq_of_lt h1] at h ⊢; simp [stF, h]
  · have : n + 1 = N := by omega
    rw [this, Nat.mod_self] at h ⊢
    have e : n = N - 1 := by omega
    rw [e, ← hc]; simp [stF, h]
/-- a loop that counts and may end early -/
theorem loop_ex {σ ρ : Type} {L : Nat → Int × σ → Option ρ} {n : Nat} (Inv : Nat → σ → Prop) (Post : ρ → Prop)
    (h : ∀ k i s, i < n → Inv i s → (∃ r, L (k + 1) ((i : Int), s) = some r ∧ Post r) ∨ ∃ s', L (k + 1) ((i : Int), s) = L k (((i + 1 : Nat) : Int), s') ∧ Inv (i + 1) s')
    (he : ∀ k s, Inv n s → ∃ r, L (k + 1) ((n : Int), s) = some r ∧ Post r) :
    ∀ (m i k : Nat) (s : σ), i + m = n → m < k → Inv i s → ∃ r, L k ((i : Int), s) = some r ∧ Post r
  | 0, i, k, s, e, hk, hI => by
    obtain ⟨k, rfl⟩ : ∃ j, k = j + 1 := ⟨k - 1, by omega⟩
    have : i = n := by omega
    subst this
    exact he k s hI
  | m + 1, i, k, s, e, hk, hI => by
    obtain ⟨k, rfl⟩ : ∃ j, k = j + 1 := ⟨k - 1, by omega⟩
    rcases h k i s (by omega) hI with h1 | ⟨s', h1, h2⟩
    · exact h1
    · rw [h1]
      exact loop_ex Inv Post h he m (i + 1) k _ (by omega) (by omega) h2
theorem loop_ex0 {σ ρ : Type} {L : Nat → Int × σ → Option ρ} {n : Nat} (Inv : Nat → σ → Prop) (Post : ρ → Prop) {s : σ} (hn : n ≤ 9223372036854775807)
    (h : ∀ k i s, i < n → Inv i s → (∃ r, L (k + 1) ((i : Int), s) = some r ∧ Post r) ∨ ∃ s', L (k + 1) ((i : Int), s) = L k (((i + 1 : Nat) : Int), s') ∧ Inv (i + 1) s')
    (he : ∀ k s, Inv n s → ∃ r, L (k + 1) ((n : Int), s) = some r ∧ Post r) (h0 : Inv 0 s) : ∃ r, L fuel (0, s) = some r ∧ Post r :=
  loop_ex Inv Post h he n 0 fuel s (by omega) (by unfold fuel; omega) h0
theorem stF_A {L : List Vapi_Cell} {l0 : Int} {N : Nat} (hc : l0 = stF L l0 (N - 1)) (hn : ∃ b, b < N ∧ isA' L b = true) : ∃ b : Nat, l0 = (b : Int) ∧ b < N ∧ isA' L b = true := by
  obtain ⟨a, h1, h2⟩ := hn
  obtain ⟨g1, g2⟩ := stF_last (L := L) l0 (N - 1) ⟨a, by omega, h2⟩
  rw [← hc] at g1 g2
  have hm := List.mem_of_getLast? g1
  rw [show N - 1 + 1 = N by omega] at hm
  obtain ⟨h3, h4⟩ := attrsN_mem.1 hm
  exact ⟨l0.toNat, by omega, h3, h4⟩
theorem stF_at {L : List Vapi_Cell} {l0 : Int} {N : Nat} (hc : l0 = stF L l0 (N - 1)) (hn : ∃ b, b < N ∧ isA' L b = true) : ∀ n, n < N → ∃ b : Nat, stF L l0 n = (b : Int) ∧ b < N ∧ isA' L b = true
  | 0, h => by
    cases hA : isA' L 0 with
    | true => exact ⟨0, stF_attr hA, h, hA⟩
    | false =>
      obtain ⟨b, h1, h2⟩ := stF_A hc hn
      exact ⟨b, by simp [stF, hA, h1], h2⟩
  | n + 1, h => by
    cases hA : isA' L (n + 1) with
    | true => exact ⟨n + 1, stF_attr hA, h, hA⟩
    | false =>
      obtain ⟨b, h1, h2⟩ := stF_at hc hn n (by omega)
      exact ⟨b, by simp [stF, hA, h1], h2⟩
/-- without attributes between, a place's attribute is the one that lies behind it -/
theorem stF_fwd {L : List Vapi_Cell} {l0 : Int} {N a : Nat} (hc : l0 = stF L l0 (N - 1)) (ha : a < N) (hat : isA' L a = true) : ∀ i, (∀ t, 1 ≤ t → t ≤ i → isA' L ((a + t) % N) = false) → stF L l0 ((a + i) % N) = (a : Int)
  | 0, _ => by rw [Nat.add_zero, Nat.mod_eq_of_lt ha]; exact stF_attr hat
  | i + 1, h => by
    have ih := stF_fwd hc ha hat i fun t h1 h2 => h t h1 (by omega)
    have e2 : (a + (i + 1)) % N = ((a + i) % N + 1) % N := by simp only [Nat.mod_add_mod]; rfl
    have hna := h (i + 1) (by omega) (by omega)
    rw [e2] at hna ⊢
    rw [stF_prev hc (Nat.mod_lt _ (by omega)) hna]; exact ih
/-- behind another attribute it isn't -/
theorem stF_past {L : List Vapi_Cell} {l0 : Int} {N a j : Nat} (hc : l0 = stF L l0 (N - 1)) (ha : a < N) (hj : 1 ≤ j) (hat : isA' L ((a + j) % N) = true) : ∀ d, j + d < N → stF L l0 ((a + (j + d)) % N) ≠ (a : Int)
  | 0, h => by
    rw [Nat.add_zero, stF_attr hat]
    intro e
    have e : (a + j) % N = a := by omega
    by_cases h3 : a + j < N
    · rw [Nat.mod_eq_of_lt h3] at e; omega
    · rw [Nat.mod_eq_sub_mod (by omega), Nat.mod_eq_of_lt (by omega)] at e; omega
  | d + 1, h => by
    have ih := stF_past hc ha hj hat d (by omega)
    have e2 : (a + (j + (d + 1))) % N = ((a + (j + d)) % N + 1) % N := by simp only [Nat.mod_add_mod]; rfl
    cases hA : isA' L ((a + (j + (d + 1))) % N) with
    | true =>
      rw [stF_attr hA]
      intro e
      have e : (a + (j + (d + 1))) % N = a := by omega
      by_cases h3 : a + (j + (d + 1)) < N
      · rw [Nat.mod_eq_of_lt h3] at e; omega
      · rw [Nat.mod_eq_sub_mod (by omega), Nat.mod_eq_of_lt (by omega)] at e; omega
    | false =>
      rw [e2] at hA ⊢
      rw [stF_prev hc (Nat.mod_lt _ (by omega)) hA]; exact ih
end Go.Vt
