/- Loops, guards, small numbers: plain helpers of the laws. No conditions. -/
import Derived.Test.YteebpkekdkkmhaaGreatDoorVtP
set_option linter.unusedVariables false
set_option linter.unusedSimpArgs false
namespace Go.Vt
theorem gd_pos {α : Type} {c : Prop} [Decidable c] {x : Option α} (h : c) : gd c x = x := by unfold gd; rw [if_pos h]
theorem w64_in {x : Int} (h1 : -9223372036854775808 ≤ x) (h2 : x < 9223372036854775808) : w64 x = x := by
  unfold w64 IntKind.wrap; simp only [IntKind.bits, IntKind.signed, Bool.true_and]
  split
  · rename_i h1; simp at h1; omega
  · rename_i h1; simp at h1; omega
theorem w64_succ {n : Nat} (h : n < 9223372036854775807) : w64 ((n : Int) + 1) = ((n + 1 : Nat) : Int) := by rw [w64_in (by omega) (by omega)]; omega
theorem bne_t {a b : Int} (h : a ≠ b) : (a != b) = true := by simp [h]
theorem bne_f {a b : Int} (h : a = b) : (a != b) = false := by simp [h]
theorem beq_t {a b : Int} (h : a = b) : (a == b) = true := by simp [h]
theorem beq_f {a b : Int} (h : a ≠ b) : (a == b) = false := by simp [h]
theorem rdn {τ : Type} [Inhabited τ] {l : List τ} {n : Nat} (h : n < l.length) : rd l (n : Int) = l[n] := by
  unfold rd; simp [List.getD_eq_getElem?_getD, h]
/-- n steps from i on -/
def iterN {σ : Type} (step : Nat → σ → σ) : Nat → Nat → σ → σ
  | _, 0, s => s
  | i, m + 1, s => iterN step (i + 1) m (step i s)
/-- a loop that counts -/
theorem loop_iter {σ ρ : Type} {L : Nat → Int × σ → Option ρ} {n : Nat} (step : Nat → σ → σ) (Inv : Nat → σ → Prop) (r : σ → ρ)
    (h : ∀ k i s, i < n → Inv i s → L (k + 1) ((i : Int), s) = L k (((i + 1 : Nat) : Int), step i s))
    (hi : ∀ i s, i < n → Inv i s → Inv (i + 1) (step i s))
    (he : ∀ k s, Inv n s → L (k + 1) ((n : Int), s) = some (r s)) :
    ∀ (m i k : Nat) (s : σ), i + m = n → m < k → Inv i s → L k ((i : Int), s) = some (r (iterN step i m s)) ∧ Inv n (iterN step i m s)
  | 0, i, k, s, e, hk, hI => by
    obtain ⟨k, rfl⟩ : ∃ j, k = j + 1 := ⟨k - 1, by omega⟩
    have : i = n := by omega
    subst this
    exact ⟨he k s hI, hI⟩
  | m + 1, i, k, s, e, hk, hI => by
    obtain ⟨k, rfl⟩ : ∃ j, k = j + 1 := ⟨k - 1, by omega⟩
    rw [h k i s (by omega) hI]
    exact loop_iter step Inv r h hi he m (i + 1) k _ (by omega) (by omega) (hi i s (by omega) hI)
/-- the same from 0 on -/
theorem loop_0 {σ ρ : Type} {L : Nat → Int × σ → Option ρ} {n : Nat} (step : Nat → σ → σ) (Inv : Nat → σ → Prop) (r : σ → ρ) {s : σ} (hn : n ≤ 9223372036854775807)
    (h : ∀ k i s, i < n → Inv i s → L (k + 1) ((i : Int), s) = L k (((i + 1 : Nat) : Int), step i s))
    (hi : ∀ i s, i < n → Inv i s → Inv (i + 1) (step i s))
    (he : ∀ k s, Inv n s → L (k + 1) ((n : Int), s) = some (r s)) (h0 : Inv 0 s) :
    L fuel (0, s) = some (r (iterN step 0 n s)) ∧ Inv n (iterN step 0 n s) :=
  loop_iter step Inv r h hi he n 0 fuel s (by omega) (by unfold fuel; omega) h0
/-- steps that add to a list, element for element -/
theorem iterN_flat {τ ρ : Type} (l : List τ) (f : τ → List ρ) (step : Nat → List ρ → List ρ) (h : ∀ i (hi : i < l.length) s, step i s = s ++ f l[i]) : ∀ (m i : Nat) (s : List ρ), i + m = l.length → iterN step i m s = s ++ (l.drop i).flatMap f
  | 0, i, s, e => by
    have : l.drop i = [] := List.drop_eq_nil_of_le (by omega)
    simp [iterN, this]
  | m + 1, i, s, e => by
    have hlt : i < l.length := by omega
    rw [iterN, h i hlt, iterN_flat l f step h m (i + 1) _ (by omega), List.drop_eq_getElem_cons hlt]
    simp only [List.flatMap_cons, List.append_assoc]
/-- a loop that counts, its state known by what it says -/
theorem loop_rel {σ ρ : Type} {L : Nat → Int × σ → Option ρ} {n : Nat} (Inv : Nat → σ → Prop) (Post : ρ → Prop)
    (h : ∀ k i s, i < n → Inv i s → ∃ s', L (k + 1) ((i : Int), s) = L k (((i + 1 : Nat) : Int), s') ∧ Inv (i + 1) s')
    (he : ∀ k s, Inv n s → ∃ r, L (k + 1) ((n : Int), s) = some r ∧ Post r) :
    ∀ (m i k : Nat) (s : σ), i + m = n → m < k → Inv i s → ∃ r, L k ((i : Int), s) = some r ∧ Post r
  | 0, i, k, s, e, hk, hI => by
    obtain ⟨k, rfl⟩ : ∃ j, k = j + 1 := ⟨k - 1, by omega⟩
    have : i = n := by omega
    subst this
    exact he k s hI
  | m + 1, i, k, s, e, hk, hI => by
    obtain ⟨k, rfl⟩ : ∃ j, k = j + 1 := ⟨k - 1, by omega⟩
    obtain ⟨s', h1, h2⟩ := h k i s (by omega) hI
    rw [h1]
    exact loop_rel Inv Post h he m (i + 1) k _ (by omega) (by omega) h2
theorem loop_rel0 {σ ρ : Type} {L : Nat → Int × σ → Option ρ} {n : Nat} (Inv : Nat → σ → Prop) (Post : ρ → Prop) {s : σ} (hn : n ≤ 9223372036854775807)
    (h : ∀ k i s, i < n → Inv i s → ∃ s', L (k + 1) ((i : Int), s) = L k (((i + 1 : Nat) : Int), s') ∧ Inv (i + 1) s')
    (he : ∀ k s, Inv n s → ∃ r, L (k + 1) ((n : Int), s) = some r ∧ Post r) (h0 : Inv 0 s) : ∃ r, L fuel (0, s) = some r ∧ Post r :=
  loop_rel Inv Post h he n 0 fuel s (by omega) (by unfold fuel; omega) h0
end Go.Vt
