/- The document's example of what is read. No conditions. -/
import Derived.Test.YteebpkekdkkmhaaVpF
import Derived.Test.YteebpkekdkkmhaaVpD19
set_option linter.unusedVariables false
set_option linter.unusedSimpArgs false
set_option maxRecDepth 100000
namespace Go.Vt
def acts3 : List Vvitrineref12_Act := [⟨3, 0, false, 1, zc, []⟩, ⟨5, 1, false, 0, zc, [193, 0, 194]⟩, ⟨1, 2, false, 0, zc, []⟩]
def T3 : List Vapi_Cell := ⟨193, false, 0, 0, 0, 0⟩ :: zc :: ⟨194, false, 0, 0, 0, 0⟩ :: List.replicate 1916 zc
def L3 : List Vapi_Cell := ⟨0, true, 1, 0, 0, 0⟩ :: T3
theorem do3 : doAll (clr 2 false) acts3 = some ⟨2, false, ⟨24, 80⟩, L3, 2⟩ := by decide +kernel
theorem iterN_id {σ : Type} {step : Nat → σ → σ} {s : σ} {n : Nat} : ∀ (m i : Nat), i + m ≤ n → (∀ j, i ≤ j → j < n → step j s = s) → iterN step i m s = s
  | 0, _, _, _ => rfl
  | m + 1, i, h, hj => by
    rw [iterN, hj i (Nat.le_refl _) (by omega)]
    exact iterN_id m (i + 1) (by omega) fun j h1 h2 => hj j (by omega) h2
theorem T3_plain : ∀ c ∈ T3, c.Attr = false := by
  intro c hc
  simp only [T3, List.mem_cons] at hc
  rcases hc with rfl | rfl | rfl | hc
  · rfl
  · rfl
  · rfl
  · rw [(List.mem_replicate.1 hc).2]
theorem T3_len : T3.length = 1919 := by simp [T3]
theorem sent3 : sent L3 2 125 0 = [125, 64, 194, 17, 64, 193, 193, 194] := by
  have hc : cnt L3 ≠ 0 := by
    have h1 := cnt_le T3
    unfold L3; rw [cnt_cons]; unfold c1; simp only [if_true]; omega
  have hl : L3.length = 1919 + 1 := by simp [L3, T3_len]
  unfold sent
  rw [if_neg hc, hl, iterN]
  rw [iterN_id (n := 1920) 1919 (0 + 1) (by omega)]
  · decide +kernel
  · intro j h1 h2
    obtain ⟨i, rfl⟩ : ∃ i, j = i + 1 := ⟨j - 1, by omega⟩
    have hlt : i + 1 < L3.length := by omega
    have hm : L3[i + 1] ∈ T3 := List.getElem_mem (l := T3) (by rw [T3_len]; omega)
    unfold mstep
    rw [rdn hlt, T3_plain _ hm]; rfl
theorem a3_ok : ∀ a ∈ acts3, AOk a := by
  intro a ha
  simp only [acts3, List.mem_cons, List.not_mem_nil, or_false] at ha
  have z : CB zc := zc_ok.cb
  have b : ∀ n : Int, 0 ≤ n ∧ n < 256 → By n := fun n h => h
  rcases ha with rfl | rfl | rfl
  · exact ⟨b _ (by simp), b _ (by simp), z, (fun n h => by cases h), by simp⟩
  · exact ⟨b _ (by simp), b _ (by simp), z, (fun n h => by simp at h; rcases h with rfl | rfl | rfl <;> exact b _ (by simp)), by simp⟩
  · exact ⟨b _ (by simp), b _ (by simp), z, (fun n h => by cases h), by simp⟩
theorem same_beq (a b : List Int) : m_vitrineref01_Same a b = some ((bstr a).data.toList == (bstr b).data.toList) := rfl
theorem same_refl' (a : List Int) : m_vitrineref01_Same a a = some true := by rw [same_beq]; simp
theorem awake19_of {N : Nat} {x : Vvitrineref12_Space} (h2 : RS 2 N x) (h3 : m_vitrinelaw19_lay 0 acts3 = some (prog x, x)) (hs : sent x.L x.Cursor 125 0 = [125, 64, 194, 17, 64, 193, 193, 194]) : m_vitrinelaw19_awake = some true := by
  have hr := Modified_ok h2.lk.ss (aid := 125) (mode := 0) ⟨by omega, by omega⟩ ⟨by omega, by omega⟩
  have hsh : shortA 125 = false := by decide
  have hs3 : sent (prog x).cells (prog x).cursor 125 0 = [125, 64, 194, 17, 64, 193, 193, 194] := hs
  rw [hsh, hs3] at hr
  unfold m_vitrinelaw19_awake
  unfold acts3 at h3
  rw [h3]
  have e0 : ((0 : Int) == 0) = true := rfl
  simp only [Option.bind_some, hr, Bool.false_eq_true, if_false, e0, cond_true, same_refl']
theorem lay3 : ∃ N x, RS 2 N x ∧ x.L = L3 ∧ x.Cursor = 2 ∧ m_vitrinelaw19_lay 0 acts3 = some (prog x, x) := by
  obtain ⟨N, x, h1, h2, h3⟩ := vitrinelaw19_lay_ok (p := 0) by0 a3_ok (by simp [acts3])
  have ht : acts3.take 30 = acts3 := List.take_of_length_le (by simp [acts3])
  have hm : (2 : Int) + 0 % 4 = 2 := by decide
  rw [ht, hm] at h1
  rw [hm] at h2
  rw [do3] at h1
  have hx := Option.some.inj h1
  exact ⟨N, x, h2, by rw [← hx], by rw [← hx], h3⟩
theorem awake19 : m_vitrinelaw19_awake = some true := by
  obtain ⟨N, x, h1, h2, h3, h4⟩ := lay3
  exact awake19_of h1 h4 (by rw [h2, h3]; exact sent3)
end Go.Vt
