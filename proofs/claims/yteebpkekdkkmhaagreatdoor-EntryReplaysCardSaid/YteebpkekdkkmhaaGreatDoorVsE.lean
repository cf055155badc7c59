/- Addresses of the program and the document; what a cell is as bytes. No conditions. -/
import Derived.Test.YteebpkekdkkmhaaGreatDoorVsD20
set_option linter.unusedVariables false
set_option linter.unusedSimpArgs false
set_option maxRecDepth 100000
namespace Go.Vt
def chk64 (n : Int) : Bool := match m_addr_Six n with
  | some x => decide (0 ≤ x) && decide (x < 256) && decide (m_addr_Unsix x = some n) && !(ishr .u8 x 6 == 0) && !(ishr .u8 x 6 == 2) && decide (iband .i64 n 63 = n)
  | none => false
theorem chk64_all : ∀ f : Fin 64, chk64 (f.val : Int) = true := by decide +kernel
def chkA (n : Nat) : Bool := decide (iband .i64 (n : Int) 63 = ((n % 64 : Nat) : Int)) && decide (ishr .i64 (n : Int) 6 = ((n / 64 : Nat) : Int)) && decide (ibor .i64 (ishl .i64 ((n / 64 : Nat) : Int) 6) ((n % 64 : Nat) : Int) = (n : Int))
theorem chkA_all : ∀ f : Fin 4096, chkA f.val = true := by decide +kernel
structure Enc (n x y : Int) : Prop where
  enc : m_addr_Encode 12 n = some ([x, y], 0)
  bx : By x
  by_ : By y
  dec : m_addr_Decode 12 [x, y] = some (n, 0)
theorem six_mod {n : Nat} (h : n < 4096) : m_addr_Six (n : Int) = m_addr_Six ((n % 64 : Nat) : Int) := by
  have h1 := chkA_all ⟨n, h⟩
  have h2 := chkA_all ⟨n % 64, by omega⟩
  simp only [chkA, Bool.and_eq_true, decide_eq_true_eq] at h1 h2
  have e1 := h1.1.1
  have e2 := h2.1.1
  rw [Nat.mod_mod] at e2
  unfold m_addr_Six
  rw [e1, e2]
theorem enc_ok {n : Nat} (h : n < 4096) : ∃ x y, Enc (n : Int) x y := by
  have h1 := chkA_all ⟨n, h⟩
  simp only [chkA, Bool.and_eq_true, decide_eq_true_eq] at h1
  obtain ⟨⟨e1, e2⟩, e3⟩ := h1
  have g1 := chk64_all ⟨n / 64, by omega⟩
  have g2 := chk64_all ⟨n % 64, by omega⟩
  simp only [chk64] at g1 g2
  cases hx : m_addr_Six ((n / 64 : Nat) : Int) with
  | none => rw [hx] at g1; cases g1
  | some x =>
    cases hy : m_addr_Six ((n % 64 : Nat) : Int) with
    | none => rw [hy] at g2; cases g2
    | some y =>
      rw [hx] at g1
      rw [hy] at g2
      simp only [Bool.and_eq_true, decide_eq_true_eq, Bool.not_eq_true'] at g1 g2
      obtain ⟨⟨⟨⟨⟨a1, a2⟩, a3⟩, a4⟩, a5⟩, _⟩ := g1
      obtain ⟨⟨⟨⟨⟨b1, b2⟩, b3⟩, b4⟩, b5⟩, _⟩ := g2
      refine ⟨x, y, ?_, ⟨a1, a2⟩, ⟨b1, b2⟩, ?_⟩
      · have c1 : decide ((n : Int) < 0) = false := decide_eq_false (by omega)
        have c2 : decide ((n : Int) ≥ ishl .i64 1 12) = false := by
          have : ishl .i64 1 12 = 4096 := by decide
          rw [this]; exact decide_eq_false (by omega)
        unfold m_addr_Encode gd
        simp only [c1, c2, e2, six_mod h, hx, hy]
        rfl
      · have q0 : rd [x, y] 0 = x := rfl
        have q1 : rd [x, y] 1 = y := rfl
        unfold m_addr_Decode gd
        simp only [q0, q1, a3, b3, a4, a5, e3, Option.bind_some]
        rfl
/-! ### addresses -/
def chkR (n : Int) : Bool := match m_addr_Six n, m_vitrineref04_Six n with
  | some x, some y => decide (x = y) && decide (m_vitrineref04_Unsix x = some n) && decide (64 ≤ x) && !(decide (128 ≤ x) && decide (x < 192))
  | _, _ => false
theorem chkR_all : ∀ f : Fin 64, chkR (f.val : Int) = true := by decide +kernel
theorem renc_ok {n : Nat} (h : n < 4096) {x y : Int} (hE : Enc (n : Int) x y) : m_vitrineref04_Encode 12 (n : Int) = some ([x, y], 0) ∧ ∀ r, m_vitrineref04_Decode 12 (x :: y :: r) = some ((n : Int), 0) := by
  have g1 := chkR_all ⟨n / 64, by omega⟩
  have g2 := chkR_all ⟨n % 64, by omega⟩
  have h1 := chkA_all ⟨n, h⟩
  simp only [chkA, Bool.and_eq_true, decide_eq_true_eq] at h1
  obtain ⟨⟨e1, e2⟩, e3⟩ := h1
  have he := hE.enc
  have c1 : decide ((n : Int) < 0) = false := decide_eq_false (by omega)
  have c2 : decide ((n : Int) ≥ ishl .i64 1 12) = false := by
    have : ishl .i64 1 12 = 4096 := by decide
    rw [this]; exact decide_eq_false (by omega)
  have c3 : decide ((n : Int) > 4095) = false := decide_eq_false (by omega)
  simp only [chkR] at g1 g2
  cases hx : m_addr_Six ((n / 64 : Nat) : Int) with
  | none => rw [hx] at g1; cases g1
  | some x1 =>
    cases hy : m_addr_Six ((n % 64 : Nat) : Int) with
    | none => rw [hy] at g2; cases g2
    | some y1 =>
      rw [hx] at g1
      rw [hy] at g2
      cases hx2 : m_vitrineref04_Six ((n / 64 : Nat) : Int) with
      | none => rw [hx2] at g1; cases g1
      | some x2 =>
        cases hy2 : m_vitrineref04_Six ((n % 64 : Nat) : Int) with
        | none => rw [hy2] at g2; cases g2
        | some y2 =>
          rw [hx2] at g1
          rw [hy2] at g2
          simp only [Bool.and_eq_true, decide_eq_true_eq, Bool.not_eq_true', Bool.and_eq_false_iff, decide_eq_false_iff_not] at g1 g2
          obtain ⟨⟨⟨a1, a2⟩, a3⟩, a4⟩ := g1
          obtain ⟨⟨⟨b1, b2⟩, b3⟩, b4⟩ := g2
          have hxy : [x1, y1] = [x, y] := by
            unfold m_addr_Encode gd at he
            simp only [c1, c2, e2, six_mod h, hx, hy] at he
            have he' : some ([x1, y1], (0 : Int)) = some ([x, y], 0) := he
            simpa using he'
          have hx1 : x1 = x := by simpa using (List.cons.inj hxy).1
          have hy1 : y1 = y := by simpa using (List.cons.inj (List.cons.inj hxy).2).1
          subst hx1; subst hy1; subst a1; subst b1
          have t1 : (n : Int).tdiv 64 = ((n / 64 : Nat) : Int) := by rw [Int.tdiv_eq_ediv_of_nonneg (by omega)]; omega
          have t2 : (n : Int).tmod 64 = ((n % 64 : Nat) : Int) := by rw [Int.tmod_eq_emod_of_nonneg (by omega)]; omega
          refine ⟨?_, fun r => ?_⟩
          · unfold m_vitrineref04_Encode
            have k1 : ((12 : Int) == 12) = true := rfl
            simp only [k1, cond_true, jn, c1, c3, cond_false, Option.bind_some, t1, t2, hx2, hy2]
            rw [w64_in (by omega) (by omega), hx2]; rfl
          · unfold m_vitrineref04_Decode
            have r0 : rd (x1 :: y1 :: r) 0 = x1 := rfl
            have r1 : rd (x1 :: y1 :: r) 1 = y1 := rfl
            have k1 : ((12 : Int) != 12) = false := rfl
            have k2 : ((12 : Int) == 16) = false := rfl
            have k3 : decide (((x1 :: y1 :: r).length : Int) < 2) = false := decide_eq_false (by simp; omega)
            have l0 : (0 : Int) ≤ 0 ∧ (0 : Int) < ((x1 :: y1 :: r).length : Int) := by simp; omega
            have l1 : (0 : Int) ≤ 1 ∧ (1 : Int) < ((x1 :: y1 :: r).length : Int) := by simp; omega
            have k4 : decide (x1 < 64) = false := decide_eq_false (by omega)
            have k5 : (cond (decide (x1 ≥ 128)) (some (decide (x1 < 192))) (some false) : Option Bool) = some false := by
              rcases a4 with h | h
              · have : decide (x1 ≥ 128) = false := decide_eq_false h
                rw [this]; rfl
              · have : decide (x1 < 192) = false := decide_eq_false h
                rw [this]; cases decide (x1 ≥ 128) <;> rfl
            simp only [k1, k2, k3, cond_false, Option.bind_some, gd_pos l0, gd_pos l1, r0, r1, k4, k5, a2, b2]
            rw [w64_in (x := 64 * ((n / 64 : Nat) : Int)) (by omega) (by omega), w64_in (by omega) (by omega)]
            congr 2; omega
/-- an address as bytes -/
def adr (n : Int) : List Int := match m_addr_Encode 12 n with
  | some (l, _) => l
  | none => []
theorem adr_ok {n : Nat} (h : n < 4096) : ∃ x y, Enc (n : Int) x y ∧ adr n = [x, y] := by
  obtain ⟨x, y, hE⟩ := enc_ok h
  exact ⟨x, y, hE, by unfold adr; rw [hE.enc]⟩
theorem enc_adr {n : Nat} (h : n < 4096) : m_addr_Encode 12 (n : Int) = some (adr n, 0) ∧ m_vitrineref04_Encode 12 (n : Int) = some (adr n, 0) ∧ (adr n).length = 2 := by
  obtain ⟨x, y, hE, ha⟩ := adr_ok h
  rw [ha]
  exact ⟨hE.enc, (renc_ok h hE).1, rfl⟩
/-! ### how a cell looks, and as bytes -/
def dif (a b : Vapi_Cell) : List (Int × Int) := (if a.High = b.High then [] else [(65, b.High)]) ++ ((if a.Color = b.Color then [] else [(66, b.Color)]) ++ (if a.f_Set = b.f_Set then [] else [(67, b.f_Set)]))
theorem dif_len (a b : Vapi_Cell) : (dif a b).length ≤ 3 := by
  unfold dif; split <;> split <;> split <;> simp
abbrev mkA (p : Int × Int) : Vattr_Pair := ⟨p.1, p.2⟩
theorem beq_or (a b : Int) : (a = b ∧ (a == b) = true) ∨ (a ≠ b ∧ (a == b) = false) := by
  by_cases h : a = b
  · exact .inl ⟨h, beq_t h⟩
  · exact .inr ⟨h, beq_f h⟩
theorem diff_ok (a b : Vapi_Cell) : m_attr_Diff a b = some ((dif a b).map mkA) := by
  unfold m_attr_Diff m_attr_looks
  simp only [Option.bind_some]
  obtain ⟨k, f3⟩ : ∃ k, fuel = Nat.succ (Nat.succ (Nat.succ (Nat.succ k))) := ⟨fuel - 4, by unfold fuel; omega⟩
  have e0 : w64 (0 + 1) = 1 := by decide
  have e1 : w64 (1 + 1) = 2 := by decide
  have e2 : w64 (2 + 1) = 3 := by decide
  have g0 : (0 : Int) ≤ 0 ∧ (0 : Int) < 3 := by omega
  have g1 : (0 : Int) ≤ 1 ∧ (1 : Int) < 3 := by omega
  have g2 : (0 : Int) ≤ 2 ∧ (2 : Int) < 3 := by omega
  have d0 : decide ((0 : Int) < 3) = true := rfl
  have d1 : decide ((1 : Int) < 3) = true := rfl
  have d2 : decide ((2 : Int) < 3) = true := rfl
  have d3 : decide ((3 : Int) < 3) = false := rfl
  have r0 : ∀ (x y z : Vattr_Pair), rd [x, y, z] 0 = x := fun _ _ _ => rfl
  have r1 : ∀ (x y z : Vattr_Pair), rd [x, y, z] 1 = y := fun _ _ _ => rfl
  have r2 : ∀ (x y z : Vattr_Pair), rd [x, y, z] 2 = z := fun _ _ _ => rfl
  have b0 : ((65 : Int) == 65) = true := rfl
  have b1 : ((66 : Int) == 66) = true := rfl
  have b2 : ((67 : Int) == 67) = true := rfl
  have loop : ∀ d : Int × Int × Int × Int × Int × Int × Int × Int × Int × Int × Int × Int, d = (65, b.High, 66, b.Color, 67, b.f_Set, 65, a.High, 66, a.Color, 67, a.f_Set) → attr_Diff_l6 d fuel (0, []) = some ((dif a b).map mkA) := fun d hd => by
    subst hd
    rw [f3]
    unfold dif
    rcases beq_or a.High b.High with ⟨h1, q1⟩ | ⟨h1, q1⟩ <;> rcases beq_or a.Color b.Color with ⟨h2, q2⟩ | ⟨h2, q2⟩ <;> rcases beq_or a.f_Set b.f_Set with ⟨h3, q3⟩ | ⟨h3, q3⟩
    all_goals
      rw [attr_Diff_l6.eq_2]
      simp only [d0, cond_true, if_pos g0, r0, e0, b0, Bool.true_and, q1, q2, q3, Bool.not_true, Bool.not_false, cond_false, Bool.and_true, Option.bind_some, gd]
      try rw [if_pos (by simp)]
      try simp only [Option.bind_some]
      rw [attr_Diff_l6.eq_2]
      simp only [d1, cond_true, if_pos g1, r1, e1, b1, Bool.true_and, q1, q2, q3, Bool.not_true, Bool.not_false, cond_false, Bool.and_true, Option.bind_some, gd]
      try rw [if_pos (by simp)]
      try simp only [Option.bind_some]
      rw [attr_Diff_l6.eq_2]
      simp only [d2, cond_true, if_pos g2, r2, e2, b2, Bool.true_and, q1, q2, q3, Bool.not_true, Bool.not_false, cond_false, Bool.and_true, Option.bind_some, gd]
      try rw [if_pos (by simp)]
      try simp only [Option.bind_some]
      rw [attr_Diff_l6.eq_2]
      simp only [d3, cond_false]
      simp [h1, h2, h3]
  rw [loop _ rfl]
  simp only [b0, b1, b2, Bool.true_and, Bool.and_true, Option.bind_some]
  by_cases h : ((a.High == b.High) && ((a.Color == b.Color) && (a.f_Set == b.f_Set))) = true
  · rw [h]
    simp only [Bool.and_eq_true, beq_iff_eq] at h
    obtain ⟨h1, h2, h3⟩ := h
    simp [dif, h1, h2, h3]
  · have h' : ((a.High == b.High) && ((a.Color == b.Color) && (a.f_Set == b.f_Set))) = false := by simpa using h
    rw [h']; rfl
/-- a look as bytes -/
def sas (l : List (Int × Int)) : List Int := l.flatMap fun p => [40, p.1, p.2]
theorem sas_len : ∀ l : List (Int × Int), (sas l).length = 3 * l.length
  | [] => rfl
  | p :: l => by
    have := sas_len l
    simp only [sas, List.flatMap_cons, List.length_append, List.length_cons, List.length_nil] at this ⊢
    omega
/-- a character: its bytes behind a look -/
def chr (mode : Int) (last c : Vapi_Cell) : List Int := (if mode = 2 then sas (dif last c) else if c.f_Set = 241 then [8] else []) ++ [if isO c.Char then 63 else c.Char]
theorem chr_len (mode : Int) (last c : Vapi_Cell) : (chr mode last c).length ≤ 10 := by
  unfold chr
  have := dif_len last c
  split
  · simp only [List.length_append, sas_len, List.length_cons, List.length_nil]; omega
  · split <;> simp
abbrev St := List Int × Vapi_Cell
def sone (mode : Int) (s : St) (c : Vapi_Cell) : St := (s.1 ++ chr mode s.2 c, if mode = 2 then c else s.2)
theorem sas_loop {l : List (Int × Int)} (hl : l.length ≤ 3) (out : List Int) (ho : out.length ≤ 60000000000) : read_sender_character_l6 (l.map mkA) fuel (0, out) = some (out ++ sas l) := by
  have key := loop_iter (L := read_sender_character_l6 (l.map mkA)) (n := l.length) (fun i s => s ++ (l.map fun p => [40, p.1, p.2]).getD i []) (fun i s => s.length ≤ 60000000000 + 3 * i) id ?_ ?_ ?_ l.length 0 fuel out (by omega) (by unfold fuel; omega) (by omega)
  · have h2 := iterN_flat (l.map fun p => [40, p.1, p.2]) (id : List Int → List Int) (fun i s => s ++ (l.map fun p => [40, p.1, p.2]).getD i []) (fun i hi s => by simp only [List.getD_eq_getElem?_getD, List.getElem?_eq_getElem hi, Option.getD_some, id]) l.length 0 out (by simp)
    have h1 : read_sender_character_l6 (l.map mkA) fuel (0, out) = _ := key.1
    rw [h1, h2]
    simp [sas, List.flatMap]
  · intro k i s hi hs
    rw [read_sender_character_l6.eq_2]
    have hi' : i < (l.map mkA).length := by simpa using hi
    have d1 : decide ((i : Int) < ((l.map mkA).length : Int)) = true := decide_eq_true (by omega)
    simp only [d1, cond_true]
    rw [gd_pos (by omega), gd_pos (by simp; omega), rdn hi', w64_succ (by omega)]
    have h5 : (l.map fun p => [40, p.1, p.2]).getD i [] = [40, (l[i]'(by simpa using hi)).1, (l[i]'(by simpa using hi)).2] := by simp [List.getD_eq_getElem?_getD, hi]
    simp only [h5, List.getElem_map]
  · intro i s hi hs
    have h5 : (l.map fun p => [40, p.1, p.2]).getD i [] = [40, (l[i]'(by simpa using hi)).1, (l[i]'(by simpa using hi)).2] := by simp [List.getD_eq_getElem?_getD, hi]
    rw [h5]; simp; omega
  · intro k s hs
    rw [read_sender_character_l6.eq_2]
    have d1 : decide ((l.length : Int) < ((l.map mkA).length : Int)) = false := decide_eq_false (by simp)
    simp only [d1, cond_false]; rfl
theorem char_ok {mode : Int} {s : St} {c : Vapi_Cell} (hc : By c.Char) (ho : s.1.length ≤ 50000000000) : m_read_sender_character ⟨s.1, s.2, mode⟩ c = some ⟨(sone mode s c).1, (sone mode s c).2, mode⟩ := by
  unfold m_read_sender_character
  have hlen := dif_len s.2 c
  have fin : (cond (isO c.Char) (some 63) (some c.Char) : Option Int) = some (if isO c.Char then 63 else c.Char) := by cases isO c.Char <;> rfl
  by_cases hm : mode = 2
  · simp only [beq_t hm, cond_true, diff_ok, Option.bind_some, sas_loop (dif_len s.2 c) s.1 (by omega), is_spec hc, fin]
    rw [gd_pos (by simp [sas_len]; omega)]
    simp [sone, chr, hm]
  · simp only [beq_f hm, cond_false, is_spec hc]
    by_cases h2 : c.f_Set = 241
    · simp only [beq_t h2, cond_true]
      rw [gd_pos (by simp; omega)]
      simp only [Option.bind_some, fin]
      rw [gd_pos (by simp; omega)]
      simp [sone, chr, hm, h2]
    · simp only [beq_f h2, cond_false, Option.bind_some, fin]
      rw [gd_pos (by simp; omega)]
      simp [sone, chr, hm, h2]
theorem awake20 : m_vitrinelaw20_awake = some true := by decide +kernel
end Go.Vt
