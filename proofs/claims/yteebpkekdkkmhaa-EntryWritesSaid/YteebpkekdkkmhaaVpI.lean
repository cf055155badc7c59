/- Of the model of ReadFields: it answers true. No conditions. -/
import Derived.Test.YteebpkekdkkmhaaVpH
set_option linter.unusedVariables false
set_option linter.unusedSimpArgs false
set_option maxRecDepth 100000
namespace Go.Vt
theorem is16_all : ∀ f : Fin 256, m_vitrineref16_Is (f.val : Int) = some (isO (f.val : Int)) := by decide +kernel
theorem is16 {n : Int} (h : By n) : m_vitrineref16_Is n = some (isO n) := by obtain ⟨f, rfl⟩ := h.fin; exact is16_all f
theorem mod_all : ∀ f : Fin 256, ((Int.tmod (Int.tmod (w64 (f.val : Int)) 64) 2) == 1) = ((iband .u8 (f.val : Int) 1) != 0) := by decide +kernel
theorem field_ok {m : Int} {N : Nat} {x : Vvitrineref12_Space} (h : RS m N x) {a : Nat} (ha : a < N) : ∃ f, m_vitrineref13_Field x (a : Int) = some f ∧ f.Modified = isMod (rd x.L (a : Int)) := by
  have hl := h.len
  have hc := h.ok _ (rd_mem (l := x.L) (n := (a : Int)) (by omega))
  unfold m_vitrineref13_Field m_vitrineref05_Of
  rw [gd_pos (by omega)]
  refine ⟨_, rfl, ?_⟩
  unfold isMod
  obtain ⟨f, hf⟩ := hc.fa.fin
  rw [← hf]; exact mod_all f
/-- a character in field mode -/
def chF (c : Vapi_Cell) : List Int := if c.Char = 0 then [] else chr 0 zc c
theorem chF_len (c : Vapi_Cell) : (chF c).length ≤ 10 := by unfold chF; split; simp; exact chr_len _ _ _
theorem fold0 : ∀ (l : List Vapi_Cell) (o : List Int) (z : Vapi_Cell), l.foldl (sstep 0) (o, z) = (o ++ l.flatMap chF, z)
  | [], o, z => by simp
  | c :: l, o, z => by
    have h1 : sstep 0 (o, z) c = (o ++ chF c, z) := by
      unfold sstep sone chF
      have e : chr 0 z c = chr 0 zc c := rfl
      split
      · simp
      · simp only [e]; rfl
    rw [List.foldl_cons, h1, fold0 l, List.flatMap_cons, List.append_assoc]
theorem character_ok {c : Vapi_Cell} (h : By c.Char) : m_vitrineref19_character c zc 0 = some (chr 0 zc c) := by
  unfold m_vitrineref19_character chr
  have e0 : ((0 : Int) == 2) = false := rfl
  have e1 : ¬ (0 : Int) = 2 := by omega
  simp only [e0, cond_false, is16 h, if_neg e1]
  by_cases h2 : c.f_Set = 241
  · simp only [beq_t h2, cond_true, if_pos h2]
    rw [gd_pos (by simp)]
    simp only [Option.bind_some]
    cases isO c.Char <;> simp [gd]
  · simp only [beq_f h2, cond_false, if_neg h2, Option.bind_some]
    cases isO c.Char <;> simp [gd]
theorem chars1_ok {c : Vapi_Cell} (h : By c.Char) : ∃ z, m_vitrineref19_Characters [c] zc 0 = some (chr 0 zc c, z) := by
  unfold m_vitrineref19_Characters
  obtain ⟨k, hk⟩ : ∃ k, fuel = Nat.succ (Nat.succ k) := ⟨fuel - 2, by unfold fuel; omega⟩
  rw [hk, vitrineref19_Characters_l2.eq_2]
  have d1 : decide ((0 : Int) < (([c] : List Vapi_Cell).length : Int)) = true := decide_eq_true (by simp)
  have r0 : rd [c] 0 = c := rfl
  have hlen := chr_len 0 zc c
  simp only [d1, cond_true, r0]
  rw [gd_pos (by simp), character_ok h]
  simp only [Option.bind_some]
  rw [gd_pos (by simp; omega), vitrineref19_Characters_l2.eq_2]
  have e1 : w64 (0 + 1) = 1 := by decide
  have d2 : decide ((1 : Int) < (([c] : List Vapi_Cell).length : Int)) = false := decide_eq_false (by simp)
  simp only [e1, d2, cond_false, Option.bind_some, List.nil_append]
  exact ⟨_, rfl⟩
theorem run_cells {L : List Vapi_Cell} {a : Nat} (ha : a < L.length) : (posL L L.length a).map (fun n => rd L n) = run L ((a + 1) % L.length) := by
  have hj : (a + 1) % L.length < L.length := Nat.mod_lt _ (by omega)
  apply List.ext_getElem?
  intro i
  unfold posL
  rw [List.map_map, List.getElem?_map]
  by_cases hi : i < (run L ((a + 1) % L.length)).length
  · obtain ⟨c, h1, h2, _⟩ := run_get hj hi
    have e1 : ((a + 1) % L.length + i) % L.length = (a + (i + 1)) % L.length := by rw [Nat.mod_add_mod]; congr 1; omega
    rw [e1] at h1
    rw [h2, List.getElem?_range hi]
    simp only [Option.map_some, Function.comp]
    have hlt : (a + (i + 1)) % L.length < L.length := Nat.mod_lt _ (by omega)
    rw [rdn hlt]
    rw [List.getElem?_eq_getElem hlt] at h1; exact h1
  · rw [List.getElem?_eq_none (by simp; omega), List.getElem?_eq_none (by omega)]; rfl
theorem inner_ok {m : Int} {N : Nat} {x : Vvitrineref12_Space} (h : RS m N x) {a : Nat} (ha : a < N) (o : List Int) (ho : o.length ≤ 1000000000) :
    vitrinelaw19_ReadFields_l22 (prog x, x) (posL x.L N a) fuel (0, o) = some (o ++ (run x.L ((a + 1) % N)).flatMap chF) := by
  have hle := h.dim.dim.le
  have hl := h.len
  have hpl : (posL x.L N a).length = (run x.L ((a + 1) % N)).length := by simp [posL]
  have hrl := run_len x.L ((a + 1) % N)
  have hcells := run_cells (L := x.L) (a := a) (by omega)
  rw [hl] at hcells
  have key := loop_rel0 (L := vitrinelaw19_ReadFields_l22 (prog x, x) (posL x.L N a)) (n := (posL x.L N a).length) (s := o) (fun i y => y = o ++ ((run x.L ((a + 1) % N)).take i).flatMap chF ∧ y.length ≤ o.length + 10 * i)
    (fun r => r = o ++ (run x.L ((a + 1) % N)).flatMap chF) (by omega) ?_ ?_ ⟨by simp, by omega⟩
  · obtain ⟨r, h1, h2⟩ := key; rw [h1, h2]
  · rintro k i y hi ⟨e, hlen⟩
    have hir : i < (run x.L ((a + 1) % N)).length := by omega
    have hc : rd x.L (rd (posL x.L N a) (i : Int)) = (run x.L ((a + 1) % N))[i] := by
      rw [rdn hi]
      have h3 : ((posL x.L N a).map (fun n => rd x.L n))[i]? = (run x.L ((a + 1) % N))[i]? := by rw [hcells]
      rw [List.getElem?_map, List.getElem?_eq_getElem hi, List.getElem?_eq_getElem hir] at h3
      simpa using h3
    have hpos : 0 ≤ rd (posL x.L N a) (i : Int) ∧ rd (posL x.L N a) (i : Int) < (N : Int) := by
      rw [rdn hi]; simp only [posL, List.getElem_map, List.getElem_range]
      have : (a + (i + 1)) % N < N := Nat.mod_lt _ (by omega)
      omega
    have hcok := h.ok _ (rd_mem (l := x.L) (n := rd (posL x.L N a) (i : Int)) (by omega))
    have d1 : decide ((i : Int) < ((posL x.L N a).length : Int)) = true := decide_eq_true (by omega)
    have hfl := chF_len (run x.L ((a + 1) % N))[i]
    rw [vitrinelaw19_ReadFields_l22.eq_2]
    simp only [d1, cond_true]
    rw [gd_pos (by omega), gd_pos (by omega), w64_succ (by omega), hc]
    rw [hc] at hcok
    have step : ∀ z, z = y ++ chF (run x.L ((a + 1) % N))[i] → ∃ s', vitrinelaw19_ReadFields_l22 (prog x, x) (posL x.L N a) k (((i + 1 : Nat) : Int), z) = vitrinelaw19_ReadFields_l22 (prog x, x) (posL x.L N a) k (((i + 1 : Nat) : Int), s') ∧ s' = o ++ ((run x.L ((a + 1) % N)).take (i + 1)).flatMap chF ∧ s'.length ≤ o.length + 10 * (i + 1) := fun z hz =>
      ⟨z, rfl, by rw [hz, e, List.take_succ_eq_append_getElem hir, List.flatMap_append]; simp only [List.flatMap_cons, List.flatMap_nil, List.append_nil, List.append_assoc], by rw [hz]; simp only [List.length_append]; omega⟩
    by_cases h0 : (run x.L ((a + 1) % N))[i].Char = 0
    · simp only [beq_t h0, cond_true, Option.bind_some]
      exact step y (by unfold chF; rw [if_pos h0, List.append_nil])
    · obtain ⟨z, hz⟩ := chars1_ok hcok.char
      have hcl := chr_len 0 zc (run x.L ((a + 1) % N))[i]
      simp only [beq_f h0, cond_false, hz, Option.bind_some]
      rw [gd_pos (by omega)]
      exact step _ (by unfold chF; rw [if_neg h0])
  · rintro k y ⟨e, hlen⟩
    have d1 : decide (((posL x.L N a).length : Int) < ((posL x.L N a).length : Int)) = false := decide_eq_false (by omega)
    rw [vitrinelaw19_ReadFields_l22.eq_2]
    simp only [d1, cond_false]
    exact ⟨_, rfl, by rw [e, hpl, List.take_of_length_le (Nat.le_refl _)]⟩
/-- a field's bytes, where it is modified -/
def fldB (L : List Vapi_Cell) (a : Nat) : List Int := if isMod (rd L (a : Int)) then 17 :: (adr (((a + 1) % L.length : Nat) : Int) ++ (run L ((a + 1) % L.length)).flatMap chF) else []
theorem fldB_len {L : List Vapi_Cell} (hl : L.length ≤ 3564) {a : Nat} (ha : a < L.length) : (fldB L a).length ≤ 35643 := by
  unfold fldB
  split
  · have h1 := run_len L ((a + 1) % L.length)
    have h3 := (enc_adr (n := (a + 1) % L.length) (by have := Nat.mod_lt (a + 1) (show 0 < L.length by omega); omega)).2.2
    have h4 : ∀ l : List Vapi_Cell, (l.flatMap chF).length ≤ 10 * l.length := fun l => by
      induction l with
      | nil => simp
      | cons c l ih =>
        have := chF_len c
        simp only [List.flatMap_cons, List.length_append, List.length_cons]; omega
    have h5 := h4 (run L ((a + 1) % L.length))
    simp only [List.length_cons, List.length_append, h3]; omega
  · simp
theorem outer_ok {m : Int} {N : Nat} {x : Vvitrineref12_Space} (h : RS m N x) (o : List Int) (ho : o.length ≤ 100) :
    vitrinelaw19_ReadFields_l13 (prog x, x) ((attrsN x.L N).map (fun i : Nat => (i : Int))) fuel (0, o) = some (o ++ (attrsN x.L N).flatMap (fldB x.L)) := by
  have hle := h.dim.dim.le
  have hl := h.len
  have hal := attrsN_len x.L N
  have key := loop_rel0 (L := vitrinelaw19_ReadFields_l13 (prog x, x) ((attrsN x.L N).map (fun i : Nat => (i : Int)))) (n := (attrsN x.L N).length) (s := o) (fun i y => y = o ++ ((attrsN x.L N).take i).flatMap (fldB x.L) ∧ y.length ≤ 100 + 35643 * i)
    (fun r => r = o ++ (attrsN x.L N).flatMap (fldB x.L)) (by omega) ?_ ?_ ⟨by simp, by omega⟩
  · obtain ⟨r, h1, h2⟩ := key; rw [h1, h2]
  · rintro k i y hi ⟨e, hlen⟩
    have hi' : i < ((attrsN x.L N).map (fun i : Nat => (i : Int))).length := by rw [List.length_map]; exact hi
    have hm := attrsN_mem.1 (List.getElem_mem hi)
    have hra : rd ((attrsN x.L N).map (fun i : Nat => (i : Int))) (i : Int) = ((attrsN x.L N)[i] : Int) := by rw [rdn hi', List.getElem_map]
    have d1 : decide ((i : Int) < (((attrsN x.L N).map (fun i : Nat => (i : Int))).length : Int)) = true := decide_eq_true (by omega)
    have hfl := fldB_len (L := x.L) (by omega) (a := (attrsN x.L N)[i]) (by omega)
    have hget : (attrsN x.L N).take (i + 1) = (attrsN x.L N).take i ++ [(attrsN x.L N)[i]] := List.take_succ_eq_append_getElem hi
    generalize hag : (attrsN x.L N)[i] = a at *
    obtain ⟨f, hf, hfm⟩ := field_ok h (a := a) hm.1
    rw [vitrinelaw19_ReadFields_l13.eq_2]
    simp only [d1, cond_true]
    rw [gd_pos (by omega), hra, w64_succ (n := i) (by omega)]
    simp only [hf, Option.bind_some, hfm]
    have step : ∀ z, z = y ++ fldB x.L a → ∃ s', vitrinelaw19_ReadFields_l13 (prog x, x) ((attrsN x.L N).map (fun i : Nat => (i : Int))) k (((i + 1 : Nat) : Int), z) = vitrinelaw19_ReadFields_l13 (prog x, x) ((attrsN x.L N).map (fun i : Nat => (i : Int))) k (((i + 1 : Nat) : Int), s') ∧ s' = o ++ ((attrsN x.L N).take (i + 1)).flatMap (fldB x.L) ∧ s'.length ≤ 100 + 35643 * (i + 1) := fun z hz =>
      ⟨z, rfl, by rw [hz, e, hget, List.flatMap_append]; simp only [List.flatMap_cons, List.flatMap_nil, List.append_nil, List.append_assoc], by rw [hz]; simp only [List.length_append]; omega⟩
    cases hM : isMod (rd x.L (a : Int)) with
    | false =>
      simp only [Bool.not_false, cond_true, Option.bind_some]
      exact step y (by unfold fldB; rw [hM]; simp)
    | true =>
      have hmod : (a + 1) % N < N := Nat.mod_lt _ (by omega)
      have hw : ((a + 1 : Nat) : Int) % (N : Int) = (((a + 1) % N : Nat) : Int) := rfl
      have henc := enc_adr (n := (a + 1) % N) (by omega)
      simp only [Bool.not_true, cond_false, Option.bind_some]
      rw [w64_succ (n := a) (by omega), rs_wrap h, hw]
      simp only [Option.bind_some, henc.2.1]
      rw [gd_pos (by simp; omega), gd_pos (by simp only [List.length_append, List.length_cons, List.length_nil, henc.2.2]; omega), places_ok h hm.1 hm.2]
      simp only [Option.bind_some]
      rw [inner_ok h hm.1 _ (by simp only [List.length_append, List.length_cons, List.length_nil, henc.2.2]; omega)]
      simp only [Option.bind_some]
      exact step _ (by unfold fldB; rw [hM, hl]; simp only [if_true, List.append_assoc, List.cons_append, List.nil_append])
  · rintro k y ⟨e, hlen⟩
    have d1 : decide (((attrsN x.L N).length : Int) < (((attrsN x.L N).map (fun i : Nat => (i : Int))).length : Int)) = false := decide_eq_false (by simp only [List.length_map]; omega)
    rw [vitrinelaw19_ReadFields_l13.eq_2]
    simp only [d1, cond_false]
    exact ⟨_, rfl, by rw [e, List.take_of_length_le (Nat.le_refl _)]⟩
/-- steps that do something at some places alone -/
theorem iterN_filter {L : List Vapi_Cell} (z : Vapi_Cell) : ∀ (m i : Nat) (o : List Int), i + m = L.length → iterN (mstep L 0) i m (o, z) = (o ++ ((List.range' i m).filter (isA' L)).flatMap (fldB L), z)
  | 0, i, o, _ => by simp [iterN]
  | m + 1, i, o, h => by
    have hs : mstep L 0 i (o, z) = (o ++ (if isA' L i then fldB L i else []), z) := by
      unfold mstep
      have hA : (rd L (i : Int)).Attr = isA' L i := rfl
      rw [hA]
      unfold fldB
      cases isA' L i with
      | false => simp
      | true =>
        cases isMod (rd L (i : Int)) with
        | false => simp
        | true => simp only [Bool.and_self, if_true, fold0, List.append_assoc, List.cons_append]
    rw [iterN, hs, iterN_filter z m (i + 1) _ (by omega), List.range'_succ, List.filter_cons]
    cases isA' L i with
    | false => simp
    | true => simp only [if_true, List.flatMap_cons, List.append_assoc]
theorem sent0 {L : List Vapi_Cell} (hc : cnt L ≠ 0) (cur aid : Int) : sent L cur aid 0 = aid :: (adr cur ++ (attrsN L L.length).flatMap (fldB L)) := by
  unfold sent
  rw [if_neg hc, iterN_filter zc L.length 0 _ (by omega), attrsN, List.range_eq_range']
  rfl
theorem readFields_true (p : Int) (acts : List Vvitrineref12_Act) (aid : Int) (hp : By p) (ha : ∀ a ∈ acts, AOk a) (hl : acts.length ≤ 9223372036854775807) (hi : By aid) : m_vitrinelaw19_ReadFields p acts aid = some true := by
  obtain ⟨N, x, _, h2, h3⟩ := vitrinelaw19_lay_ok hp ha hl
  have hss := h2.lk.ss
  have hcur := h2.cur
  have hle := h2.dim.dim.le
  have hlen := h2.len
  obtain ⟨n, hn⟩ : ∃ n : Nat, x.Cursor = (n : Int) := ⟨x.Cursor.toNat, by omega⟩
  have henc := enc_adr (n := n) (by omega)
  rw [← hn] at henc
  unfold m_vitrinelaw19_ReadFields
  simp only [awake19, h3, Option.bind_some, Bool.not_true, cond_false, attrs_ok h2, (short_ok hi).2]
  by_cases hz : (attrsN x.L N).length = 0
  · have e : ((((attrsN x.L N).map (fun i : Nat => (i : Int))).length : Int) == 0) = true := beq_t (by rw [List.length_map]; omega)
    simp only [e, cond_true, Option.bind_some]
  · have e : ((((attrsN x.L N).map (fun i : Nat => (i : Int))).length : Int) == 0) = false := beq_f (by rw [List.length_map]; omega)
    simp only [e, cond_false, Option.bind_some]
    cases hsh : shortA aid with
    | true => simp only [cond_true]
    | false =>
      have hcnt : cnt x.L ≠ 0 := by rw [cnt_attrs, hlen]; omega
      have e0 : ((0 : Int) == 0) = true := rfl
      simp only [cond_false, Modified_ok hss hi (mode := 0) ⟨by omega, by omega⟩, hsh, Bool.false_eq_true, if_false, henc.2.1, Option.bind_some]
      rw [gd_pos (by simp [henc.2.2]), outer_ok h2 _ (by simp [henc.2.2])]
      have hsent : sent (prog x).cells (prog x).cursor aid 0 = [aid] ++ adr x.Cursor ++ (attrsN x.L N).flatMap (fldB x.L) := by
        have := sent0 (L := x.L) hcnt x.Cursor aid
        rw [hlen] at this
        exact this.trans (by simp)
      simp only [Option.bind_some, e0, cond_true, hsent, same_refl']
end Go.Vt
