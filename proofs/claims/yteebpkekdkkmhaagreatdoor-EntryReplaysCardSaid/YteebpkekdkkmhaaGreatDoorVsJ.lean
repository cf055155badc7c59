/- What is sent, read again: the program's cells; the document reads it, too. No conditions. -/
import Derived.Test.YteebpkekdkkmhaaGreatDoorVsI
set_option linter.unusedVariables false
set_option linter.unusedSimpArgs false
set_option maxRecDepth 100000
namespace Go.Vt
theorem ap_ok {c : Vapi_Cell} {p : Int × Int} (h : m_attr_Pair_Check (mkA p) = some 0) : m_attr_Pair_Apply (mkA p) c = some (ap c p, 0) := by
  have z : ((0 : Int) != 0) = false := rfl
  unfold m_attr_Pair_Apply
  rw [h]
  simp only [Option.bind_some, z, cond_false]
  unfold ap
  by_cases h0 : p.1 = 0
  · simp [h0]
  · by_cases h1 : p.1 = 192
    · cases hat : c.Attr <;> simp [h1]
      cases c; simp_all
    · by_cases h2 : p.1 = 65
      · simp [h2]
      · by_cases h3 : p.1 = 66
        · simp [h3]
        · by_cases h4 : p.1 = 67
          · simp [h4]
          · simp only [beq_f h0, beq_f h1, beq_f h2, beq_f h3, beq_f h4, cond_false, Option.bind_some, h0, h1, h2, h3, h4, if_false]
theorem elook_loop {l : List (Int × Int)} (hl : l.length ≤ 100) (hp : ∀ p ∈ l, m_attr_Pair_Check (mkA p) = some 0) : ∀ (d i k : Nat) (c : Vapi_Cell), i + d = l.length → d < k →
    entry_look_l2 (l.map mkA) k ((i : Int), c.Char, c.Attr, c.FA, c.High, c.Color, c.f_Set) = some (((l.drop i).foldl ap c).Char, ((l.drop i).foldl ap c).Attr, ((l.drop i).foldl ap c).FA, ((l.drop i).foldl ap c).High, ((l.drop i).foldl ap c).Color, ((l.drop i).foldl ap c).f_Set)
  | d, i, 0, _, _, hk => by omega
  | 0, i, k + 1, c, e, hk => by
    have d1 : decide ((i : Int) < ((l.map mkA).length : Int)) = false := decide_eq_false (by simp; omega)
    rw [entry_look_l2.eq_2]
    simp only [d1, cond_false]
    rw [List.drop_eq_nil_of_le (by omega)]; rfl
  | d + 1, i, k + 1, c, e, hk => by
    have hi : i < l.length := by omega
    have d1 : decide ((i : Int) < ((l.map mkA).length : Int)) = true := decide_eq_true (by simp; omega)
    have hc := hp _ (List.getElem_mem hi)
    have hce : (⟨c.Char, c.Attr, c.FA, c.High, c.Color, c.f_Set⟩ : Vapi_Cell) = c := rfl
    have z : ((0 : Int) == 0) = true := rfl
    rw [entry_look_l2.eq_2]
    simp only [d1, cond_true]
    rw [gd_pos (by simp; omega), rdn (by simp; omega), w64_succ (by omega)]
    simp only [List.getElem_map, hce, ap_ok hc, Option.bind_some, z, cond_true]
    rw [elook_loop hl hp d (i + 1) k _ (by omega) (by omega), List.drop_eq_getElem_cons hi]
    rfl
theorem elook {l : List (Int × Int)} (hl : l.length ≤ 100) (hp : ∀ p ∈ l, m_attr_Pair_Check (mkA p) = some 0) (c : Vapi_Cell) : m_entry_look c (l.map mkA) = some (l.foldl ap c) := by
  unfold m_entry_look
  have := elook_loop hl hp l.length 0 fuel c (by omega) (by unfold fuel; omega)
  have h1 : entry_look_l2 (l.map mkA) fuel (0, c.Char, c.Attr, c.FA, c.High, c.Color, c.f_Set) = _ := this
  rw [h1]; rfl
/-! ### the program's buffer -/
abbrev T8b := Int × List Vapi_Cell × Int × Bool × Int × Int × Int × Int
theorem txt_loop (d4 : List Vorder_Op × Int × Int) (x7 : T8b) (t : List Int) (ht : (rd d4.1 x7.1).Text = t) (hl : t.length ≤ 1000000) : ∀ (d i k : Nat) (out : List Vapi_Cell) (z : Int), i + d = t.length → d < k → out.length + d ≤ 10000000 →
    entry_Buffer_l16 d4 x7 k ((i : Int), out, z) = some (out ++ (t.drop i).map fun b => ⟨b, x7.2.2.2.1, x7.2.2.2.2.1, x7.2.2.2.2.2.1, x7.2.2.2.2.2.2.1, x7.2.2.2.2.2.2.2⟩)
  | d, i, 0, _, _, _, hk, _ => by omega
  | 0, i, k + 1, out, z, e, hk, _ => by
    have d1 : decide ((i : Int) < (t.length : Int)) = false := decide_eq_false (by omega)
    rw [entry_Buffer_l16.eq_2]
    simp only [ht, d1, cond_false]
    rw [List.drop_eq_nil_of_le (by omega)]; simp
  | d + 1, i, k + 1, out, z, e, hk, ho => by
    have hi : i < t.length := by omega
    have d1 : decide ((i : Int) < (t.length : Int)) = true := decide_eq_true (by omega)
    rw [entry_Buffer_l16.eq_2]
    simp only [ht, d1, cond_true]
    rw [gd_pos (by omega), gd_pos (by simp; omega), w64_succ (by omega), txt_loop d4 x7 t ht hl d (i + 1) k _ _ (by omega) (by omega) (by simp; omega), List.drop_eq_getElem_cons hi, rdn hi]
    simp only [List.map_cons, List.append_assoc, List.cons_append, List.nil_append]
theorem sem1_len {o : AO} (ho : o.ok) (s : Lk2) : (sem1 s o).2.length ≤ s.2.length + o.bytes.length := by
  cases o <;> simp [sem1, AO.bytes]
theorem ebuf_loop (d4 : List Vorder_Op × Int × Int) : ∀ (os : List AO) (i k : Nat) (s : Lk2), d4.1.drop i = os.map AO.p → i ≤ d4.1.length → d4.1.length ≤ 1000000 → (∀ o ∈ os, o.ok) → s.2.length + (bytesL os).length ≤ 1000000 → os.length < k →
    entry_Buffer_l7 d4 k ((i : Int), s.2, s.1.Char, s.1.Attr, s.1.FA, s.1.High, s.1.Color, s.1.f_Set) = some (.inl (sem os s).2)
  | os, i, 0, _, _, _, _, _, _, hk => by omega
  | [], i, k + 1, s, hd, hi, hl, _, _, _ => by
    have hlen := congrArg List.length hd
    simp at hlen
    have d1 : decide ((i : Int) < (d4.1.length : Int)) = false := decide_eq_false (by omega)
    rw [entry_Buffer_l7.eq_2]
    simp only [d1, cond_false]; rfl
  | o :: r, i, k + 1, s, hd, hi, hl, ho, hs, hk => by
    have hlen := congrArg List.length hd
    simp at hlen
    have hlt : i < d4.1.length := by omega
    have d1 : decide ((i : Int) < (d4.1.length : Int)) = true := decide_eq_true (by omega)
    have hro : rd d4.1 (i : Int) = o.p := by
      rw [rdn hlt]
      rw [List.drop_eq_getElem_cons hlt] at hd
      exact (List.cons.inj hd).1
    have hdr : d4.1.drop (i + 1) = r.map AO.p := by
      rw [List.drop_eq_getElem_cons hlt] at hd
      exact (List.cons.inj hd).2
    have hok := ho o (by simp)
    have hsl := sem1_len hok s
    rw [bytesL_cons, List.length_append] at hs
    have step : entry_Buffer_l7 d4 (k + 1) ((i : Int), s.2, s.1.Char, s.1.Attr, s.1.FA, s.1.High, s.1.Color, s.1.f_Set) = entry_Buffer_l7 d4 k (((i + 1 : Nat) : Int), (sem1 s o).2, (sem1 s o).1.Char, (sem1 s o).1.Attr, (sem1 s o).1.FA, (sem1 s o).1.High, (sem1 s o).1.Color, (sem1 s o).1.f_Set) := by
      rw [entry_Buffer_l7.eq_2]
      simp only [d1, cond_true]
      rw [gd_pos (by omega), w64_succ (by omega)]
      cases o with
      | text t =>
        have hT : (rd d4.1 (i : Int)).Text = t := by rw [hro]; rfl
        have h1 := txt_loop d4 ((i : Int), s.2, s.1.Char, s.1.Attr, s.1.FA, s.1.High, s.1.Color, s.1.f_Set) t hT (by have := hok.2.2; omega) t.length 0 fuel s.2 s.1.Char (by omega) (by unfold fuel; have := hok.2.2; omega) (by have := hok.2.2; omega)
        have h1' : entry_Buffer_l16 d4 ((i : Int), s.2, s.1.Char, s.1.Attr, s.1.FA, s.1.High, s.1.Color, s.1.f_Set) fuel (0, s.2, s.1.Char) = _ := h1
        rw [hro]
        simp only [AO.p, Int.reduceBEq, cond_true, cond_false, h1', Option.bind_some, esc, jn, List.drop_zero, sem1]
      | ge b =>
        rw [hro]
        simp only [AO.p, Int.reduceBEq, cond_true, cond_false, Option.bind_some, jn]
        rw [gd_pos (by simp; omega)]
        simp only [jn, sem1]
      | sf f =>
        have he := elook (l := [(192, f)]) (by simp) (fun p hp => by rw [List.mem_singleton.1 hp]; unfold m_attr_Pair_Check; simp) ⟨0, true, 0, 0, 0, 0⟩
        rw [hro]
        simp only [AO.p, Int.reduceBEq, cond_true, cond_false]
        simp only [List.map_cons, List.map_nil] at he
        simp only [he, Option.bind_some, jn, List.foldl_cons, List.foldl_nil]
        rw [gd_pos (by simp; omega)]
        simp only [jn, sem1]
      | sfe l =>
        have he := elook (l := l) (by have := hok.1; omega) (fun p hp => (hok.2 p hp).chk) ⟨0, true, 0, 0, 0, 0⟩
        rw [hro]
        simp only [AO.p, Int.reduceBEq, cond_true, cond_false, he, Option.bind_some, jn]
        rw [gd_pos (by simp; omega)]
        simp only [jn, sem1]
      | sa t v =>
        have he := elook (l := [(t, v)]) (by simp) (fun p hp => by rw [List.mem_singleton.1 hp]; exact hok.chk) s.1
        have hse : (⟨s.1.Char, s.1.Attr, s.1.FA, s.1.High, s.1.Color, s.1.f_Set⟩ : Vapi_Cell) = s.1 := rfl
        rw [hro]
        simp only [List.map_cons, List.map_nil] at he
        simp only [AO.p, Int.reduceBEq, cond_true, cond_false, hse, he, Option.bind_some, esc, jn, List.foldl_cons, List.foldl_nil, sem1]
    rw [step, ebuf_loop d4 r (i + 1) k (sem1 s o) hdr (by omega) hl (fun x hx => ho x (by simp [hx])) (by omega) (by simp at hk; omega)]
    rfl
theorem ebegin {a x y cur : Int} {rest : List Int} (hd : m_addr_Decode 12 [x, y] = some (cur, 0)) : m_entry_begin (a :: x :: y :: rest) = some (⟨a, false, cur, []⟩, rest, 0) := by
  unfold m_entry_begin
  have l0 : (((a :: x :: y :: rest).length : Int) == 0) = false := beq_f (by simp only [List.length_cons]; omega)
  have l1 : (((a :: x :: y :: rest).length : Int) == 1) = false := beq_f (by simp only [List.length_cons]; omega)
  have l2 : (((a :: x :: y :: rest).length : Int) == 2) = false := beq_f (by simp only [List.length_cons]; omega)
  have z : ((0 : Int) != 0) = false := rfl
  simp only [l0, l1, l2, cond_false, Option.bind_some]
  rw [gd_pos (by simp only [List.length_cons]; omega)]
  simp only [List.drop_succ_cons, List.drop_zero]
  rw [decode_pre, hd]
  simp only [Option.bind_some, z, cond_false]
  rw [gd_pos (by simp only [List.length_cons]; omega), gd_pos (by simp only [List.length_cons]; omega)]
  rfl
theorem ebuffer {a x y cur : Int} {os : List AO} (hd : m_addr_Decode 12 [x, y] = some (cur, 0)) (h : Nrm os) (hl : (bytesL os).length ≤ 900000) (ho : os.length ≤ 900000) : m_entry_Buffer (a :: x :: y :: bytesL os) = some ((sem os (zc, [])).2, cur, 0) := by
  unfold m_entry_Buffer
  have z : ((0 : Int) != 0) = false := rfl
  simp only [ebegin hd, Option.bind_some, z, cond_false, all_pok h (by omega) (by omega)]
  have := ebuf_loop (os.map AO.p, ((bytesL os).length : Int), 0) os 0 fuel (zc, []) (by simp) (by simp) (by simp; omega) h.ok (by simp; omega) (by unfold fuel; omega)
  have h1 : entry_Buffer_l7 (os.map AO.p, ((bytesL os).length : Int), 0) fuel (0, [], 0, false, 0, 0, 0, 0) = _ := this
  rw [h1]; rfl
theorem ereplay {a x y : Int} {cur : Nat} {os : List AO} (hc : cur < 4096) (hd : m_addr_Decode 12 [x, y] = some ((cur : Int), 0)) (h : Nrm os) (hl : (bytesL os).length ≤ 900000) (ho : os.length ≤ 900000) (alt : Bool) :
    m_entry_Replay (a :: x :: y :: bytesL os) alt = some ((if alt then (126 : Int) else 245) :: 64 :: (bytesL os ++ 17 :: (adr (cur : Int) ++ [19])), 0) := by
  unfold m_entry_Replay
  obtain ⟨e1, _, e3⟩ := enc_adr hc
  have z : ((0 : Int) != 0) = false := rfl
  have hcmd : (cond alt (some 126) (some 245) : Option Int) = some (if alt then 126 else 245) := by cases alt <;> rfl
  simp only [ebuffer hd h hl ho, Option.bind_some, z, cond_false, hcmd, e1]
  rw [gd_pos (by simp only [List.length_cons]; omega)]
  simp only [List.drop_succ_cons, List.drop_zero]
  rw [clone_ok (by omega)]
  simp only [Option.bind_some]
  rw [gd_pos (by simp; omega), gd_pos (by simp; omega), gd_pos (by simp [e3]; omega), gd_pos (by simp [e3]; omega)]
  simp
end Go.Vt
