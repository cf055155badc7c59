/- Of the model of EntryModified: it answers true. No conditions. -/
import Derived.Test.YteebpkekdkkmhaaVpL
set_option linter.unusedVariables false
set_option linter.unusedSimpArgs false
set_option maxRecDepth 100000
namespace Go.Vt
/-! ### looks -/
theorem right_all : ∀ f : Fin 256, m_vitrineref05_Right ⟨65, (f.val : Int)⟩ = some (okP 65 (f.val : Int)) ∧ m_vitrineref05_Right ⟨66, (f.val : Int)⟩ = some (okP 66 (f.val : Int)) ∧ m_vitrineref05_Right ⟨67, (f.val : Int)⟩ = some (okP 67 (f.val : Int)) := by decide +kernel
theorem ok0 : okP 65 0 = true ∧ okP 66 0 = true ∧ okP 67 0 = true := by decide +kernel
abbrev mkR (p : Int × Int) : Vvitrineref05_Pair := ⟨p.1, p.2⟩
theorem rdiff_ok (a b : Vapi_Cell) : m_vitrineref05_Diff a b = some ((dif a b).map mkR) := by
  unfold m_vitrineref05_Diff dif gd
  rcases beq_or a.High b.High with ⟨h1, q1⟩ | ⟨h1, q1⟩ <;> rcases beq_or a.Color b.Color with ⟨h2, q2⟩ | ⟨h2, q2⟩ <;> rcases beq_or a.f_Set b.f_Set with ⟨h3, q3⟩ | ⟨h3, q3⟩
  all_goals simp [bne, q1, q2, q3, h1, h2, h3]
theorem right_ok {p : Int × Int} (hb : By p.2) (h : p.1 = 65 ∨ p.1 = 66 ∨ p.1 = 67) : m_vitrineref05_Right (mkR p) = some (okP p.1 p.2) := by
  obtain ⟨f, hf⟩ := hb.fin
  obtain ⟨h1, h2, h3⟩ := right_all f
  unfold mkR
  rw [← hf]
  rcases h with h | h | h <;> rw [h]
  · exact h1
  · exact h2
  · exact h3
theorem looks_in {l : List (Int × Int)} (hl : l.length ≤ 3) (hp : ∀ p ∈ l, By p.2 ∧ (p.1 = 65 ∨ p.1 = 66 ∨ p.1 = 67)) : ∀ (k i : Nat), i ≤ l.length → l.length - i < k →
    (vitrinelaw20_looks_l7 (l.map mkR) k (i : Int) = some (.inl ()) ∧ ∀ p ∈ l.drop i, okP p.1 p.2 = true) ∨ vitrinelaw20_looks_l7 (l.map mkR) k (i : Int) = some (.inr (.inr (.inr false)))
  | 0, i, h1, h2 => by omega
  | k + 1, i, h1, h2 => by
    rw [vitrinelaw20_looks_l7.eq_2]
    by_cases hlt : i < l.length
    · have d1 : decide ((i : Int) < ((l.map mkR).length : Int)) = true := decide_eq_true (by rw [List.length_map]; omega)
      obtain ⟨b1, b2⟩ := hp _ (List.getElem_mem hlt)
      have hr : rd (l.map mkR) (i : Int) = mkR l[i] := by rw [rdn (by rw [List.length_map]; exact hlt), List.getElem_map]
      simp only [d1, cond_true]
      rw [gd_pos (by rw [List.length_map]; omega), hr, right_ok b1 b2, w64_succ (by omega)]
      simp only [Option.bind_some]
      cases hk : okP l[i].1 l[i].2 with
      | false => right; rfl
      | true =>
        simp only [Bool.not_true, cond_false]
        rcases looks_in hl hp k (i + 1) (by omega) (by omega) with ⟨g1, g2⟩ | g
        · left
          refine ⟨g1, fun p hpm => ?_⟩
          rw [List.drop_eq_getElem_cons hlt] at hpm
          cases hpm with
          | head => exact hk
          | tail _ h => exact g2 p h
        · right; exact g
    · have d1 : decide ((i : Int) < ((l.map mkR).length : Int)) = false := decide_eq_false (by rw [List.length_map]; omega)
      simp only [d1, cond_false]
      left
      exact ⟨trivial, fun p hpm => by rw [List.drop_eq_nil_of_le (by omega)] at hpm; cases hpm⟩
theorem dif_kinds {last c : Vapi_Cell} (hc : CB c) : ∀ p ∈ dif last c, By p.2 ∧ (p.1 = 65 ∨ p.1 = 66 ∨ p.1 = 67) := by
  intro p hp
  unfold dif at hp
  simp only [List.mem_append] at hp
  rcases hp with hp | hp | hp
  · split at hp
    · cases hp
    · simp at hp; subst hp; exact ⟨hc.high, .inl rfl⟩
  · split at hp
    · cases hp
    · simp at hp; subst hp; exact ⟨hc.color, .inr (.inl rfl)⟩
  · split at hp
    · cases hp
    · simp at hp; subst hp; exact ⟨hc.set, .inr (.inr rfl)⟩
theorem lok_of {c : Vapi_Cell} (h : ∀ p ∈ dif zc c, okP p.1 p.2 = true) : LOk c := by
  obtain ⟨z1, z2, z3⟩ := ok0
  refine ⟨?_, ?_, ?_⟩
  · by_cases h0 : c.High = 0
    · rw [h0]; exact z1
    · have h0' : ¬ (0 : Int) = c.High := fun e => h0 e.symm
      exact h (65, c.High) (by unfold dif; simp [h0'])
  · by_cases h0 : c.Color = 0
    · rw [h0]; exact z2
    · have h0' : ¬ (0 : Int) = c.Color := fun e => h0 e.symm
      exact h (66, c.Color) (by unfold dif; simp [h0'])
  · by_cases h0 : c.f_Set = 0
    · rw [h0]; exact z3
    · have h0' : ¬ (0 : Int) = c.f_Set := fun e => h0 e.symm
      exact h (67, c.f_Set) (by unfold dif; simp [h0'])
theorem looks_out {m : Int} {N : Nat} {x : Vvitrineref12_Space} (hx : RS m N x) : ∀ (k i : Nat), i ≤ N → N - i < k →
    (vitrinelaw20_looks_l2 x k (i : Int) = some (.inl ()) ∧ ∀ c ∈ x.L.drop i, LOk c) ∨ vitrinelaw20_looks_l2 x k (i : Int) = some (.inr false)
  | 0, i, h1, h2 => by omega
  | k + 1, i, h1, h2 => by
    have hl := hx.len
    have hle := hx.dim.dim.le
    rw [vitrinelaw20_looks_l2.eq_2]
    by_cases hlt : i < N
    · have hil : i < x.L.length := by omega
      have hC := hx.ok _ (List.getElem_mem hil)
      have d1 : decide ((i : Int) < (x.L.length : Int)) = true := decide_eq_true (by omega)
      simp only [d1, cond_true]
      rw [gd_pos (by omega), rdn hil, rdiff_ok, w64_succ (by omega)]
      simp only [Option.bind_some]
      rcases looks_in (dif_len zc x.L[i]) (dif_kinds hC.cb) fuel 0 (by omega) (by have := dif_len zc x.L[i]; unfold fuel; omega) with ⟨g1, g2⟩ | g
      · have g1' : vitrinelaw20_looks_l7 ((dif zc x.L[i]).map mkR) fuel 0 = some (.inl ()) := g1
        rw [g1']
        simp only [jn]
        rcases looks_out hx k (i + 1) (by omega) (by omega) with ⟨e1, e2⟩ | e
        · left
          refine ⟨e1, fun c hc => ?_⟩
          rw [List.drop_eq_getElem_cons hil] at hc
          cases hc with
          | head => exact lok_of (by simpa using g2)
          | tail _ h => exact e2 c h
        · right; exact e
      · have g' : vitrinelaw20_looks_l7 ((dif zc x.L[i]).map mkR) fuel 0 = some (.inr (.inr (.inr false))) := g
        rw [g']
        right; rfl
    · have d1 : decide ((i : Int) < (x.L.length : Int)) = false := decide_eq_false (by omega)
      simp only [d1, cond_false]
      left
      exact ⟨trivial, fun c hc => by rw [List.drop_eq_nil_of_le (by omega)] at hc; cases hc⟩
theorem looks_ok {m : Int} {N : Nat} {x : Vvitrineref12_Space} (hx : RS m N x) : ∃ b, m_vitrinelaw20_looks x = some b ∧ (b = true → ∀ c ∈ x.L, LOk c) := by
  have hle := hx.dim.dim.le
  unfold m_vitrinelaw20_looks
  rcases looks_out hx fuel 0 (by omega) (by unfold fuel; omega) with ⟨h1, h2⟩ | h
  · have h1' : vitrinelaw20_looks_l2 x fuel 0 = some (.inl ()) := h1
    rw [h1']
    exact ⟨true, rfl, fun _ => by simpa using h2⟩
  · have h' : vitrinelaw20_looks_l2 x fuel 0 = some (.inr false) := h
    rw [h']
    exact ⟨false, rfl, fun h => by cases h⟩
/-! ### what is wanted -/
theorem sent_ok {c : Vapi_Cell} (h : By c.Char) : m_vitrinelaw20_sent c.Char = some (sch c) := by
  unfold m_vitrinelaw20_sent sch
  simp only [is16 h, Option.bind_some]
  cases isO c.Char <;> rfl
theorem text_loop' {m : Int} {N : Nat} {x : Vvitrineref12_Space} {s : Vspace_Space} (hx : RS m N x) (he : ∃ c ∈ x.L, c.Attr = true) : ∀ (k n : Nat) (acc : List Int), (run x.L (n % N)).length < k → n + (run x.L (n % N)).length ≤ 100000 → acc.length + (run x.L (n % N)).length ≤ 100000 →
    vitrinelaw20_EntryModified_l22 (s, x) k ((n : Int), acc) = some (acc ++ chs (run x.L (n % N)))
  | 0, n, acc, h, _, _ => by omega
  | k + 1, n, acc, hk, hn, ha => by
    have hle := hx.dim.dim.le
    have hl := hx.len
    have hj : n % N < N := Nat.mod_lt _ (by omega)
    have hjl : n % N < x.L.length := by omega
    have hnm : (n : Int) % (N : Int) = ((n % N : Nat) : Int) := rfl
    have hC := hx.ok _ (List.getElem_mem hjl)
    rw [vitrinelaw20_EntryModified_l22.eq_2]
    simp only [rs_at hx, hnm, rdn hjl, Option.bind_some]
    cases hat : x.L[n % N].Attr with
    | true => simp only [Bool.not_true, cond_false, run_attr hjl hat]; simp [chs]
    | false =>
      have hr := run_step hjl hat he
      rw [hl] at hr
      have e1 : (n % N + 1) % N = (n + 1) % N := by rw [Nat.mod_add_mod]
      rw [e1] at hr
      have hrl : (run x.L (n % N)).length = (run x.L ((n + 1) % N)).length + 1 := by rw [hr]; rfl
      simp only [Bool.not_false, cond_true, Option.bind_some]
      rw [w64_succ (by omega), hr, chs_cons]
      by_cases h0 : x.L[n % N].Char = 0
      · simp only [bne_f h0, cond_false, Option.bind_some, if_pos h0, List.nil_append]
        exact text_loop' hx he k (n + 1) acc (by omega) (by omega) (by omega)
      · simp only [bne_t h0, cond_true, sent_ok hC.char, Option.bind_some, if_neg h0]
        rw [gd_pos (by simp; omega)]
        simp only [Option.bind_some]
        rw [text_loop' hx he k (n + 1) _ (by omega) (by omega) (by simp; omega)]
        simp only [List.append_assoc]
theorem all_text' {m : Int} {N : Nat} {x : Vvitrineref12_Space} {s : Vspace_Space} (hx : RS m N x) : vitrinelaw20_EntryModified_l32 (s, x) fuel (0, []) = some (chs x.L) := by
  have hle := hx.dim.dim.le
  have hl := hx.len
  have key := loop_rel0 (L := vitrinelaw20_EntryModified_l32 (s, x)) (n := N) (s := ([] : List Int)) (fun i y => y = chs (x.L.take i)) (fun r => r = chs x.L) (by omega) ?_ ?_ rfl
  · obtain ⟨r, h1, h2⟩ := key; rw [h1, h2]
  · rintro k i y hi rfl
    have hil : i < x.L.length := by omega
    have hC := hx.ok _ (List.getElem_mem hil)
    have d1 : decide ((i : Int) < (x.L.length : Int)) = true := decide_eq_true (by omega)
    have hlen := chs_len (x.L.take i)
    rw [List.length_take] at hlen
    rw [vitrinelaw20_EntryModified_l32.eq_2]
    simp only [d1, cond_true]
    rw [gd_pos (by omega), rdn hil, w64_succ (by omega)]
    rw [List.take_succ_eq_append_getElem hil, chs_app]
    have hnil : chs [] = [] := rfl
    by_cases h0 : x.L[i].Char = 0
    · simp only [bne_f h0, cond_false, Option.bind_some]
      exact ⟨_, rfl, by rw [chs_cons, if_pos h0, hnil]; simp⟩
    · simp only [bne_t h0, cond_true, sent_ok hC.char, Option.bind_some]
      rw [gd_pos (by simp; omega)]
      exact ⟨_, rfl, by rw [chs_cons, if_neg h0, hnil]; simp⟩
  · rintro k y rfl
    have d1 : decide ((N : Int) < (x.L.length : Int)) = false := decide_eq_false (by omega)
    rw [vitrinelaw20_EntryModified_l32.eq_2]
    simp only [d1, cond_false]
    exact ⟨_, rfl, by rw [List.take_of_length_le (by omega)]⟩
abbrev mkE (e : Ventry_Entry) : Vvitrineref20_Entry := ⟨e.Addr, e.Text⟩
def modsN (L : List Vapi_Cell) (l : List Nat) : List Vvitrineref20_Entry := (l.filter (fun a : Nat => isMod (rd L (a : Int)))).map (fun a => mkE (entOf L a))
theorem modsN_app (L : List Vapi_Cell) (a b : List Nat) : modsN L (a ++ b) = modsN L a ++ modsN L b := by simp [modsN]
theorem modsN_len (L : List Vapi_Cell) (l : List Nat) : (modsN L l).length ≤ l.length := by unfold modsN; rw [List.length_map]; exact List.length_filter_le _ _
theorem want_loop {m : Int} {N : Nat} {x : Vvitrineref12_Space} {s : Vspace_Space} (hx : RS m N x) : vitrinelaw20_EntryModified_l16 (s, x) ((attrsN x.L N).map (fun i : Nat => (i : Int))) fuel (0, []) = some (modsN x.L (attrsN x.L N)) := by
  have hle := hx.dim.dim.le
  have hl := hx.len
  have hal := attrsN_len x.L N
  have key := loop_rel0 (L := vitrinelaw20_EntryModified_l16 (s, x) ((attrsN x.L N).map (fun i : Nat => (i : Int)))) (n := (attrsN x.L N).length) (s := ([] : List Vvitrineref20_Entry)) (fun i y => y = modsN x.L ((attrsN x.L N).take i)) (fun r => r = modsN x.L (attrsN x.L N)) (by omega) ?_ ?_ rfl
  · obtain ⟨r, h1, h2⟩ := key; rw [h1, h2]
  · rintro k i y hi rfl
    have hi' : i < ((attrsN x.L N).map (fun i : Nat => (i : Int))).length := by rw [List.length_map]; exact hi
    have hm := attrsN_mem.1 (List.getElem_mem hi)
    have hra : rd ((attrsN x.L N).map (fun i : Nat => (i : Int))) (i : Int) = ((attrsN x.L N)[i] : Int) := by rw [rdn hi', List.getElem_map]
    have d1 : decide ((i : Int) < (((attrsN x.L N).map (fun i : Nat => (i : Int))).length : Int)) = true := decide_eq_true (by omega)
    have hget : (attrsN x.L N).take (i + 1) = (attrsN x.L N).take i ++ [(attrsN x.L N)[i]] := List.take_succ_eq_append_getElem hi
    have hlen := modsN_len x.L ((attrsN x.L N).take i)
    rw [List.length_take] at hlen
    rw [hget, modsN_app]
    generalize hag : (attrsN x.L N)[i] = a at *
    have hal2 : a < x.L.length := by omega
    rw [vitrinelaw20_EntryModified_l16.eq_2]
    simp only [d1, cond_true]
    rw [gd_pos (by omega), hra, w64_succ (n := i) (by omega), gd_pos (by omega)]
    have hone : modsN x.L [a] = if isMod (rd x.L (a : Int)) then [mkE (entOf x.L a)] else [] := by unfold modsN; rw [List.filter_cons]; split <;> rfl
    cases hM : ((iband .u8 (rd x.L (a : Int)).FA 1) == 0) with
    | true =>
      simp only [cond_true, Option.bind_some]
      have : isMod (rd x.L (a : Int)) = false := by unfold isMod; rw [bne, hM]; rfl
      exact ⟨_, rfl, by rw [hone, this]; simp⟩
    | false =>
      have hMt : isMod (rd x.L (a : Int)) = true := by unfold isMod; rw [bne, hM]; rfl
      have hw : ((a + 1 : Nat) : Int) % (N : Int) = (((a + 1) % N : Nat) : Int) := rfl
      have hrl := run_len x.L ((a + 1) % N)
      have hat : x.L[a].Attr = true := by have := hm.2; unfold isA' at this; rwa [rdn hal2] at this
      simp only [cond_false, Option.bind_some]
      rw [w64_succ (n := a) (by omega), rs_wrap hx, hw]
      simp only [Option.bind_some]
      rw [text_loop' hx ⟨_, List.getElem_mem hal2, hat⟩ fuel (a + 1) [] (by unfold fuel; omega) (by omega) (by simp; omega)]
      simp only [Option.bind_some]
      rw [gd_pos (by simp; omega)]
      refine ⟨_, rfl, ?_⟩
      rw [hone, hMt]
      simp only [if_true, List.nil_append, mkE, entOf, hl]
  · rintro k y rfl
    have d1 : decide (((attrsN x.L N).length : Int) < (((attrsN x.L N).map (fun i : Nat => (i : Int))).length : Int)) = false := decide_eq_false (by simp only [List.length_map]; omega)
    rw [vitrinelaw20_EntryModified_l16.eq_2]
    simp only [d1, cond_false]
    exact ⟨_, rfl, by rw [List.take_of_length_le (Nat.le_refl _)]⟩
/-! ### alike -/
theorem back_ok {r : Ventry_Report} (hl : r.Entries.length ≤ 10000) : m_vitrinelaw20_back r = some ⟨r.AID, r.Short, r.Cursor, r.Entries.map mkE⟩ := by
  have key := loop_rel0 (L := vitrinelaw20_back_l2 r) (n := r.Entries.length) (s := ([] : List Vvitrineref20_Entry)) (fun i y => y = (r.Entries.take i).map mkE) (fun z => z = r.Entries.map mkE) (by omega) ?_ ?_ rfl
  · obtain ⟨z, h1, h2⟩ := key; unfold m_vitrinelaw20_back; rw [h1, h2]; rfl
  · rintro k i y hi rfl
    have d1 : decide ((i : Int) < (r.Entries.length : Int)) = true := decide_eq_true (by omega)
    have hr : rd r.Entries (i : Int) = r.Entries[i] := rdn hi
    rw [vitrinelaw20_back_l2.eq_2]
    simp only [d1, cond_true]
    rw [gd_pos (by omega), gd_pos (by simp; omega), hr, w64_succ (by omega)]
    exact ⟨_, rfl, by rw [List.take_succ_eq_append_getElem hi, List.map_append]; rfl⟩
  · rintro k y rfl
    have d1 : decide ((r.Entries.length : Int) < (r.Entries.length : Int)) = false := decide_eq_false (by omega)
    rw [vitrinelaw20_back_l2.eq_2]
    simp only [d1, cond_false]
    exact ⟨_, rfl, by rw [List.take_of_length_le (Nat.le_refl _)]⟩
theorem same2_loop {b : Vvitrineref20_Report} (hl : b.Entries.length ≤ 10000) : ∀ (k n : Nat), n ≤ b.Entries.length → b.Entries.length - n < k → vitrineref20_Same_2_l4 b b k (n : Int) = some (.inl ())
  | 0, n, _, h => by omega
  | k + 1, n, hn, hk => by
    rw [vitrineref20_Same_2_l4.eq_2]
    by_cases hlt : n < b.Entries.length
    · have d1 : decide ((n : Int) < (b.Entries.length : Int)) = true := decide_eq_true (by omega)
      have d2 : ((rd b.Entries (n : Int)).Addr != (rd b.Entries (n : Int)).Addr) = false := by simp
      have hb : (0 : Int) ≤ (n : Int) ∧ (n : Int) < (b.Entries.length : Int) := by omega
      simp only [d1, cond_true, gd_pos hb, d2, cond_false, same_refl', Option.bind_some, Bool.not_true]
      rw [w64_succ (by omega)]
      exact same2_loop hl k (n + 1) (by omega) (by omega)
    · have d1 : decide ((n : Int) < (b.Entries.length : Int)) = false := decide_eq_false (by omega)
      simp only [d1, cond_false]
theorem same2_refl {b : Vvitrineref20_Report} (hl : b.Entries.length ≤ 10000) : m_vitrineref20_Same_2 b b = some true := by
  have h := same2_loop hl fuel 0 (by omega) (by unfold fuel; omega)
  have h' : vitrineref20_Same_2_l4 b b fuel 0 = some (.inl ()) := h
  unfold m_vitrineref20_Same_2
  rw [h']
  simp [jn]
theorem ents_map {L : List Vapi_Cell} (h : cnt L ≠ 0) : (entsOf L).map mkE = modsN L (attrsN L L.length) := by
  unfold entsOf modsN
  rw [if_neg h, List.map_map]; rfl
/-- THE LAW -/
theorem entryModified_true (p : Int) (acts : List Vvitrineref12_Act) (aid md : Int) (hp : By p) (ha : ∀ a ∈ acts, AOk a) (hl : acts.length ≤ 9223372036854775807) (hi : By aid) (hm : By md) : m_vitrinelaw20_EntryModified p acts aid md = some true := by
  obtain ⟨N, x, _, h2, h3⟩ := vitrinelaw20_lay_ok hp ha hl
  have hk := mod3_of hm
  have hss := h2.lk.ss
  have hcur := h2.cur
  have hle := h2.dim.dim.le
  have hlen := h2.len
  obtain ⟨n, hn⟩ : ∃ n : Nat, x.Cursor = (n : Int) := ⟨x.Cursor.toNat, by omega⟩
  obtain ⟨b, hb, hb2⟩ := looks_ok h2
  have hpc : (prog x).cells = x.L := rfl
  have hpcur : (prog x).cursor = (n : Int) := hn
  have hcok : ∀ c ∈ x.L, COk c := h2.ok
  have e0 : ((0 : Int) != 0) = false := rfl
  have e1 : ((0 : Int) == 0) = true := rfl
  unfold m_vitrinelaw20_EntryModified
  simp only [awake_ok, h3, Option.bind_some, Bool.not_true, cond_false, Modified_ok hss hi hk, hpc, hpcur, (short_ok hi).2, hb]
  -- what is parsed
  have hparse : ∃ r e, m_entry_Parse (if shortA aid then [aid] else sent x.L (n : Int) aid (w64 (md.tmod 3))) = some (r, e) ∧ (b = true → e = 0 ∧ r = if shortA aid then ⟨aid, true, 0, []⟩ else ⟨aid, false, (n : Int), entsOf x.L⟩) := by
    cases hsh : shortA aid with
    | true => exact ⟨_, _, parse_one aid, fun _ => ⟨rfl, rfl⟩⟩
    | false =>
      simp only [Bool.false_eq_true, if_false]
      cases b with
      | true =>
        have hL := hb2 rfl
        exact ⟨_, _, parse_sent (by omega) (fun c hc => ⟨hcok c hc, hL c hc⟩) (n := n) (by omega) hi _, fun _ => ⟨rfl, rfl⟩⟩
      | false =>
        obtain ⟨f1, f2⟩ := adr_rd (n := n) (by omega)
        obtain ⟨g1, g2⟩ := sent_bs (L := x.L) (by omega) hcok (n := n) (by omega) (mode := w64 (md.tmod 3)) hi
        have hs := sent_items (L := x.L) (by omega) (n : Int) aid (w64 (md.tmod 3))
        rw [f2] at hs
        rw [hs] at g1 g2 ⊢
        obtain ⟨r, e, hr⟩ := parse_tot (a := aid) (rest := itb (sentI x.L (w64 (md.tmod 3)))) f1.bx f1.by_ (fun z hz => g1 z (by simp [hz])) (by simp only [List.length_cons, List.length_append, List.length_nil] at g2; omega)
        exact ⟨r, e, hr, fun h => by cases h⟩
  obtain ⟨r, e, hr, hre⟩ := hparse
  simp only [hr, Option.bind_some]
  cases b with
  | false => simp only [Bool.not_false, cond_true, e1]
  | true =>
    obtain ⟨rfl, hrr⟩ := hre rfl
    have haid : (r.AID != aid) = false := by rw [hrr]; cases shortA aid <;> simp
    simp only [Bool.not_true, cond_false, e0, haid, Option.bind_some]
    cases hsh : shortA aid with
    | true =>
      rw [hsh] at hrr
      simp only [if_true] at hrr
      simp only [cond_true, hrr]; rfl
    | false =>
      rw [hsh] at hrr
      simp only [Bool.false_eq_true, if_false] at hrr
      simp only [cond_false, attrs_ok h2, Option.bind_some, want_loop h2]
      have hal := attrsN_len x.L N
      have hcnt : cnt x.L = ((attrsN x.L N).length : Int) := by rw [cnt_attrs, hlen]
      have hml := modsN_len x.L (attrsN x.L N)
      have hwant : ((cond ((((attrsN x.L N).map (fun i : Nat => (i : Int))).length : Int) == 0) ((vitrinelaw20_EntryModified_l32 (prog x, x) fuel (0, [])).bind fun (d31 : List Int) => cond (decide ((d31.length : Int) > 0)) (some [(⟨0, d31⟩ : Vvitrineref20_Entry)]) (some (modsN x.L (attrsN x.L N)))) (some (modsN x.L (attrsN x.L N)))) : Option (List Vvitrineref20_Entry)) = some ((entsOf x.L).map mkE) := by
        by_cases hz : (attrsN x.L N).length = 0
        · have d : ((((attrsN x.L N).map (fun i : Nat => (i : Int))).length : Int) == 0) = true := beq_t (by rw [List.length_map]; omega)
          have hA : attrsN x.L N = [] := List.length_eq_zero_iff.1 hz
          have hc0 : cnt x.L = 0 := by rw [hcnt, hz]; rfl
          simp only [d, cond_true, all_text' h2, Option.bind_some]
          unfold entsOf
          rw [if_pos hc0]
          by_cases hn0 : chs x.L = []
          · rw [if_pos hn0, hn0]
            have d2 : decide ((([] : List Int).length : Int) > 0) = false := rfl
            rw [d2, hA]; rfl
          · have hpos := List.length_pos_iff.2 hn0
            have d2 : decide (((chs x.L).length : Int) > 0) = true := decide_eq_true (by omega)
            rw [if_neg hn0, d2]; rfl
        · have d : ((((attrsN x.L N).map (fun i : Nat => (i : Int))).length : Int) == 0) = false := beq_f (by rw [List.length_map]; omega)
          have hc0 : cnt x.L ≠ 0 := by rw [hcnt]; omega
          simp only [d, cond_false]
          rw [ents_map hc0, hlen]
      rw [hwant]
      have hel : (entsOf x.L).length ≤ 10000 := by
        by_cases hz : cnt x.L = 0
        · unfold entsOf; rw [if_pos hz]; split <;> simp
        · have h5 := congrArg List.length (ents_map hz)
          rw [List.length_map, hlen] at h5
          omega
      have hrl : r.Entries.length ≤ 10000 := by rw [hrr]; exact hel
      have hre2 : (⟨r.AID, r.Short, r.Cursor, r.Entries⟩ : Ventry_Report) = r := rfl
      simp only [Option.bind_some, hre2, back_ok hrl]
      rw [hrr, hn]
      have := same2_refl (b := ⟨aid, false, (n : Int), (entsOf x.L).map mkE⟩) (by rw [List.length_map]; exact hel)
      simp only [this, Option.bind_some]
end Go.Vt
