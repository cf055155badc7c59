/- The document reads what is sent, too; what can be said of how cells look. No conditions. -/
import Derived.Test.YteebpkekdkkmhaaGreatDoorVsJ
set_option linter.unusedVariables false
set_option linter.unusedSimpArgs false
set_option maxRecDepth 100000
namespace Go.Vt
theorem rsix_ok {n : Int} (h : By n) : Tot (m_vitrineref05_Six n) fun _ => True := by
  obtain ⟨f, rfl⟩ := h.fin
  exact ⟨_, (band61 f).2.2, trivial⟩
theorem rap_tot {p : Int × Int} (h : PrOk p.1 p.2) (c : Vapi_Cell) : Tot (m_vitrineref05_Apply (mkR p) c) fun _ => True := by
  unfold m_vitrineref05_Apply
  rw [h.rgt]
  simp only [Option.bind_some, Bool.not_true, cond_false]
  refine tot_bind (P := fun _ => True) (tot_cond (fun _ => tot_some trivial) fun _ => tot_some trivial) fun b _ => ?_
  refine tot_bind (P := fun _ => True) (tot_cond (fun _ => tot_bind (rsix_ok h.bv) fun _ _ => tot_some trivial) fun _ => tot_some trivial) fun _ _ => ?_
  refine tot_bind (P := fun _ => True) (tot_cond (fun _ => tot_some trivial) fun _ => tot_some trivial) fun b _ => ?_
  refine tot_bind (P := fun _ => True) (tot_cond (fun _ => tot_some trivial) fun _ => tot_some trivial) fun b _ => ?_
  refine tot_bind (P := fun _ => True) (tot_cond (fun _ => tot_some trivial) fun _ => tot_some trivial) fun b _ => ?_
  refine tot_bind (P := fun _ => True) (tot_cond (fun _ => tot_some trivial) fun _ => tot_some trivial) fun b _ => ?_
  refine tot_bind (P := fun _ => True) (tot_cond (fun _ => tot_some trivial) fun _ => tot_some trivial) fun b _ => ?_
  refine tot_bind (P := fun _ => True) (tot_cond (fun _ => tot_some trivial) fun _ => tot_some trivial) fun b _ => tot_some trivial
theorem rapplied_loop {l : List (Int × Int)} (hp : ∀ p ∈ l, PrOk p.1 p.2) (hl : l.length ≤ 1000) : ∀ (d i k : Nat) (c : Int × Bool × Int × Int × Int × Int), i + d = l.length → d < k → Tot (vitrineref20_applied_l2 (l.map mkR) k ((i : Int), c)) fun _ => True
  | d, i, 0, _, _, hk => by omega
  | 0, i, k + 1, c, e, hk => by
    have d1 : decide ((i : Int) < ((l.map mkR).length : Int)) = false := decide_eq_false (by simp; omega)
    rw [vitrineref20_applied_l2.eq_2]
    simp only [d1, cond_false]
    exact tot_some trivial
  | d + 1, i, k + 1, c, e, hk => by
    have hi : i < l.length := by omega
    have d1 : decide ((i : Int) < ((l.map mkR).length : Int)) = true := decide_eq_true (by simp; omega)
    rw [vitrineref20_applied_l2.eq_2]
    simp only [d1, cond_true]
    rw [gd_pos (by simp; omega), rdn (by simp; omega), w64_succ (by omega)]
    simp only [List.getElem_map]
    exact tot_bind (rap_tot (hp _ (List.getElem_mem hi)) _) fun _ _ => rapplied_loop hp hl d (i + 1) k _ (by omega) (by omega)
theorem rapplied {l : List (Int × Int)} (hp : ∀ p ∈ l, PrOk p.1 p.2) (hl : l.length ≤ 1000) (c : Vapi_Cell) : Tot (m_vitrineref20_applied c (l.map mkR)) fun _ => True := by
  unfold m_vitrineref20_applied
  exact tot_bind (rapplied_loop hp hl l.length 0 fuel _ (by omega) (by unfold fuel; omega)) fun _ _ => tot_some trivial
theorem rtxt_loop (d1 : Int × List Vvitrineref16_Op × Int) (x4 : T8b) (t : List Int) (ht : (rd d1.2.1 x4.1).Text = t) (hl : t.length ≤ 1000000) : ∀ (d i k : Nat) (out : List Vapi_Cell) (z : Int), i + d = t.length → d < k → out.length + d ≤ 10000000 →
    Tot (vitrineref20_Buffer_l10 d1 x4 k ((i : Int), out, z)) fun r => r.length = out.length + d
  | d, i, 0, _, _, _, hk, _ => by omega
  | 0, i, k + 1, out, z, e, hk, _ => by
    have d1' : decide ((i : Int) < (t.length : Int)) = false := decide_eq_false (by omega)
    rw [vitrineref20_Buffer_l10.eq_2]
    simp only [ht, d1', cond_false]
    exact tot_some rfl
  | d + 1, i, k + 1, out, z, e, hk, ho => by
    have d1' : decide ((i : Int) < (t.length : Int)) = true := decide_eq_true (by omega)
    rw [vitrineref20_Buffer_l10.eq_2]
    simp only [ht, d1', cond_true]
    rw [gd_pos (by omega), gd_pos (by simp; omega), w64_succ (by omega)]
    exact (rtxt_loop d1 x4 t ht hl d (i + 1) k _ _ (by omega) (by omega) (by simp; omega)).mono fun r hr => by simp at hr; omega
abbrev T7b := List Vapi_Cell × Int × Bool × Int × Int × Int × Int
theorem rbuf_loop (d1 : Int × List Vvitrineref16_Op × Int) : ∀ (os : List AO) (i k : Nat) (s : T7b), d1.2.1.drop i = os.map AO.r → i ≤ d1.2.1.length → d1.2.1.length ≤ 1000000 → (∀ o ∈ os, o.ok) → s.1.length + (bytesL os).length ≤ 1000000 → os.length < k →
    Tot (vitrineref20_Buffer_l4 d1 k ((i : Int), s)) fun r => ∃ l, r = .inl l
  | os, i, 0, _, _, _, _, _, _, hk => by omega
  | [], i, k + 1, s, hd, hi, hl, _, _, _ => by
    have hlen := congrArg List.length hd
    simp at hlen
    have d1' : decide ((i : Int) < (d1.2.1.length : Int)) = false := decide_eq_false (by omega)
    rw [vitrineref20_Buffer_l4.eq_2]
    simp only [d1', cond_false]
    exact tot_some ⟨_, rfl⟩
  | o :: r, i, k + 1, s, hd, hi, hl, ho, hs, hk => by
    have hlen := congrArg List.length hd
    simp at hlen
    have hlt : i < d1.2.1.length := by omega
    have d1' : decide ((i : Int) < (d1.2.1.length : Int)) = true := decide_eq_true (by omega)
    have hro : rd d1.2.1 (i : Int) = o.r := by
      rw [rdn hlt]
      rw [List.drop_eq_getElem_cons hlt] at hd
      exact (List.cons.inj hd).1
    have hdr : d1.2.1.drop (i + 1) = r.map AO.r := by
      rw [List.drop_eq_getElem_cons hlt] at hd
      exact (List.cons.inj hd).2
    have hok := ho o (by simp)
    rw [bytesL_cons, List.length_append] at hs
    have next : ∀ s' : T7b, s'.1.length ≤ s.1.length + o.bytes.length → Tot (vitrineref20_Buffer_l4 d1 k (((i + 1 : Nat) : Int), s')) fun r => ∃ l, r = .inl l := fun s' h => rbuf_loop d1 r (i + 1) k s' hdr (by omega) hl (fun x hx => ho x (by simp [hx])) (by omega) (by simp at hk; omega)
    rw [vitrineref20_Buffer_l4.eq_2]
    simp only [d1', cond_true]
    rw [gd_pos (by omega), w64_succ (by omega)]
    cases o with
    | text t =>
      have hT : (rd d1.2.1 (i : Int)).Text = t := by rw [hro]; rfl
      obtain ⟨l, h1, h2⟩ := rtxt_loop d1 ((i : Int), s) t hT (by have := hok.2.2; omega) t.length 0 fuel s.1 s.2.1 (by omega) (by unfold fuel; have := hok.2.2; omega) (by have := hok.2.2; simp [AO.bytes] at hs; omega)
      have h1' : vitrineref20_Buffer_l10 d1 ((i : Int), s) fuel (0, s.1, s.2.1) = _ := h1
      rw [hro]
      simp only [AO.r, Int.reduceBEq, cond_true, cond_false, h1', Option.bind_some, jn]
      exact next _ (by simp [AO.bytes]; omega)
    | ge b =>
      rw [hro]
      simp only [AO.r, Int.reduceBEq, cond_true, cond_false]
      rw [gd_pos (by simp; omega)]
      simp only [jn]
      exact next _ (by simp [AO.bytes])
    | sf f =>
      obtain ⟨v, hv, _⟩ := rsix_ok hok
      rw [hro]
      simp only [AO.r, Int.reduceBEq, cond_true, cond_false, hv, Option.bind_some]
      rw [gd_pos (by simp; omega)]
      simp only [jn]
      exact next _ (by simp [AO.bytes])
    | sfe l =>
      obtain ⟨v, hv, _⟩ := rapplied hok.2 (by have := hok.1; omega) ⟨0, true, 0, 0, 0, 0⟩
      rw [hro]
      simp only [AO.r, Int.reduceBEq, cond_true, cond_false, hv, Option.bind_some]
      rw [gd_pos (by simp; omega)]
      simp only [jn]
      exact next _ (by simp [AO.bytes])
    | sa t v =>
      obtain ⟨w, hw, _⟩ := rapplied (l := [(t, v)]) (fun p hp => by rw [List.mem_singleton.1 hp]; exact hok) (by simp) ⟨s.2.1, s.2.2.1, s.2.2.2.1, s.2.2.2.2.1, s.2.2.2.2.2.1, s.2.2.2.2.2.2⟩
      simp only [List.map_cons, List.map_nil] at hw
      rw [hro]
      simp only [AO.r, Int.reduceBEq, cond_true, cond_false, hw, Option.bind_some, jn]
      exact next _ (by simp)
theorem rreplay {a x y : Int} {cur : Nat} {os : List AO} (hc : cur < 4096) (hE : Enc (cur : Int) x y) (h : Nrm os) (hl : (bytesL os).length ≤ 900000) (ho : os.length ≤ 900000) (alt : Bool) :
    m_vitrineref20_Replay (a :: x :: y :: bytesL os) alt = some ((if alt then (126 : Int) else 245) :: 64 :: (bytesL os ++ 17 :: (adr (cur : Int) ++ [19])), 0) := by
  obtain ⟨_, e2, e3⟩ := enc_adr hc
  obtain ⟨_, hdec⟩ := renc_ok hc hE
  have z : ((0 : Int) != 0) = false := rfl
  have hp : m_vitrineref20_pieces (a :: x :: y :: bytesL os) = some ((cur : Int), os.map AO.r, 0) := by
    unfold m_vitrineref20_pieces
    have l3 : decide (((a :: x :: y :: bytesL os).length : Int) < 3) = false := decide_eq_false (by simp only [List.length_cons]; omega)
    simp only [l3, cond_false]
    rw [gd_pos (by simp only [List.length_cons]; omega)]
    have ht : List.drop 1 (List.take 3 (a :: x :: y :: bytesL os)) = [x, y] := rfl
    rw [ht, hdec []]
    simp only [Option.bind_some, z, cond_false]
    rw [gd_pos (by simp only [List.length_cons]; omega)]
    simp only [List.drop_succ_cons, List.drop_zero, all_rok h (by omega) (by omega), Option.bind_some]
  have hb : ∃ l, m_vitrineref20_Buffer (a :: x :: y :: bytesL os) = some (l, (cur : Int), 0) := by
    unfold m_vitrineref20_Buffer
    simp only [hp, Option.bind_some, z, cond_false]
    obtain ⟨r, h1, l, rfl⟩ := rbuf_loop ((cur : Int), os.map AO.r, 0) os 0 fuel ([], 0, false, 0, 0, 0, 0) (by simp) (by simp) (by simp; omega) h.ok (by simp; omega) (by unfold fuel; omega)
    have h1' : vitrineref20_Buffer_l4 ((cur : Int), os.map AO.r, 0) fuel (0, [], 0, false, 0, 0, 0, 0) = _ := h1
    rw [h1']; exact ⟨l, rfl⟩
  obtain ⟨l, hb⟩ := hb
  unfold m_vitrineref20_Replay
  simp only [hb, Option.bind_some, z, cond_false, e2]
  cases alt with
  | true =>
    simp only [cond_true]
    rw [gd_pos (by simp)]
    simp only [Option.bind_some]
    rw [gd_pos (by simp only [List.length_cons]; omega)]
    simp only [List.drop_succ_cons, List.drop_zero]
    rw [gd_pos (by simp; omega), gd_pos (by simp; omega), gd_pos (by simp [e3]; omega), gd_pos (by simp [e3]; omega)]
    simp
  | false =>
    simp only [cond_false, Option.bind_some]
    rw [gd_pos (by simp only [List.length_cons]; omega)]
    simp only [List.drop_succ_cons, List.drop_zero]
    rw [gd_pos (by simp; omega), gd_pos (by simp; omega), gd_pos (by simp [e3]; omega), gd_pos (by simp [e3]; omega)]
    simp
/-! ### what can be said of how a cell looks -/
theorem rdiff_ok (c : Vapi_Cell) : m_vitrineref05_Diff ⟨0, false, 0, 0, 0, 0⟩ c = some ((dif zc c).map mkR) := by
  unfold m_vitrineref05_Diff dif
  have nz : ∀ n : Int, ((∀ x : List (Int × Int), (if (0 : Int) = n then [] else x) = []) ∧ ((0 : Int) != n) = false) ∨ ((∀ x : List (Int × Int), (if (0 : Int) = n then [] else x) = x) ∧ ((0 : Int) != n) = true) := fun n => by
    by_cases h : (0 : Int) = n
    · exact .inl ⟨fun x => if_pos h, bne_f h⟩
    · exact .inr ⟨fun x => if_neg h, bne_t h⟩
  rcases nz c.High with ⟨h1, q1⟩ | ⟨h1, q1⟩ <;> rcases nz c.Color with ⟨h2, q2⟩ | ⟨h2, q2⟩ <;> rcases nz c.f_Set with ⟨h3, q3⟩ | ⟨h3, q3⟩
  all_goals
    simp only [q1, q2, q3, cond_true, cond_false, zc, h1, h2, h3, gd, List.length_nil, List.length_cons, List.nil_append, List.cons_append, List.append_nil, List.map_cons, List.map_nil, Option.bind_some]
    try simp
theorem lk_loop {l : List (Int × Int)} (hl : l.length ≤ 3) (hb : ∀ p ∈ l, By p.1 ∧ By p.2) : ∀ (d i k : Nat), i + d = l.length → d < k → Tot (vitrinelaw20_looks_l7 (l.map mkR) k (i : Int)) fun r => (r = .inl () ∧ ∀ j (h : j < l.length), i ≤ j → PrOk l[j].1 l[j].2) ∨ r = .inr (.inr (.inr false))
  | d, i, 0, _, hk => by omega
  | 0, i, k + 1, e, hk => by
    have d1 : decide ((i : Int) < ((l.map mkR).length : Int)) = false := decide_eq_false (by simp; omega)
    rw [vitrinelaw20_looks_l7.eq_2, d1, cond_false]
    exact tot_some (.inl ⟨rfl, fun j h hj => by omega⟩)
  | d + 1, i, k + 1, e, hk => by
    have hi : i < l.length := by omega
    have d1 : decide ((i : Int) < ((l.map mkR).length : Int)) = true := decide_eq_true (by simp; omega)
    obtain ⟨b1, b2⟩ := hb _ (List.getElem_mem hi)
    rw [vitrinelaw20_looks_l7.eq_2, d1, cond_true, gd_pos (by simp; omega), rdn (by simp; omega), w64_succ (by omega)]
    simp only [List.getElem_map]
    obtain ⟨b, hr, hc⟩ := right_rel (t := l[i].1) b2
    rw [hr, Option.bind_some]
    cases b with
    | false => exact tot_esc (tot_esc (tot_esc (tot_some (.inr rfl))))
    | true =>
      refine (lk_loop hl hb d (i + 1) k (by omega) (by omega)).mono fun r hr2 => ?_
      rcases hr2 with ⟨h1, h2⟩ | h1
      · refine .inl ⟨h1, fun j h hj => ?_⟩
        by_cases hji : j = i
        · subst hji; exact ⟨b1, b2, hc rfl, hr⟩
        · exact h2 j h (by omega)
      · exact .inr h1
theorem dif_by {c : Vapi_Cell} (h : COk c) : ∀ p ∈ dif zc c, By p.1 ∧ By p.2 := fun p hp => by
  have lit : ∀ n : Int, 0 ≤ n → n < 256 → By n := fun n h1 h2 => ⟨h1, h2⟩
  unfold dif at hp
  rcases List.mem_append.1 hp with hp | hp
  · split at hp
    · cases hp
    · rw [List.mem_singleton.1 hp]; exact ⟨lit 65 (by omega) (by omega), h.high⟩
  · rcases List.mem_append.1 hp with hp | hp
    · split at hp
      · cases hp
      · rw [List.mem_singleton.1 hp]; exact ⟨lit 66 (by omega) (by omega), h.color⟩
    · split at hp
      · cases hp
      · rw [List.mem_singleton.1 hp]; exact ⟨lit 67 (by omega) (by omega), h.set⟩
theorem looks_loop {x : Vvitrineref12_Space} (hl : x.L.length ≤ 100000) (hc : ∀ c ∈ x.L, COk c) : ∀ (d i k : Nat), i + d = x.L.length → d < k → Tot (vitrinelaw20_looks_l2 x k (i : Int)) fun r => (r = .inl () ∧ ∀ j (h : j < x.L.length), i ≤ j → LkOk x.L[j]) ∨ r = .inr false
  | d, i, 0, _, hk => by omega
  | 0, i, k + 1, e, hk => by
    have d1 : decide ((i : Int) < (x.L.length : Int)) = false := decide_eq_false (by omega)
    rw [vitrinelaw20_looks_l2.eq_2, d1, cond_false]
    exact tot_some (.inl ⟨rfl, fun j h hj => by omega⟩)
  | d + 1, i, k + 1, e, hk => by
    have hi : i < x.L.length := by omega
    have d1 : decide ((i : Int) < (x.L.length : Int)) = true := decide_eq_true (by omega)
    have hcb := hc _ (List.getElem_mem hi)
    rw [vitrinelaw20_looks_l2.eq_2, d1, cond_true, gd_pos (by omega), rdn hi, w64_succ (by omega), rdiff_ok, Option.bind_some]
    obtain ⟨r, h1, h2⟩ := lk_loop (dif_len zc x.L[i]) (dif_by hcb) (dif zc x.L[i]).length 0 fuel (by omega) (by unfold fuel; have := dif_len zc x.L[i]; omega)
    have h1' : vitrinelaw20_looks_l7 ((dif zc x.L[i]).map mkR) fuel 0 = some r := h1
    rw [h1']
    rcases h2 with ⟨rfl, h3⟩ | rfl
    · simp only [jn]
      refine (looks_loop hl hc d (i + 1) k (by omega) (by omega)).mono fun r hr2 => ?_
      rcases hr2 with ⟨h4, h5⟩ | h4
      · refine .inl ⟨h4, fun j h hj => ?_⟩
        by_cases hji : j = i
        · subst hji
          intro p hp
          obtain ⟨q, hq, rfl⟩ := List.mem_iff_getElem.1 hp
          exact h3 q hq (by omega)
        · exact h5 j h (by omega)
      · exact .inr h4
    · simp only [jn]
      exact tot_some (.inr rfl)
theorem looks_ok {x : Vvitrineref12_Space} (hl : x.L.length ≤ 100000) (hc : ∀ c ∈ x.L, COk c) : Tot (m_vitrinelaw20_looks x) fun b => b = true → ∀ c ∈ x.L, LkOk c := by
  unfold m_vitrinelaw20_looks
  obtain ⟨r, h1, h2⟩ := looks_loop hl hc x.L.length 0 fuel (by omega) (by unfold fuel; omega)
  have h1' : vitrinelaw20_looks_l2 x fuel 0 = some r := h1
  rw [h1']
  rcases h2 with ⟨rfl, h3⟩ | rfl
  · simp only [jn]
    refine tot_some fun _ c hc2 => ?_
    obtain ⟨j, hj, rfl⟩ := List.mem_iff_getElem.1 hc2
    exact h3 j hj (by omega)
  · simp only [jn]
    exact tot_some fun h => by cases h
end Go.Vt
