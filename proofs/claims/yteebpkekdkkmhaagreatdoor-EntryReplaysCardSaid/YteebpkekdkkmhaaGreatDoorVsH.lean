/- All pieces of a stream, one by one. No conditions. -/
import Derived.Test.YteebpkekdkkmhaaGreatDoorVsG
set_option linter.unusedVariables false
set_option linter.unusedSimpArgs false
set_option maxRecDepth 100000
namespace Go.Vt
def bytesL (os : List AO) : List Int := os.flatMap AO.bytes
theorem bytesL_cons (o : AO) (r : List AO) : bytesL (o :: r) = o.bytes ++ bytesL r := by simp [bytesL]
theorem bytesL_app (a b : List AO) : bytesL (a ++ b) = bytesL a ++ bytesL b := by simp [bytesL]
def Nrm : List AO → Prop
  | [] => True
  | o :: r => o.ok ∧ (o.tx = true → ∀ x, r.head? = some x → x.tx = false) ∧ Nrm r
theorem Nrm.ok : ∀ {os : List AO}, Nrm os → ∀ o ∈ os, o.ok
  | [], _, o, h => by cases h
  | x :: r, h, o, ho => by
    rcases List.mem_cons.1 ho with rfl | ho
    · exact h.1
    · exact Nrm.ok h.2.2 o ho
theorem ao_pos {o : AO} (h : o.ok) : 1 ≤ o.bytes.length := by
  cases o with
  | text t =>
    have := h.1
    cases t with
    | nil => exact absurd rfl this
    | cons => simp [AO.bytes]
  | _ => simp [AO.bytes]
theorem fl_bs : ∀ {l : List (Int × Int)}, (∀ p ∈ l, PrOk p.1 p.2) → Bs (fl l)
  | [], _ => fun x hx => by cases hx
  | p :: l, h => fun x hx => by
    have hp := h p (by simp)
    simp only [fl, List.flatMap_cons, List.mem_append, List.mem_cons, List.mem_nil_iff, or_false] at hx
    rcases hx with (rfl | rfl) | hx
    · exact hp.bt
    · exact hp.bv
    · exact fl_bs (fun q hq => h q (by simp [hq])) x hx
theorem ao_bs {o : AO} (h : o.ok) : Bs o.bytes := by
  have lit : ∀ n : Int, 0 ≤ n → n < 256 → By n := fun n h1 h2 => ⟨h1, h2⟩
  cases o with
  | text t => exact fun x hx => (h.2.1 x hx).1
  | ge b =>
    intro x hx
    simp only [AO.bytes, List.mem_cons, List.mem_nil_iff, or_false] at hx
    rcases hx with rfl | rfl
    · exact lit 8 (by omega) (by omega)
    · exact h.1
  | sf f =>
    intro x hx
    simp only [AO.bytes, List.mem_cons, List.mem_nil_iff, or_false] at hx
    rcases hx with rfl | rfl
    · exact lit 29 (by omega) (by omega)
    · exact h
  | sfe l =>
    intro x hx
    simp only [AO.bytes, List.mem_cons] at hx
    have := h.1
    rcases hx with rfl | rfl | hx
    · exact lit 41 (by omega) (by omega)
    · exact lit _ (by omega) (by omega)
    · exact fl_bs h.2 x hx
  | sa t v =>
    intro x hx
    simp only [AO.bytes, List.mem_cons, List.mem_nil_iff, or_false] at hx
    rcases hx with rfl | rfl | rfl
    · exact lit 40 (by omega) (by omega)
    · exact h.bt
    · exact h.bv
theorem bs_app {a b : List Int} (h1 : Bs a) (h2 : Bs b) : Bs (a ++ b) := fun x hx => by
  rcases List.mem_append.1 hx with h | h
  · exact h1 x h
  · exact h2 x h
theorem nrm_bs : ∀ {os : List AO}, Nrm os → Bs (bytesL os)
  | [], _ => fun x hx => by cases hx
  | o :: r, h => by rw [bytesL_cons]; exact bs_app (ao_bs h.1) (nrm_bs h.2.2)
theorem stt_nrm {os : List AO} (h : Nrm os) (hh : ∀ x, os.head? = some x → x.tx = false) {tl : List Int} (ht : Stt tl) : Stt (bytesL os ++ tl) := by
  cases os with
  | nil => exact ht
  | cons o r =>
    have := hh o rfl
    rw [bytesL_cons]
    cases o with
    | text t => cases this
    | ge b => exact .inr ⟨8, _, rfl, by decide⟩
    | sf f => exact .inr ⟨29, _, rfl, by decide⟩
    | sfe l => exact .inr ⟨41, _, rfl, by decide⟩
    | sa t v => exact .inr ⟨40, _, rfl, by decide⟩
/-- the first piece of a stream -/
theorem op_nrm {o : AO} {r : List AO} (h : Nrm (o :: r)) {tl : List Int} (ht : Stt tl) (hb : Bs tl) (hl : (bytesL r).length + tl.length ≤ 1000000) :
    m_order_scanner_op ⟨bytesL (o :: r) ++ tl, 0⟩ = some (⟨bytesL r ++ tl, 0⟩, o.p) := by
  rw [bytesL_cons, List.append_assoc]
  exact op_ao h.1 (fun e => stt_nrm h.2.2 (h.2.1 e) ht) (bs_app (nrm_bs h.2.2) hb) (by simp; omega)
theorem nx_nrm {o : AO} {r : List AO} (h : Nrm (o :: r)) (hl : (bytesL r).length ≤ 1000000) : m_vitrineref16_next (bytesL (o :: r)) = some (o.r, (o.bytes.length : Int), 0) := by
  rw [bytesL_cons]
  have := stt_nrm h.2.2 (tl := [])
  rw [List.append_nil] at this
  exact nx_ao h.1 (fun e => this (h.2.1 e) (.inl rfl)) (nrm_bs h.2.2) hl
theorem all_p (p0 : List Int) : ∀ (os : List AO) (k : Nat) (acc : List Vorder_Op), Nrm os → (bytesL os).length ≤ 1000000 → os.length < k → acc.length + os.length ≤ 1000000 → order_All_l2 p0 k (acc, bytesL os, 0) = some (.inl (acc ++ os.map AO.p))
  | os, 0, _, _, _, hk, _ => by omega
  | [], k + 1, acc, _, _, _, _ => by rw [order_All_l2.eq_2]; simp [bytesL]
  | o :: r, k + 1, acc, h, hl, hk, ha => by
    have hp := ao_pos h.1
    have hlen : (bytesL (o :: r)).length = o.bytes.length + (bytesL r).length := by rw [bytesL_cons]; simp
    have d1 : decide (((bytesL (o :: r)).length : Int) > 0) = true := decide_eq_true (by omega)
    have hop := op_nrm h (tl := []) (.inl rfl) (fun x hx => by cases hx) (by simp; omega)
    rw [List.append_nil, List.append_nil] at hop
    have z : ((0 : Int) != 0) = false := rfl
    rw [order_All_l2.eq_2]
    simp only [d1, cond_true, hop, Option.bind_some, z, cond_false]
    simp only [List.length_cons] at hk ha
    rw [gd_pos (by simp only [List.length_cons, List.length_nil]; omega), all_p p0 r k _ h.2.2 (by omega) (by omega) (by simp; omega)]
    simp
theorem all_pok {os : List AO} (h : Nrm os) (hl : (bytesL os).length ≤ 1000000) (ho : os.length ≤ 1000000) : m_order_All (bytesL os) = some (os.map AO.p, ((bytesL os).length : Int), 0) := by
  unfold m_order_All
  rw [all_p _ os fuel [] h hl (by unfold fuel; omega) (by simp; omega)]; simp [jn]
theorem all_r {p : List Int} (hl : p.length ≤ 1000000) : ∀ (os : List AO) (i k : Nat) (acc : List Vvitrineref16_Op), Nrm os → p.drop i = bytesL os → i ≤ p.length → os.length < k → acc.length + os.length ≤ 1000000 → vitrineref16_All_l2 p k ((i : Int), acc) = some (.inl ((p.length : Int), acc ++ os.map AO.r))
  | os, i, 0, _, _, _, _, hk, _ => by omega
  | [], i, k + 1, acc, _, hd, hi, _, _ => by
    have hlen := congrArg List.length hd
    simp [bytesL] at hlen
    have e : i = p.length := by omega
    have d1 : decide ((i : Int) < (p.length : Int)) = false := decide_eq_false (by omega)
    rw [vitrineref16_All_l2.eq_2]
    simp only [d1, cond_false]
    rw [e]; simp
  | o :: r, i, k + 1, acc, h, hd, hi, hk, ha => by
    have hp := ao_pos h.1
    have hlen := congrArg List.length hd
    rw [bytesL_cons] at hlen
    simp only [List.length_drop, List.length_append] at hlen
    have d1 : decide ((i : Int) < (p.length : Int)) = true := decide_eq_true (by omega)
    have z : ((0 : Int) != 0) = false := rfl
    rw [vitrineref16_All_l2.eq_2]
    simp only [d1, cond_true]
    rw [gd_pos (by omega), Int.toNat_natCast, hd, nx_nrm h (by omega)]
    simp only [Option.bind_some, z, cond_false, List.length_cons] at hk ha ⊢
    have hw : w64 ((i : Int) + (o.bytes.length : Int)) = ((i + o.bytes.length : Nat) : Int) := by rw [w64_in (by omega) (by omega)]; omega
    rw [gd_pos (by simp only [List.length_nil]; omega), hw, all_r hl r (i + o.bytes.length) k _ h.2.2 ?_ (by omega) (by omega) (by simp; omega)]
    · simp
    · rw [← List.drop_drop, hd, bytesL_cons, List.drop_left]
theorem all_rok {os : List AO} (h : Nrm os) (hl : (bytesL os).length ≤ 1000000) (ho : os.length ≤ 1000000) : m_vitrineref16_All (bytesL os) = some (os.map AO.r, ((bytesL os).length : Int), 0) := by
  unfold m_vitrineref16_All
  have := all_r hl os 0 fuel [] h (by simp) (by omega) (by unfold fuel; omega) (by simp; omega)
  have h1 : vitrineref16_All_l2 (bytesL os) fuel (0, []) = _ := this
  rw [h1]; simp [jn]
/-! ### normal form: texts that touch are one -/
def norm : List AO → List AO
  | [] => []
  | .text t :: r => match norm r with
    | .text t' :: r' => .text (t ++ t') :: r'
    | r' => .text t :: r'
  | o :: r => o :: norm r
theorem norm_o {o : AO} (h : o.tx = false) (r : List AO) : norm (o :: r) = o :: norm r := by
  cases o with
  | text t => cases h
  | _ => simp [norm]
theorem norm_bytes : ∀ l : List AO, bytesL (norm l) = bytesL l
  | [] => rfl
  | .text t :: r => by
    have ih := norm_bytes r
    rw [bytesL_cons, ← ih]
    simp only [norm]
    split
    · rename_i t' r' e; rw [e, bytesL_cons, bytesL_cons]; simp [AO.bytes]
    · rw [bytesL_cons]
  | .ge b :: r => by rw [norm_o rfl, bytesL_cons, bytesL_cons, norm_bytes r]
  | .sf b :: r => by rw [norm_o rfl, bytesL_cons, bytesL_cons, norm_bytes r]
  | .sfe b :: r => by rw [norm_o rfl, bytesL_cons, bytesL_cons, norm_bytes r]
  | .sa t v :: r => by rw [norm_o rfl, bytesL_cons, bytesL_cons, norm_bytes r]
theorem norm_len : ∀ l : List AO, (norm l).length ≤ l.length
  | [] => by simp [norm]
  | .text t :: r => by
    have ih := norm_len r
    simp only [norm]
    split
    · rename_i t' r' e; rw [e] at ih; simp at ih ⊢; omega
    · simp; omega
  | .ge b :: r => by have := norm_len r; rw [norm_o rfl]; simp; omega
  | .sf b :: r => by have := norm_len r; rw [norm_o rfl]; simp; omega
  | .sfe b :: r => by have := norm_len r; rw [norm_o rfl]; simp; omega
  | .sa t v :: r => by have := norm_len r; rw [norm_o rfl]; simp; omega
/-- as items: texts of one code each -/
def Item (o : AO) : Prop := o.ok ∧ (o.tx = true → o.bytes.length = 1)
theorem norm_nrm : ∀ l : List AO, (∀ o ∈ l, Item o) → l.length ≤ 50000 → Nrm (norm l) ∧ ∀ t r, norm l = .text t :: r → t.length ≤ l.length
  | [], _, _ => ⟨trivial, fun t r h => by cases h⟩
  | .text t :: r, h, hl => by
    simp only [List.length_cons] at hl
    obtain ⟨ih1, ih2⟩ := norm_nrm r (fun o ho => h o (by simp [ho])) (by omega)
    have h1 := h (.text t) (by simp)
    have ht1 : t.length = 1 := h1.2 rfl
    simp only [norm]
    split
    · rename_i t' r' e
      rw [e] at ih1
      have h2 := ih2 t' r' e
      obtain ⟨k1, k2, k3⟩ := ih1
      refine ⟨⟨⟨by simp [h1.1.1], fun b hb => ?_, by simp; omega⟩, fun _ => k2 rfl, k3⟩, fun t2 r2 e2 => ?_⟩
      · rcases List.mem_append.1 hb with hb | hb
        · exact h1.1.2.1 b hb
        · exact k1.2.1 b hb
      · simp only [List.cons.injEq, AO.text.injEq] at e2
        rw [← e2.1]; simp; omega
    · rename_i hne
      refine ⟨⟨h1.1, fun _ x hx => ?_, ih1⟩, fun t2 r2 e2 => ?_⟩
      · cases hn : norm r with
        | nil => rw [hn] at hx; cases hx
        | cons y r' =>
          rw [hn] at hx
          simp only [List.head?_cons, Option.some.injEq] at hx
          subst hx
          cases y with
          | text t' => exact absurd hn (hne t' r')
          | _ => rfl
      · simp only [List.cons.injEq, AO.text.injEq] at e2
        rw [← e2.1]; simp; omega
  | .ge b :: r, h, hl => by
    simp only [List.length_cons] at hl
    obtain ⟨ih1, ih2⟩ := norm_nrm r (fun o ho => h o (by simp [ho])) (by omega)
    rw [norm_o rfl]
    exact ⟨⟨(h _ (by simp)).1, (fun e => by cases e), ih1⟩, fun t r e => by simp at e⟩
  | .sf b :: r, h, hl => by
    simp only [List.length_cons] at hl
    obtain ⟨ih1, ih2⟩ := norm_nrm r (fun o ho => h o (by simp [ho])) (by omega)
    rw [norm_o rfl]
    exact ⟨⟨(h _ (by simp)).1, (fun e => by cases e), ih1⟩, fun t r e => by simp at e⟩
  | .sfe b :: r, h, hl => by
    simp only [List.length_cons] at hl
    obtain ⟨ih1, ih2⟩ := norm_nrm r (fun o ho => h o (by simp [ho])) (by omega)
    rw [norm_o rfl]
    exact ⟨⟨(h _ (by simp)).1, (fun e => by cases e), ih1⟩, fun t r e => by simp at e⟩
  | .sa t v :: r, h, hl => by
    simp only [List.length_cons] at hl
    obtain ⟨ih1, ih2⟩ := norm_nrm r (fun o ho => h o (by simp [ho])) (by omega)
    rw [norm_o rfl]
    exact ⟨⟨(h _ (by simp)).1, (fun e => by cases e), ih1⟩, fun t r e => by simp at e⟩
/-! ### what pieces come to -/
abbrev Lk2 := Vapi_Cell × List Vapi_Cell
/-- a pair, applied -/
def ap (c : Vapi_Cell) (p : Int × Int) : Vapi_Cell :=
  if p.1 = 0 then ⟨c.Char, c.Attr, c.FA, 0, 0, 0⟩
  else if p.1 = 192 then (if c.Attr then ⟨c.Char, c.Attr, iband .u8 p.2 61, c.High, c.Color, c.f_Set⟩ else c)
  else if p.1 = 65 then ⟨c.Char, c.Attr, c.FA, p.2, c.Color, c.f_Set⟩
  else if p.1 = 66 then ⟨c.Char, c.Attr, c.FA, c.High, p.2, c.f_Set⟩
  else if p.1 = 67 then ⟨c.Char, c.Attr, c.FA, c.High, c.Color, p.2⟩
  else c
def sem1 (s : Lk2) : AO → Lk2
  | .text t => (s.1, s.2 ++ t.map fun b => ⟨b, s.1.Attr, s.1.FA, s.1.High, s.1.Color, s.1.f_Set⟩)
  | .ge b => (s.1, s.2 ++ [⟨b, s.1.Attr, s.1.FA, s.1.High, s.1.Color, 241⟩])
  | .sf f => (s.1, s.2 ++ [ap ⟨0, true, 0, 0, 0, 0⟩ (192, f)])
  | .sfe l => (s.1, s.2 ++ [l.foldl ap ⟨0, true, 0, 0, 0, 0⟩])
  | .sa t v => (ap s.1 (t, v), s.2)
def sem (l : List AO) (s : Lk2) : Lk2 := l.foldl sem1 s
theorem sem_norm : ∀ (l : List AO) (s : Lk2), sem (norm l) s = sem l s
  | [], s => rfl
  | .text t :: r, s => by
    have ih := sem_norm r (sem1 s (.text t))
    simp only [norm]
    split
    · rename_i t' r' e
      rw [e] at ih
      simp only [sem, List.foldl_cons] at ih ⊢
      rw [← ih]
      simp [sem1]
    · simp only [sem, List.foldl_cons] at ih ⊢; exact ih
  | .ge b :: r, s => by rw [norm_o rfl]; simp only [sem, List.foldl_cons]; exact sem_norm r _
  | .sf b :: r, s => by rw [norm_o rfl]; simp only [sem, List.foldl_cons]; exact sem_norm r _
  | .sfe b :: r, s => by rw [norm_o rfl]; simp only [sem, List.foldl_cons]; exact sem_norm r _
  | .sa t v :: r, s => by rw [norm_o rfl]; simp only [sem, List.foldl_cons]; exact sem_norm r _
end Go.Vt
