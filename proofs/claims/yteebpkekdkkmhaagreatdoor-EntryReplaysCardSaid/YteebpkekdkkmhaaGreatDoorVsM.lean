/- A stream of pieces writes the cells that it says. No conditions. -/
import Derived.Test.YteebpkekdkkmhaaGreatDoorVsL
set_option linter.unusedVariables false
set_option linter.unusedSimpArgs false
set_option maxRecDepth 100000
namespace Go.Vt
theorem addr_ok {x y v : Int} (r : List Int) (hd : m_addr_Decode 12 [x, y] = some (v, 0)) : m_order_scanner_addr ⟨x :: y :: r, 0⟩ = some (⟨r, 0⟩, v) := by
  unfold m_order_scanner_addr
  have hn : ((0 : Int) != 0) = false := rfl
  simp only [hd2, Option.bind_some, hn, cond_false, hd]
theorem is17 : m_order_Is 17 = some true := by decide +kernel
theorem op17 {r : List Int} {x y v : Int} (hd : m_addr_Decode 12 [x, y] = some (v, 0)) : m_order_scanner_op ⟨17 :: x :: y :: r, 0⟩ = some (⟨r, 0⟩, ⟨17, v, 0, false, 0, [], []⟩) := by
  have ew : w64 17 = 17 := by decide
  unfold m_order_scanner_op
  simp only [gd_pos gg, gd_pos g1', hr0, is17, Option.bind_some, Bool.not_true, cond_false, cond_true, hd1, ew, Int.reduceBEq, addr_ok _ hd]
theorem ap_lok {c : Vapi_Cell} (h : Lok c) {p : Int × Int} (hp : PrOk p.1 p.2) : Lok (ap c p) := by
  unfold ap
  split
  · exact ⟨h.char, by0, by0, by0, h.attr, h.fa⟩
  · split
    · rw [if_neg (by rw [h.attr]; simp)]; exact h
    · split
      · exact ⟨h.char, hp.bv, h.color, h.set, h.attr, h.fa⟩
      · split
        · exact ⟨h.char, h.high, hp.bv, h.set, h.attr, h.fa⟩
        · split
          · exact ⟨h.char, h.high, h.color, hp.bv, h.attr, h.fa⟩
          · exact h
theorem band61' {n : Int} (h : By n) : By (iband .u8 n 61) ∧ iband .u8 (iband .u8 n 61) 61 = iband .u8 n 61 := by
  obtain ⟨f, rfl⟩ := h.fin
  exact ⟨(band61 f).1, (band61 f).2.1⟩
theorem ap_cok {c : Vapi_Cell} (h : COk c) (ha : c.Attr = true) {p : Int × Int} (hp : PrOk p.1 p.2) : COk (ap c p) ∧ (ap c p).Attr = true := by
  obtain ⟨h1, h2⟩ := h.attr ha
  have no : ∀ {P : Prop}, c.Attr = false → P := fun e => by rw [ha] at e; cases e
  unfold ap
  split
  · exact ⟨⟨h.char, h.fa, by0, by0, by0, fun _ => ⟨h1, h2⟩, fun e => no e⟩, ha⟩
  · split
    · obtain ⟨b1, b2⟩ := band61' hp.bv
      try rw [if_pos ha]
      exact ⟨⟨h.char, b1, h.high, h.color, h.set, fun _ => ⟨h1, b2⟩, fun e => no e⟩, ha⟩
    · split
      · exact ⟨⟨h.char, h.fa, hp.bv, h.color, h.set, fun _ => ⟨h1, h2⟩, fun e => no e⟩, ha⟩
      · split
        · exact ⟨⟨h.char, h.fa, h.high, hp.bv, h.set, fun _ => ⟨h1, h2⟩, fun e => no e⟩, ha⟩
        · split
          · exact ⟨⟨h.char, h.fa, h.high, h.color, hp.bv, fun _ => ⟨h1, h2⟩, fun e => no e⟩, ha⟩
          · exact ⟨h, ha⟩
theorem fold_cok : ∀ (l : List (Int × Int)) (c : Vapi_Cell), COk c → c.Attr = true → (∀ p ∈ l, PrOk p.1 p.2) → COk (l.foldl ap c) ∧ (l.foldl ap c).Attr = true
  | [], c, h, ha, _ => ⟨h, ha⟩
  | p :: l, c, h, ha, hp => by
    obtain ⟨h1, h2⟩ := ap_cok h ha (hp p (by simp))
    exact fold_cok l _ h1 h2 fun q hq => hp q (by simp [hq])
theorem azc : COk ⟨0, true, 0, 0, 0, 0⟩ := ⟨by0, by0, by0, by0, by0, fun _ => ⟨rfl, by decide⟩, fun e => by cases e⟩
section
variable {m : Int} {N : Nat} {alt : Bool} {u : Vspace_Space} {out : List Vapi_Cell}
theorem wr_do {o : AO} (ho : o.ok) (hw : Wr m N alt u out) (q : Vwrite_pen) (hq : q.n = ((out.length % N : Nat) : Int)) (hk : Lok q.look) (hl : (sem1 (q.look, out) o).2.length ≤ N) :
    ∃ u' t, m_write_pen_do q u o.p = some (u', ⟨(((sem1 (q.look, out) o).2.length % N : Nat) : Int), (sem1 (q.look, out) o).1, t⟩, 0) ∧ Wr m N alt u' (sem1 (q.look, out) o).2 ∧ Lok (sem1 (q.look, out) o).1 ∧ u'.cursor = u.cursor := by
  have hqe : (⟨q.n, q.look, q.texts⟩ : Vwrite_pen) = q := rfl
  have hue : (⟨u.model, u.alternate, u.size, u.cells, u.cursor, u.attrs⟩ : Vspace_Space) = u := rfl
  cases o with
  | text t =>
    have hle : out.length + t.length ≤ N := by simpa [sem1] using hl
    obtain ⟨u', h1, h2, h3⟩ := wr_text (AO.text t).p q hk (by have := ho.2.2; simp only [AO.p]; omega) (fun b hb => (ho.2.1 b hb).1) t.length 0 fuel u out (by simp [AO.p]) (by unfold fuel; have := ho.2.2; omega) hw hle
    have h1'' : ∀ R, write_pen_do_l4 (AO.text t).p fuel (((0 : Nat) : Int), ((out.length % N : Nat) : Int), q.look.Char, q.look.Attr, q.look.FA, q.look.High, q.look.Color, q.look.f_Set, q.texts, u.model, u.alternate, u.size.Rows, u.size.Cols, u.cells, u.cursor, u.attrs) = R → write_pen_do_l4 (AO.text t).p fuel (0, q.n, q.look.Char, q.look.Attr, q.look.FA, q.look.High, q.look.Color, q.look.f_Set, q.texts, u.model, u.alternate, u.size.Rows, u.size.Cols, u.cells, u.cursor, u.attrs) = R := fun R h => by rw [hq]; exact h
    have h1' := h1'' _ h1
    refine ⟨u', q.texts, ?_, h2, hk, h3⟩
    unfold m_write_pen_do
    have hk0 : ((AO.text t).p.Kind == 0) = true := rfl
    simp only [hk0, cond_true, h1', Option.bind_some, jn]
    rfl
  | ge b =>
    have hle : out.length < N := by simp [sem1] at hl; omega
    obtain ⟨u', h1, h2, h3⟩ := wr_put hw hle q hq hk ho.1 true
    refine ⟨u', q.texts, ?_, h2, hk, h3⟩
    unfold m_write_pen_do
    simp only [AO.p, Int.reduceBEq, cond_true, cond_false, h1, Option.bind_some, jn]
    rfl
  | sf f =>
    have hle : out.length < N := by simp [sem1] at hl; omega
    have hcb : CB ⟨0, true, f, 0, 0, 0⟩ := ⟨by0, ho, by0, by0, by0⟩
    obtain ⟨u', h1, h2, h3⟩ := wr_attr hw hle q hq (l := []) (by simp) (fun p hp => by cases hp) ⟨0, true, f, 0, 0, 0⟩ (c' := ap ⟨0, true, 0, 0, 0, 0⟩ (192, f)) hcb (by simp [Vt.fit, ap])
    simp only [List.map_nil] at h1
    refine ⟨u', q.texts, ?_, h2, hk, h3⟩
    unfold m_write_pen_do
    simp only [AO.p, Int.reduceBEq, cond_true, cond_false, Option.bind_some, hqe, hue, h1, esc, jn]
    rfl
  | sfe l =>
    have hle : out.length < N := by simp [sem1] at hl; omega
    obtain ⟨k1, k2⟩ := fold_cok l _ azc rfl ho.2
    obtain ⟨u', h1, h2, h3⟩ := wr_attr hw hle q hq (l := l) (by have := ho.1; omega) (fun p hp => (ho.2 p hp).chk) ⟨0, true, 0, 0, 0, 0⟩ (c' := l.foldl ap ⟨0, true, 0, 0, 0, 0⟩) k1.cb k1.fit
    refine ⟨u', q.texts, ?_, h2, hk, h3⟩
    unfold m_write_pen_do
    simp only [AO.p, Int.reduceBEq, cond_true, cond_false, Option.bind_some, hqe, hue, h1, esc, jn]
    rfl
  | sa t v =>
    have ha := applied_ok (l := [(t, v)]) (by simp) (fun p hp => by rw [List.mem_singleton.1 hp]; exact ho.chk) q.look
    simp only [List.map_cons, List.map_nil] at ha
    refine ⟨u, q.texts, ?_, hw, ap_lok hk ho, rfl⟩
    have z : ((0 : Int) == 0) = true := rfl
    unfold m_write_pen_do
    simp only [AO.p, Int.reduceBEq, cond_true, cond_false, Option.bind_some, ha, z, esc, jn, List.foldl_cons, List.foldl_nil, sem1, hq]
/-- what the stream's end asks -/
def Ends (m : Int) (N : Nat) (alt : Bool) (tl : List Int) (out : List Vapi_Cell) (cur : Int) : Prop := ∀ (u : Vspace_Space) (q : Vwrite_pen), Wr m N alt u out → ∃ a n j, Ev tl u q a n j 0 ∧ Wr m N alt a out ∧ a.cursor = cur
theorem sem_mono : ∀ (os : List AO) (s : Lk2), s.2.length ≤ (sem os s).2.length
  | [], s => Nat.le_refl _
  | o :: r, s => by
    have h1 := sem_mono r (sem1 s o)
    have h2 : s.2.length ≤ (sem1 s o).2.length := by cases o <;> simp [sem1]
    simp only [sem, List.foldl_cons] at h1 ⊢; omega
theorem ev_items {tl : List Int} (ht : Stt tl) (hb : Bs tl) (htl : tl.length ≤ 1000) {cur : Int} : ∀ (os : List AO) (u : Vspace_Space) (q : Vwrite_pen) (out : List Vapi_Cell), Nrm os → Wr m N alt u out → q.n = ((out.length % N : Nat) : Int) → Lok q.look → (bytesL os).length ≤ 900000 → (sem os (q.look, out)).2.length ≤ N →
    Ends m N alt tl (sem os (q.look, out)).2 cur → ∃ a n j, Ev (bytesL os ++ tl) u q a n j 0 ∧ Wr m N alt a (sem os (q.look, out)).2 ∧ a.cursor = cur
  | [], u, q, out, _, hw, _, _, _, _, hE => hE u q hw
  | o :: r, u, q, out, h, hw, hq, hk, hl, hN, hE => by
    have hp := ao_pos h.1
    have hbl : (bytesL (o :: r)).length = o.bytes.length + (bytesL r).length := by rw [bytesL_cons]; simp
    have hmono := sem_mono r (sem1 (q.look, out) o)
    have hN' : (sem r (sem1 (q.look, out) o)).2.length ≤ N := hN
    obtain ⟨u', t, h1, h2, h3, h4⟩ := wr_do h.1 hw q hq hk (by omega)
    have hop := op_nrm h ht hb (by omega)
    obtain ⟨a, n, j, k1, k2, k3⟩ := ev_items ht hb htl r u' ⟨(((sem1 (q.look, out) o).2.length % N : Nat) : Int), (sem1 (q.look, out) o).1, isT o.p⟩ _ h.2.2 h2 rfl h3 (by omega) hN' hE
    exact ⟨a, n, j + 1, ev_step (by simp only [List.length_append]; omega) hop h1 rfl k1, k2, k3⟩
/-- the end: where the cursor is -/
theorem ends_ok {cur : Nat} (hc : cur < 4096) (hcN : cur < N) {x y : Int} (hE : Enc (cur : Int) x y) {out : List Vapi_Cell} : Ends m N alt [17, x, y, 19] out (cur : Int) := by
  intro u q hw
  have hle := hw.ss.dim.dim.le
  have hcells : m_addr_Size_Cells ⟨u.size.Rows, u.size.Cols⟩ = some (N : Int) := cells_ok hw.ss.dim.dim
  have d1 : decide ((cur : Int) ≥ (N : Int)) = false := decide_eq_false (by omega)
  have o1 : m_order_scanner_op ⟨[17, x, y, 19], 0⟩ = some (⟨[19], 0⟩, ⟨17, (cur : Int), 0, false, 0, [], []⟩) := op17 hE.dec
  have p1 : m_write_pen_do q u ⟨17, (cur : Int), 0, false, 0, [], []⟩ = some (u, ⟨(cur : Int), q.look, q.texts⟩, 0) := by
    have hto : m_write_pen_to q u (cur : Int) = some (⟨(cur : Int), q.look, q.texts⟩, 0) := by
      unfold m_write_pen_to m_space_Space_Size
      simp only [Option.bind_some, hcells, d1, cond_false]
    unfold m_write_pen_do
    simp only [Int.reduceBEq, cond_true, cond_false, hto, Option.bind_some, esc, jn]
  have o2 : m_order_scanner_op ⟨[19], 0⟩ = some (⟨[], 0⟩, ⟨19, 0, 0, false, 0, [], []⟩) := by decide +kernel
  have hpl := ss_place hw.ss (cur : Int)
  have hmod : (cur : Int) % (N : Int) = (cur : Int) := Int.emod_eq_of_lt (by omega) (by omega)
  rw [hmod] at hpl
  have p2 : m_write_pen_do ⟨(cur : Int), q.look, isT ⟨17, (cur : Int), 0, false, 0, [], []⟩⟩ u ⟨19, 0, 0, false, 0, [], []⟩ = some ({ u with cursor := (cur : Int) }, ⟨(cur : Int), q.look, isT ⟨17, (cur : Int), 0, false, 0, [], []⟩⟩, 0) := by
    have hue : (⟨u.model, u.alternate, u.size, u.cells, u.cursor, u.attrs⟩ : Vspace_Space) = u := rfl
    unfold m_write_pen_do
    simp only [Int.reduceBEq, cond_true, cond_false, hue, hpl, Option.bind_some, jn]
  refine ⟨{ u with cursor := (cur : Int) }, _, _, ev_step (by simp) o1 p1 rfl (ev_step (by simp) o2 p2 rfl ev_nil), ⟨⟨hw.ss.model, hw.ss.dim, hw.ss.len, hw.ss.ok, by simp only; omega, hw.ss.attrs⟩, hw.alt, hw.cells, hw.le⟩, rfl⟩
theorem orders_ev {s : Vspace_Space} (h : SS m N s) {p : List Int} (hl : p.length ≤ 1000000) {c : Int} {a : Vspace_Space} {n e : Int} {j : Nat} (hev : Ev p s ⟨c % N, ⟨0, false, 0, 0, 0, 0⟩, false⟩ a n j e) : m_write_Orders s p c = some (a, n, (j : Int), e) := by
  unfold m_write_Orders m_order_Parse
  have hw : ∀ z, m_addr_Size_Wrap ⟨s.size.Rows, s.size.Cols⟩ z = some (z % N) := sz_wrap h
  have h1 := hev fuel 0 (by unfold fuel; omega) (by omega)
  rw [Nat.zero_add] at h1
  simp only [m_space_Space_Size, Option.bind_some, hw]
  have h1' : (write_Orders_l8 fuel (p, 0, s.model, s.alternate, s.size.Rows, s.size.Cols, s.cells, s.cursor, s.attrs, 0, c % N, 0, false, 0, 0, 0, 0, false)).map fin = some (a, n, (j : Int), e) := h1
  generalize write_Orders_l8 fuel (p, 0, s.model, s.alternate, s.size.Rows, s.size.Cols, s.cells, s.cursor, s.attrs, 0, c % N, 0, false, 0, 0, 0, 0, false) = M at h1'
  match M, h1' with
  | some (.inl y), h1' => exact h1'
  | some (.inr (.inl y)), h1' => exact h1'
  | some (.inr (.inr (.inl y))), h1' => exact h1'
  | some (.inr (.inr (.inr y))), h1' => exact h1'
end
end Go.Vt
