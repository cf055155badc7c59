/- Items of a report: their bytes are parsed as they were meant. No conditions. -/
import Derived.Test.YteebpkekdkkmhaaVpJ
set_option linter.unusedVariables false
set_option linter.unusedSimpArgs false
namespace Go.Vt
inductive It where
  | sba (a x y : Int)
  | sa (t v : Int)
  | ge (c : Int)
  | tx (c : Int)
def It.bytes : It → List Int
  | .sba _ x y => [17, x, y]
  | .sa t v => [40, t, v]
  | .ge c => [8, c]
  | .tx c => [c]
def itb (l : List It) : List Int := l.flatMap It.bytes
def okP (t v : Int) : Bool := decide (m_attr_Pair_Check ⟨t, v⟩ = some 0)
def It.ok : It → Prop
  | .sba a x y => Enc a x y
  | .sa t v => By t ∧ By v ∧ okP t v = true
  | .ge c => Txt [c]
  | .tx c => Txt [c]
theorem By17 : By 17 := ⟨by omega, by omega⟩
theorem itb_bs : ∀ {l : List It}, (∀ i ∈ l, i.ok) → Bs (itb l)
  | [], _ => fun n hn => by cases hn
  | i :: l, h => by
    have h1 := itb_bs fun j hj => h j (.tail _ hj)
    have h0 := h i (.head _)
    have hi : Bs i.bytes := by
      cases i with
      | sba a x y => intro n hn; simp only [It.bytes, List.mem_cons, List.not_mem_nil, or_false] at hn; rcases hn with rfl | rfl | rfl; exact By17; exact h0.bx; exact h0.by_
      | sa t v => intro n hn; simp only [It.bytes, List.mem_cons, List.not_mem_nil, or_false] at hn; rcases hn with rfl | rfl | rfl; exact ⟨by omega, by omega⟩; exact h0.1; exact h0.2.1
      | ge c => intro n hn; simp only [It.bytes, List.mem_cons, List.not_mem_nil, or_false] at hn; rcases hn with rfl | rfl; exact ⟨by omega, by omega⟩; exact (h0 _ (.head _)).1
      | tx c => intro n hn; simp only [It.bytes, List.mem_cons, List.not_mem_nil, or_false] at hn; subst hn; exact (h0 _ (.head _)).1
    unfold itb; rw [List.flatMap_cons]; exact hi.app h1
theorem tw_app' {t rest : List Int} (ht : Txt t) (hr : rest = [] ∨ ∃ b r, rest = b :: r ∧ isO b = true) : (t ++ rest).takeWhile (fun c => !isO c) = t ∧ (t ++ rest).dropWhile (fun c => !isO c) = rest := by
  induction t with
  | nil =>
    rcases hr with rfl | ⟨b, r, rfl, hb⟩
    · exact ⟨rfl, rfl⟩
    · simp [List.takeWhile_cons, List.dropWhile_cons, hb]
  | cons c t ih =>
    have hc := (ht c (.head _)).2
    obtain ⟨h1, h2⟩ := ih fun n hn => ht n (.tail _ hn)
    simp only [List.cons_append, List.takeWhile_cons, List.dropWhile_cons, hc, Bool.not_false, if_true, h1, h2, and_self]
theorem All_text {p0 : List Int} {k : Nat} {acc : List Vorder_Op} {t rest : List Int} (ht : Txt t) (hb : Bs rest) (h0 : t ≠ []) (hl : (t ++ rest).length ≤ 10000000000) (hr : rest = [] ∨ ∃ b r, rest = b :: r ∧ isO b = true) (ha : acc.length ≤ 60000000000) :
    order_All_l2 p0 (k + 1) (acc, t ++ rest, 0) = order_All_l2 p0 k (acc ++ [tOp t], rest, 0) := by
  rw [order_All_l2.eq_2]
  obtain ⟨c, t', hc⟩ : ∃ c t', t = c :: t' := List.exists_cons_of_ne_nil h0
  have d1 : decide (((t ++ rest).length : Int) > 0) = true := decide_eq_true (by rw [hc]; simp; omega)
  have ho := (ht c (by rw [hc]; simp)).2
  have h1 := op_text (s := ⟨t ++ rest, 0⟩) ((txt_bs ht).app hb) hl (c := c) (r := t' ++ rest) (by simp [hc]) ho
  obtain ⟨e1, e2⟩ := tw_app' ht hr
  simp only [e1, e2] at h1
  simp only [d1, cond_true, h1, Option.bind_some, gd]
  have d2 : ((0 : Int) != 0) = false := rfl
  simp only [d2, cond_false]
  rw [if_pos (by simp; omega)]
  rfl
def iop : It → Vorder_Op
  | .sba a _ _ => aOp a
  | .sa t v => ⟨40, 0, 0, false, 0, [⟨t, v⟩], []⟩
  | .ge c => ⟨8, 0, c, false, 0, [], []⟩
  | .tx c => tOp [c]
theorem op_sa {p : List Int} (hb : Bs p) {t v : Int} {r : List Int} (hp : p = 40 :: t :: v :: r) (hk : okP t v = true) : m_order_scanner_op ⟨p, 0⟩ = some (⟨r, 0⟩, ⟨40, 0, 0, false, 0, [⟨t, v⟩], []⟩) := by
  have hr : rd p 0 = 40 := by rw [hp]; rfl
  have hI : m_order_Is 40 = some true := by decide +kernel
  have g0 : (0 : Int) ≤ 0 ∧ (0 : Int) < (p.length : Int) := by rw [hp]; simp <;> omega
  have g1 : (0 : Int) ≤ 0 ∧ (0 : Int) < (([40] : List Int).length : Int) := by simp
  have q0 : rd [(40 : Int)] 0 = 40 := rfl
  have ew : w64 40 = 40 := by decide
  have hc : m_attr_Pair_Check ⟨t, v⟩ = some 0 := by unfold okP at hk; exact of_decide_eq_true hk
  have q1 : rd [t, v] 0 = t := rfl
  have q2 : rd [t, v] 1 = v := rfl
  have l0 : (0 : Int) ≤ 0 ∧ (0 : Int) < (([t, v] : List Int).length : Int) := by simp
  have l1 : (0 : Int) ≤ 1 ∧ (1 : Int) < (([t, v] : List Int).length : Int) := by simp
  have d0 : ((0 : Int) != 0) = false := rfl
  have ha : m_order_scanner_pair ⟨t :: v :: r, 0⟩ = some (⟨r, 0⟩, [⟨t, v⟩]) := by
    unfold m_order_scanner_pair gd
    rw [take_ok (z := 2) 2 rfl (by simp)]
    have e1 : List.take 2 (t :: v :: r) = [t, v] := rfl
    have e2 : List.drop 2 (t :: v :: r) = r := rfl
    simp only [e1, e2, Option.bind_some, q1, q2, if_pos l0, if_pos l1, hc, d0, cond_false]
  have hhead := op_head (s := ⟨p, 0⟩) hb (c := 40) (r := t :: v :: r) hp
  unfold m_order_scanner_op gd
  simp only [if_pos g0, hr, hI, Option.bind_some, Bool.not_true, cond_false, hhead, if_pos g1, q0, ew]
  have e1 : ((40 : Int) == 17) = false := rfl
  have e2 : ((40 : Int) == 18) = false := rfl
  have e3 : ((40 : Int) == 60) = false := rfl
  have e4 : ((40 : Int) == 29) = false := rfl
  have e5 : ((40 : Int) == 40) = true := rfl
  simp only [e1, e2, e3, e4, e5, cond_false, cond_true, Option.bind_some, ha]
theorem op_ge {p : List Int} (hb : Bs p) {c : Int} {r : List Int} (hp : p = 8 :: c :: r) (hk : isO c = false) : m_order_scanner_op ⟨p, 0⟩ = some (⟨r, 0⟩, ⟨8, 0, c, false, 0, [], []⟩) := by
  have hr : rd p 0 = 8 := by rw [hp]; rfl
  have hI : m_order_Is 8 = some true := by decide +kernel
  have hB : By c := hb c (by rw [hp]; simp)
  have g0 : (0 : Int) ≤ 0 ∧ (0 : Int) < (p.length : Int) := by rw [hp]; simp <;> omega
  have g1 : (0 : Int) ≤ 0 ∧ (0 : Int) < (([8] : List Int).length : Int) := by simp
  have q0 : rd [(8 : Int)] 0 = 8 := rfl
  have ew : w64 8 = 8 := by decide
  have q1 : rd [c] 0 = c := rfl
  have l0 : (0 : Int) ≤ 0 ∧ (0 : Int) < (([c] : List Int).length : Int) := by simp
  have ha : m_order_scanner_character ⟨c :: r, 0⟩ = some (⟨r, 0⟩, c) := by
    unfold m_order_scanner_character gd
    rw [take_ok (z := 1) 1 rfl (by simp)]
    have e1 : List.take 1 (c :: r) = [c] := rfl
    have e2 : List.drop 1 (c :: r) = r := rfl
    simp only [e1, e2, Option.bind_some, q1, if_pos l0, is_spec hB, hk, cond_false]
  have hhead := op_head (s := ⟨p, 0⟩) hb (c := 8) (r := c :: r) hp
  unfold m_order_scanner_op gd
  simp only [if_pos g0, hr, hI, Option.bind_some, Bool.not_true, cond_false, hhead, if_pos g1, q0, ew]
  have e1 : ((8 : Int) == 17) = false := rfl
  have e2 : ((8 : Int) == 18) = false := rfl
  have e3 : ((8 : Int) == 60) = false := rfl
  have e4 : ((8 : Int) == 29) = false := rfl
  have e5 : ((8 : Int) == 40) = false := rfl
  have e6 : ((8 : Int) == 41) = false := rfl
  have e7 : ((8 : Int) == 44) = false := rfl
  have e8 : ((8 : Int) == 8) = true := rfl
  simp only [e1, e2, e3, e4, e5, e6, e7, e8, cond_false, cond_true, Option.bind_some, ha]
/-- an item that isn't text is one order -/
def It.isTx : It → Bool
  | .tx _ => true
  | _ => false
theorem it_step {p0 : List Int} {k : Nat} {acc : List Vorder_Op} {i : It} {rest : List Int} (hi : i.ok) (ht : i.isTx = false) (hb : Bs rest) (ha : acc.length ≤ 60000000000) :
    order_All_l2 p0 (k + 1) (acc, i.bytes ++ rest, 0) = order_All_l2 p0 k (acc ++ [iop i], rest, 0) := by
  have hB : Bs (i.bytes ++ rest) := by
    have := itb_bs (l := [i]) (fun j hj => by simp at hj; subst hj; exact hi)
    have e : itb [i] = i.bytes := by simp [itb]
    rw [e] at this; exact this.app hb
  have d2 : ((0 : Int) != 0) = false := rfl
  rw [order_All_l2.eq_2]
  have hlen : 0 < (i.bytes ++ rest).length := by cases i <;> simp [It.bytes]
  have d1 : decide (((i.bytes ++ rest).length : Int) > 0) = true := decide_eq_true (by omega)
  have hop : m_order_scanner_op ⟨i.bytes ++ rest, 0⟩ = some (⟨rest, 0⟩, iop i) := by
    cases i with
    | sba a x y => exact op_sba (s := ⟨17 :: x :: y :: rest, 0⟩) hB rfl rfl hi.dec
    | sa t v => exact op_sa hB rfl hi.2.2
    | ge c => exact op_ge hB rfl (hi c (.head _)).2
    | tx c => cases ht
  simp only [d1, cond_true, hop, Option.bind_some, d2, cond_false]
  rw [gd_pos (by simp; omega)]
def flush (t : List Int) : List Vorder_Op := if t = [] then [] else [tOp t]
/-- the orders that the items are read as: text is taken together -/
def grp : List Int → List It → List Vorder_Op
  | t, [] => flush t
  | t, .tx c :: r => grp (t ++ [c]) r
  | t, i :: r => flush t ++ iop i :: grp [] r
theorem Txt.app {a b : List Int} (h : Txt a) (k : Txt b) : Txt (a ++ b) := fun n hn => by
  rcases List.mem_append.1 hn with h1 | h1
  · exact h n h1
  · exact k n h1
theorem grp_non {t : List Int} {i : It} {r : List It} (h : i.isTx = false) : grp t (i :: r) = flush t ++ iop i :: grp [] r := by
  cases i with
  | tx c => cases h
  | _ => rfl
theorem it_head {i : It} {rest : List Int} (h : i.isTx = false) : ∃ b r, i.bytes ++ rest = b :: r ∧ isO b = true := by
  cases i with
  | tx c => cases h
  | sba a x y => exact ⟨17, _, rfl, by decide⟩
  | sa t v => exact ⟨40, _, rfl, by decide⟩
  | ge c => exact ⟨8, _, rfl, by decide⟩
theorem All_items (p0 : List Int) : ∀ (r : List It) (t : List Int) (k : Nat) (acc : List Vorder_Op), (∀ i ∈ r, i.ok) → Txt t → t.length + 2 * r.length + 1 < k → acc.length + t.length + 2 * r.length ≤ 50000000000 → (t ++ itb r).length ≤ 10000000000 →
    order_All_l2 p0 k (acc, t ++ itb r, 0) = some (.inl (acc ++ grp t r))
  | [], t, k, acc, _, ht, hk, ha, hl => by
    obtain ⟨k, rfl⟩ : ∃ j, k = j + 1 + 1 := ⟨k - 2, by simp at hk; omega⟩
    have e : itb [] = [] := rfl
    rw [e]
    simp only [grp, flush]
    by_cases h0 : t = []
    · subst h0
      rw [order_All_l2.eq_2]; simp
    · rw [All_text ht (fun n hn => by cases hn) h0 (by rw [e] at hl; exact hl) (.inl rfl) (by omega), order_All_l2.eq_2, if_neg h0]
      simp
  | i :: r, t, k, acc, hi, ht, hk, ha, hl => by
    have hr : ∀ j ∈ r, j.ok := fun j hj => hi j (.tail _ hj)
    have h0 := hi i (.head _)
    have hb : itb (i :: r) = i.bytes ++ itb r := by simp [itb]
    simp only [List.length_cons] at hk ha
    cases htx : i.isTx with
    | true =>
      cases i with
      | tx c =>
        have e : t ++ itb (.tx c :: r) = (t ++ [c]) ++ itb r := by rw [hb]; simp [It.bytes]
        rw [e] at hl ⊢
        have h1 : Txt (t ++ [c]) := ht.app h0
        exact All_items p0 r (t ++ [c]) k acc hr h1 (by simp; omega) (by simp; omega) hl
      | _ => cases htx
    | false =>
      rw [grp_non htx, hb]
      have hB := itb_bs hr
      have hBi : Bs (i.bytes ++ itb r) := by rw [← hb]; exact itb_bs hi
      have hl2 : ([] ++ itb r).length ≤ 10000000000 := by rw [hb] at hl; simp only [List.length_append, List.nil_append] at hl ⊢; omega
      by_cases ht0 : t = []
      · subst ht0
        obtain ⟨k, rfl⟩ : ∃ j, k = j + 1 := ⟨k - 1, by omega⟩
        simp only [List.nil_append, flush, if_true]
        rw [it_step h0 htx hB (by omega)]
        have := All_items p0 r [] k (acc ++ [iop i]) hr (fun n hn => by cases hn) (by simp at hk ⊢; omega) (by simp at ha ⊢; omega) hl2
        simp only [List.nil_append] at this
        rw [this]; simp
      · obtain ⟨k, rfl⟩ : ∃ j, k = j + 1 + 1 := ⟨k - 2, by omega⟩
        rw [All_text ht hBi ht0 (by rw [← hb]; exact hl) (.inr (it_head htx)) (by omega), it_step h0 htx hB (by simp; omega)]
        have htl : 0 < t.length := List.length_pos_iff.2 ht0
        have := All_items p0 r [] k (acc ++ [tOp t] ++ [iop i]) hr (fun n hn => by cases hn) (by simp; omega) (by simp; omega) hl2
        simp only [List.nil_append] at this
        rw [this]; simp [flush, ht0]
/-! ### what the items do to the entries -/
def istep (l : List Ventry_Entry) : It → List Ventry_Entry
  | .sba a _ _ => l ++ [⟨a, []⟩]
  | .sa _ _ => l
  | .ge c => addT l [c]
  | .tx c => addT l [c]
theorem addT_addT (l : List Ventry_Entry) (a b : List Int) : addT (addT l a) b = addT l (a ++ b) := by
  unfold addT
  cases hl : l.getLast? with
  | none => simp
  | some e => simp
def pre (l : List Ventry_Entry) (t : List Int) : List Ventry_Entry := if t = [] then l else addT l t
theorem steps_app : ∀ (a b : List Vorder_Op) (l : List Ventry_Entry), steps l (a ++ b) = (steps l a).bind fun m => steps m b
  | [], b, l => rfl
  | o :: a, b, l => by
    simp only [List.cons_append, steps]
    cases step1 l o with
    | none => rfl
    | some m => simp only [Option.bind_some]; exact steps_app a b m
theorem steps_flush (l : List Ventry_Entry) (t : List Int) : steps l (flush t) = some (pre l t) := by
  unfold flush pre
  split
  · rfl
  · simp [steps, step1, tOp]
theorem steps_grp : ∀ (r : List It) (t : List Int) (l : List Ventry_Entry), steps l (grp t r) = some (r.foldl istep (pre l t))
  | [], t, l => steps_flush l t
  | i :: r, t, l => by
    cases htx : i.isTx with
    | true =>
      cases i with
      | tx c =>
        simp only [grp, List.foldl_cons, istep]
        rw [steps_grp r (t ++ [c]) l]
        unfold pre
        by_cases h : t = []
        · subst h; simp
        · simp [h, addT_addT]
      | _ => cases htx
    | false =>
      rw [grp_non htx, steps_app, steps_flush]
      simp only [Option.bind_some, steps]
      have hs : step1 (pre l t) (iop i) = some (istep (pre l t) i) := by
        cases i with
        | tx c => cases htx
        | sba a x y => simp [step1, iop, aOp, istep]
        | sa t v => simp [step1, iop, istep]
        | ge c => simp [step1, iop, istep]
      rw [hs]
      simp only [Option.bind_some, List.foldl_cons]
      rw [steps_grp r [] (istep (pre l t) i)]; rfl
theorem grp_okT : ∀ (r : List It) (t : List Int), (∀ i ∈ r, i.ok) → Txt t → ∀ o ∈ grp t r, OpT o
  | [], t, _, ht, o, ho => by
    simp only [grp, flush] at ho
    split at ho
    · cases ho
    · simp at ho; subst ho; exact ⟨fun _ => ht, fun h => by simp [tOp] at h⟩
  | i :: r, t, hi, ht, o, ho => by
    have hr : ∀ j ∈ r, j.ok := fun j hj => hi j (.tail _ hj)
    have h0 := hi i (.head _)
    cases htx : i.isTx with
    | true =>
      cases i with
      | tx c => exact grp_okT r (t ++ [c]) hr (ht.app h0) o ho
      | _ => cases htx
    | false =>
      rw [grp_non htx] at ho
      rcases List.mem_append.1 ho with h1 | h1
      · unfold flush at h1
        split at h1
        · cases h1
        · simp at h1; subst h1; exact ⟨fun _ => ht, fun h => by simp [tOp] at h⟩
      · cases h1 with
        | head =>
          cases i with
          | tx c => cases htx
          | sba a x y => exact ⟨fun h => by simp [iop, aOp] at h, fun h => by simp [iop, aOp] at h⟩
          | sa t v => exact ⟨fun h => by simp [iop] at h, fun h => by simp [iop] at h⟩
          | ge c => exact ⟨fun h => by simp [iop] at h, fun _ => h0⟩
        | tail _ h1 => exact grp_okT r [] hr (fun n hn => by cases hn) o h1
theorem grp_osum : ∀ (r : List It) (t : List Int), osum (grp t r) ≤ 2 * t.length + 2 * r.length
  | [], t => by
    simp only [grp, flush]
    split
    · simp [osum]
    · rename_i h
      have := List.length_pos_iff.2 h
      simp [osum, osz, tOp]; omega
  | i :: r, t => by
    cases htx : i.isTx with
    | true =>
      cases i with
      | tx c => have := grp_osum r (t ++ [c]); simp only [grp, List.length_append, List.length_cons, List.length_nil] at this ⊢; omega
      | _ => cases htx
    | false =>
      rw [grp_non htx, osum_app, osum_cons]
      have h1 := grp_osum r []
      have h2 : osum (flush t) ≤ 2 * t.length := by
        unfold flush
        split
        · simp [osum]
        · rename_i h
          have := List.length_pos_iff.2 h
          simp [osum, osz, tOp]; omega
      have h3 : osz (iop i) ≤ 2 := by
        cases i with
        | tx c => cases htx
        | _ => simp [osz, iop, aOp]
      simp only [List.length_cons, List.length_nil] at h1 ⊢
      omega
/-- the bytes of items are read as what they do -/
theorem parse_items {a x y v : Int} {r : List It} (hd : Enc v x y) (hi : ∀ i ∈ r, i.ok) (hl : r.length ≤ 1000000000) (hb : (itb r).length ≤ 10000000000) : m_entry_Parse (a :: x :: y :: itb r) = some (⟨a, false, v, r.foldl istep []⟩, 0) := by
  have hA : m_order_All (itb r) = some (grp [] r, ((itb r).length : Int), 0) := by
    unfold m_order_All
    have := All_items (itb r) r [] fuel [] hi (fun n hn => by cases hn) (by unfold fuel; simp; omega) (by simp; omega) (by simpa using hb)
    simp only [List.nil_append] at this
    rw [this]; rfl
  have h1 := grp_osum r []
  rw [Parse_ok hd.dec hA (by simp at h1; omega) (grp_okT r [] hi (fun n hn => by cases hn)), steps_grp]
  rfl
end Go.Vt
