/- What is sent of a screen, as items; how its cells may look. No conditions. -/
import Derived.Test.YteebpkekdkkmhaaVpK
import Derived.Test.YteebpkekdkkmhaaVpI
import Derived.Test.YteebpkekdkkmhaaVpD20
set_option linter.unusedVariables false
set_option linter.unusedSimpArgs false
set_option maxRecDepth 100000
namespace Go.Vt
/-- a character as it is sent -/
def sch (c : Vapi_Cell) : Int := if isO c.Char then 63 else c.Char
theorem sch_txt {c : Vapi_Cell} (h : By c.Char) : Txt [sch c] := fun n hn => by
  simp only [List.mem_cons, List.not_mem_nil, or_false] at hn
  subst hn
  unfold sch
  cases ho : isO c.Char with
  | true => simp only [if_true]; exact ⟨⟨by omega, by omega⟩, by decide⟩
  | false => simp only [Bool.false_eq_true, if_false]; exact ⟨h, ho⟩
def citems (mode : Int) (last c : Vapi_Cell) : List It := if mode = 2 then (dif last c).map (fun p => It.sa p.1 p.2) ++ [.tx (sch c)] else if c.f_Set = 241 then [.ge (sch c)] else [.tx (sch c)]
theorem itb_app (a b : List It) : itb (a ++ b) = itb a ++ itb b := by simp [itb]
theorem itb_sa : ∀ l : List (Int × Int), itb (l.map (fun p => It.sa p.1 p.2)) = sas l
  | [] => rfl
  | p :: l => by
    have := itb_sa l
    simp only [itb, sas, List.map_cons, List.flatMap_cons] at this ⊢
    rw [this]; rfl
theorem citems_b (mode : Int) (last c : Vapi_Cell) : itb (citems mode last c) = chr mode last c := by
  unfold citems chr
  split
  · rw [itb_app, itb_sa]; rfl
  · split <;> rfl
def itemsOf (mode : Int) : Vapi_Cell → List Vapi_Cell → List It × Vapi_Cell
  | last, [] => ([], last)
  | last, c :: l => if c.Char = 0 then itemsOf mode last l else (citems mode last c ++ (itemsOf mode (if mode = 2 then c else last) l).1, (itemsOf mode (if mode = 2 then c else last) l).2)
theorem fold_items (mode : Int) : ∀ (l : List Vapi_Cell) (o : List Int) (last : Vapi_Cell), l.foldl (sstep mode) (o, last) = (o ++ itb (itemsOf mode last l).1, (itemsOf mode last l).2)
  | [], o, last => by simp [itemsOf, itb]
  | c :: l, o, last => by
    rw [List.foldl_cons]
    by_cases h : c.Char = 0
    · have h1 : sstep mode (o, last) c = (o, last) := by unfold sstep; rw [if_pos h]
      have h2 : itemsOf mode last (c :: l) = itemsOf mode last l := by rw [itemsOf, if_pos h]
      rw [h1, h2, fold_items mode l]
    · have h1 : sstep mode (o, last) c = (o ++ chr mode last c, if mode = 2 then c else last) := by unfold sstep; rw [if_neg h]; rfl
      have h2 : itemsOf mode last (c :: l) = (citems mode last c ++ (itemsOf mode (if mode = 2 then c else last) l).1, (itemsOf mode (if mode = 2 then c else last) l).2) := by rw [itemsOf, if_neg h]
      rw [h1, h2, fold_items mode l, itb_app, citems_b, List.append_assoc]
def mI (L : List Vapi_Cell) (mode : Int) : Nat → Nat → Vapi_Cell → List It × Vapi_Cell
  | _, 0, last => ([], last)
  | i, m + 1, last => if isA' L i && isMod (rd L (i : Int)) then
      (It.sba (((i + 1) % L.length : Nat) : Int) (rd (adr (((i + 1) % L.length : Nat) : Int)) 0) (rd (adr (((i + 1) % L.length : Nat) : Int)) 1) :: ((itemsOf mode last (run L ((i + 1) % L.length))).1 ++ (mI L mode (i + 1) m (itemsOf mode last (run L ((i + 1) % L.length))).2).1), (mI L mode (i + 1) m (itemsOf mode last (run L ((i + 1) % L.length))).2).2)
    else mI L mode (i + 1) m last
theorem adr_rd {n : Nat} (h : n < 4096) : Enc (n : Int) (rd (adr n) 0) (rd (adr n) 1) ∧ adr n = [rd (adr n) 0, rd (adr n) 1] := by
  obtain ⟨x, y, hE, ha⟩ := adr_ok h
  have h0 : rd [x, y] 0 = x := rfl
  have h1 : rd [x, y] 1 = y := rfl
  rw [ha, h0, h1]; exact ⟨hE, rfl⟩
theorem iter_items {L : List Vapi_Cell} (hL : L.length ≤ 3564) (mode : Int) : ∀ (m i : Nat) (o : List Int) (last : Vapi_Cell), i + m = L.length → iterN (mstep L mode) i m (o, last) = (o ++ itb (mI L mode i m last).1, (mI L mode i m last).2)
  | 0, i, o, last, _ => by simp [iterN, mI, itb]
  | m + 1, i, o, last, h => by
    have hA : (rd L (i : Int)).Attr = isA' L i := rfl
    have hm : (i + 1) % L.length < L.length := Nat.mod_lt _ (by omega)
    rw [iterN, mI]
    cases hb : isA' L i && isMod (rd L (i : Int)) with
    | false =>
      have hs : mstep L mode i (o, last) = (o, last) := by unfold mstep; rw [hA, hb]; rfl
      rw [hs]
      simp only [Bool.false_eq_true, if_false]
      exact iter_items hL mode m (i + 1) o last (by omega)
    | true =>
      have had := (adr_rd (n := (i + 1) % L.length) (by omega)).2
      have hs : mstep L mode i (o, last) = (o ++ 17 :: adr (((i + 1) % L.length : Nat) : Int) ++ itb (itemsOf mode last (run L ((i + 1) % L.length))).1, (itemsOf mode last (run L ((i + 1) % L.length))).2) := by
        unfold mstep; rw [hA, hb]; simp only [if_true]; rw [fold_items]
      rw [hs, iter_items hL mode m (i + 1) _ _ (by omega)]
      simp only [if_true]
      have e : ∀ (x : It) (l r : List It), itb (x :: (l ++ r)) = x.bytes ++ (itb l ++ itb r) := fun x l r => by simp [itb]
      rw [e]
      have e2 : ∀ a x y : Int, It.bytes (.sba a x y) = 17 :: [x, y] := fun _ _ _ => rfl
      rw [e2, ← had]
      simp only [List.append_assoc, List.cons_append]
/-- the items of what is sent -/
def sentI (L : List Vapi_Cell) (mode : Int) : List It := if cnt L = 0 then (itemsOf mode zc L).1 else (mI L mode 0 L.length zc).1
theorem sent_items {L : List Vapi_Cell} (hL : L.length ≤ 3564) (cur aid mode : Int) : sent L cur aid mode = aid :: (adr cur ++ itb (sentI L mode)) := by
  unfold sent sentI
  split
  · rw [fold_items]; rfl
  · rw [iter_items hL mode L.length 0 _ _ (by omega)]; rfl
/-! ### the characters -/
def chs (l : List Vapi_Cell) : List Int := (l.filter (fun c => c.Char != 0)).map sch
theorem chs_cons (c : Vapi_Cell) (l : List Vapi_Cell) : chs (c :: l) = (if c.Char = 0 then [] else [sch c]) ++ chs l := by
  unfold chs
  by_cases h : c.Char = 0
  · rw [List.filter_cons, if_neg (by simp [h]), if_pos h]; rfl
  · rw [List.filter_cons, if_pos (by simp [h]), if_neg h]; rfl
theorem chs_app (a b : List Vapi_Cell) : chs (a ++ b) = chs a ++ chs b := by simp [chs]
theorem chs_len (l : List Vapi_Cell) : (chs l).length ≤ l.length := by
  unfold chs; rw [List.length_map]; exact List.length_filter_le _ _
theorem fold_sas : ∀ (l : List (Int × Int)) (acc : List Ventry_Entry), (l.map (fun p => It.sa p.1 p.2)).foldl istep acc = acc
  | [], acc => rfl
  | p :: l, acc => fold_sas l acc
theorem fold_citems (mode : Int) (last c : Vapi_Cell) (acc : List Ventry_Entry) : (citems mode last c).foldl istep acc = addT acc [sch c] := by
  unfold citems
  split
  · rw [List.foldl_append, fold_sas]; rfl
  · split <;> rfl
theorem pre_cons (l : List Ventry_Entry) (c : Int) (t : List Int) : pre l (c :: t) = pre (addT l [c]) t := by
  unfold pre
  by_cases h : t = []
  · subst h; simp
  · simp [h, addT_addT]
theorem fold_itemsOf (mode : Int) : ∀ (l : List Vapi_Cell) (last : Vapi_Cell) (acc : List Ventry_Entry), (itemsOf mode last l).1.foldl istep acc = pre acc (chs l)
  | [], last, acc => rfl
  | c :: l, last, acc => by
    rw [itemsOf, chs_cons]
    by_cases h : c.Char = 0
    · rw [if_pos h, if_pos h, List.nil_append]; exact fold_itemsOf mode l last acc
    · rw [if_neg h, if_neg h]
      simp only [List.foldl_append, fold_citems, List.cons_append, List.nil_append]
      rw [pre_cons]; exact fold_itemsOf mode l _ _
/-- a modified field as it is read -/
def entOf (L : List Vapi_Cell) (a : Nat) : Ventry_Entry := ⟨(((a + 1) % L.length : Nat) : Int), chs (run L ((a + 1) % L.length))⟩
theorem pre_last (acc : List Ventry_Entry) (a : Int) (t : List Int) : pre (acc ++ [⟨a, []⟩]) t = acc ++ [⟨a, t⟩] := by
  unfold pre
  split
  · rename_i h; rw [h]
  · simp [addT]
theorem fold_mI {L : List Vapi_Cell} (mode : Int) : ∀ (m i : Nat) (last : Vapi_Cell) (acc : List Ventry_Entry), i + m = L.length → (mI L mode i m last).1.foldl istep acc = acc ++ ((List.range' i m).filter (fun a : Nat => isA' L a && isMod (rd L (a : Int)))).map (entOf L)
  | 0, i, last, acc, _ => by simp [mI]
  | m + 1, i, last, acc, h => by
    rw [mI, List.range'_succ, List.filter_cons]
    cases hb : isA' L i && isMod (rd L (i : Int)) with
    | false => simp only [Bool.false_eq_true, if_false]; exact fold_mI mode m (i + 1) last acc (by omega)
    | true =>
      simp only [if_true, List.foldl_cons, List.foldl_append, istep, fold_itemsOf, pre_last]
      rw [fold_mI mode m (i + 1) _ _ (by omega)]
      simp [entOf]
def entsOf (L : List Vapi_Cell) : List Ventry_Entry := if cnt L = 0 then (if chs L = [] then [] else [⟨0, chs L⟩]) else ((attrsN L L.length).filter (fun a : Nat => isMod (rd L (a : Int)))).map (entOf L)
theorem fold_sentI {L : List Vapi_Cell} (mode : Int) : (sentI L mode).foldl istep [] = entsOf L := by
  unfold sentI entsOf
  split
  · rw [fold_itemsOf]; unfold pre; split
    · rfl
    · rfl
  · rw [fold_mI mode L.length 0 zc [] (by omega), List.nil_append, attrsN, List.filter_filter, List.range_eq_range']
    congr 2
    funext a; exact Bool.and_comm _ _
/-! ### how cells may look -/
structure LOk (c : Vapi_Cell) : Prop where
  high : okP 65 c.High = true
  color : okP 66 c.Color = true
  set : okP 67 c.f_Set = true
theorem dif_ok {last c : Vapi_Cell} (hc : CB c) (h : LOk c) : ∀ p ∈ dif last c, (By p.1 ∧ By p.2 ∧ okP p.1 p.2 = true) := by
  intro p hp
  unfold dif at hp
  simp only [List.mem_append] at hp
  have b : ∀ n : Int, 0 ≤ n ∧ n < 256 → By n := fun n h => h
  rcases hp with hp | hp | hp
  · split at hp
    · cases hp
    · simp at hp; subst hp; exact ⟨b _ (by simp), hc.high, h.high⟩
  · split at hp
    · cases hp
    · simp at hp; subst hp; exact ⟨b _ (by simp), hc.color, h.color⟩
  · split at hp
    · cases hp
    · simp at hp; subst hp; exact ⟨b _ (by simp), hc.set, h.set⟩
theorem itemsOf_ok (mode : Int) : ∀ (l : List Vapi_Cell) (last : Vapi_Cell), (∀ c ∈ l, COk c ∧ LOk c) → ∀ i ∈ (itemsOf mode last l).1, i.ok
  | [], last, _, i, hi => by cases hi
  | c :: l, last, h, i, hi => by
    have hl : ∀ d ∈ l, COk d ∧ LOk d := fun d hd => h d (.tail _ hd)
    obtain ⟨hc, hk⟩ := h c (.head _)
    rw [itemsOf] at hi
    by_cases h0 : c.Char = 0
    · rw [if_pos h0] at hi; exact itemsOf_ok mode l last hl i hi
    · rw [if_neg h0] at hi
      rcases List.mem_append.1 hi with h1 | h1
      · unfold citems at h1
        split at h1
        · rcases List.mem_append.1 h1 with h2 | h2
          · obtain ⟨p, hp, rfl⟩ := List.mem_map.1 h2
            exact dif_ok hc.cb hk p hp
          · simp at h2; subst h2; exact sch_txt hc.char
        · split at h1
          · simp at h1; subst h1; exact sch_txt hc.char
          · simp at h1; subst h1; exact sch_txt hc.char
      · exact itemsOf_ok mode l _ hl i h1
theorem run_mem {L : List Vapi_Cell} {j : Nat} {c : Vapi_Cell} (h : c ∈ run L j) : c ∈ L := (rot_mem j).1 ((List.takeWhile_prefix _).subset h)
theorem mI_ok {L : List Vapi_Cell} (hL : L.length ≤ 3564) (h : ∀ c ∈ L, COk c ∧ LOk c) (mode : Int) : ∀ (m i : Nat) (last : Vapi_Cell), i + m = L.length → ∀ j ∈ (mI L mode i m last).1, j.ok
  | 0, i, last, _, j, hj => by cases hj
  | m + 1, i, last, he, j, hj => by
    have hm : (i + 1) % L.length < L.length := Nat.mod_lt _ (by omega)
    rw [mI] at hj
    split at hj
    · cases hj with
      | head => exact (adr_rd (n := (i + 1) % L.length) (by omega)).1
      | tail _ hj =>
        rcases List.mem_append.1 hj with h1 | h1
        · exact itemsOf_ok mode _ _ (fun c hc => h c (run_mem hc)) j h1
        · exact mI_ok hL h mode m (i + 1) _ (by omega) j h1
    · exact mI_ok hL h mode m (i + 1) last (by omega) j hj
theorem sentI_ok {L : List Vapi_Cell} (hL : L.length ≤ 3564) (h : ∀ c ∈ L, COk c ∧ LOk c) (mode : Int) : ∀ j ∈ sentI L mode, j.ok := by
  unfold sentI; split
  · exact itemsOf_ok mode L zc h
  · exact mI_ok hL h mode L.length 0 zc (by omega)
/-- the bytes, whatever the look -/
theorem chr_bs {mode : Int} {last c : Vapi_Cell} (hc : COk c) : Bs (chr mode last c) := by
  have h0 : Bs [if isO c.Char then 63 else c.Char] := fun n hn => by
    simp only [List.mem_cons, List.not_mem_nil, or_false] at hn; subst hn
    split
    · exact ⟨by omega, by omega⟩
    · exact hc.char
  unfold chr
  refine Bs.app ?_ h0
  split
  · intro n hn
    unfold sas at hn
    obtain ⟨p, hp, hn⟩ := List.mem_flatMap.1 hn
    have hpp : By p.1 ∧ By p.2 := by
      unfold dif at hp
      simp only [List.mem_append] at hp
      have b : ∀ n : Int, 0 ≤ n ∧ n < 256 → By n := fun n h => h
      rcases hp with hp | hp | hp
      · split at hp
        · cases hp
        · simp at hp; subst hp; exact ⟨b _ (by simp), hc.high⟩
      · split at hp
        · cases hp
        · simp at hp; subst hp; exact ⟨b _ (by simp), hc.color⟩
      · split at hp
        · cases hp
        · simp at hp; subst hp; exact ⟨b _ (by simp), hc.set⟩
    simp only [List.mem_cons, List.not_mem_nil, or_false] at hn
    rcases hn with rfl | rfl | rfl
    · exact ⟨by omega, by omega⟩
    · exact hpp.1
    · exact hpp.2
  · split
    · intro n hn; simp at hn; subst hn; exact ⟨by omega, by omega⟩
    · exact fun n hn => by cases hn
theorem fold_bs {mode : Int} : ∀ (l : List Vapi_Cell) (s : St), (∀ c ∈ l, COk c) → Bs s.1 → Bs (l.foldl (sstep mode) s).1
  | [], s, _, h => h
  | c :: l, s, hl, h => by
    rw [List.foldl_cons]
    refine fold_bs l _ (fun d hd => hl d (.tail _ hd)) ?_
    unfold sstep sone
    split
    · exact h
    · exact h.app (chr_bs (hl c (.head _)))
theorem mstep_bs {L : List Vapi_Cell} (hL : L.length ≤ 3564) (hk : ∀ c ∈ L, COk c) {mode : Int} {n : Nat} (hn : n < L.length) {s : St} (h : Bs s.1) : Bs (mstep L mode n s).1 := by
  have hm : (n + 1) % L.length < L.length := Nat.mod_lt _ (by omega)
  unfold mstep
  split
  · refine fold_bs _ _ (fun c hc => hk c (run_mem hc)) (h.app ?_)
    obtain ⟨h1, h2⟩ := adr_rd (n := (n + 1) % L.length) (by omega)
    rw [h2]
    intro z hz
    simp only [List.mem_cons, List.not_mem_nil, or_false] at hz
    rcases hz with rfl | rfl | rfl
    · exact ⟨by omega, by omega⟩
    · exact h1.bx
    · exact h1.by_
  · exact h
theorem iter_bs {L : List Vapi_Cell} (hL : L.length ≤ 3564) (hk : ∀ c ∈ L, COk c) {mode : Int} : ∀ (m i : Nat) (s : St), i + m = L.length → Bs s.1 → Bs (iterN (mstep L mode) i m s).1
  | 0, i, s, _, h => h
  | m + 1, i, s, he, h => by rw [iterN]; exact iter_bs hL hk m (i + 1) _ (by omega) (mstep_bs hL hk (by omega) h)
theorem iter_len {L : List Vapi_Cell} (hL : L.length ≤ 3564) {mode : Int} : ∀ (m i : Nat) (s : St), i + m = L.length → (iterN (mstep L mode) i m s).1.length ≤ s.1.length + 35643 * m
  | 0, i, s, _ => by simp [iterN]
  | m + 1, i, s, he => by
    have h1 := mstep_len (L := L) mode (n := i) hL (by omega) s
    have h2 := iter_len hL (mode := mode) m (i + 1) (mstep L mode i s) (by omega)
    rw [iterN]; omega
/-- behind the AID and the address: bytes, not too many -/
theorem sent_bs {L : List Vapi_Cell} (hL : L.length ≤ 3564) (hk : ∀ c ∈ L, COk c) {n : Nat} (hn : n < 4096) {aid mode : Int} (ha : By aid) : Bs (sent L (n : Int) aid mode) ∧ (sent L (n : Int) aid mode).length ≤ 200000000 := by
  obtain ⟨h1, h2⟩ := adr_rd hn
  have h0 : Bs (aid :: adr (n : Int)) := by
    rw [h2]
    intro z hz
    simp only [List.mem_cons, List.not_mem_nil, or_false] at hz
    rcases hz with rfl | rfl | rfl
    · exact ha
    · exact h1.bx
    · exact h1.by_
  have hl := (enc_adr hn).2.2
  unfold sent
  split
  · refine ⟨fold_bs _ _ hk h0, ?_⟩
    have := fold_len mode L (aid :: adr (n : Int), zc)
    simp only [List.length_cons, hl] at this
    omega
  · refine ⟨iter_bs hL hk _ _ _ (by omega) h0, ?_⟩
    have := iter_len hL (mode := mode) L.length 0 (aid :: adr (n : Int), zc) (by omega)
    simp only [List.length_cons, hl] at this
    omega
theorem itb_len : ∀ l : List It, l.length ≤ (itb l).length
  | [] => by simp [itb]
  | i :: l => by
    have := itb_len l
    have h2 : 1 ≤ i.bytes.length := by cases i <;> simp [It.bytes]
    have e : itb (i :: l) = i.bytes ++ itb l := by simp [itb]
    rw [e]; simp only [List.length_cons, List.length_append]; omega
/-- what is sent is read as what is modified -/
theorem parse_sent {L : List Vapi_Cell} (hL : L.length ≤ 3564) (h : ∀ c ∈ L, COk c ∧ LOk c) {n : Nat} (hn : n < 4096) {aid : Int} (ha : By aid) (mode : Int) : m_entry_Parse (sent L (n : Int) aid mode) = some (⟨aid, false, (n : Int), entsOf L⟩, 0) := by
  obtain ⟨h1, h2⟩ := adr_rd hn
  have hb := (sent_bs hL (fun c hc => (h c hc).1) hn (mode := mode) ha).2
  have hs := sent_items hL (n : Int) aid mode
  have hlen : (itb (sentI L mode)).length ≤ 200000000 := by
    rw [hs] at hb; simp only [List.length_cons, List.length_append] at hb; omega
  have hil := itb_len (sentI L mode)
  rw [hs, h2]
  have := parse_items (a := aid) h1 (sentI_ok hL h mode) (by omega) (by omega)
  rw [fold_sentI] at this
  exact this
end Go.Vt
