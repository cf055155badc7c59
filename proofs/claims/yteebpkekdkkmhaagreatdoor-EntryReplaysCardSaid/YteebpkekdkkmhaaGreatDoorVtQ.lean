/- What arguments say when a call begins: readings of them, opened: cells, slices, structs; and what lay there still lies. No conditions. -/
import Derived.Test.YteebpkekdkkmhaaGreatDoorVtP
import Derived.ChangeArms
import Derived.Below
namespace Go.Vt
open Go.RowKit
/-- the pool ahead of the call: what lay there -/
def old (w : World) : HP := fun _ g => g = hpOf w
/-- whatever a reading of this type tells: its cells -/
def Dc (E : Env) (W : World) (t : TypeId) (S : List Value → Prop) : Prop :=
  ∀ (H : Type) (enc : TypeId × Value → H) (fuel : Nat) (cs : List Value) (x : DataW H × List MemPlace), DataW.trod enc E.P W 0 (fun _ => true) true fuel t cs = some x → S cs
theorem Env.cells (E : Env) {t : Nat} {i : TI} (h : lk E.tt t = some i) : E.P.cellsOf t = i.size := by
  obtain ⟨x, h1, h2, _, _⟩ := (E.ok t i h).info
  simp [Program.cellsOf, h1, h2]
def lo : IntKind → Int
  | .i8 => -128 | .i16 => -32768 | .i32 => -2147483648 | .i64 => -9223372036854775808 | _ => 0
def hi : IntKind → Int
  | .i8 => 127 | .i16 => 32767 | .i32 => 2147483647 | .i64 => 9223372036854775807 | .u8 => 255 | .u16 => 65535 | .u32 => 4294967295 | .u64 => 18446744073709551615
/-- a number of its kind -/
def Inb (k : IntKind) (n : Int) : Prop := lo k ≤ n ∧ n ≤ hi k
theorem inb_of {k : IntKind} {n : Int} (h : (Lit.int k n).wf = true) : Inb k n := by
  cases k <;> simp [Lit.wf, IntKind.min, IntKind.max, IntKind.signed, IntKind.bits, Inb, lo, hi] at h ⊢ <;> omega
variable {E : Env} {W : World}
theorem dc_int {t : Nat} {i : TI} {k : IntKind} (h : lk E.tt t = some i) (hu : i.und = .int k) : Dc E W t (fun cs => ∃ n, cs = [.int k n] ∧ Inb k n) := fun H enc fuel cs x hx => by
  obtain ⟨n, h1, _, h2⟩ := DataW.trod_int (by rw [E.und h, hu]) hx
  exact ⟨n, h1, inb_of h2⟩
theorem dc_bool {t : Nat} {i : TI} (h : lk E.tt t = some i) (hu : i.und = .bool) : Dc E W t (fun cs => ∃ b, cs = [.bool b]) := fun H enc fuel cs x hx => by
  obtain ⟨b, h1, _⟩ := DataW.trod_bool (by rw [E.und h, hu]) hx
  exact ⟨b, h1⟩
/-- fields, one after the other -/
def Flds : List (List Value → Prop) → List Value → Prop
  | [], cs => cs = []
  | S :: r, cs => ∃ a b, cs = a ++ b ∧ S a ∧ Flds r b
def FldsOk (E : Env) (W : World) : Nat → List Field → List (Nat × (List Value → Prop)) → Prop
  | _, [], [] => True
  | off, f :: fs, (n, S) :: r => f.offset = off ∧ (∃ j, lk E.tt f.type = some j ∧ j.size = n) ∧ Dc E W f.type S ∧ FldsOk E W (off + n) fs r
  | _, _, _ => False
def szSum : List (Nat × (List Value → Prop)) → Nat
  | [] => 0
  | x :: r => x.1 + szSum r
theorem flds_of {H : Type} {enc : TypeId × Value → H} {m : Nat} {cs : List Value} : ∀ (fs : List Field) (Ss : List (Nat × (List Value → Prop))) (off : Nat), FldsOk E W off fs Ss → cs.length = off + szSum Ss →
    (∀ f ∈ fs, ∃ y, DataW.trod enc E.P W 0 (fun _ => true) true m f.type ((cs.drop f.offset).take (E.P.cellsOf f.type)) = some y) → Flds (Ss.map (·.2)) (cs.drop off)
  | [], [], off, _, hl, _ => by simp [szSum] at hl; simp [Flds, hl]
  | f :: fs, (n, S) :: r, off, ⟨h1, ⟨j, hj, hn⟩, h2, h3⟩, hl, hf => by
    simp only [szSum] at hl
    obtain ⟨y, hy⟩ := hf f (.head _)
    rw [h1, E.cells hj, hn] at hy
    refine ⟨_, _, (List.take_append_drop n (cs.drop off)).symm, h2 _ _ _ _ _ hy, ?_⟩
    rw [List.drop_drop]
    exact flds_of fs r _ h3 (by omega) fun g hg => hf g (.tail _ hg)
  | [], _ :: _, _, h, _, _ => h.elim
  | _ :: _, [], _, h, _, _ => h.elim
theorem dc_struct {t : Nat} {i : TI} {fs : List Field} {Ss : List (Nat × (List Value → Prop))} (h : lk E.tt t = some i) (hu : i.und = .struct fs.toArray) (ho : FldsOk E W 0 fs Ss) (hs : i.size = szSum Ss) : Dc E W t (Flds (Ss.map (·.2))) := fun H enc fuel cs x hx => by
  obtain ⟨xs, n, _, _, h1, h2, h3⟩ := DataW.trod_struct (by rw [E.und h, hu]) hx
  rw [E.cells h, hs] at h1
  have := flds_of (enc := enc) (m := n) (cs := cs) fs Ss 0 ho (by omega) fun f hf => by
    obtain ⟨j, hj⟩ := List.mem_iff_getElem?.1 hf
    have hlt : j < xs.length := by rw [h2]; simpa using (List.getElem?_eq_some_iff.1 hj).1
    exact ⟨xs[j], by rw [h3 j f (by simpa using hj)]; simp [hlt]⟩
  simpa using this
theorem Dc.mono {t : Nat} {S S' : List Value → Prop} (h : Dc E W t S) (k : ∀ cs, S cs → S' cs) : Dc E W t S' := fun H enc fuel cs x hx => k _ (h H enc fuel cs x hx)
theorem cells_get {w : World} {a : Addr} {n : Nat} {cs : List Value} (h : w.cells? 0 a n = some cs) : cs.length = n ∧ ∀ j, j < n → w.cell? (a.add j) = cs[j]? := by
  simp only [World.cells?, Nat.zero_le, if_true] at h
  exact ⟨by simpa using mapM_some_length h, fun j hj => mapM_some_get h j j (by simp [hj])⟩
theorem cell_block {w : World} {a : Addr} {v : Value} (h : w.cell? a = some v) : ∃ cs t' fr, w.heap[a.block]? = some (.cells cs t' fr) ∧ a.spot = none := by
  unfold World.cell? at h
  split at h
  · rename_i c t' fr hh
    refine ⟨c, t', fr, hh, ?_⟩
    cases hsp : a.spot with
    | none => rfl
    | some _ => simp [hsp] at h
  · cases h
theorem dc_slice {τ : Type} (en : En τ) (F : τ → Prop) {t e : Nat} {i j : TI} (ht : lk E.tt t = some i) (hi : i.und = .slice e) (he : lk E.tt e = some j) (hz : j.size = en.sz) (hd : Dc E W e (fun cs => ∃ u, cs = en.enc u ∧ F u)) :
    Dc E W t (fun cs => ∃ (s : SV) (l : List τ), cs = [s.val] ∧ Rd (old W) s e en l ∧ (∀ u ∈ l, F u) ∧ l.length ≤ maxLen) := fun H enc fuel cs x hx => by
  rcases DataW.trod_slice (by rw [E.und ht, hi]) hx with ⟨rfl, _⟩ | ⟨a, len, cap, elems, rest, n, _, rfl, _, _, hl, hm, hlen, hel, _, _⟩
  · exact ⟨SV.nil, [], rfl, rd_nil _ _ _, (fun _ h => by cases h), Nat.zero_le _⟩
  · rw [E.cells he, hz] at hel
    have pick : ∀ m, m ≤ len → ∃ l : List τ, l.length = m ∧ ∀ k, k < m → ∃ u, l[k]? = some u ∧ W.cells? 0 (a.add (k * en.sz)) en.sz = some (en.enc u) ∧ F u := fun m => by
      induction m with
      | zero => exact fun _ => ⟨[], rfl, fun k hk => by omega⟩
      | succ m ih =>
        intro hm'
        obtain ⟨l, h1, h2⟩ := ih (by omega)
        have h3 := hel m (by omega)
        have h4 : elems[m]? = some (elems[m]'(by omega)) := by simp [show m < elems.length by omega]
        rw [h4] at h3
        obtain ⟨c, hc, hc2⟩ := Option.bind_eq_some_iff.1 h3
        obtain ⟨u, rfl, hu⟩ := hd _ _ _ _ _ hc2
        refine ⟨l ++ [u], by simp [h1], fun k hk => ?_⟩
        by_cases hkm : k < m
        · obtain ⟨u', g1, g2⟩ := h2 k hkm
          exact ⟨u', by rw [List.getElem?_append_left (by omega)]; exact g1, g2⟩
        · have : k = m := by omega
          subst this
          exact ⟨u, by rw [List.getElem?_append_right (by omega)]; simp [h1], hc, hu⟩
    obtain ⟨l, h1, h2⟩ := pick len (Nat.le_refl _)
    refine ⟨⟨some a, len, cap⟩, l, rfl, ?_, fun u hu => ?_, by omega⟩
    · intro hh g mm hX l1 l2
      have hX : g = hpOf W := hX
      subst hX
      refine ⟨h1.symm, hl, fun e0 => by simp at e0, ?_⟩
      by_cases h0 : len = 0
      · exact .inl (by omega)
      · right
        have hcell : ∀ q r, q < len → r < en.sz → W.cell? ((a.add (q * en.sz)).add r) = (l.flatMap en.enc)[q * en.sz + r]? := fun q r hq hr => by
          obtain ⟨u, g1, g2, _⟩ := h2 q hq
          rw [flat_at en l q r u g1 hr]
          exact (cells_get g2).2 r hr
        have hp := en.pos
        have hcl := hcell 0 0 (by omega) hp
        have hfl : 0 < (l.flatMap en.enc).length := by rw [flat_length]; exact Nat.mul_pos (by omega) hp
        rw [List.getElem?_eq_getElem (by simpa using hfl)] at hcl
        have ha0 : (a.add (0 * en.sz)).add 0 = a := by simp [Addr.add]
        rw [ha0] at hcl
        obtain ⟨cs, t', fr, hb, hsp⟩ := cell_block hcl
        refine ⟨a.block, a.off, cs, fr, t', by cases a; simp_all, l2 _ _ hb, fun jj hjj => ?_⟩
        have hq : jj = (jj / en.sz) * en.sz + jj % en.sz := by rw [Nat.mul_comm]; exact (Nat.div_add_mod jj en.sz).symm
        have hq2 : jj / en.sz < len := by rw [Nat.div_lt_iff_lt_mul hp]; rw [h1] at hjj; exact hjj
        have h3 := hcell (jj / en.sz) (jj % en.sz) hq2 (Nat.mod_lt _ hp)
        rw [← hq] at h3
        rw [← h3]
        have hadd : (a.add (jj / en.sz * en.sz)).add (jj % en.sz) = ⟨a.block, a.off + jj, none⟩ := by
          cases a with
          | mk ab ao as =>
            simp only at hsp
            subst hsp
            rw [addr_add, addr_add]
            simp only [Addr.mk.injEq, true_and, and_true]
            omega
        rw [hadd, cell_of W a.block (a.off + jj) cs t' fr hb]
    · obtain ⟨k, hk⟩ := List.mem_iff_getElem?.1 hu
      have hlt := (List.getElem?_eq_some_iff.1 hk).1
      obtain ⟨u', g1, _, g3⟩ := h2 k (by omega)
      rw [hk] at g1; cases g1; exact g3
/-- a list that is read, of plain numbers -/
theorem dc_ints {t e : Nat} {i j : TI} {k : IntKind} (ht : lk E.tt t = some i) (hi : i.und = .slice e) (he : lk E.tt e = some j) (hj : j.und = .int k) (hz : j.size = 1) :
    Dc E W t (fun cs => ∃ (s : SV) (l : List Int), cs = [s.val] ∧ Rd (old W) s e (enI k) l ∧ (∀ u ∈ l, Inb k u) ∧ l.length ≤ maxLen) :=
  dc_slice (enI k) (Inb k) ht hi he hz (dc_int he hj)
theorem below_of {H : List HP} {w w' : World} (h : HS H ⟨hpOf w, w⟩ w') : Below w.heap.size w w' := by
  obtain ⟨x, _, _, _, l, o⟩ := h
  refine ⟨o.1, o.2.1, o.2.2, ?_, fun k hk => ?_⟩
  · by_cases h0 : w.heap.size = 0
    · omega
    · have h1 := l (w.heap.size - 1) w.heap[w.heap.size - 1] (by simp [hpOf])
      have := (Array.getElem?_eq_some_iff.1 h1).1
      omega
  · have h1 := l k w.heap[k] (by simp [hpOf, hk])
    have h2 : w'.heap[k]? = some w.heap[k] := h1
    rw [h2]; simp [hk]
/-- the call begins -/
theorem hs_old (w : World) : HS [old w] ⟨hpOf w, w⟩ w :=
  ⟨fun _ => none, ⟨fun _ => none, fun _ => none, fun _ => .inl rfl, fun _ _ e => (by cases e), fun _ _ e => (by cases e), rfl, trivial⟩, fun _ => .inl rfl, fun _ _ e => (by cases e), Hp.le_refl _, Out.refl _⟩
end Go.Vt
