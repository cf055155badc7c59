/- Lists whose elements own their slices; nil slices asked for. No conditions. -/
import Derived.Test.YteebpkekdkkmhaaGreatDoorVtK
namespace Go.Vt
def stars (A : List HP) : HP := fun h g => SatE A h g
theorem SatE.under {P : HP} {S S' : List HP} {g : Gw} (f : ∀ h, SatE S h g → SatE S' h g) {h : Hp} (s : SatE (P :: S) h g) : SatE (P :: S') h g := by
  obtain ⟨h1, h2, d, l1, l2, p, s⟩ := s
  exact ⟨h1, h2, d, l1, l2, p, f _ s⟩
theorem SatE.unst {A B : HP} {R : List HP} {g : Gw} {h : Hp} (s : SatE (st A B :: R) h g) : SatE (A :: B :: R) h g := by
  obtain ⟨h1, h2, d, l1, l2, ⟨h3, h4, d', l3, l4, a, b⟩, s⟩ := s
  exact ⟨h3, Hp.un h4 h2, Hp.dj_un d' (Hp.dj_comm (Hp.dj_le (Hp.dj_comm d) l3)), Hp.le_trans l3 l1, Hp.un_le (Hp.le_trans l4 l1) l2, a, h4, h2, Hp.dj_comm (Hp.dj_le (Hp.dj_comm d) l4), Hp.le_un_left _ _, Hp.le_un_right (Hp.dj_comm (Hp.dj_le (Hp.dj_comm d) l4)), b, s⟩
theorem SatE.st {A B : HP} {R : List HP} {g : Gw} {h : Hp} (s : SatE (A :: B :: R) h g) : SatE (st A B :: R) h g := by
  obtain ⟨h1, h2, d, l1, l2, p, h3, h4, d', l3, l4, q, s⟩ := s
  exact ⟨Hp.un h1 h3, h4, Hp.dj_comm (Hp.dj_un (Hp.dj_comm (Hp.dj_le d l4)) (Hp.dj_comm d')), Hp.un_le l1 (Hp.le_trans l3 l2), Hp.le_trans l4 l2, ⟨h1, h3, Hp.dj_le d l3, Hp.le_un_left _ _, Hp.le_un_right (Hp.dj_le d l3), p, q⟩, s⟩
theorem SatE.flat : ∀ (A R : List HP) {g : Gw} {h : Hp}, SatE (stars A :: R) h g → SatE (A ++ R) h g
  | [], R, g, h, s => by obtain ⟨h1, h2, d, l1, l2, p, s⟩ := s; exact s.mono l2
  | a :: A, R, g, h, s => SatE.under (fun h => SatE.flat A R) (SatE.unst (A := a) (B := stars A) s)
theorem SatE.unflat : ∀ (A R : List HP) {g : Gw} {h : Hp}, SatE (A ++ R) h g → SatE (stars A :: R) h g
  | [], R, g, h, s => ⟨fun _ => none, h, fun _ => .inl rfl, fun _ _ e => (by cases e), Hp.le_refl _, trivial, s⟩
  | a :: A, R, g, h, s => SatE.st (A := a) (B := stars A) (SatE.under (fun h => SatE.unflat A R) s)
theorem HS.flat {A R : List HP} {g : Gw} {w : World} (s : HS (stars A :: R) g w) : HS (A ++ R) g w := by
  obtain ⟨h, s, r⟩ := s; exact ⟨h, SatE.flat A R s, r⟩
theorem HS.unflat {A R : List HP} {g : Gw} {w : World} (s : HS (A ++ R) g w) : HS (stars A :: R) g w := by
  obtain ⟨h, s, r⟩ := s; exact ⟨h, SatE.unflat A R s, r⟩
section
variable {τ ρ : Type} (t2 : TypeId) (e2 : En ρ) (π : τ → List ρ)
def tx1 (y : τ × SV) : HP := slO y.2 t2 e2 (π y.1)
def TX (L : List (τ × SV)) : HP := stars (L.map (tx1 t2 e2 π))
def slE (s : SV) (ty : TypeId) (e : En (τ × SV)) (L : List (τ × SV)) : HP := st (slO s ty e L) (TX t2 e2 π L)
def NilE (L : List (τ × SV)) : Prop := ∀ y ∈ L, y.2 = SV.nil ∧ π y.1 = []
end
abbrev DT {τ σ : Type} : τ × σ → Prop := fun _ => True
theorem NL.dt {τ σ : Type} {D : τ × σ → Prop} {L : List (τ × σ)} {l : List τ} (h : NL D L l) : NL DT L l := h.mono fun _ _ => trivial
section
variable {τ ρ : Type} {t2 : TypeId} {e2 : En ρ} {π : τ → List ρ} {s : SV} {ty : TypeId} {e : En (τ × SV)} {L L2 : List (τ × SV)}
theorem nilE_nil : NilE π ([] : List (τ × SV)) := fun _ h => by cases h
theorem nilE_cons {x : τ} (h : π x = []) (k : NilE π L) : NilE π ((x, SV.nil) :: L) := fun y hy => by
  cases hy with
  | head => exact ⟨rfl, h⟩
  | tail _ hy => exact k y hy
theorem TX.nils {R : List HP} {g : Gw} {w : World} : ∀ {L : List (τ × SV)}, NilE π L → HS R g w → HS (TX t2 e2 π L :: R) g w
  | [], _, s => HS.unflat (A := []) s
  | y :: L, h, s => by
    have ih := HS.flat (TX.nils (L := L) (fun z hz => h z (.tail _ hz)) s)
    refine HS.unflat (A := (y :: L).map (tx1 t2 e2 π)) ?_
    have hy := h y (.head _)
    refine HS.add ih ?_
    show slO y.2 t2 e2 (π y.1) _ _
    rw [hy.1, hy.2]; exact slO_nil _ _ _ _
theorem TX.app {R : List HP} {g : Gw} {w : World} (s : HS (TX t2 e2 π L :: TX t2 e2 π L2 :: R) g w) : HS (TX t2 e2 π (L ++ L2) :: R) g w := by
  refine HS.unflat (A := (L ++ L2).map (tx1 t2 e2 π)) ?_
  rw [List.map_append, List.append_assoc]
  have h1 := HS.flat s
  have h2 := HS.flat (h1.perm (List.perm_middle))
  refine h2.perm ?_
  rw [← List.append_assoc, ← List.append_assoc]
  exact List.perm_append_comm.append_right R
theorem TX.unapp {R : List HP} {g : Gw} {w : World} (s : HS (TX t2 e2 π (L ++ L2) :: R) g w) : HS (TX t2 e2 π L :: TX t2 e2 π L2 :: R) g w := by
  have h1 := HS.flat s
  rw [List.map_append, List.append_assoc] at h1
  refine HS.unflat (A := L.map (tx1 t2 e2 π)) ?_
  refine HS.perm List.perm_middle.symm ?_
  refine HS.unflat (A := L2.map (tx1 t2 e2 π)) ?_
  refine h1.perm ?_
  rw [← List.append_assoc, ← List.append_assoc]
  exact List.perm_append_comm.append_right R
theorem TX.one {R : List HP} {g : Gw} {w : World} {y : τ × SV} (s : HS (TX t2 e2 π [y] :: R) g w) : HS (slO y.2 t2 e2 (π y.1) :: R) g w := HS.flat s
theorem TX.mk1 {R : List HP} {g : Gw} {w : World} {y : τ × SV} (s : HS (slO y.2 t2 e2 (π y.1) :: R) g w) : HS (TX t2 e2 π [y] :: R) g w := HS.unflat (A := [tx1 t2 e2 π y]) s
theorem TX.at {R : List HP} {g : Gw} {w : World} [Inhabited τ] {n : Int} {x : τ} {sv : SV} (he : ∃ (_ : Inhabited SV), rd L n = (x, sv)) (hb : 0 ≤ n ∧ n < L.length) (s : HS (TX t2 e2 π L :: R) g w) :
    HS (TX t2 e2 π (L.take n.toNat) :: slO sv t2 e2 (π x) :: TX t2 e2 π (L.drop (n.toNat + 1)) :: R) g w := by
  obtain ⟨_, he⟩ := he
  have h1 := rd_eq hb
  have hlt : n.toNat < L.length := by omega
  have h2 : L = L.take n.toNat ++ ([rd L n] ++ L.drop (n.toNat + 1)) := by
    have h3 : L[n.toNat] = rd L n := by rw [List.getElem?_eq_getElem hlt] at h1; exact Option.some.inj h1
    rw [← h3]; simp
  rw [h2] at s
  have s1 := TX.unapp s
  have s2 := TX.unapp (s1.perm (.swap _ _ _))
  have s3 := TX.one s2
  rw [he] at s3
  exact s3.perm (by
    refine List.Perm.trans (.cons _ (.swap _ _ _)) ?_
    exact .swap _ _ _)
theorem TX.set {R : List HP} {g : Gw} {w : World} {n : Nat} {y : τ × SV} (hb : n < L.length) (s : HS (TX t2 e2 π (L.take n) :: slO y.2 t2 e2 (π y.1) :: TX t2 e2 π (L.drop (n + 1)) :: R) g w) : HS (TX t2 e2 π (L.set n y) :: R) g w := by
  have h2 : L.set n y = L.take n ++ ([y] ++ L.drop (n + 1)) := by
    rw [List.set_eq_take_append_cons_drop, if_pos hb]; rfl
  rw [h2]
  have s1 : HS (TX t2 e2 π (L.take n) :: TX t2 e2 π [y] :: TX t2 e2 π (L.drop (n + 1)) :: R) g w := (TX.mk1 (s.perm (.swap _ _ _))).perm (.swap _ _ _)
  have s2 : HS (TX t2 e2 π ([y] ++ L.drop (n + 1)) :: TX t2 e2 π (L.take n) :: R) g w := TX.app (s1.perm (by
    refine List.Perm.trans (.swap _ _ _) (.cons _ (.swap _ _ _))))
  exact TX.app (s2.perm (.swap _ _ _))
theorem slE_nil (ty : TypeId) (e : En (τ × SV)) : ∀ h g, slE t2 e2 π SV.nil ty e [] h g := fun h _ => ⟨fun _ => none, fun _ => none, fun _ => .inl rfl, fun _ _ e => (by cases e), fun _ _ e => (by cases e), slO_nil _ _ _ _, trivial⟩
theorem rd_E : Rd (slE t2 e2 π s ty e L) s ty e L := (rd_own s ty e L).ext (ext_l _ _)
section
variable {E : Env} {ro : Option Nat} {N : Nat} {ds : List Deferred} {T : List (Nat × Value)} {H R R' R2 R3 : List HP} {g : Gw} {K : Value → List HP → Prop} {Q : Qt} {lst rest : List Oper}
theorem o_unE (m : Rem (slE t2 e2 π s ty e L) H R) (k : GO E ro N ds T (slO s ty e L :: TX t2 e2 π L :: R) g lst rest Q) : GO E ro N ds T H g lst rest Q := fun a w t hs => k a w t (hs.perm m.perm).unfuse
theorem o_mkE (m1 : Rem (slO s ty e (L ++ L2)) H R) (m2 : Rem (TX t2 e2 π L) R R') (hn : NilE π L2) (k : GO E ro N ds T (slE t2 e2 π s ty e (L ++ L2) :: R') g lst rest Q) : GO E ro N ds T H g lst rest Q := fun a w t hs => by
  have s1 := (hs.perm m1.perm).perm (m2.perm.cons _)
  refine k a w t (HS.fuse ?_)
  refine HS.perm (.swap _ _ _) ?_
  refine TX.app ?_
  exact ((TX.nils (t2 := t2) (e2 := e2) hn s1)).perm (by
    refine List.Perm.trans (.cons _ (.swap _ _ _)) ?_
    exact .swap _ _ _)
theorem o_toE (m1 : Rem (slO s ty e L) H R) (hn : NilE π L) (k : GO E ro N ds T (slE t2 e2 π s ty e L :: R) g lst rest Q) : GO E ro N ds T H g lst rest Q := fun a w t hs =>
  k a w t (HS.fuse ((TX.nils (t2 := t2) (e2 := e2) hn (hs.perm m1.perm)).perm (.swap _ _ _)))
theorem o_open [Inhabited τ] {n : Int} {x : τ} {sv : SV} (m : Rem (slE t2 e2 π s ty e L) H R) (hb : 0 ≤ n ∧ n < L.length) (he : ∃ (_ : Inhabited SV), rd L n = (x, sv))
    (k : GO E ro N ds T (slO s ty e L :: TX t2 e2 π (L.take n.toNat) :: slO sv t2 e2 (π x) :: TX t2 e2 π (L.drop (n.toNat + 1)) :: R) g lst rest Q) : GO E ro N ds T H g lst rest Q := fun a w t hs => by
  have s1 := (hs.perm m.perm).unfuse
  have s2 := TX.at he hb (s1.perm (.swap _ _ _))
  exact k a w t (s2.perm (by
    refine List.Perm.trans (.cons _ (.cons _ (.swap _ _ _))) ?_
    refine List.Perm.trans (.cons _ (.swap _ _ _)) ?_
    exact .swap _ _ _))
theorem o_close {n : Int} {x : τ} {sv : SV} (hb : 0 ≤ n ∧ n < L.length) (m1 : Rem (slO s ty e (L.set n.toNat (x, sv))) H R) (m2 : Rem (TX t2 e2 π (L.take n.toNat)) R R') (m3 : Rem (slO sv t2 e2 (π x)) R' R2) (m4 : Rem (TX t2 e2 π (L.drop (n.toNat + 1))) R2 R3)
    (k : GO E ro N ds T (slE t2 e2 π s ty e (L.set n.toNat (x, sv)) :: R3) g lst rest Q) : GO E ro N ds T H g lst rest Q := fun a w t hs => by
  have s1 := (hs.perm m1.perm).perm ((m2.perm.trans ((m3.perm.trans (m4.perm.cons _)).cons _)).cons _)
  have s2 : HS (TX t2 e2 π (L.take n.toNat) :: slO (x, sv).2 t2 e2 (π (x, sv).1) :: TX t2 e2 π (L.drop (n.toNat + 1)) :: slO s ty e (L.set n.toNat (x, sv)) :: R3) g w := s1.perm (by
    refine List.Perm.trans (.swap _ _ _) (.cons _ ?_)
    refine List.Perm.trans (.swap _ _ _) (.cons _ ?_)
    exact .swap _ _ _)
  exact k a w t (HS.fuse ((TX.set (by omega) s2).perm (.swap _ _ _)))
end
end
/-! ### given to the pool as soon as it is there -/
section
variable {E : Env} {ro : Option Nat} {N : Nat} {ds : List Deferred} {T : List (Nat × Value)} {H R R' : List HP} {g : Gw} {K : Value → List HP → Prop}
def KZ (g : Gw) (K : Value → List HP → Prop) (v : Value) (H : List HP) : Prop := ∀ w, HS H g w → ∃ H2, K v H2 ∧ HS H2 g w
end
/-! ### is it nil? -/
section
variable {E : Env} {ro : Option Nat} {N : Nat} {ds : List Deferred} {T : List (Nat × Value)} {H R : List HP} {g : Gw} {K : Value → List HP → Prop} {Q : Qt} {d : Option Tmp} {ty : TypeId} {pos : String} {af : Array Edge} {gd : Option (Nat × Bool)}
theorem c_nilq {τ : Type} {X : HP} {s : SV} {t : TypeId} {e : En τ} {l : List τ} {c : Code} (m : Rem X H R) (hX : Rd X s t e l) (h1 : s = SV.nil → l = [] → GC E ro N ds T H g c Q) (h2 : s.a.isNone = false → GC E ro N ds T H g c Q) : GC E ro N ds T H g c Q := fun a w t' hs => by
  have r := HS.rdh m hX hs
  cases ha : s.a with
  | none =>
    have h3 := r.nil ha
    refine h1 h3 (List.length_eq_zero_iff.1 ?_) a w t' hs
    rw [← r.len, h3]; rfl
  | some x => exact h2 (by rw [ha]; rfl) a w t' hs
theorem o_eqnil {st t : TypeId} {x : Operand} {i : TI} {s : SV} {yt : TypeId} (hx : ev T x = some s.val) (ht : lk E.tt st = some i) (hi : i.und = .slice t) (k : K (.bool s.a.isNone) H) :
    OPW E ro N ds T H g ⟨d, .binOp .eql st x (.const (.slice none 0 0)) yt, ty, pos, af, gd⟩ K := by
  refine opw_value rfl fun a w t' hs => ⟨_, w, H, ?_, k, hs⟩
  have h1 := run_equal_slice_nil (P := E.P) w st t s.a s.len s.cap (by rw [E.und ht, hi])
  have e1 : a.eval x = .slice s.a s.len s.cap := t'.ev hx
  have e2 : a.eval (.const (.slice none 0 0)) = .slice none 0 0 := rfl
  simp only [execOp, e1, e2, eqGuard, Sem.run_bind]
  simp [binOp, h1, Result.andThen]
end
end Go.Vt
