/- Lemmas. No conditions. -/
import Derived.Test.YtdehoidiaedcoaaGreatVmex
set_option linter.unusedVariables false
set_option linter.unusedSimpArgs false
set_option linter.unusedVariables false
set_option maxRecDepth 100000
set_option maxHeartbeats 4000000
namespace Go.Vt
open Go.Proofs
theorem jz {g : Gw} (X : HP) (p0 : ah) (b0 : Nat) (p1 : ad) (b1 : Nat) (s0 : SV) (p2 : az) (b2 : Nat) (p3 : am) (b3 : Nat) (p4 : aa) (b4 : Nat) (s1 : SV) (r : Bool) (h : dB p0 p1 p2 p3 p4 = some r) : Tri env g 22 (A [(F b0 0), (F b1 0), (F b3 0)]) [X, blk b0 (zb7 p0 b1 b2), blk b1 (zb0 p1 s0), Y s0 p1.cells, pgO b2 p2.number, blk b3 (zb8 p3 b4), blk b4 (zb2 p4 s1), Y s1 p4.L] (fun K R => K (O r) (X :: blk b1 (zb0 p1 s0) :: Y s0 p1.cells :: pgO b2 p2.number :: blk b0 (zb7 p0 b1 b2) :: blk b4 (zb2 p4 s1) :: Y s1 p4.L :: blk b3 (zb8 p3 b4) :: R)) := by
 refine aK (fn := Tryz.f22) (N := 77) Tryz.func22 J J J ?_; intro R K hk; unfold dB at h; change GC _ none _ [] [(0, (F b0 0)), (1, (F b1 0)), (2, (F b3 0))] (X :: blk b0 (zb7 p0 b1 b2) :: blk b1 (zb0 p1 s0) :: Y s0 p1.cells :: pgO b2 p2.number :: blk b3 (zb8 p3 b4) :: blk b4 (zb2 p4 s1) :: Y s1 p4.L :: R) g _ _; refine cr (op J J (oe (av ?_))); refine cr (op J J (op J J ?_)); refine of d_3 J J J J J J ?_; refine ol b3 0 (F b4 0) J J rm5 J J ?_; refine op J J ?_; refine of d_0 J J J J J J ?_; refine ol b4 4 (V s1) J J rm6 J J ?_; refine o1 J (ea (s := s1) J J J rm7 (aR _ _ _ _) ?_); refine op J J (oe ?_); replace h := fJ h; obtain ⟨y1, h, hk1⟩ := h; refine cj (D := Unit) (ι := Unit) (fun d1 i1 => y1 = Sum.inl d1) (fun d1 i1 => [(0, (F b0 0)), (1, (F b1 0)), (2, (F b3 0))]) (fun d1 i1 => X :: blk b0 (zb7 p0 b1 b2) :: blk b1 (zb0 p1 s0) :: blk b3 (zb8 p3 b4) :: pgO b2 p2.number :: blk b4 (zb2 p4 s1) :: Y s0 p1.cells :: Y s1 p4.L :: R) ?_ ?_
 ·refine aL ?_; refine cy (bE (sc J (sc J (sc J (sc J (sc J (sc J sn)))))) (bq (kc rm0 (kc rm6 (kc rm0 (kc rm0 (kc rm2 (kc rm1 (kc rm1 (kc rm0 kr)))))))) (lf (X := Int) (ι := Unit) (fun k x => da p1 p4 k x) _ (fun x2 i2 => True) (fun x2 i2 => [(17, (I x2)), (16, (I (p4.L.length : Int))), (15, (V s1)), (0, (F b0 0)), (1, (F b1 0)), (2, (F b3 0))]) (fun x2 i2 => X :: Y s1 p4.L :: blk b0 (zb7 p0 b1 b2) :: blk b1 (zb0 p1 s0) :: blk b3 (zb8 p3 b4) :: pgO b2 p2.number :: blk b4 (zb2 p4 s1) :: Y s0 p1.cells :: R) (fun _ => J) ?_ bw 0 () trivial h))); clear h; rintro k2 ih2 x2 i2 _ h; rw [da.eq_2] at h; refine bK (cr ?_); refine ov (O (decide (x2 < (p4.L.length : Int)))) J J ?_; refine oe (av ?_); refine aA (b := (decide (x2 < (p4.L.length : Int)))) J (fun hb1770 => ?_) (fun hb1770 => ?_)
  ·replace h := ap hb1770 h; refine aH (aw (av (aL (cr ?_)))); refine op J J ?_; replace h := bt h; obtain ⟨hg1771, h⟩ := h; refine o1 J (em (s := s1) (n := x2) (e := aO) J J J J J J rm1 (aR _ _ _ _) hg1771 ?_); refine o1 J (cM (s := s1) (e := aO) (n := x2) (f := 0) (v := (.agg (A (zl1 ((rd p4.L x2).Char) ((rd p4.L x2).Attr) ((rd p4.L x2).FA) ((rd p4.L x2).High) ((rd p4.L x2).Color) ((rd p4.L x2).f_Set))))) J rm1 (aR _ _ _ _) hg1771 J J ?_); refine o1 J (bO (cs := (zl1 0 false 0 0 0 0)) J J (fun b1772 => ?_)); refine op J J ?_; refine o0 (bv (b := b1772) (off := 0) (vs := (zl1 ((rd p4.L x2).Char) ((rd p4.L x2).Attr) ((rd p4.L x2).FA) ((rd p4.L x2).High) ((rd p4.L x2).Color) ((rd p4.L x2).f_Set))) (cs' := (zl1 ((rd p4.L x2).Char) ((rd p4.L x2).Attr) ((rd p4.L x2).FA) ((rd p4.L x2).High) ((rd p4.L x2).Color) ((rd p4.L x2).f_Set))) J J rp0 J J J J J J ?_); refine oe (av ?_); refine cz (n := 1) (q := [(0, 22, (F b1 0)), (1, 23, (I x2)), (3, 25, (.agg (A (zl1 ((rd p4.L x2).Char) ((rd p4.L x2).Attr) ((rd p4.L x2).FA) ((rd p4.L x2).High) ((rd p4.L x2).Color) ((rd p4.L x2).f_Set)))))]) (pend := [0, 1, 3]) J J J ?_; replace h := aj h; obtain ⟨d6, h6, h⟩ := h; refine ⟨⟨qa J J J J J (o_p J ⟨J, J⟩), qa J J J J J (o_p J ⟨J, J⟩), qa J J J J J (aV (b := b1772) (off := 0) (v := (.agg (A (zl1 ((rd p4.L x2).Char) ((rd p4.L x2).Attr) ((rd p4.L x2).FA) ((rd p4.L x2).High) ((rd p4.L x2).Color) ((rd p4.L x2).f_Set))))) J rm0 J J ⟨J, J⟩), trivial⟩, J, .inr ⟨[2], J, J, ⟨J, .inl J, ?_⟩, trivial⟩⟩; refine (ai gq J (bg X p1 b1 s0 x2 _ h6) (pc rm1 (pc rm3 (pc rm6 pn))) ?_); refine ⟨[(4, 26, (O (!((d6.Char == ((rd p4.L x2).Char)) && ((d6.Attr == ((rd p4.L x2).Attr)) && ((d6.FA == ((rd p4.L x2).FA)) && ((d6.High == ((rd p4.L x2).High)) && ((d6.Color == ((rd p4.L x2).Color)) && ((d6.f_Set == ((rd p4.L x2).f_Set)) && true)))))))))], [3, 4], J, J, J, J, ?_⟩
   refine ⟨⟨fun _ => ⟨rfl, rfl, rfl, .inl ⟨rfl, (o_neT (b := ((d6.Char == ((rd p4.L x2).Char)) && ((d6.Attr == ((rd p4.L x2).Attr)) && ((d6.FA == ((rd p4.L x2).FA)) && ((d6.High == ((rd p4.L x2).High)) && ((d6.Color == ((rd p4.L x2).Color)) && ((d6.f_Set == ((rd p4.L x2).f_Set)) && true))))))) (xs := (zl3 d6)) (ys := (zl1 ((rd p4.L x2).Char) ((rd p4.L x2).Attr) ((rd p4.L x2).FA) ((rd p4.L x2).High) ((rd p4.L x2).Color) ((rd p4.L x2).f_Set))) rfl rfl (by kernel_rfl) stood rfl ⟨rfl, rfl⟩)⟩⟩, nofun, nofun, fun _ => ⟨rfl, rfl, rfl, .inl ⟨rfl, (aV (b := b1772) (off := 0) (v := (.agg (A (zl1 ((rd p4.L x2).Char) ((rd p4.L x2).Attr) ((rd p4.L x2).FA) ((rd p4.L x2).High) ((rd p4.L x2).Color) ((rd p4.L x2).f_Set))))) rfl rm3 rfl rfl ⟨rfl, rfl⟩)⟩⟩, trivial⟩, rfl, rfl, rfl, ?_⟩
   refine aw ?_; refine aA (b := (!((d6.Char == ((rd p4.L x2).Char)) && ((d6.Attr == ((rd p4.L x2).Attr)) && ((d6.FA == ((rd p4.L x2).FA)) && ((d6.High == ((rd p4.L x2).High)) && ((d6.Color == ((rd p4.L x2).Color)) && ((d6.f_Set == ((rd p4.L x2).f_Set)) && true)))))))) J (fun hb1774 => ?_) (fun hb1774 => ?_)
   ·replace h := ap hb1774 h; refine cr (op J J (oe (aG ?_))); refine aJ (ar (ar (aJ (c0 ?_)))); replace h := bM h; obtain ⟨z1, h, rfl⟩ := h; obtain rfl := (hk1 : z1 = _); refine ar (aF ?_); refine ay J J (kc rm0 (kc rm0 (kc rm0 (kc rm4 (kc rm2 (kc rm3 (kc rm1 (kc rm1 (kd kr))))))))) ?_; obtain rfl := si h; exact hk
   ·replace h := aq hb1774 h; refine aH (bN (aw (al ?_))); refine ov (I (w64 (x2 + 1))) J J ?_; refine op J J (aB ?_); exact cx (bE (sc J (sc J (sc J (sc J (sc J (sc J sn)))))) (bq (kc rm0 (kc rm3 (kc rm3 (kc rm0 (kc rm2 (kc rm2 (kc rm2 (kc rm0 (kd kr))))))))) (ih2 (w64 (x2 + 1)) () trivial h)))
  ·replace h := aq hb1770 h; refine b7 (aE (aE (bc ?_))); obtain rfl := si h; exact ej () () J (sc J (sc J (sc J sn))) (kc rm0 (kc rm1 (kc rm1 (kc rm1 (kc rm1 (kc rm1 (kc rm1 (kc rm0 kr))))))))
 ·rintro d1 i1 rfl; replace h := gR hk1; clear hk1; refine aw (av ?_); replace h := aj h; obtain ⟨d8, h, hk8⟩ := h; refine cj (D := Unit) (ι := Unit) (fun _ i8 => True) (fun _ i8 => [(6, (O d8))]) (fun _ i8 => X :: blk b1 (zb0 p1 s0) :: pgO b2 p2.number :: blk b0 (zb7 p0 b1 b2) :: blk b4 (zb2 p4 s1) :: blk b3 (zb8 p3 b4) :: Y s0 p1.cells :: Y s1 p4.L :: R) ?_ ?_
  ·refine cz (n := 5) (q := [(0, 28, (F b1 0)), (2, 30, (F b3 0)), (3, 31, (F b3 0)), (4, 32, (F b3 0)), (5, 33, (F b4 0)), (6, 34, (F b4 0)), (7, 35, (F b4 5)), (8, 36, (I p4.Cursor))]) (pend := [0, 2, 3, 4, 5, 6, 7, 8]) J J J ?_; replace h := aj h; obtain ⟨d9, h9, h⟩ := h; refine ⟨⟨qa J J J J J (o_p J ⟨J, J⟩), qa J J J J J (o_p J ⟨J, J⟩), qa J J J J J (o_p J ⟨J, J⟩), qa J J J J J (bf (fd := d_3) J J J J J ⟨J, J⟩), qa J J J J J (aV (b := b3) (off := 0) (v := (F b4 0)) J rm3 J J ⟨J, J⟩), qa J J J J J (o_p J ⟨J, J⟩), qa J J J J J (bf (fd := d_4) J J J J J ⟨J, J⟩), qa J J J J J (aV (b := b4) (off := 5) (v := (I p4.Cursor)) J rm5 J J ⟨J, J⟩), trivial⟩, J, .inr ⟨[1], J, J, ⟨J, .inl J, ?_⟩, trivial⟩⟩; refine (ai mf J (bZ X p1 b1 s0 _ h9) (pc rm0 (pc rm1 (pc rm4 pn))) ?_); rcases aU ((d9 == p4.Cursor)) with hb1775 | hb1775
   ·replace h := ap hb1775 h; refine ⟨[(9, 37, (O (d9 == p4.Cursor))), (10, 38, (O (d9 == p4.Cursor))), (11, 39, (F b1 0)), (13, 41, (F b3 0)), (14, 42, (F b3 0)), (15, 43, (F b3 0)), (16, 44, (F b4 0)), (17, 45, (F b4 0)), (18, 46, (F b4 1)), (19, 47, (O p4.Alt))], [2, 3, 4, 5, 6, 7, 8, 9, 10, 11, 13, 14, 15, 16, 17, 18, 19], J, J, J, J, ?_⟩; replace h := aj h; obtain ⟨d10, h10, h⟩ := h; refine ⟨⟨qa J J J J J (o_p (v := (O (d9 == p4.Cursor))) J ⟨J, J⟩), qa J J J J J (o_p J ⟨J, J⟩), qb J J J J J J J hb1775 (o_p J ⟨J, J⟩), qb J J J J J J J hb1775 (o_p J ⟨J, J⟩), qb J J J J J J J hb1775 (o_p J ⟨J, J⟩), qb J J J J J J J hb1775 (bf (fd := d_3) J J J J J ⟨J, J⟩), qb J J J J J J J hb1775 (aV (b := b3) (off := 0) (v := (F b4 0)) J rm4 J J ⟨J, J⟩), qb J J J J J J J hb1775 (o_p J ⟨J, J⟩), qb J J J J J J J hb1775 (bf (fd := tP) J J J J J ⟨J, J⟩), qb J J J J J J J hb1775 (aV (b := b4) (off := 1) (v := (O p4.Alt)) J rm6 J J ⟨J, J⟩), nofun, qa J J J J J (o_p J ⟨J, J⟩), qa J J J J J (o_p J ⟨J, J⟩), qa J J J J J (bf (fd := d_3) J J J J J ⟨J, J⟩), qa J J J J J (aV (b := b3) (off := 0) (v := (F b4 0)) J rm4 J J ⟨J, J⟩), qa J J J J J (o_p J ⟨J, J⟩), qa J J J J J (bf (fd := d_4) J J J J J ⟨J, J⟩), qa J J J J J (aV (b := b4) (off := 5) (v := (I p4.Cursor)) J rm6 J J ⟨J, J⟩), trivial⟩, J, .inr ⟨[12], J, J, ⟨J, .inr ⟨_, _, _, _, J, J, J, hb1775⟩, ?_⟩, trivial⟩⟩; refine (ai has28 J (ks X p1 b1 s0 _ h10) (pc rm0 (pc rm0 (pc rm0 pn))) ?_); rcases aU ((d10 == p4.Alt)) with hb1776 | hb1776
    ·replace h := ap hb1776 h; refine ⟨[(20, 48, (O (d10 == p4.Alt))), (21, 49, (O (d10 == p4.Alt))), (22, 50, (O (d10 == p4.Alt))), (23, 51, (F b0 0)), (25, 53, (F b3 0)), (26, 54, (F b3 0)), (27, 55, (F b3 2)), (28, 56, (I p3.Lock))], [2, 3, 4, 13, 14, 15, 16, 17, 18, 19, 20, 21, 22, 23, 25, 26, 27, 28], J, J, J, J, ?_⟩; replace h := aj h; obtain ⟨d11, h11, h⟩ := h; refine ⟨⟨qb J J J J J J J hb1775 (o_p (v := (O (d10 == p4.Alt))) J ⟨J, J⟩), qa J J J J J (aI J hb1775 J ⟨J, J⟩), qa J J J J J (o_p J ⟨J, J⟩), qb J J J J J J J hb1776 (o_p J ⟨J, J⟩), qb J J J J J J J hb1776 (o_p J ⟨J, J⟩), qb J J J J J J J hb1776 (o_p J ⟨J, J⟩), qb J J J J J J J hb1776 (bf (fd := nI) J J J J J ⟨J, J⟩), qb J J J J J J J hb1776 (aV (b := b3) (off := 2) (v := (I p3.Lock)) J rm4 J J ⟨J, J⟩), nofun, nofun, nofun, qb J J J J J J J hb1775 (o_p J ⟨J, J⟩), qb J J J J J J J hb1775 (o_p J ⟨J, J⟩), qb J J J J J J J hb1775 (bf (fd := d_3) J J J J J ⟨J, J⟩), qb J J J J J J J hb1775 (aV (b := b3) (off := 0) (v := (F b4 0)) J rm4 J J ⟨J, J⟩), qb J J J J J J J hb1775 (o_p J ⟨J, J⟩), qb J J J J J J J hb1775 (bf (fd := tP) J J J J J ⟨J, J⟩), qb J J J J J J J hb1775 (aV (b := b4) (off := 1) (v := (O p4.Alt)) J rm6 J J ⟨J, J⟩), nofun, qa J J J J J (o_p J ⟨J, J⟩), qa J J J J J (o_p J ⟨J, J⟩), qa J J J J J (bf (fd := d_3) J J J J J ⟨J, J⟩), nofun, nofun, nofun, nofun, trivial⟩, J, .inr ⟨[24], J, J, ⟨J, .inr ⟨_, _, _, _, J, J, J, hb1776⟩, ?_⟩, trivial⟩⟩; refine (ai has34 J (iQ X (⟨p0.lock, p0.inserts, p0.aid⟩ : ah) b0 p1 b1 s0 p2 b2 _ h11) (pc rm0 (pc rm2 (pc rm0 (pc rm0 (pc rm1 pn))))) ?_); rcases aU ((d11 == p3.Lock)) with hb1777 | hb1777
     ·replace h := ap hb1777 h; refine ⟨[(29, 57, (O (d11 == p3.Lock))), (30, 58, (O (d11 == p3.Lock))), (31, 59, (O (d11 == p3.Lock))), (32, 60, (F b0 0)), (34, 62, (F b3 0)), (35, 63, (F b3 0)), (36, 64, (F b3 3)), (37, 65, (O p3.Ins))], [2, 3, 4, 13, 14, 15, 16, 17, 25, 26, 27, 28, 29, 30, 31, 32, 34, 35, 36, 37], J, J, J, J, ?_⟩; replace h := aj h; obtain ⟨d12, h12, h⟩ := h; refine ⟨⟨qb J J J J J J J hb1776 (o_p (v := (O (d11 == p3.Lock))) J ⟨J, J⟩), qa J J J J J (aI J hb1776 J ⟨J, J⟩), qa J J J J J (o_p J ⟨J, J⟩), qb J J J J J J J hb1777 (o_p J ⟨J, J⟩), qb J J J J J J J hb1777 (o_p J ⟨J, J⟩), qb J J J J J J J hb1777 (o_p J ⟨J, J⟩), qb J J J J J J J hb1777 (bf (fd := pf) J J J J J ⟨J, J⟩), qb J J J J J J J hb1777 (aV (b := b3) (off := 3) (v := (O p3.Ins)) J rm5 J J ⟨J, J⟩), nofun, nofun, nofun, nofun, qb J J J J J J J hb1776 (o_p J ⟨J, J⟩), qb J J J J J J J hb1776 (o_p J ⟨J, J⟩), qb J J J J J J J hb1776 (bf (fd := nI) J J J J J ⟨J, J⟩), qb J J J J J J J hb1776 (aV (b := b3) (off := 2) (v := (I p3.Lock)) J rm5 J J ⟨J, J⟩), nofun, nofun, nofun, qb J J J J J J J hb1775 (o_p J ⟨J, J⟩), qb J J J J J J J hb1775 (o_p J ⟨J, J⟩), qb J J J J J J J hb1775 (bf (fd := d_3) J J J J J ⟨J, J⟩), qb J J J J J J J hb1775 (aV (b := b3) (off := 0) (v := (F b4 0)) J rm5 J J ⟨J, J⟩), qb J J J J J J J hb1775 (o_p J ⟨J, J⟩), nofun, nofun, nofun, qa J J J J J (o_p J ⟨J, J⟩), qa J J J J J (o_p J ⟨J, J⟩), qa J J J J J (bf (fd := d_3) J J J J J ⟨J, J⟩), nofun, nofun, nofun, nofun, trivial⟩, J, .inr ⟨[33], J, J, ⟨J, .inr ⟨_, _, _, _, J, J, J, hb1777⟩, ?_⟩, trivial⟩⟩; refine (ai has35 J (jt X p0 b0 p1 b1 s0 p2 b2 _ h12) (pc rm0 (pc rm3 (pc rm0 (pc rm0 (pc rm0 pn))))) ?_); rcases aU ((d12 == p3.Ins)) with hb1778 | hb1778
      ·replace h := ap hb1778 h; refine ⟨[(38, 66, (O (d12 == p3.Ins))), (39, 67, (O (d12 == p3.Ins))), (40, 68, (O (d12 == p3.Ins))), (41, 69, (F b0 0)), (43, 71, (F b3 0)), (44, 72, (F b3 0)), (45, 73, (F b3 4)), (46, 74, (U p3.AID))], [2, 3, 4, 13, 14, 15, 16, 17, 25, 26, 34, 35, 36, 37, 38, 39, 40, 41, 43, 44, 45, 46], J, J, J, J, ?_⟩; replace h := aj h; obtain ⟨d13, h13, h⟩ := h; refine ⟨⟨qb J J J J J J J hb1777 (o_p (v := (O (d12 == p3.Ins))) J ⟨J, J⟩), qa J J J J J (aI J hb1777 J ⟨J, J⟩), qa J J J J J (o_p J ⟨J, J⟩), qb J J J J J J J hb1778 (o_p J ⟨J, J⟩), qb J J J J J J J hb1778 (o_p J ⟨J, J⟩), qb J J J J J J J hb1778 (o_p J ⟨J, J⟩), qb J J J J J J J hb1778 (bf (fd := r9) J J J J J ⟨J, J⟩), qb J J J J J J J hb1778 (aV (b := b3) (off := 4) (v := (U p3.AID)) J rm5 J J ⟨J, J⟩), nofun, nofun, nofun, nofun, qb J J J J J J J hb1777 (o_p J ⟨J, J⟩), qb J J J J J J J hb1777 (o_p J ⟨J, J⟩), qb J J J J J J J hb1777 (bf (fd := pf) J J J J J ⟨J, J⟩), qb J J J J J J J hb1777 (aV (b := b3) (off := 3) (v := (O p3.Ins)) J rm5 J J ⟨J, J⟩), nofun, nofun, nofun, nofun, qb J J J J J J J hb1776 (o_p J ⟨J, J⟩), qb J J J J J J J hb1776 (o_p J ⟨J, J⟩), nofun, nofun, nofun, nofun, nofun, qb J J J J J J J hb1775 (o_p J ⟨J, J⟩), qb J J J J J J J hb1775 (o_p J ⟨J, J⟩), qb J J J J J J J hb1775 (bf (fd := d_3) J J J J J ⟨J, J⟩), qb J J J J J J J hb1775 (aV (b := b3) (off := 0) (v := (F b4 0)) J rm5 J J ⟨J, J⟩), qb J J J J J J J hb1775 (o_p J ⟨J, J⟩), nofun, nofun, nofun, qa J J J J J (o_p J ⟨J, J⟩), qa J J J J J (o_p J ⟨J, J⟩), qa J J J J J (bf (fd := d_3) J J J J J ⟨J, J⟩), nofun, nofun, nofun, nofun, trivial⟩, J, .inr ⟨[42], J, J, ⟨J, .inr ⟨_, _, _, _, J, J, J, hb1778⟩, ?_⟩, trivial⟩⟩; refine (ai has25 J (ja X p0 b0 p1 b1 s0 p2 b2 _ h13) (pc rm0 (pc rm3 (pc rm0 (pc rm0 (pc rm0 pn))))) ?_); refine ⟨[(47, 75, (O (d13 == p3.AID))), (48, 76, (O (d13 == p3.AID))), (49, 6, (O (d13 == p3.AID)))], [2, 3, 4, 13, 14, 15, 16, 17, 25, 26, 34, 35, 43, 44, 45, 46, 47, 48, 49], J, J, J, J, ?_⟩; refine ⟨⟨qb J J J J J J J hb1778 (o_p (v := (O (d13 == p3.AID))) J ⟨J, J⟩), qa J J J J J (aI J hb1778 J ⟨J, J⟩), qa J J J J J (o_p J ⟨J, J⟩), nofun, nofun, nofun, nofun, qb J J J J J J J hb1778 (o_p J ⟨J, J⟩), qb J J J J J J J hb1778 (o_p J ⟨J, J⟩), qb J J J J J J J hb1778 (bf (fd := r9) J J J J J ⟨J, J⟩), qb J J J J J J J hb1778 (aV (b := b3) (off := 4) (v := (U p3.AID)) J rm5 J J ⟨J, J⟩), nofun, nofun, nofun, nofun, qb J J J J J J J hb1777 (o_p J ⟨J, J⟩), qb J J J J J J J hb1777 (o_p J ⟨J, J⟩), nofun, nofun, nofun, nofun, nofun, nofun, qb J J J J J J J hb1776 (o_p J ⟨J, J⟩), qb J J J J J J J hb1776 (o_p J ⟨J, J⟩), nofun, nofun, nofun, nofun, nofun, qb J J J J J J J hb1775 (o_p J ⟨J, J⟩), qb J J J J J J J hb1775 (o_p J ⟨J, J⟩), qb J J J J J J J hb1775 (bf (fd := d_3) J J J J J ⟨J, J⟩), qb J J J J J J J hb1775 (aV (b := b3) (off := 0) (v := (F b4 0)) J rm5 J J ⟨J, J⟩), qb J J J J J J J hb1775 (o_p J ⟨J, J⟩), nofun, nofun, nofun, qa J J J J J (o_p J ⟨J, J⟩), qa J J J J J (o_p J ⟨J, J⟩), qa J J J J J (bf (fd := d_3) J J J J J ⟨J, J⟩), nofun, nofun, nofun, nofun, trivial⟩, J, J, J, ?_⟩; obtain rfl := si h; exact ej () () trivial (sc J sn) (kc rm0 (kc rm0 (kc rm1 (kc rm1 (kc rm2 (kc rm1 (kc rm0 (kc rm0 kr))))))))
      ·replace h := aq hb1778 h; refine ⟨[(38, 66, (O (d12 == p3.Ins))), (39, 67, (O (d12 == p3.Ins))), (40, 68, (O (d12 == p3.Ins))), (41, 69, undef), (42, 70, undef), (43, 71, undef), (44, 72, undef), (45, 73, undef), (46, 74, undef), (47, 75, undef), (48, 76, (O false)), (49, 6, (O false))], [2, 3, 4, 13, 14, 15, 16, 17, 25, 26, 34, 35, 36, 37, 38, 39, 40, 41, 42, 43, 44, 45, 46, 47, 48, 49], J, J, J, J, ?_⟩; refine ⟨⟨qb J J J J J J J hb1777 (o_p (v := (O (d12 == p3.Ins))) J ⟨J, J⟩), qa J J J J J (aI J hb1777 J ⟨J, J⟩), qa J J J J J (o_p J ⟨J, J⟩), qc J J J J J J J hb1778 J, qc J J J J J J J hb1778 J, qc J J J J J J J hb1778 J, qc J J J J J J J hb1778 J, qc J J J J J J J hb1778 J, qc J J J J J J J hb1778 J, qc J J J J J J J hb1778 J, qa J J J J J (aC J hb1778 J ⟨J, J⟩), qa J J J J J (o_p J ⟨J, J⟩), nofun, nofun, nofun, nofun, qb J J J J J J J hb1777 (o_p J ⟨J, J⟩), qb J J J J J J J hb1777 (o_p J ⟨J, J⟩), qb J J J J J J J hb1777 (bf (fd := pf) J J J J J ⟨J, J⟩), qb J J J J J J J hb1777 (aV (b := b3) (off := 3) (v := (O p3.Ins)) J rm5 J J ⟨J, J⟩), nofun, nofun, nofun, nofun, qb J J J J J J J hb1776 (o_p J ⟨J, J⟩), qb J J J J J J J hb1776 (o_p J ⟨J, J⟩), nofun, nofun, nofun, nofun, nofun, qb J J J J J J J hb1775 (o_p J ⟨J, J⟩), qb J J J J J J J hb1775 (o_p J ⟨J, J⟩), qb J J J J J J J hb1775 (bf (fd := d_3) J J J J J ⟨J, J⟩), qb J J J J J J J hb1775 (aV (b := b3) (off := 0) (v := (F b4 0)) J rm5 J J ⟨J, J⟩), qb J J J J J J J hb1775 (o_p J ⟨J, J⟩), nofun, nofun, nofun, qa J J J J J (o_p J ⟨J, J⟩), qa J J J J J (o_p J ⟨J, J⟩), qa J J J J J (bf (fd := d_3) J J J J J ⟨J, J⟩), nofun, nofun, nofun, nofun, trivial⟩, J, .inl ⟨J, J, ?_⟩⟩; obtain rfl := si h; exact ej () () trivial (sc J sn) (kc rm0 (kc rm0 (kc rm1 (kc rm1 (kc rm2 (kc rm1 (kc rm0 (kc rm0 kr))))))))
     ·replace h := aq hb1777 h; refine ⟨[(29, 57, (O (d11 == p3.Lock))), (30, 58, (O (d11 == p3.Lock))), (31, 59, (O (d11 == p3.Lock))), (32, 60, undef), (33, 61, undef), (34, 62, undef), (35, 63, undef), (36, 64, undef), (37, 65, undef), (38, 66, undef), (39, 67, (O false)), (40, 68, (O false)), (41, 69, undef), (42, 70, undef), (43, 71, undef), (44, 72, undef), (45, 73, undef), (46, 74, undef), (47, 75, undef), (48, 76, (O false)), (49, 6, (O false))], [2, 3, 4, 13, 14, 15, 16, 17, 25, 26, 27, 28, 29, 30, 31, 32, 33, 34, 35, 36, 37, 38, 39, 40, 41, 42, 43, 44, 45, 46, 47, 48, 49], J, J, J, J, ?_⟩; refine ⟨⟨qb J J J J J J J hb1776 (o_p (v := (O (d11 == p3.Lock))) J ⟨J, J⟩), qa J J J J J (aI J hb1776 J ⟨J, J⟩), qa J J J J J (o_p J ⟨J, J⟩), qc J J J J J J J hb1777 J, qc J J J J J J J hb1777 J, qc J J J J J J J hb1777 J, qc J J J J J J J hb1777 J, qc J J J J J J J hb1777 J, qc J J J J J J J hb1777 J, qc J J J J J J J hb1777 J, qa J J J J J (aC J hb1777 J ⟨J, J⟩), qa J J J J J (o_p J ⟨J, J⟩), fun _ => ⟨J, J, J, .inr ⟨_, _, _, _, J, J, J, .inr ⟨J, J⟩⟩⟩, fun _ => ⟨J, J, J, .inr ⟨_, _, _, _, J, J, J, .inr ⟨J, J⟩⟩⟩, fun _ => ⟨J, J, J, .inr ⟨_, _, _, _, J, J, J, .inr ⟨J, J⟩⟩⟩, fun _ => ⟨J, J, J, .inr ⟨_, _, _, _, J, J, J, .inr ⟨J, J⟩⟩⟩, fun _ => ⟨J, J, J, .inr ⟨_, _, _, _, J, J, J, .inr ⟨J, J⟩⟩⟩, fun _ => ⟨J, J, J, .inr ⟨_, _, _, _, J, J, J, .inr ⟨J, J⟩⟩⟩, fun _ => ⟨J, J, J, .inr ⟨_, _, _, _, J, J, J, .inr ⟨J, J⟩⟩⟩, qa J J J J J (aC J J J ⟨J, J⟩), qa J J J J J (o_p J ⟨J, J⟩), nofun, nofun, nofun, nofun, qb J J J J J J J hb1776 (o_p J ⟨J, J⟩), qb J J J J J J J hb1776 (o_p J ⟨J, J⟩), qb J J J J J J J hb1776 (bf (fd := nI) J J J J J ⟨J, J⟩), qb J J J J J J J hb1776 (aV (b := b3) (off := 2) (v := (I p3.Lock)) J rm5 J J ⟨J, J⟩), nofun, nofun, nofun, qb J J J J J J J hb1775 (o_p J ⟨J, J⟩), qb J J J J J J J hb1775 (o_p J ⟨J, J⟩), qb J J J J J J J hb1775 (bf (fd := d_3) J J J J J ⟨J, J⟩), qb J J J J J J J hb1775 (aV (b := b3) (off := 0) (v := (F b4 0)) J rm5 J J ⟨J, J⟩), qb J J J J J J J hb1775 (o_p J ⟨J, J⟩), nofun, nofun, nofun, qa J J J J J (o_p J ⟨J, J⟩), qa J J J J J (o_p J ⟨J, J⟩), qa J J J J J (bf (fd := d_3) J J J J J ⟨J, J⟩), nofun, nofun, nofun, nofun, trivial⟩, J, .inl ⟨J, J, ?_⟩⟩; obtain rfl := si h; exact ej () () trivial (sc J sn) (kc rm0 (kc rm0 (kc rm1 (kc rm1 (kc rm2 (kc rm1 (kc rm0 (kc rm0 kr))))))))
    ·replace h := aq hb1776 h; refine ⟨[(20, 48, (O (d10 == p4.Alt))), (21, 49, (O (d10 == p4.Alt))), (22, 50, (O (d10 == p4.Alt))), (23, 51, undef), (24, 52, undef), (25, 53, undef), (26, 54, undef), (27, 55, undef), (28, 56, undef), (29, 57, undef), (30, 58, (O false)), (31, 59, (O false)), (32, 60, undef), (33, 61, undef), (34, 62, undef), (35, 63, undef), (36, 64, undef), (37, 65, undef), (38, 66, undef), (39, 67, (O false)), (40, 68, (O false)), (41, 69, undef), (42, 70, undef), (43, 71, undef), (44, 72, undef), (45, 73, undef), (46, 74, undef), (47, 75, undef), (48, 76, (O false)), (49, 6, (O false))], [2, 3, 4, 13, 14, 15, 16, 17, 18, 19, 20, 21, 22, 23, 24, 25, 26, 27, 28, 29, 30, 31, 32, 33, 34, 35, 36, 37, 38, 39, 40, 41, 42, 43, 44, 45, 46, 47, 48, 49], J, J, J, J, ?_⟩; refine ⟨⟨qb J J J J J J J hb1775 (o_p (v := (O (d10 == p4.Alt))) J ⟨J, J⟩), qa J J J J J (aI J hb1775 J ⟨J, J⟩), qa J J J J J (o_p J ⟨J, J⟩), qc J J J J J J J hb1776 J, qc J J J J J J J hb1776 J, qc J J J J J J J hb1776 J, qc J J J J J J J hb1776 J, qc J J J J J J J hb1776 J, qc J J J J J J J hb1776 J, qc J J J J J J J hb1776 J, qa J J J J J (aC J hb1776 J ⟨J, J⟩), qa J J J J J (o_p J ⟨J, J⟩), fun _ => ⟨J, J, J, .inr ⟨_, _, _, _, J, J, J, .inr ⟨J, J⟩⟩⟩, fun _ => ⟨J, J, J, .inr ⟨_, _, _, _, J, J, J, .inr ⟨J, J⟩⟩⟩, fun _ => ⟨J, J, J, .inr ⟨_, _, _, _, J, J, J, .inr ⟨J, J⟩⟩⟩, fun _ => ⟨J, J, J, .inr ⟨_, _, _, _, J, J, J, .inr ⟨J, J⟩⟩⟩, fun _ => ⟨J, J, J, .inr ⟨_, _, _, _, J, J, J, .inr ⟨J, J⟩⟩⟩, fun _ => ⟨J, J, J, .inr ⟨_, _, _, _, J, J, J, .inr ⟨J, J⟩⟩⟩, fun _ => ⟨J, J, J, .inr ⟨_, _, _, _, J, J, J, .inr ⟨J, J⟩⟩⟩, qa J J J J J (aC J J J ⟨J, J⟩), qa J J J J J (o_p J ⟨J, J⟩), fun _ => ⟨J, J, J, .inr ⟨_, _, _, _, J, J, J, .inr ⟨J, J⟩⟩⟩, fun _ => ⟨J, J, J, .inr ⟨_, _, _, _, J, J, J, .inr ⟨J, J⟩⟩⟩, fun _ => ⟨J, J, J, .inr ⟨_, _, _, _, J, J, J, .inr ⟨J, J⟩⟩⟩, fun _ => ⟨J, J, J, .inr ⟨_, _, _, _, J, J, J, .inr ⟨J, J⟩⟩⟩, fun _ => ⟨J, J, J, .inr ⟨_, _, _, _, J, J, J, .inr ⟨J, J⟩⟩⟩, fun _ => ⟨J, J, J, .inr ⟨_, _, _, _, J, J, J, .inr ⟨J, J⟩⟩⟩, fun _ => ⟨J, J, J, .inr ⟨_, _, _, _, J, J, J, .inr ⟨J, J⟩⟩⟩, qa J J J J J (aC J J J ⟨J, J⟩), qa J J J J J (o_p J ⟨J, J⟩), nofun, nofun, nofun, qb J J J J J J J hb1775 (o_p J ⟨J, J⟩), qb J J J J J J J hb1775 (o_p J ⟨J, J⟩), qb J J J J J J J hb1775 (bf (fd := d_3) J J J J J ⟨J, J⟩), qb J J J J J J J hb1775 (aV (b := b3) (off := 0) (v := (F b4 0)) J rm4 J J ⟨J, J⟩), qb J J J J J J J hb1775 (o_p J ⟨J, J⟩), qb J J J J J J J hb1775 (bf (fd := tP) J J J J J ⟨J, J⟩), qb J J J J J J J hb1775 (aV (b := b4) (off := 1) (v := (O p4.Alt)) J rm6 J J ⟨J, J⟩), nofun, qa J J J J J (o_p J ⟨J, J⟩), qa J J J J J (o_p J ⟨J, J⟩), qa J J J J J (bf (fd := d_3) J J J J J ⟨J, J⟩), nofun, nofun, nofun, nofun, trivial⟩, J, .inl ⟨J, J, ?_⟩⟩; obtain rfl := si h; exact ej () () trivial (sc J sn) (kc rm0 (kc rm0 (kc rm3 (kc rm1 (kc rm2 (kc rm1 (kc rm0 (kc rm0 kr))))))))
   ·replace h := aq hb1775 h; refine ⟨[(9, 37, (O (d9 == p4.Cursor))), (10, 38, (O (d9 == p4.Cursor))), (11, 39, undef), (12, 40, undef), (13, 41, undef), (14, 42, undef), (15, 43, undef), (16, 44, undef), (17, 45, undef), (18, 46, undef), (19, 47, undef), (20, 48, undef), (21, 49, (O false)), (22, 50, (O false)), (23, 51, undef), (24, 52, undef), (25, 53, undef), (26, 54, undef), (27, 55, undef), (28, 56, undef), (29, 57, undef), (30, 58, (O false)), (31, 59, (O false)), (32, 60, undef), (33, 61, undef), (34, 62, undef), (35, 63, undef), (36, 64, undef), (37, 65, undef), (38, 66, undef), (39, 67, (O false)), (40, 68, (O false)), (41, 69, undef), (42, 70, undef), (43, 71, undef), (44, 72, undef), (45, 73, undef), (46, 74, undef), (47, 75, undef), (48, 76, (O false)), (49, 6, (O false))], [2, 3, 4, 5, 6, 7, 8, 9, 10, 11, 12, 13, 14, 15, 16, 17, 18, 19, 20, 21, 22, 23, 24, 25, 26, 27, 28, 29, 30, 31, 32, 33, 34, 35, 36, 37, 38, 39, 40, 41, 42, 43, 44, 45, 46, 47, 48, 49], J, J, J, J, ?_⟩; refine ⟨⟨qa J J J J J (o_p (v := (O (d9 == p4.Cursor))) J ⟨J, J⟩), qa J J J J J (o_p J ⟨J, J⟩), qc J J J J J J J hb1775 J, qc J J J J J J J hb1775 J, qc J J J J J J J hb1775 J, qc J J J J J J J hb1775 J, qc J J J J J J J hb1775 J, qc J J J J J J J hb1775 J, qc J J J J J J J hb1775 J, qc J J J J J J J hb1775 J, qc J J J J J J J hb1775 J, qc J J J J J J J hb1775 J, qa J J J J J (aC J hb1775 J ⟨J, J⟩), qa J J J J J (o_p J ⟨J, J⟩), fun _ => ⟨J, J, J, .inr ⟨_, _, _, _, J, J, J, .inr ⟨J, J⟩⟩⟩, fun _ => ⟨J, J, J, .inr ⟨_, _, _, _, J, J, J, .inr ⟨J, J⟩⟩⟩, fun _ => ⟨J, J, J, .inr ⟨_, _, _, _, J, J, J, .inr ⟨J, J⟩⟩⟩, fun _ => ⟨J, J, J, .inr ⟨_, _, _, _, J, J, J, .inr ⟨J, J⟩⟩⟩, fun _ => ⟨J, J, J, .inr ⟨_, _, _, _, J, J, J, .inr ⟨J, J⟩⟩⟩, fun _ => ⟨J, J, J, .inr ⟨_, _, _, _, J, J, J, .inr ⟨J, J⟩⟩⟩, fun _ => ⟨J, J, J, .inr ⟨_, _, _, _, J, J, J, .inr ⟨J, J⟩⟩⟩, qa J J J J J (aC J J J ⟨J, J⟩), qa J J J J J (o_p J ⟨J, J⟩), fun _ => ⟨J, J, J, .inr ⟨_, _, _, _, J, J, J, .inr ⟨J, J⟩⟩⟩, fun _ => ⟨J, J, J, .inr ⟨_, _, _, _, J, J, J, .inr ⟨J, J⟩⟩⟩, fun _ => ⟨J, J, J, .inr ⟨_, _, _, _, J, J, J, .inr ⟨J, J⟩⟩⟩, fun _ => ⟨J, J, J, .inr ⟨_, _, _, _, J, J, J, .inr ⟨J, J⟩⟩⟩, fun _ => ⟨J, J, J, .inr ⟨_, _, _, _, J, J, J, .inr ⟨J, J⟩⟩⟩, fun _ => ⟨J, J, J, .inr ⟨_, _, _, _, J, J, J, .inr ⟨J, J⟩⟩⟩, fun _ => ⟨J, J, J, .inr ⟨_, _, _, _, J, J, J, .inr ⟨J, J⟩⟩⟩, qa J J J J J (aC J J J ⟨J, J⟩), qa J J J J J (o_p J ⟨J, J⟩), fun _ => ⟨J, J, J, .inr ⟨_, _, _, _, J, J, J, .inr ⟨J, J⟩⟩⟩, fun _ => ⟨J, J, J, .inr ⟨_, _, _, _, J, J, J, .inr ⟨J, J⟩⟩⟩, fun _ => ⟨J, J, J, .inr ⟨_, _, _, _, J, J, J, .inr ⟨J, J⟩⟩⟩, fun _ => ⟨J, J, J, .inr ⟨_, _, _, _, J, J, J, .inr ⟨J, J⟩⟩⟩, fun _ => ⟨J, J, J, .inr ⟨_, _, _, _, J, J, J, .inr ⟨J, J⟩⟩⟩, fun _ => ⟨J, J, J, .inr ⟨_, _, _, _, J, J, J, .inr ⟨J, J⟩⟩⟩, fun _ => ⟨J, J, J, .inr ⟨_, _, _, _, J, J, J, .inr ⟨J, J⟩⟩⟩, qa J J J J J (aC J J J ⟨J, J⟩), qa J J J J J (o_p J ⟨J, J⟩), nofun, qa J J J J J (o_p J ⟨J, J⟩), qa J J J J J (o_p J ⟨J, J⟩), qa J J J J J (bf (fd := d_3) J J J J J ⟨J, J⟩), qa J J J J J (aV (b := b3) (off := 0) (v := (F b4 0)) J rm4 J J ⟨J, J⟩), qa J J J J J (o_p J ⟨J, J⟩), qa J J J J J (bf (fd := d_4) J J J J J ⟨J, J⟩), qa J J J J J (aV (b := b4) (off := 5) (v := (I p4.Cursor)) J rm6 J J ⟨J, J⟩), trivial⟩, J, .inl ⟨J, J, ?_⟩⟩; obtain rfl := si h; exact ej () () trivial (sc J sn) (kc rm0 (kc rm0 (kc rm3 (kc rm1 (kc rm2 (kc rm1 (kc rm0 (kc rm0 kr))))))))
  ·rintro _ i8 _; replace h := hk8; clear hk8; refine aw (aG (aF ?_)); refine ay J J (kc rm0 (kc rm0 (kc rm4 (kc rm0 (kc rm0 (kc rm0 (kc rm1 (kc rm0 kr)))))))) ?_; obtain rfl := si h; exact hk

theorem pm {g : Gw} (X : HP) (p0 : List ae) (s0 : SV) (r : (List ae)) (h : iG p0 = some r) : Tri env g 68 (A [(V s0)]) [X, Y s0 p0] (fun K R => ∀ (i0 : SV), K (V i0) (X :: Y i0 r :: Y s0 p0 :: R)) := by
 refine aK (fn := Tryz.f68) (N := 8) Tryz.func68 J J J ?_; intro R K hk; unfold iG at h; change GC _ none _ [] [(0, (V s0))] (X :: Y s0 p0 :: R) g _ _; refine cr (op J J (oe (av ?_))); refine cr (op J J ?_); refine o1 J (o_eqnil J J J ?_); refine oe ?_; refine c_nilq rm1 (aR _ _ _ _) (fun h1 h2 => ?_) (fun h1 => ?_)
 ·subst h1; subst h2; refine eW J J ?_; refine cr (op J J (oe (aG ?_))); refine ar (aF ?_); obtain ⟨_, h⟩ := bt h; obtain rfl := si h; refine sJ (Y SV.nil []) (gy _ _ _) ?_; refine ay J J (kc rm1 (kc rm0 (kc rm0 kr))) ?_; exact hk SV.nil
 ·refine b8 J h1 ?_; refine aH (aw (cr ?_)); refine o1 J (ka (e := aO) (l := ([] : List ae)) (zs := (zl1 0 false 0 0 0 0)) J J J J J J J J J J (fun s1821 => ?_)); refine op J J ?_; replace h := bt h; obtain ⟨hg1823, h⟩ := h; refine o1 J (kV (s := s1821) (r := s0) (e := aO) (l := ([] : List ae)) (l2 := p0) (zs := (zl1 0 false 0 0 0 0)) J J J J J J J J J J J rm0 rm1 (aR _ _ _ _) hg1823 (fun s1824 => ?_)); refine op J J (oe (aG (aF ?_))); refine ay J J (kc rm1 (kc rm0 (kc rm0 kr))) ?_; obtain rfl := si h; exact hk s1824

theorem mJ {g : Gw} (X : HP) (p0 : ad) (b0 : Nat) (s0 : SV) (r : ad) (h : ep p0 = some r) : Tri env g 23 (A [(F b0 0)]) [X, blk b0 (zb0 p0 s0), Y s0 p0.cells] (fun K R => ∀ (i0 : Nat × SV), K (F i0.1 0) (X :: blk b0 (zb0 p0 s0) :: Y s0 p0.cells :: blk i0.1 (zb0 r i0.2) :: Y i0.2 r.cells :: R)) := by
 refine aK (fn := Tryz.f23) (N := 15) Tryz.func23 J J J ?_; intro R K hk; unfold ep at h; change GC _ none _ [] [(0, (F b0 0))] (X :: blk b0 (zb0 p0 s0) :: Y s0 p0.cells :: R) g _ _; refine cr (op J J (oe (av ?_))); refine cr (op J J ?_); refine ov (O false) J J ?_; refine oe ?_; refine b8 J J ?_; refine aH (aw (cr (op J J (op J J ?_)))); refine ol b0 0 (.agg (A (zl8 p0 s0))) J J rm1 J J ?_; refine o1 J (bO (cs := (zl0 0 false 0 0 SV.nil 0 0)) J J (fun b1819 => ?_)); refine o0 (bv (b := b1819) (off := 0) (vs := (zl8 p0 s0)) (cs' := (zl8 p0 s0)) J J rp0 J J J J J J ?_); refine oe (cr (op J J (op J J ?_))); refine of pg J J J J J J ?_; refine ol b0 4 (V s0) J J rm2 J J ?_; replace h := aj h; obtain ⟨d1, h1, h⟩ := h; refine o1 J (ai has68 J (pm X p0.cells s0 _ h1) (pc rm1 (pc rm2 pn)) (fun i1 => ?_)); refine of pg J J J J J J ?_; refine o0 (bv (b := b1819) (off := 4) (vs := [(V i1)]) (cs' := (zl8 p0 i1)) J J rp3 J J J J J J ?_); refine oe (cr (op J J (aB ?_))); refine aw (aG (aF ?_)); refine ay J J (kc rm0 (kc rm3 (kc rm1 (kc rm1 (kc rm0 kr))))) ?_; obtain rfl := si h; exact hk (b1819, i1)

theorem lF {g : Gw} (X : HP) (p0 : ah) (b0 : Nat) (p1 : ad) (b1 : Nat) (s0 : SV) (p2 : az) (b2 : Nat) (r : ah) (h : gI p0 p1 p2 = some r) : Tri env g 32 (A [(F b0 0)]) [X, blk b0 (zb7 p0 b1 b2), blk b1 (zb0 p1 s0), Y s0 p1.cells, pgO b2 p2.number] (fun K R => K (.tuple (A [])) (X :: blk b1 (zb0 p1 s0) :: Y s0 p1.cells :: pgO b2 p2.number :: blk b0 (zb7 r b1 b2) :: R)) := by
 refine aK (fn := Tryz.f32) (N := 10) Tryz.func32 J J J ?_; intro R K hk; unfold gI at h; change GC _ none _ [] [(0, (F b0 0))] (X :: blk b0 (zb7 p0 b1 b2) :: blk b1 (zb0 p1 s0) :: Y s0 p1.cells :: pgO b2 p2.number :: R) g _ _; refine cr (op J J ?_); refine ov (O true) J J ?_; refine oe ?_; refine eW J J ?_; refine al (op J J (op J J (op J J ?_))); refine of rr J J J J J J ?_; refine o0 (bv (b := b0) (off := 2) (vs := [(I 0)]) (cs' := [(F b1 0), (F b2 0), (I 0), (O p0.inserts), (U p0.aid)]) J J rp1 J J J J J J ?_); refine op J J ?_; refine of d_34 J J J J J J ?_; refine o0 (bv (b := b0) (off := 4) (vs := [(U 96)]) (cs' := [(F b1 0), (F b2 0), (I 0), (O p0.inserts), (U 96)]) J J rp1 J J J J J J ?_); refine aB (co ?_); refine ay J J (kc rm0 (kc rm1 (kc rm1 (kc rm1 (kc rm0 kr))))) ?_; obtain rfl := si h; exact hk

theorem np {g : Gw} (X : HP) (p0 : ah) (b0 : Nat) (p1 : ad) (b1 : Nat) (s0 : SV) (p2 : az) (b2 : Nat) (r : ah) (h : iH p0 p1 p2 = some r) : Tri env g 33 (A [(F b0 0)]) [X, blk b0 (zb7 p0 b1 b2), blk b1 (zb0 p1 s0), Y s0 p1.cells, pgO b2 p2.number] (fun K R => K (.tuple (A [])) (X :: blk b1 (zb0 p1 s0) :: Y s0 p1.cells :: pgO b2 p2.number :: blk b0 (zb7 r b1 b2) :: R)) := by
 refine aK (fn := Tryz.f33) (N := 7) Tryz.func33 J J J ?_; intro R K hk; unfold iH at h; change GC _ none _ [] [(0, (F b0 0))] (X :: blk b0 (zb7 p0 b1 b2) :: blk b1 (zb0 p1 s0) :: Y s0 p1.cells :: pgO b2 p2.number :: R) g _ _; refine cr (op J J ?_); refine ov (O true) J J ?_; refine oe ?_; refine eW J J ?_; refine al (op J J (op J J ?_)); refine of rr J J J J J J ?_; refine o0 (bv (b := b0) (off := 2) (vs := [(I 1)]) (cs' := [(F b1 0), (F b2 0), (I 1), (O p0.inserts), (U p0.aid)]) J J rp1 J J J J J J ?_); refine aB (co ?_); refine ay J J (kc rm0 (kc rm1 (kc rm1 (kc rm1 (kc rm0 kr))))) ?_; obtain rfl := si h; exact hk

theorem nr {g : Gw} (X : HP) (p0 : ah) (b0 : Nat) (p1 : ad) (b1 : Nat) (s0 : SV) (p2 : az) (b2 : Nat) (p3 : ad) (b3 : Nat) (s1 : SV) (r : ah) (h : gD p0 p1 p2 p3 = some r) : Tri env g 36 (A [(F b0 0), (F b3 0)]) [X, blk b0 (zb7 p0 b1 b2), blk b1 (zb0 p1 s0), Y s0 p1.cells, pgO b2 p2.number, blk b3 (zb0 p3 s1), Y s1 p3.cells] (fun K R => ∀ (i0 : Nat), K (F i0 0) (X :: blk b1 (zb0 p1 s0) :: Y s0 p1.cells :: pgO b2 p2.number :: blk b0 (zb7 p0 b1 b2) :: blk b3 (zb0 p3 s1) :: Y s1 p3.cells :: blk i0 (zb7 r b3 b2) :: R)) := by
 refine aK (fn := Tryz.f36) (N := 17) Tryz.func36 J J J ?_; intro R K hk; unfold gD at h; change GC _ none _ [] [(0, (F b0 0)), (1, (F b3 0))] (X :: blk b0 (zb7 p0 b1 b2) :: blk b1 (zb0 p1 s0) :: Y s0 p1.cells :: pgO b2 p2.number :: blk b3 (zb0 p3 s1) :: Y s1 p3.cells :: R) g _ _; refine cr (op J J (oe (av ?_))); refine cr (op J J ?_); refine ov (O false) J J ?_; refine op J J ?_; refine oy J J J J (o_p J ?_); refine oy J J J J (o_p (v := (O false)) J ?_); refine o1 J (aC J J J ?_); refine oe ?_; refine b8 J J ?_; refine aH (aw (cr (op J J (op J J ?_)))); refine ol b0 0 (.agg (A [(F b1 0), (F b2 0), (I p0.lock), (O p0.inserts), (U p0.aid)])) J J rm1 J J ?_; refine o1 J (bO (cs := [(.pointer none), (.pointer none), (I 0), (O false), (U 0)]) J J (fun b1982 => ?_)); refine o0 (bv (b := b1982) (off := 0) (vs := [(F b1 0), (F b2 0), (I p0.lock), (O p0.inserts), (U p0.aid)]) (cs' := [(F b1 0), (F b2 0), (I p0.lock), (O p0.inserts), (U p0.aid)]) J J rp0 J J J J J J ?_); refine oe (cr (op J J ?_)); refine of d_2 J J J J J J ?_; refine o0 (bv (b := b1982) (off := 0) (vs := [(F b3 0)]) (cs' := [(F b3 0), (F b2 0), (I p0.lock), (O p0.inserts), (U p0.aid)]) J J rp0 J J J J J J ?_); refine oe (cr (op J J (aB ?_))); refine aw (aG (aF ?_)); refine ay J J (kc rm1 (kc rm2 (kc rm2 (kc rm2 (kc rm1 (kc rm1 (kc rm1 (kc rm0 kr)))))))) ?_; obtain rfl := si h; exact hk b1982

theorem mc {g : Gw} (X : HP) (p0 : ah) (b0 : Nat) (p1 : ad) (b1 : Nat) (s0 : SV) (p2 : az) (b2 : Nat) (r : Unit) (h : fR p0 p1 p2 = some r) : Tri env g 36 (A [(F b0 0), (.pointer none)]) [X, blk b0 (zb7 p0 b1 b2), blk b1 (zb0 p1 s0), Y s0 p1.cells, pgO b2 p2.number] (fun K R => K (.pointer none) (X :: blk b1 (zb0 p1 s0) :: Y s0 p1.cells :: pgO b2 p2.number :: blk b0 (zb7 p0 b1 b2) :: R)) := by
 refine aK (fn := Tryz.f36) (N := 17) Tryz.func36 J J J ?_; intro R K hk; unfold fR at h; change GC _ none _ [] [(0, (F b0 0)), (1, (.pointer none))] (X :: blk b0 (zb7 p0 b1 b2) :: blk b1 (zb0 p1 s0) :: Y s0 p1.cells :: pgO b2 p2.number :: R) g _ _; refine cr (op J J (oe (av ?_))); refine cr (op J J ?_); refine ov (O false) J J ?_; refine op J J ?_; refine oy J J J J (o_p J ?_); refine oy J J J J (o_p (v := (O true)) J ?_); refine o1 J (aC J J J ?_); refine oe ?_; refine eW J J ?_; refine cr (op J J (oe (aG ?_))); refine ar (aF ?_); refine ay J J (kc rm0 (kc rm1 (kc rm1 (kc rm1 (kc rm0 kr))))) ?_; obtain rfl := si h; exact hk

theorem ko {g : Gw} (X : HP) (p0 : Int) (p1 : Int) (p2 : List aM) (s0 : SV) (q0r : RdN X s0 28 bY cf p2) (p3 : List bh) (s1 : SV) (q1 : Rd X s1 46 bX p3) (r : Bool) (h : dJ p0 p1 p2 p3 = some r) : Tri env g 7 (A (zl9 p0 p1 s0 s1)) [X] (fun K R => ∀ (i0 : HP), (Ext X i0) → K (O r) (i0 :: R)) := by
 refine aK (fn := Tryz.f7) (N := 146) Tryz.func7 J J J ?_; intro R K hk; obtain ⟨L_q0, q0, n_q0⟩ := q0r; unfold dJ at h; change GC _ none _ [] [(0, (U p0)), (1, (U p1)), (2, (V s0)), (3, (V s1))] (X :: R) g _ _; refine cr (op J J (oe (av ?_))); refine cr ?_; replace h := aj h; obtain ⟨d1, h1, h⟩ := h; refine o1 J (ai has9 J (lB X _ h1) (pc rm0 pn) (fun i1 f1_0 => ?_)); refine ov (O (!d1)) J J ?_; refine oe ?_; refine aA (b := (!d1)) J (fun hb1914 => ?_) (fun hb1914 => ?_)
 ·replace h := ap hb1914 h; refine cr (op J J (oe (aG ?_))); refine ar (aF ?_); refine ay J J (kc rm0 kr) ?_; obtain rfl := si h; exact hk i1 f1_0
 ·replace h := aq hb1914 h; refine aH (aw (cr (op J J (op J J ?_)))); refine op J J ?_; replace h := aj h; obtain ⟨d4, h4, h⟩ := h; refine o1 J (ai has10 J (jR i1 p0 p1 p2 s0 ⟨_, (Rd.ext q0 f1_0), (NL.mono n_q0 (cf.ext f1_0))⟩ _ h4) (pc rm0 pn) (fun i4 => ?_)); refine op J J (op J J (op J J (op J J (op J J (op J J ?_))))); refine op J J (oe (av (cr ?_))); refine op J J ?_; refine o1 J (ea (s := s1) J J J rm0 (Rd.ext q1 f1_0) ?_); refine op J J (oe ?_); replace h := fJ h; obtain ⟨y5, h, hk5⟩ := h; refine cj (D := Int × Int × Bool × Int × Int × Bool × Int × Int × (List ae) × Int × Int × Int × Bool × Int × Int × Bool × Int × Int × (List ae) × Int × Int) (ι := HP × SV × SV) (fun d5 i5 => (y5 = Sum.inl d5) ∧ (Ext X i5.1)) (fun d5 i5 => [(11, (F i4.2.2.2.2.1 0)), (10, (F i4.2.1 0)), (9, (F i4.1 0))]) (fun d5 i5 => i5.1 :: blk i4.2.2.2.2.1 (tr i4.2.2.2.2.2.1 d5.1 d5.2.1 d5.2.2.1 d5.2.2.2.1) :: blk i4.2.1 (zb9 d5.2.2.2.2.1 d5.2.2.2.2.2.1 d5.2.2.2.2.2.2.1 d5.2.2.2.2.2.2.2.1 i5.2.1 d5.2.2.2.2.2.2.2.2.2.1 d5.2.2.2.2.2.2.2.2.2.2.1) :: blk i4.1 (p8 i4.2.1 i4.2.2.2.1 d5.2.2.2.2.2.2.2.2.2.2.2.1 d5.2.2.2.2.2.2.2.2.2.2.2.2.1 d5.2.2.2.2.2.2.2.2.2.2.2.2.2.1) :: blk i4.2.2.2.2.2.1 (zb3 d5.2.2.2.2.2.2.2.2.2.2.2.2.2.2.1 d5.2.2.2.2.2.2.2.2.2.2.2.2.2.2.2.1 d5.2.2.2.2.2.2.2.2.2.2.2.2.2.2.2.2.1 d5.2.2.2.2.2.2.2.2.2.2.2.2.2.2.2.2.2.1 i5.2.2 d5.2.2.2.2.2.2.2.2.2.2.2.2.2.2.2.2.2.2.2.1) :: Y i5.2.1 d5.2.2.2.2.2.2.2.2.1 :: pgO i4.2.2.2.1 d5.2.2.2.2.2.2.2.2.2.2.2.2.2.2.2.2.2.2.2.2 :: Y i5.2.2 d5.2.2.2.2.2.2.2.2.2.2.2.2.2.2.2.2.2.2.1 :: R) ?_ ?_
  ·refine aL ?_; refine cy (bE (sc J (sc J (sc J (sc J (sc J (sc J sn)))))) (bq (kc rm0 (kc rm4 (kc rm1 (kc rm0 (kc rm2 (kc rm0 (kc rm0 (kc rm0 kr)))))))) (lf (X := Int × Int × Int × Bool × Int × Int × Bool × Int × Int × (List ae) × Int × Int × Int × Bool × Int × Int × Bool × Int × Int × (List ae) × Int × Int) (ι := HP × SV × SV) (fun k x => bH p3 k x) _ (fun x6 i6 => (Rd i6.1 s1 46 bX p3) ∧ (Ext X i6.1)) (fun x6 i6 => [(32, (I x6.1)), (31, (I (p3.length : Int))), (30, (V s1)), (11, (F i4.2.2.2.2.1 0)), (10, (F i4.2.1 0)), (9, (F i4.1 0))]) (fun x6 i6 => i6.1 :: blk i4.2.2.2.2.1 (tr i4.2.2.2.2.2.1 x6.2.1 x6.2.2.1 x6.2.2.2.1 x6.2.2.2.2.1) :: blk i4.2.1 (zb9 x6.2.2.2.2.2.1 x6.2.2.2.2.2.2.1 x6.2.2.2.2.2.2.2.1 x6.2.2.2.2.2.2.2.2.1 i6.2.1 x6.2.2.2.2.2.2.2.2.2.2.1 x6.2.2.2.2.2.2.2.2.2.2.2.1) :: blk i4.1 (p8 i4.2.1 i4.2.2.2.1 x6.2.2.2.2.2.2.2.2.2.2.2.2.1 x6.2.2.2.2.2.2.2.2.2.2.2.2.2.1 x6.2.2.2.2.2.2.2.2.2.2.2.2.2.2.1) :: blk i4.2.2.2.2.2.1 (zb3 x6.2.2.2.2.2.2.2.2.2.2.2.2.2.2.2.1 x6.2.2.2.2.2.2.2.2.2.2.2.2.2.2.2.2.1 x6.2.2.2.2.2.2.2.2.2.2.2.2.2.2.2.2.2.1 x6.2.2.2.2.2.2.2.2.2.2.2.2.2.2.2.2.2.2.1 i6.2.2 x6.2.2.2.2.2.2.2.2.2.2.2.2.2.2.2.2.2.2.2.2.1) :: Y i6.2.1 x6.2.2.2.2.2.2.2.2.2.1 :: pgO i4.2.2.2.1 x6.2.2.2.2.2.2.2.2.2.2.2.2.2.2.2.2.2.2.2.2.2 :: Y i6.2.2 x6.2.2.2.2.2.2.2.2.2.2.2.2.2.2.2.2.2.2.2.1 :: R) (fun _ => J) ?_ bw (0, d4.2.2.2.1.Page, d4.2.2.2.1.Lock, d4.2.2.2.1.Ins, d4.2.2.2.1.AID, d4.2.1.model, d4.2.1.alternate, d4.2.1.size.Rows, d4.2.1.size.Cols, d4.2.1.cells, d4.2.1.cursor, d4.2.1.attrs, d4.1.lock, d4.1.inserts, d4.1.aid, d4.2.2.2.2.Model, d4.2.2.2.2.Alt, d4.2.2.2.2.Size.Rows, d4.2.2.2.2.Size.Cols, d4.2.2.2.2.L, d4.2.2.2.2.Cursor, d4.2.2.1.number) (i1, i4.2.2.1, i4.2.2.2.2.2.2) ⟨(Rd.ext q1 f1_0), f1_0⟩ h))); clear h; rintro k6 ih6 x6 i6 ⟨f6_0, f6_1⟩ h; rw [bH.eq_2] at h; refine bK (cr ?_); refine ov (O (decide (x6.1 < (p3.length : Int)))) J J ?_; refine oe (av ?_); refine aA (b := (decide (x6.1 < (p3.length : Int)))) J (fun hb1959 => ?_) (fun hb1959 => ?_)
   ·replace h := ap hb1959 h; refine aH (aw (av ?_)); replace h := fJ h; obtain ⟨y8, h, hk8⟩ := h; refine cj (D := Int × Int × Bool × Int × Int × Bool × Int × Int × (List ae) × Int × Int × Int × Bool × Int × Int × Bool × Int × Int × (List ae) × Int × Int) (ι := HP × SV × SV) (fun d8 i8 => (y8 = Sum.inl d8) ∧ (Rd i8.1 s1 46 bX p3) ∧ (Ext X i8.1)) (fun d8 i8 => [(32, (I x6.1)), (31, (I (p3.length : Int))), (30, (V s1)), (11, (F i4.2.2.2.2.1 0)), (10, (F i4.2.1 0)), (9, (F i4.1 0))]) (fun d8 i8 => i8.1 :: blk i4.2.2.2.2.1 (tr i4.2.2.2.2.2.1 d8.1 d8.2.1 d8.2.2.1 d8.2.2.2.1) :: blk i4.2.1 (zb9 d8.2.2.2.2.1 d8.2.2.2.2.2.1 d8.2.2.2.2.2.2.1 d8.2.2.2.2.2.2.2.1 i8.2.1 d8.2.2.2.2.2.2.2.2.2.1 d8.2.2.2.2.2.2.2.2.2.2.1) :: blk i4.1 (p8 i4.2.1 i4.2.2.2.1 d8.2.2.2.2.2.2.2.2.2.2.2.1 d8.2.2.2.2.2.2.2.2.2.2.2.2.1 d8.2.2.2.2.2.2.2.2.2.2.2.2.2.1) :: blk i4.2.2.2.2.2.1 (zb3 d8.2.2.2.2.2.2.2.2.2.2.2.2.2.2.1 d8.2.2.2.2.2.2.2.2.2.2.2.2.2.2.2.1 d8.2.2.2.2.2.2.2.2.2.2.2.2.2.2.2.2.1 d8.2.2.2.2.2.2.2.2.2.2.2.2.2.2.2.2.2.1 i8.2.2 d8.2.2.2.2.2.2.2.2.2.2.2.2.2.2.2.2.2.2.2.1) :: Y i8.2.1 d8.2.2.2.2.2.2.2.2.1 :: pgO i4.2.2.2.1 d8.2.2.2.2.2.2.2.2.2.2.2.2.2.2.2.2.2.2.2.2 :: Y i8.2.2 d8.2.2.2.2.2.2.2.2.2.2.2.2.2.2.2.2.2.2.1 :: R) ?_ ?_
    ·refine aL (cr (op J J ?_)); replace h := bt h; obtain ⟨hg1960, h⟩ := h; refine o1 J (em (s := s1) (n := x6.1) (e := bX) J J J J J J rm0 f6_0 hg1960 ?_); refine o1 J (cM (s := s1) (e := bX) (n := x6.1) (f := 0) (v := (.agg (A [(I ((rd p3 x6.1).Kind)), (.int .i32 ((rd p3 x6.1).Sign)), (I ((rd p3 x6.1).N))]))) J rm0 f6_0 hg1960 J J ?_); refine o1 J (bO (cs := [(I 0), (.int .i32 0), (I 0)]) J J (fun b1961 => ?_)); refine op J J ?_; refine o0 (bv (b := b1961) (off := 0) (vs := [(I ((rd p3 x6.1).Kind)), (.int .i32 ((rd p3 x6.1).Sign)), (I ((rd p3 x6.1).N))]) (cs' := [(I ((rd p3 x6.1).Kind)), (.int .i32 ((rd p3 x6.1).Sign)), (I ((rd p3 x6.1).N))]) J J rp0 J J J J J J ?_); refine oe (av (cr (op J J ?_))); refine ov (O (decide (x6.1 ≥ 30))) J J ?_; refine oe ?_; refine aA (b := (decide (x6.1 ≥ 30))) J (fun hb1963 => ?_) (fun hb1963 => ?_)
     ·replace h := ap hb1963 h; refine b7 (aE ?_); refine io J ?_; refine ej_exit ?_; replace h := bM h; obtain ⟨z8, h, rfl⟩ := h; obtain rfl := (hk8 : z8 = _); refine aE (aE (bc ?_)); obtain rfl := si h; exact ej (x6.2.1, x6.2.2.1, x6.2.2.2.1, x6.2.2.2.2.1, x6.2.2.2.2.2.1, x6.2.2.2.2.2.2.1, x6.2.2.2.2.2.2.2.1, x6.2.2.2.2.2.2.2.2.1, x6.2.2.2.2.2.2.2.2.2.1, x6.2.2.2.2.2.2.2.2.2.2.1, x6.2.2.2.2.2.2.2.2.2.2.2.1, x6.2.2.2.2.2.2.2.2.2.2.2.2.1, x6.2.2.2.2.2.2.2.2.2.2.2.2.2.1, x6.2.2.2.2.2.2.2.2.2.2.2.2.2.2.1, x6.2.2.2.2.2.2.2.2.2.2.2.2.2.2.2.1, x6.2.2.2.2.2.2.2.2.2.2.2.2.2.2.2.2.1, x6.2.2.2.2.2.2.2.2.2.2.2.2.2.2.2.2.2.1, x6.2.2.2.2.2.2.2.2.2.2.2.2.2.2.2.2.2.2.1, x6.2.2.2.2.2.2.2.2.2.2.2.2.2.2.2.2.2.2.2.1, x6.2.2.2.2.2.2.2.2.2.2.2.2.2.2.2.2.2.2.2.2.1, x6.2.2.2.2.2.2.2.2.2.2.2.2.2.2.2.2.2.2.2.2.2) (i6.1, i6.2.1, i6.2.2) ⟨J, f6_1⟩ (sc J (sc J (sc J sn))) (kc rm1 (kc rm1 (kc rm1 (kc rm1 (kc rm1 (kc rm1 (kc rm1 (kc rm1 (kd kr)))))))))
     ·replace h := aq hb1963 h; refine aH (aw (av (cr ?_))); refine of d_5 J J J J J J ?_; refine ol b1961 0 (I ((rd p3 x6.1).Kind)) J J rm0 J J ?_; refine oe (aL (cr ?_)); refine ov (O (((rd p3 x6.1).Kind) == (-1))) J J ?_; refine op J J (oe ?_); refine aA (b := (((rd p3 x6.1).Kind) == (-1))) J (fun hb1964 => ?_) (fun hb1964 => ?_)
      ·replace h := ap hb1964 h; refine cr (op J J ?_); replace h := aj h; obtain ⟨d12, h12, h⟩ := h; refine o1 J (ai has32 J (lF i6.1 (⟨x6.2.2.2.2.2.2.2.2.2.2.2.2.1, x6.2.2.2.2.2.2.2.2.2.2.2.2.2.1, x6.2.2.2.2.2.2.2.2.2.2.2.2.2.2.1⟩ : ah) i4.1 (⟨x6.2.2.2.2.2.1, x6.2.2.2.2.2.2.1, (⟨x6.2.2.2.2.2.2.2.1, x6.2.2.2.2.2.2.2.2.1⟩ : ak), x6.2.2.2.2.2.2.2.2.2.1, x6.2.2.2.2.2.2.2.2.2.2.1, x6.2.2.2.2.2.2.2.2.2.2.2.1⟩ : ad) i4.2.1 i6.2.1 (⟨x6.2.2.2.2.2.2.2.2.2.2.2.2.2.2.2.2.2.2.2.2.2⟩ : az) i4.2.2.2.1 _ h12) (pc rm1 (pc rm3 (pc rm2 (pc rm3 (pc rm3 pn))))) ?_); refine oe (cr (op J J (op J J ?_))); refine op J J ?_; refine of nI J J J J J J ?_; refine o0 (bv (b := i4.2.2.2.2.1) (off := 2) (vs := [(I 0)]) (cs' := [(F i4.2.2.2.2.2.1 0), (I x6.2.1), (I 0), (O x6.2.2.2.1), (U x6.2.2.2.2.1)]) J J rp6 J J J J J J ?_); refine op J J ?_; refine of r9 J J J J J J ?_; refine o0 (bv (b := i4.2.2.2.2.1) (off := 4) (vs := [(U 96)]) (cs' := [(F i4.2.2.2.2.2.1 0), (I x6.2.1), (I 0), (O x6.2.2.2.1), (U 96)]) J J rp6 J J J J J J ?_); refine oe (b7 ?_); refine io J ?_; refine aE (bc ?_); obtain rfl := si h; exact ej (x6.2.1, 0, x6.2.2.2.1, 96, x6.2.2.2.2.2.1, x6.2.2.2.2.2.2.1, x6.2.2.2.2.2.2.2.1, x6.2.2.2.2.2.2.2.2.1, x6.2.2.2.2.2.2.2.2.2.1, x6.2.2.2.2.2.2.2.2.2.2.1, x6.2.2.2.2.2.2.2.2.2.2.2.1, d12.lock, d12.inserts, d12.aid, x6.2.2.2.2.2.2.2.2.2.2.2.2.2.2.2.1, x6.2.2.2.2.2.2.2.2.2.2.2.2.2.2.2.2.1, x6.2.2.2.2.2.2.2.2.2.2.2.2.2.2.2.2.2.1, x6.2.2.2.2.2.2.2.2.2.2.2.2.2.2.2.2.2.2.1, x6.2.2.2.2.2.2.2.2.2.2.2.2.2.2.2.2.2.2.2.1, x6.2.2.2.2.2.2.2.2.2.2.2.2.2.2.2.2.2.2.2.2.1, x6.2.2.2.2.2.2.2.2.2.2.2.2.2.2.2.2.2.2.2.2.2) (i6.1, i6.2.1, i6.2.2) ⟨J, f6_0, f6_1⟩ (sc J (sc J (sc J (sc J (sc J (sc J sn)))))) (kc rm0 (kc rm5 (kc rm0 (kc rm2 (kc rm3 (kc rm0 (kc rm0 (kc rm1 (kd kr)))))))))
      ·replace h := aq hb1964 h; refine cr ?_; refine ov (O (((rd p3 x6.1).Kind) == (-2))) J J ?_; refine op J J (oe ?_); refine aA (b := (((rd p3 x6.1).Kind) == (-2))) J (fun hb1965 => ?_) (fun hb1965 => ?_)
       ·replace h := ap hb1965 h; refine cr (op J J ?_); replace h := aj h; obtain ⟨d13, h13, h⟩ := h; refine o1 J (ai has33 J (np i6.1 (⟨x6.2.2.2.2.2.2.2.2.2.2.2.2.1, x6.2.2.2.2.2.2.2.2.2.2.2.2.2.1, x6.2.2.2.2.2.2.2.2.2.2.2.2.2.2.1⟩ : ah) i4.1 (⟨x6.2.2.2.2.2.1, x6.2.2.2.2.2.2.1, (⟨x6.2.2.2.2.2.2.2.1, x6.2.2.2.2.2.2.2.2.1⟩ : ak), x6.2.2.2.2.2.2.2.2.2.1, x6.2.2.2.2.2.2.2.2.2.2.1, x6.2.2.2.2.2.2.2.2.2.2.2.1⟩ : ad) i4.2.1 i6.2.1 (⟨x6.2.2.2.2.2.2.2.2.2.2.2.2.2.2.2.2.2.2.2.2.2⟩ : az) i4.2.2.2.1 _ h13) (pc rm1 (pc rm3 (pc rm2 (pc rm3 (pc rm3 pn))))) ?_); refine oe (cr (op J J (op J J ?_))); refine of nI J J J J J J ?_; refine o0 (bv (b := i4.2.2.2.2.1) (off := 2) (vs := [(I 1)]) (cs' := [(F i4.2.2.2.2.2.1 0), (I x6.2.1), (I 1), (O x6.2.2.2.1), (U x6.2.2.2.2.1)]) J J rp6 J J J J J J ?_); refine oe (b7 ?_); refine io J ?_; refine aE (bc ?_); obtain rfl := si h; exact ej (x6.2.1, 1, x6.2.2.2.1, x6.2.2.2.2.1, x6.2.2.2.2.2.1, x6.2.2.2.2.2.2.1, x6.2.2.2.2.2.2.2.1, x6.2.2.2.2.2.2.2.2.1, x6.2.2.2.2.2.2.2.2.2.1, x6.2.2.2.2.2.2.2.2.2.2.1, x6.2.2.2.2.2.2.2.2.2.2.2.1, d13.lock, d13.inserts, d13.aid, x6.2.2.2.2.2.2.2.2.2.2.2.2.2.2.2.1, x6.2.2.2.2.2.2.2.2.2.2.2.2.2.2.2.2.1, x6.2.2.2.2.2.2.2.2.2.2.2.2.2.2.2.2.2.1, x6.2.2.2.2.2.2.2.2.2.2.2.2.2.2.2.2.2.2.1, x6.2.2.2.2.2.2.2.2.2.2.2.2.2.2.2.2.2.2.2.1, x6.2.2.2.2.2.2.2.2.2.2.2.2.2.2.2.2.2.2.2.2.1, x6.2.2.2.2.2.2.2.2.2.2.2.2.2.2.2.2.2.2.2.2.2) (i6.1, i6.2.1, i6.2.2) ⟨J, f6_0, f6_1⟩ (sc J (sc J (sc J (sc J (sc J (sc J sn)))))) (kc rm0 (kc rm5 (kc rm0 (kc rm2 (kc rm3 (kc rm0 (kc rm0 (kc rm1 (kd kr)))))))))
       ·replace h := aq hb1965 h; refine aH (bN (aw (cr (op J J ?_)))); refine ol b1961 0 (.agg (A [(I ((rd p3 x6.1).Kind)), (.int .i32 ((rd p3 x6.1).Sign)), (I ((rd p3 x6.1).N))])) J J rm0 J J ?_; replace h := aj h; obtain ⟨d14, h14, h⟩ := h; refine o1 J (ai pW J (ey i6.1 (⟨x6.2.2.2.2.2.2.2.2.2.2.2.2.1, x6.2.2.2.2.2.2.2.2.2.2.2.2.2.1, x6.2.2.2.2.2.2.2.2.2.2.2.2.2.2.1⟩ : ah) i4.1 (⟨x6.2.2.2.2.2.1, x6.2.2.2.2.2.2.1, (⟨x6.2.2.2.2.2.2.2.1, x6.2.2.2.2.2.2.2.2.1⟩ : ak), x6.2.2.2.2.2.2.2.2.2.1, x6.2.2.2.2.2.2.2.2.2.2.1, x6.2.2.2.2.2.2.2.2.2.2.2.1⟩ : ad) i4.2.1 i6.2.1 (⟨x6.2.2.2.2.2.2.2.2.2.2.2.2.2.2.2.2.2.2.2.2.2⟩ : az) i4.2.2.2.1 (⟨(rd p3 x6.1).Kind, (rd p3 x6.1).Sign, (rd p3 x6.1).N⟩ : bR) _ h14) (pc rm1 (pc rm3 (pc rm2 (pc rm3 (pc rm3 pn))))) (fun i14 f14_0 => ?_)); refine op J J (op J J (op J J (op J J (op J J (aB ?_))))); refine aw (cr (op J J ?_)); refine ol b1961 0 (.agg (A [(I ((rd p3 x6.1).Kind)), (.int .i32 ((rd p3 x6.1).Sign)), (I ((rd p3 x6.1).N))])) J J rm5 J J ?_; replace h := aj h; obtain ⟨d15, h15, h⟩ := h; refine o1 J (ai has21 J (ly i14.1 (⟨x6.2.1, x6.2.2.1, x6.2.2.2.1, x6.2.2.2.2.1⟩ : am) i4.2.2.2.2.1 (⟨x6.2.2.2.2.2.2.2.2.2.2.2.2.2.2.2.1, x6.2.2.2.2.2.2.2.2.2.2.2.2.2.2.2.2.1, (⟨x6.2.2.2.2.2.2.2.2.2.2.2.2.2.2.2.2.2.1, x6.2.2.2.2.2.2.2.2.2.2.2.2.2.2.2.2.2.2.1⟩ : ag), x6.2.2.2.2.2.2.2.2.2.2.2.2.2.2.2.2.2.2.2.1, x6.2.2.2.2.2.2.2.2.2.2.2.2.2.2.2.2.2.2.2.2.1⟩ : aa) i4.2.2.2.2.2.1 i6.2.2 (rd p3 x6.1) _ h15) (pc rm0 (pc rm5 (pc rm5 (pc rm5 pn)))) (fun i15 f15_0 => ?_)); refine op J J (op J J (op J J (op J J (op J J (aB ?_))))); refine aw (av ?_); replace h := aj h; obtain ⟨d16, h, hk16⟩ := h; refine cj (D := Unit) (ι := Unit) (fun _ i16 => True) (fun _ i16 => [(116, (O d16)), (32, (I x6.1)), (31, (I (p3.length : Int))), (30, (V s1)), (11, (F i4.2.2.2.2.1 0)), (10, (F i4.2.1 0)), (9, (F i4.1 0))]) (fun _ i16 => i15.1 :: blk i4.2.2.2.2.1 (zb8 d15.2.1 i4.2.2.2.2.2.1) :: blk i4.2.1 (zb0 d14.1 i14.2) :: blk i4.1 (zb7 d14.2.2.1 i4.2.1 i4.2.2.2.1) :: blk i4.2.2.2.2.2.1 (zb2 d15.1 i15.2) :: Y i14.2 d14.1.cells :: pgO i4.2.2.2.1 d14.2.1.number :: Y i15.2 d15.1.L :: R) ?_ ?_
        ·rcases aU ((!(d14.2.2.2.1 == d15.2.2.1))) with hb1968 | hb1968
         ·replace h := ap hb1968 h; refine cz (n := 4) (q := [(0, 70, (O d14.2.2.2.1)), (1, 71, (O d15.2.2.1)), (2, 72, (O (!(d14.2.2.2.1 == d15.2.2.1)))), (3, 73, (O (!(d14.2.2.2.1 == d15.2.2.1)))), (4, 74, undef), (5, 75, undef), (6, 76, undef), (7, 77, (O true)), (8, 78, (O true)), (9, 79, undef), (10, 80, undef), (11, 81, undef), (12, 82, undef), (13, 83, undef), (14, 84, undef), (15, 85, undef), (16, 86, (O true)), (17, 87, (O true)), (18, 88, undef), (19, 89, undef), (20, 90, undef), (21, 91, undef), (22, 92, undef), (23, 93, undef), (24, 94, undef), (25, 95, (O true)), (26, 96, (O true)), (27, 97, undef), (28, 98, undef), (29, 99, undef), (30, 100, undef), (31, 101, undef), (32, 102, undef), (33, 103, undef), (34, 104, (O true)), (35, 105, (O true)), (36, 106, undef), (37, 107, undef), (38, 108, undef), (39, 109, undef), (40, 110, undef), (41, 111, undef), (42, 112, undef), (43, 113, undef), (44, 114, undef), (45, 115, undef), (46, 116, (O true))]) (pend := [0, 1, 2, 3, 4, 5, 6, 7, 8, 9, 10, 11, 12, 13, 14, 15, 16, 17, 18, 19, 20, 21, 22, 23, 24, 25, 26, 27, 28, 29, 30, 31, 32, 33, 34, 35, 36, 37, 38, 39, 40, 41, 42, 43, 44, 45, 46]) J J J ?_; refine ⟨⟨qa J J J J J (o_p J ⟨J, J⟩), qa J J J J J (o_p J ⟨J, J⟩), qa J J J J J (o_p (v := (O (!(d14.2.2.2.1 == d15.2.2.1)))) J ⟨J, J⟩), qa J J J J J (o_p J ⟨J, J⟩), qc J J J J J J J hb1968 J, qc J J J J J J J hb1968 J, qc J J J J J J J hb1968 J, qa J J J J J (aI J hb1968 J ⟨J, J⟩), qa J J J J J (o_p J ⟨J, J⟩), fun _ => ⟨J, J, J, .inr ⟨_, _, _, _, J, J, J, .inr ⟨J, J⟩⟩⟩, fun _ => ⟨J, J, J, .inr ⟨_, _, _, _, J, J, J, .inr ⟨J, J⟩⟩⟩, fun _ => ⟨J, J, J, .inr ⟨_, _, _, _, J, J, J, .inr ⟨J, J⟩⟩⟩, fun _ => ⟨J, J, J, .inr ⟨_, _, _, _, J, J, J, .inr ⟨J, J⟩⟩⟩, fun _ => ⟨J, J, J, .inr ⟨_, _, _, _, J, J, J, .inr ⟨J, J⟩⟩⟩, fun _ => ⟨J, J, J, .inr ⟨_, _, _, _, J, J, J, .inr ⟨J, J⟩⟩⟩, fun _ => ⟨J, J, J, .inr ⟨_, _, _, _, J, J, J, .inr ⟨J, J⟩⟩⟩, qa J J J J J (aI J J J ⟨J, J⟩), qa J J J J J (o_p J ⟨J, J⟩), fun _ => ⟨J, J, J, .inr ⟨_, _, _, _, J, J, J, .inr ⟨J, J⟩⟩⟩, fun _ => ⟨J, J, J, .inr ⟨_, _, _, _, J, J, J, .inr ⟨J, J⟩⟩⟩, fun _ => ⟨J, J, J, .inr ⟨_, _, _, _, J, J, J, .inr ⟨J, J⟩⟩⟩, fun _ => ⟨J, J, J, .inr ⟨_, _, _, _, J, J, J, .inr ⟨J, J⟩⟩⟩, fun _ => ⟨J, J, J, .inr ⟨_, _, _, _, J, J, J, .inr ⟨J, J⟩⟩⟩, fun _ => ⟨J, J, J, .inr ⟨_, _, _, _, J, J, J, .inr ⟨J, J⟩⟩⟩, fun _ => ⟨J, J, J, .inr ⟨_, _, _, _, J, J, J, .inr ⟨J, J⟩⟩⟩, qa J J J J J (aI J J J ⟨J, J⟩), qa J J J J J (o_p J ⟨J, J⟩), fun _ => ⟨J, J, J, .inr ⟨_, _, _, _, J, J, J, .inr ⟨J, J⟩⟩⟩, fun _ => ⟨J, J, J, .inr ⟨_, _, _, _, J, J, J, .inr ⟨J, J⟩⟩⟩, fun _ => ⟨J, J, J, .inr ⟨_, _, _, _, J, J, J, .inr ⟨J, J⟩⟩⟩, fun _ => ⟨J, J, J, .inr ⟨_, _, _, _, J, J, J, .inr ⟨J, J⟩⟩⟩, fun _ => ⟨J, J, J, .inr ⟨_, _, _, _, J, J, J, .inr ⟨J, J⟩⟩⟩, fun _ => ⟨J, J, J, .inr ⟨_, _, _, _, J, J, J, .inr ⟨J, J⟩⟩⟩, fun _ => ⟨J, J, J, .inr ⟨_, _, _, _, J, J, J, .inr ⟨J, J⟩⟩⟩, qa J J J J J (aI J J J ⟨J, J⟩), qa J J J J J (o_p J ⟨J, J⟩), fun _ => ⟨J, J, J, .inr ⟨_, _, _, _, J, J, J, .inr ⟨J, J⟩⟩⟩, fun _ => ⟨J, J, J, .inr ⟨_, _, _, _, J, J, J, .inr ⟨J, J⟩⟩⟩, fun _ => ⟨J, J, J, .inr ⟨_, _, _, _, J, J, J, .inr ⟨J, J⟩⟩⟩, fun _ => ⟨J, J, J, .inr ⟨_, _, _, _, J, J, J, .inr ⟨J, J⟩⟩⟩, fun _ => ⟨J, J, J, .inr ⟨_, _, _, _, J, J, J, .inr ⟨J, J⟩⟩⟩, fun _ => ⟨J, J, J, .inr ⟨_, _, _, _, J, J, J, .inr ⟨J, J⟩⟩⟩, fun _ => ⟨J, J, J, .inr ⟨_, _, _, _, J, J, J, .inr ⟨J, J⟩⟩⟩, fun _ => ⟨J, J, J, .inr ⟨_, _, _, _, J, J, J, .inr ⟨J, J⟩⟩⟩, fun _ => ⟨J, J, J, .inr ⟨_, _, _, _, J, J, J, .inr ⟨J, J⟩⟩⟩, fun _ => ⟨J, J, J, .inr ⟨_, _, _, _, J, J, J, .inr ⟨J, J⟩⟩⟩, qa J J J J J (aI J J J ⟨J, J⟩), trivial⟩, J, .inl ⟨J, J, ?_⟩⟩; obtain rfl := si h; exact ej () () trivial (sc J (sc J (sc J (sc J (sc J (sc J (sc J sn))))))) (kc rm0 (kc rm2 (kc rm2 (kc rm4 (kc rm0 (kc rm1 (kc rm1 (kc rm0 (kd kr)))))))))
         ·replace h := aq hb1968 h; rcases aU ((d14.2.2.2.2 != d15.2.2.2)) with hb1969 | hb1969
          ·replace h := ap hb1969 h; refine cz (n := 4) (q := [(0, 70, (O d14.2.2.2.1)), (1, 71, (O d15.2.2.1)), (2, 72, (O (!(d14.2.2.2.1 == d15.2.2.1)))), (3, 73, (O (!(d14.2.2.2.1 == d15.2.2.1)))), (4, 74, (I d14.2.2.2.2)), (5, 75, (I d15.2.2.2)), (6, 76, (O (d14.2.2.2.2 != d15.2.2.2))), (7, 77, (O (d14.2.2.2.2 != d15.2.2.2))), (8, 78, (O (d14.2.2.2.2 != d15.2.2.2))), (9, 79, undef), (10, 80, undef), (11, 81, undef), (12, 82, undef), (13, 83, undef), (14, 84, undef), (15, 85, undef), (16, 86, (O true)), (17, 87, (O true)), (18, 88, undef), (19, 89, undef), (20, 90, undef), (21, 91, undef), (22, 92, undef), (23, 93, undef), (24, 94, undef), (25, 95, (O true)), (26, 96, (O true)), (27, 97, undef), (28, 98, undef), (29, 99, undef), (30, 100, undef), (31, 101, undef), (32, 102, undef), (33, 103, undef), (34, 104, (O true)), (35, 105, (O true)), (36, 106, undef), (37, 107, undef), (38, 108, undef), (39, 109, undef), (40, 110, undef), (41, 111, undef), (42, 112, undef), (43, 113, undef), (44, 114, undef), (45, 115, undef), (46, 116, (O true))]) (pend := [0, 1, 2, 3, 4, 5, 6, 7, 8, 9, 10, 11, 12, 13, 14, 15, 16, 17, 18, 19, 20, 21, 22, 23, 24, 25, 26, 27, 28, 29, 30, 31, 32, 33, 34, 35, 36, 37, 38, 39, 40, 41, 42, 43, 44, 45, 46]) J J J ?_; refine ⟨⟨qa J J J J J (o_p J ⟨J, J⟩), qa J J J J J (o_p J ⟨J, J⟩), qa J J J J J (o_p (v := (O (!(d14.2.2.2.1 == d15.2.2.1)))) J ⟨J, J⟩), qa J J J J J (o_p J ⟨J, J⟩), qb J J J J J J J hb1968 (o_p J ⟨J, J⟩), qb J J J J J J J hb1968 (o_p J ⟨J, J⟩), qb J J J J J J J hb1968 (o_p (v := (O (d14.2.2.2.2 != d15.2.2.2))) J ⟨J, J⟩), qa J J J J J (aC J hb1968 J ⟨J, J⟩), qa J J J J J (o_p J ⟨J, J⟩), qc J J J J J J J hb1969 J, qc J J J J J J J hb1969 J, qc J J J J J J J hb1969 J, qc J J J J J J J hb1969 J, qc J J J J J J J hb1969 J, qc J J J J J J J hb1969 J, qc J J J J J J J hb1969 J, qa J J J J J (aI J hb1969 J ⟨J, J⟩), qa J J J J J (o_p J ⟨J, J⟩), fun _ => ⟨J, J, J, .inr ⟨_, _, _, _, J, J, J, .inr ⟨J, J⟩⟩⟩, fun _ => ⟨J, J, J, .inr ⟨_, _, _, _, J, J, J, .inr ⟨J, J⟩⟩⟩, fun _ => ⟨J, J, J, .inr ⟨_, _, _, _, J, J, J, .inr ⟨J, J⟩⟩⟩, fun _ => ⟨J, J, J, .inr ⟨_, _, _, _, J, J, J, .inr ⟨J, J⟩⟩⟩, fun _ => ⟨J, J, J, .inr ⟨_, _, _, _, J, J, J, .inr ⟨J, J⟩⟩⟩, fun _ => ⟨J, J, J, .inr ⟨_, _, _, _, J, J, J, .inr ⟨J, J⟩⟩⟩, fun _ => ⟨J, J, J, .inr ⟨_, _, _, _, J, J, J, .inr ⟨J, J⟩⟩⟩, qa J J J J J (aI J J J ⟨J, J⟩), qa J J J J J (o_p J ⟨J, J⟩), fun _ => ⟨J, J, J, .inr ⟨_, _, _, _, J, J, J, .inr ⟨J, J⟩⟩⟩, fun _ => ⟨J, J, J, .inr ⟨_, _, _, _, J, J, J, .inr ⟨J, J⟩⟩⟩, fun _ => ⟨J, J, J, .inr ⟨_, _, _, _, J, J, J, .inr ⟨J, J⟩⟩⟩, fun _ => ⟨J, J, J, .inr ⟨_, _, _, _, J, J, J, .inr ⟨J, J⟩⟩⟩, fun _ => ⟨J, J, J, .inr ⟨_, _, _, _, J, J, J, .inr ⟨J, J⟩⟩⟩, fun _ => ⟨J, J, J, .inr ⟨_, _, _, _, J, J, J, .inr ⟨J, J⟩⟩⟩, fun _ => ⟨J, J, J, .inr ⟨_, _, _, _, J, J, J, .inr ⟨J, J⟩⟩⟩, qa J J J J J (aI J J J ⟨J, J⟩), qa J J J J J (o_p J ⟨J, J⟩), fun _ => ⟨J, J, J, .inr ⟨_, _, _, _, J, J, J, .inr ⟨J, J⟩⟩⟩, fun _ => ⟨J, J, J, .inr ⟨_, _, _, _, J, J, J, .inr ⟨J, J⟩⟩⟩, fun _ => ⟨J, J, J, .inr ⟨_, _, _, _, J, J, J, .inr ⟨J, J⟩⟩⟩, fun _ => ⟨J, J, J, .inr ⟨_, _, _, _, J, J, J, .inr ⟨J, J⟩⟩⟩, fun _ => ⟨J, J, J, .inr ⟨_, _, _, _, J, J, J, .inr ⟨J, J⟩⟩⟩, fun _ => ⟨J, J, J, .inr ⟨_, _, _, _, J, J, J, .inr ⟨J, J⟩⟩⟩, fun _ => ⟨J, J, J, .inr ⟨_, _, _, _, J, J, J, .inr ⟨J, J⟩⟩⟩, fun _ => ⟨J, J, J, .inr ⟨_, _, _, _, J, J, J, .inr ⟨J, J⟩⟩⟩, fun _ => ⟨J, J, J, .inr ⟨_, _, _, _, J, J, J, .inr ⟨J, J⟩⟩⟩, fun _ => ⟨J, J, J, .inr ⟨_, _, _, _, J, J, J, .inr ⟨J, J⟩⟩⟩, qa J J J J J (aI J J J ⟨J, J⟩), trivial⟩, J, .inl ⟨J, J, ?_⟩⟩; obtain rfl := si h; exact ej () () trivial (sc J (sc J (sc J (sc J (sc J (sc J (sc J sn))))))) (kc rm0 (kc rm2 (kc rm2 (kc rm4 (kc rm0 (kc rm1 (kc rm1 (kc rm0 (kd kr)))))))))
          ·replace h := aq hb1969 h; refine cz (n := 4) (q := [(0, 70, (O d14.2.2.2.1)), (1, 71, (O d15.2.2.1)), (2, 72, (O (!(d14.2.2.2.1 == d15.2.2.1)))), (3, 73, (O (!(d14.2.2.2.1 == d15.2.2.1)))), (4, 74, (I d14.2.2.2.2)), (5, 75, (I d15.2.2.2)), (6, 76, (O (d14.2.2.2.2 != d15.2.2.2))), (7, 77, (O (d14.2.2.2.2 != d15.2.2.2))), (8, 78, (O (d14.2.2.2.2 != d15.2.2.2))), (9, 79, (F i4.1 0)), (11, 81, (F i4.2.2.2.2.1 0)), (12, 82, (F i4.2.2.2.2.1 0)), (13, 83, (F i4.2.2.2.2.1 2)), (14, 84, (I d15.2.1.Lock))]) (pend := [0, 1, 2, 3, 4, 5, 6, 7, 8, 9, 11, 12, 13, 14]) J J J ?_; replace h := aj h; obtain ⟨d17, h17, h⟩ := h; refine ⟨⟨qa J J J J J (o_p J ⟨J, J⟩), qa J J J J J (o_p J ⟨J, J⟩), qa J J J J J (o_p (v := (O (!(d14.2.2.2.1 == d15.2.2.1)))) J ⟨J, J⟩), qa J J J J J (o_p J ⟨J, J⟩), qb J J J J J J J hb1968 (o_p J ⟨J, J⟩), qb J J J J J J J hb1968 (o_p J ⟨J, J⟩), qb J J J J J J J hb1968 (o_p (v := (O (d14.2.2.2.2 != d15.2.2.2))) J ⟨J, J⟩), qa J J J J J (aC J hb1968 J ⟨J, J⟩), qa J J J J J (o_p J ⟨J, J⟩), qb J J J J J J J hb1969 (o_p J ⟨J, J⟩), qb J J J J J J J hb1969 (o_p J ⟨J, J⟩), qb J J J J J J J hb1969 (o_p J ⟨J, J⟩), qb J J J J J J J hb1969 (bf (fd := nI) J J J J J ⟨J, J⟩), qb J J J J J J J hb1969 (aV (b := i4.2.2.2.2.1) (off := 2) (v := (I d15.2.1.Lock)) J rm3 J J ⟨J, J⟩), trivial⟩, J, .inr ⟨[10], J, J, ⟨J, .inr ⟨_, _, _, _, J, J, J, hb1969⟩, ?_⟩, trivial⟩⟩; refine (ai has34 J (iQ i15.1 d14.2.2.1 i4.1 (⟨d14.1.model, d14.1.alternate, d14.1.size, d14.1.cells, d14.1.cursor, d14.1.attrs⟩ : ad) i4.2.1 i14.2 (⟨d14.2.1.number⟩ : az) i4.2.2.2.1 _ h17) (pc rm0 (pc rm6 (pc rm3 (pc rm3 (pc rm3 pn))))) ?_); rcases aU ((d17 != d15.2.1.Lock)) with hb1970 | hb1970
           ·replace h := ap hb1970 h; refine ⟨[(15, 85, (O (d17 != d15.2.1.Lock))), (16, 86, (O (d17 != d15.2.1.Lock))), (17, 87, (O (d17 != d15.2.1.Lock))), (18, 88, undef), (19, 89, undef), (20, 90, undef), (21, 91, undef), (22, 92, undef), (23, 93, undef), (24, 94, undef), (25, 95, (O true)), (26, 96, (O true)), (27, 97, undef), (28, 98, undef), (29, 99, undef), (30, 100, undef), (31, 101, undef), (32, 102, undef), (33, 103, undef), (34, 104, (O true)), (35, 105, (O true)), (36, 106, undef), (37, 107, undef), (38, 108, undef), (39, 109, undef), (40, 110, undef), (41, 111, undef), (42, 112, undef), (43, 113, undef), (44, 114, undef), (45, 115, undef), (46, 116, (O true))], [11, 12, 13, 14, 15, 16, 17, 18, 19, 20, 21, 22, 23, 24, 25, 26, 27, 28, 29, 30, 31, 32, 33, 34, 35, 36, 37, 38, 39, 40, 41, 42, 43, 44, 45, 46], J, J, J, J, ?_⟩; refine ⟨⟨qb J J J J J J J hb1969 (o_p (v := (O (d17 != d15.2.1.Lock))) J ⟨J, J⟩), qa J J J J J (aC J hb1969 J ⟨J, J⟩), qa J J J J J (o_p J ⟨J, J⟩), qc J J J J J J J hb1970 J, qc J J J J J J J hb1970 J, qc J J J J J J J hb1970 J, qc J J J J J J J hb1970 J, qc J J J J J J J hb1970 J, qc J J J J J J J hb1970 J, qc J J J J J J J hb1970 J, qa J J J J J (aI J hb1970 J ⟨J, J⟩), qa J J J J J (o_p J ⟨J, J⟩), fun _ => ⟨J, J, J, .inr ⟨_, _, _, _, J, J, J, .inr ⟨J, J⟩⟩⟩, fun _ => ⟨J, J, J, .inr ⟨_, _, _, _, J, J, J, .inr ⟨J, J⟩⟩⟩, fun _ => ⟨J, J, J, .inr ⟨_, _, _, _, J, J, J, .inr ⟨J, J⟩⟩⟩, fun _ => ⟨J, J, J, .inr ⟨_, _, _, _, J, J, J, .inr ⟨J, J⟩⟩⟩, fun _ => ⟨J, J, J, .inr ⟨_, _, _, _, J, J, J, .inr ⟨J, J⟩⟩⟩, fun _ => ⟨J, J, J, .inr ⟨_, _, _, _, J, J, J, .inr ⟨J, J⟩⟩⟩, fun _ => ⟨J, J, J, .inr ⟨_, _, _, _, J, J, J, .inr ⟨J, J⟩⟩⟩, qa J J J J J (aI J J J ⟨J, J⟩), qa J J J J J (o_p J ⟨J, J⟩), fun _ => ⟨J, J, J, .inr ⟨_, _, _, _, J, J, J, .inr ⟨J, J⟩⟩⟩, fun _ => ⟨J, J, J, .inr ⟨_, _, _, _, J, J, J, .inr ⟨J, J⟩⟩⟩, fun _ => ⟨J, J, J, .inr ⟨_, _, _, _, J, J, J, .inr ⟨J, J⟩⟩⟩, fun _ => ⟨J, J, J, .inr ⟨_, _, _, _, J, J, J, .inr ⟨J, J⟩⟩⟩, fun _ => ⟨J, J, J, .inr ⟨_, _, _, _, J, J, J, .inr ⟨J, J⟩⟩⟩, fun _ => ⟨J, J, J, .inr ⟨_, _, _, _, J, J, J, .inr ⟨J, J⟩⟩⟩, fun _ => ⟨J, J, J, .inr ⟨_, _, _, _, J, J, J, .inr ⟨J, J⟩⟩⟩, fun _ => ⟨J, J, J, .inr ⟨_, _, _, _, J, J, J, .inr ⟨J, J⟩⟩⟩, fun _ => ⟨J, J, J, .inr ⟨_, _, _, _, J, J, J, .inr ⟨J, J⟩⟩⟩, fun _ => ⟨J, J, J, .inr ⟨_, _, _, _, J, J, J, .inr ⟨J, J⟩⟩⟩, qa J J J J J (aI J J J ⟨J, J⟩), nofun, nofun, nofun, nofun, nofun, nofun, nofun, nofun, nofun, nofun, qb J J J J J J J hb1969 (o_p J ⟨J, J⟩), qb J J J J J J J hb1969 (o_p J ⟨J, J⟩), qb J J J J J J J hb1969 (bf (fd := nI) J J J J J ⟨J, J⟩), qb J J J J J J J hb1969 (aV (b := i4.2.2.2.2.1) (off := 2) (v := (I d15.2.1.Lock)) J rm7 J J ⟨J, J⟩), trivial⟩, J, .inl ⟨J, J, ?_⟩⟩; obtain rfl := si h; exact ej () () trivial (sc J (sc J (sc J (sc J (sc J (sc J (sc J sn))))))) (kc rm0 (kc rm6 (kc rm0 (kc rm2 (kc rm2 (kc rm0 (kc rm0 (kc rm0 (kd kr)))))))))
           ·replace h := aq hb1970 h; refine ⟨[(15, 85, (O (d17 != d15.2.1.Lock))), (16, 86, (O (d17 != d15.2.1.Lock))), (17, 87, (O (d17 != d15.2.1.Lock))), (18, 88, (F i4.1 0)), (20, 90, (F i4.2.2.2.2.1 0)), (21, 91, (F i4.2.2.2.2.1 0)), (22, 92, (F i4.2.2.2.2.1 3)), (23, 93, (O d15.2.1.Ins))], [11, 12, 13, 14, 15, 16, 17, 18, 20, 21, 22, 23], J, J, J, J, ?_⟩; replace h := aj h; obtain ⟨d18, h18, h⟩ := h; refine ⟨⟨qb J J J J J J J hb1969 (o_p (v := (O (d17 != d15.2.1.Lock))) J ⟨J, J⟩), qa J J J J J (aC J hb1969 J ⟨J, J⟩), qa J J J J J (o_p J ⟨J, J⟩), qb J J J J J J J hb1970 (o_p J ⟨J, J⟩), qb J J J J J J J hb1970 (o_p J ⟨J, J⟩), qb J J J J J J J hb1970 (o_p J ⟨J, J⟩), qb J J J J J J J hb1970 (bf (fd := pf) J J J J J ⟨J, J⟩), qb J J J J J J J hb1970 (aV (b := i4.2.2.2.2.1) (off := 3) (v := (O d15.2.1.Ins)) J rm7 J J ⟨J, J⟩), nofun, nofun, nofun, nofun, nofun, nofun, nofun, nofun, nofun, nofun, qb J J J J J J J hb1969 (o_p J ⟨J, J⟩), qb J J J J J J J hb1969 (o_p J ⟨J, J⟩), qb J J J J J J J hb1969 (bf (fd := nI) J J J J J ⟨J, J⟩), qb J J J J J J J hb1969 (aV (b := i4.2.2.2.2.1) (off := 2) (v := (I d15.2.1.Lock)) J rm7 J J ⟨J, J⟩), trivial⟩, J, .inr ⟨[19], J, J, ⟨J, .inr ⟨_, _, _, _, J, J, J, hb1970⟩, ?_⟩, trivial⟩⟩; refine (ai has35 J (jt i15.1 d14.2.2.1 i4.1 (⟨d14.1.model, d14.1.alternate, d14.1.size, d14.1.cells, d14.1.cursor, d14.1.attrs⟩ : ad) i4.2.1 i14.2 (⟨d14.2.1.number⟩ : az) i4.2.2.2.1 _ h18) (pc rm0 (pc rm3 (pc rm0 (pc rm0 (pc rm0 pn))))) ?_); rcases aU ((!(d18 == d15.2.1.Ins))) with hb1971 | hb1971
            ·replace h := ap hb1971 h; refine ⟨[(24, 94, (O (!(d18 == d15.2.1.Ins)))), (25, 95, (O (!(d18 == d15.2.1.Ins)))), (26, 96, (O (!(d18 == d15.2.1.Ins)))), (27, 97, undef), (28, 98, undef), (29, 99, undef), (30, 100, undef), (31, 101, undef), (32, 102, undef), (33, 103, undef), (34, 104, (O true)), (35, 105, (O true)), (36, 106, undef), (37, 107, undef), (38, 108, undef), (39, 109, undef), (40, 110, undef), (41, 111, undef), (42, 112, undef), (43, 113, undef), (44, 114, undef), (45, 115, undef), (46, 116, (O true))], [11, 12, 20, 21, 22, 23, 24, 25, 26, 27, 28, 29, 30, 31, 32, 33, 34, 35, 36, 37, 38, 39, 40, 41, 42, 43, 44, 45, 46], J, J, J, J, ?_⟩; refine ⟨⟨qb J J J J J J J hb1970 (o_p (v := (O (!(d18 == d15.2.1.Ins)))) J ⟨J, J⟩), qa J J J J J (aC J hb1970 J ⟨J, J⟩), qa J J J J J (o_p J ⟨J, J⟩), qc J J J J J J J hb1971 J, qc J J J J J J J hb1971 J, qc J J J J J J J hb1971 J, qc J J J J J J J hb1971 J, qc J J J J J J J hb1971 J, qc J J J J J J J hb1971 J, qc J J J J J J J hb1971 J, qa J J J J J (aI J hb1971 J ⟨J, J⟩), qa J J J J J (o_p J ⟨J, J⟩), fun _ => ⟨J, J, J, .inr ⟨_, _, _, _, J, J, J, .inr ⟨J, J⟩⟩⟩, fun _ => ⟨J, J, J, .inr ⟨_, _, _, _, J, J, J, .inr ⟨J, J⟩⟩⟩, fun _ => ⟨J, J, J, .inr ⟨_, _, _, _, J, J, J, .inr ⟨J, J⟩⟩⟩, fun _ => ⟨J, J, J, .inr ⟨_, _, _, _, J, J, J, .inr ⟨J, J⟩⟩⟩, fun _ => ⟨J, J, J, .inr ⟨_, _, _, _, J, J, J, .inr ⟨J, J⟩⟩⟩, fun _ => ⟨J, J, J, .inr ⟨_, _, _, _, J, J, J, .inr ⟨J, J⟩⟩⟩, fun _ => ⟨J, J, J, .inr ⟨_, _, _, _, J, J, J, .inr ⟨J, J⟩⟩⟩, fun _ => ⟨J, J, J, .inr ⟨_, _, _, _, J, J, J, .inr ⟨J, J⟩⟩⟩, fun _ => ⟨J, J, J, .inr ⟨_, _, _, _, J, J, J, .inr ⟨J, J⟩⟩⟩, fun _ => ⟨J, J, J, .inr ⟨_, _, _, _, J, J, J, .inr ⟨J, J⟩⟩⟩, qa J J J J J (aI J J J ⟨J, J⟩), nofun, nofun, nofun, nofun, qb J J J J J J J hb1970 (o_p J ⟨J, J⟩), qb J J J J J J J hb1970 (o_p J ⟨J, J⟩), qb J J J J J J J hb1970 (bf (fd := pf) J J J J J ⟨J, J⟩), qb J J J J J J J hb1970 (aV (b := i4.2.2.2.2.1) (off := 3) (v := (O d15.2.1.Ins)) J rm7 J J ⟨J, J⟩), nofun, nofun, nofun, nofun, nofun, nofun, nofun, nofun, nofun, nofun, qb J J J J J J J hb1969 (o_p J ⟨J, J⟩), qb J J J J J J J hb1969 (o_p J ⟨J, J⟩), nofun, nofun, trivial⟩, J, .inl ⟨J, J, ?_⟩⟩; obtain rfl := si h; exact ej () () trivial (sc J (sc J (sc J (sc J (sc J (sc J (sc J sn))))))) (kc rm0 (kc rm6 (kc rm0 (kc rm2 (kc rm2 (kc rm0 (kc rm0 (kc rm0 (kd kr)))))))))
            ·replace h := aq hb1971 h; refine ⟨[(24, 94, (O (!(d18 == d15.2.1.Ins)))), (25, 95, (O (!(d18 == d15.2.1.Ins)))), (26, 96, (O (!(d18 == d15.2.1.Ins)))), (27, 97, (F i4.1 0)), (29, 99, (F i4.2.2.2.2.1 0)), (30, 100, (F i4.2.2.2.2.1 0)), (31, 101, (F i4.2.2.2.2.1 4)), (32, 102, (U d15.2.1.AID))], [11, 12, 20, 21, 22, 23, 24, 25, 26, 27, 29, 30, 31, 32], J, J, J, J, ?_⟩; replace h := aj h; obtain ⟨d19, h19, h⟩ := h; refine ⟨⟨qb J J J J J J J hb1970 (o_p (v := (O (!(d18 == d15.2.1.Ins)))) J ⟨J, J⟩), qa J J J J J (aC J hb1970 J ⟨J, J⟩), qa J J J J J (o_p J ⟨J, J⟩), qb J J J J J J J hb1971 (o_p J ⟨J, J⟩), qb J J J J J J J hb1971 (o_p J ⟨J, J⟩), qb J J J J J J J hb1971 (o_p J ⟨J, J⟩), qb J J J J J J J hb1971 (bf (fd := r9) J J J J J ⟨J, J⟩), qb J J J J J J J hb1971 (aV (b := i4.2.2.2.2.1) (off := 4) (v := (U d15.2.1.AID)) J rm7 J J ⟨J, J⟩), nofun, nofun, nofun, nofun, qb J J J J J J J hb1970 (o_p J ⟨J, J⟩), qb J J J J J J J hb1970 (o_p J ⟨J, J⟩), qb J J J J J J J hb1970 (bf (fd := pf) J J J J J ⟨J, J⟩), qb J J J J J J J hb1970 (aV (b := i4.2.2.2.2.1) (off := 3) (v := (O d15.2.1.Ins)) J rm7 J J ⟨J, J⟩), nofun, nofun, nofun, nofun, nofun, nofun, nofun, nofun, nofun, nofun, qb J J J J J J J hb1969 (o_p J ⟨J, J⟩), qb J J J J J J J hb1969 (o_p J ⟨J, J⟩), nofun, nofun, trivial⟩, J, .inr ⟨[28], J, J, ⟨J, .inr ⟨_, _, _, _, J, J, J, hb1971⟩, ?_⟩, trivial⟩⟩; refine (ai has25 J (ja i15.1 d14.2.2.1 i4.1 (⟨d14.1.model, d14.1.alternate, d14.1.size, d14.1.cells, d14.1.cursor, d14.1.attrs⟩ : ad) i4.2.1 i14.2 (⟨d14.2.1.number⟩ : az) i4.2.2.2.1 _ h19) (pc rm0 (pc rm3 (pc rm0 (pc rm0 (pc rm0 pn))))) ?_); rcases aU ((d19 != d15.2.1.AID)) with hb1972 | hb1972
             ·replace h := ap hb1972 h; refine ⟨[(33, 103, (O (d19 != d15.2.1.AID))), (34, 104, (O (d19 != d15.2.1.AID))), (35, 105, (O (d19 != d15.2.1.AID))), (36, 106, undef), (37, 107, undef), (38, 108, undef), (39, 109, undef), (40, 110, undef), (41, 111, undef), (42, 112, undef), (43, 113, undef), (44, 114, undef), (45, 115, undef), (46, 116, (O true))], [11, 12, 20, 21, 29, 30, 31, 32, 33, 34, 35, 36, 37, 38, 39, 40, 41, 42, 43, 44, 45, 46], J, J, J, J, ?_⟩; refine ⟨⟨qb J J J J J J J hb1971 (o_p (v := (O (d19 != d15.2.1.AID))) J ⟨J, J⟩), qa J J J J J (aC J hb1971 J ⟨J, J⟩), qa J J J J J (o_p J ⟨J, J⟩), qc J J J J J J J hb1972 J, qc J J J J J J J hb1972 J, qc J J J J J J J hb1972 J, qc J J J J J J J hb1972 J, qc J J J J J J J hb1972 J, qc J J J J J J J hb1972 J, qc J J J J J J J hb1972 J, qc J J J J J J J hb1972 J, qc J J J J J J J hb1972 J, qc J J J J J J J hb1972 J, qa J J J J J (aI J hb1972 J ⟨J, J⟩), nofun, nofun, nofun, nofun, qb J J J J J J J hb1971 (o_p J ⟨J, J⟩), qb J J J J J J J hb1971 (o_p J ⟨J, J⟩), qb J J J J J J J hb1971 (bf (fd := r9) J J J J J ⟨J, J⟩), qb J J J J J J J hb1971 (aV (b := i4.2.2.2.2.1) (off := 4) (v := (U d15.2.1.AID)) J rm7 J J ⟨J, J⟩), nofun, nofun, nofun, nofun, qb J J J J J J J hb1970 (o_p J ⟨J, J⟩), qb J J J J J J J hb1970 (o_p J ⟨J, J⟩), nofun, nofun, nofun, nofun, nofun, nofun, nofun, nofun, nofun, nofun, nofun, nofun, qb J J J J J J J hb1969 (o_p J ⟨J, J⟩), qb J J J J J J J hb1969 (o_p J ⟨J, J⟩), nofun, nofun, trivial⟩, J, .inl ⟨J, J, ?_⟩⟩; obtain rfl := si h; exact ej () () trivial (sc J (sc J (sc J (sc J (sc J (sc J (sc J sn))))))) (kc rm0 (kc rm6 (kc rm0 (kc rm2 (kc rm2 (kc rm0 (kc rm0 (kc rm0 (kd kr)))))))))
             ·replace h := aq hb1972 h; refine ⟨[(33, 103, (O (d19 != d15.2.1.AID))), (34, 104, (O (d19 != d15.2.1.AID))), (35, 105, (O (d19 != d15.2.1.AID))), (36, 106, (F i4.2.1 0)), (38, 108, (F i4.2.2.2.2.1 0)), (39, 109, (F i4.2.2.2.2.1 0)), (40, 110, (F i4.2.2.2.2.1 0)), (41, 111, (F i4.2.2.2.2.2.1 0)), (42, 112, (F i4.2.2.2.2.2.1 0)), (43, 113, (F i4.2.2.2.2.2.1 5)), (44, 114, (I d15.1.Cursor))], [11, 12, 20, 21, 29, 30, 31, 32, 33, 34, 35, 36, 38, 39, 40, 41, 42, 43, 44], J, J, J, J, ?_⟩; replace h := aj h; obtain ⟨d20, h20, h⟩ := h; refine ⟨⟨qb J J J J J J J hb1971 (o_p (v := (O (d19 != d15.2.1.AID))) J ⟨J, J⟩), qa J J J J J (aC J hb1971 J ⟨J, J⟩), qa J J J J J (o_p J ⟨J, J⟩), qb J J J J J J J hb1972 (o_p J ⟨J, J⟩), qb J J J J J J J hb1972 (o_p J ⟨J, J⟩), qb J J J J J J J hb1972 (o_p J ⟨J, J⟩), qb J J J J J J J hb1972 (bf (fd := d_3) J J J J J ⟨J, J⟩), qb J J J J J J J hb1972 (aV (b := i4.2.2.2.2.1) (off := 0) (v := (F i4.2.2.2.2.2.1 0)) J rm7 J J ⟨J, J⟩), qb J J J J J J J hb1972 (o_p J ⟨J, J⟩), qb J J J J J J J hb1972 (bf (fd := d_4) J J J J J ⟨J, J⟩), qb J J J J J J J hb1972 (aV (b := i4.2.2.2.2.2.1) (off := 5) (v := (I d15.1.Cursor)) J rm5 J J ⟨J, J⟩), nofun, nofun, nofun, nofun, qb J J J J J J J hb1971 (o_p J ⟨J, J⟩), qb J J J J J J J hb1971 (o_p J ⟨J, J⟩), qb J J J J J J J hb1971 (bf (fd := r9) J J J J J ⟨J, J⟩), qb J J J J J J J hb1971 (aV (b := i4.2.2.2.2.1) (off := 4) (v := (U d15.2.1.AID)) J rm7 J J ⟨J, J⟩), nofun, nofun, nofun, nofun, qb J J J J J J J hb1970 (o_p J ⟨J, J⟩), qb J J J J J J J hb1970 (o_p J ⟨J, J⟩), nofun, nofun, nofun, nofun, nofun, nofun, nofun, nofun, nofun, nofun, nofun, nofun, qb J J J J J J J hb1969 (o_p J ⟨J, J⟩), qb J J J J J J J hb1969 (o_p J ⟨J, J⟩), nofun, nofun, trivial⟩, J, .inr ⟨[37], J, J, ⟨J, .inr ⟨_, _, _, _, J, J, J, hb1972⟩, ?_⟩, trivial⟩⟩; refine (ai mf J (bZ i15.1 (⟨d14.1.model, d14.1.alternate, d14.1.size, d14.1.cells, d14.1.cursor, d14.1.attrs⟩ : ad) i4.2.1 i14.2 _ h20) (pc rm0 (pc rm0 (pc rm0 pn))) ?_); refine ⟨[(45, 115, (O (d20 != d15.1.Cursor))), (46, 116, (O (d20 != d15.1.Cursor)))], [11, 12, 20, 21, 29, 30, 38, 39, 40, 41, 42, 43, 44, 45, 46], J, J, J, J, ?_⟩; refine ⟨⟨qb J J J J J J J hb1972 (o_p (v := (O (d20 != d15.1.Cursor))) J ⟨J, J⟩), qa J J J J J (aC J hb1972 J ⟨J, J⟩), nofun, nofun, nofun, nofun, qb J J J J J J J hb1972 (o_p J ⟨J, J⟩), qb J J J J J J J hb1972 (o_p J ⟨J, J⟩), qb J J J J J J J hb1972 (bf (fd := d_3) J J J J J ⟨J, J⟩), qb J J J J J J J hb1972 (aV (b := i4.2.2.2.2.1) (off := 0) (v := (F i4.2.2.2.2.2.1 0)) J rm7 J J ⟨J, J⟩), qb J J J J J J J hb1972 (o_p J ⟨J, J⟩), qb J J J J J J J hb1972 (bf (fd := d_4) J J J J J ⟨J, J⟩), qb J J J J J J J hb1972 (aV (b := i4.2.2.2.2.2.1) (off := 5) (v := (I d15.1.Cursor)) J rm5 J J ⟨J, J⟩), nofun, nofun, nofun, nofun, qb J J J J J J J hb1971 (o_p J ⟨J, J⟩), qb J J J J J J J hb1971 (o_p J ⟨J, J⟩), nofun, nofun, nofun, nofun, nofun, nofun, qb J J J J J J J hb1970 (o_p J ⟨J, J⟩), qb J J J J J J J hb1970 (o_p J ⟨J, J⟩), nofun, nofun, nofun, nofun, nofun, nofun, nofun, nofun, nofun, nofun, nofun, nofun, qb J J J J J J J hb1969 (o_p J ⟨J, J⟩), qb J J J J J J J hb1969 (o_p J ⟨J, J⟩), nofun, nofun, trivial⟩, J, J, J, ?_⟩; obtain rfl := si h; exact ej () () trivial (sc J (sc J (sc J (sc J (sc J (sc J (sc J sn))))))) (kc rm0 (kc rm6 (kc rm0 (kc rm2 (kc rm2 (kc rm0 (kc rm0 (kc rm0 (kd kr)))))))))
        ·rintro _ i16 _; replace h := hk16; clear hk16; refine aw ?_; refine aA (b := d16) J (fun hb1973 => ?_) (fun hb1973 => ?_)
         ·replace h := ap hb1973 h; refine cr (op J J (oe (aG ?_))); refine aJ (c0 ?_); replace h := bM h; obtain ⟨z8, h, rfl⟩ := h; obtain rfl := (hk8 : z8 = _); refine ar (ar (aJ (c0 ?_))); replace h := bM h; obtain ⟨z5, h, rfl⟩ := h; obtain rfl := (hk5 : z5 = _); refine ar (aF ?_); refine ay J J (kc rm0 (kd (kd (kd (kd (kd (kd (kd kr)))))))) ?_; obtain rfl := si h; exact hk i15.1 (Ext.trans (Ext.trans f6_1 f14_0) f15_0)
         ·replace h := aq hb1973 h; refine aH (bN ?_); obtain rfl := si h; exact ej (d15.2.1.Page, d15.2.1.Lock, d15.2.1.Ins, d15.2.1.AID, d14.1.model, d14.1.alternate, d14.1.size.Rows, d14.1.size.Cols, d14.1.cells, d14.1.cursor, d14.1.attrs, d14.2.2.1.lock, d14.2.2.1.inserts, d14.2.2.1.aid, d15.1.Model, d15.1.Alt, d15.1.Size.Rows, d15.1.Size.Cols, d15.1.L, d15.1.Cursor, d14.2.1.number) (i15.1, i14.2, i15.2) ⟨J, (Rd.ext f6_0 (Ext.trans f14_0 f15_0)), (Ext.trans (Ext.trans f6_1 f14_0) f15_0)⟩ (sc J (sc J (sc J (sc J (sc J (sc J sn)))))) (kc rm0 (kc rm0 (kc rm0 (kc rm0 (kc rm0 (kc rm0 (kc rm0 (kc rm0 kr))))))))
    ·rintro d8 i8 ⟨rfl, f8_0, f8_1⟩; replace h := gR hk8; clear hk8; refine aw (al ?_); refine ov (I (w64 (x6.1 + 1))) J J ?_; refine op J J (aB ?_); exact cx (bE (sc J (sc J (sc J (sc J (sc J (sc J sn)))))) (bq (kc rm0 (kc rm0 (kc rm0 (kc rm0 (kc rm0 (kc rm0 (kc rm0 (kc rm0 kr)))))))) (ih6 (w64 (x6.1 + 1), d8.1, d8.2.1, d8.2.2.1, d8.2.2.2.1, d8.2.2.2.2.1, d8.2.2.2.2.2.1, d8.2.2.2.2.2.2.1, d8.2.2.2.2.2.2.2.1, d8.2.2.2.2.2.2.2.2.1, d8.2.2.2.2.2.2.2.2.2.1, d8.2.2.2.2.2.2.2.2.2.2.1, d8.2.2.2.2.2.2.2.2.2.2.2.1, d8.2.2.2.2.2.2.2.2.2.2.2.2.1, d8.2.2.2.2.2.2.2.2.2.2.2.2.2.1, d8.2.2.2.2.2.2.2.2.2.2.2.2.2.2.1, d8.2.2.2.2.2.2.2.2.2.2.2.2.2.2.2.1, d8.2.2.2.2.2.2.2.2.2.2.2.2.2.2.2.2.1, d8.2.2.2.2.2.2.2.2.2.2.2.2.2.2.2.2.2.1, d8.2.2.2.2.2.2.2.2.2.2.2.2.2.2.2.2.2.2.1, d8.2.2.2.2.2.2.2.2.2.2.2.2.2.2.2.2.2.2.2.1, d8.2.2.2.2.2.2.2.2.2.2.2.2.2.2.2.2.2.2.2.2) (i8.1, i8.2.1, i8.2.2) ⟨f8_0, f8_1⟩ h)))
   ·replace h := aq hb1959 h; refine b7 (aE (aE (bc ?_))); obtain rfl := si h; exact ej (x6.2.1, x6.2.2.1, x6.2.2.2.1, x6.2.2.2.2.1, x6.2.2.2.2.2.1, x6.2.2.2.2.2.2.1, x6.2.2.2.2.2.2.2.1, x6.2.2.2.2.2.2.2.2.1, x6.2.2.2.2.2.2.2.2.2.1, x6.2.2.2.2.2.2.2.2.2.2.1, x6.2.2.2.2.2.2.2.2.2.2.2.1, x6.2.2.2.2.2.2.2.2.2.2.2.2.1, x6.2.2.2.2.2.2.2.2.2.2.2.2.2.1, x6.2.2.2.2.2.2.2.2.2.2.2.2.2.2.1, x6.2.2.2.2.2.2.2.2.2.2.2.2.2.2.2.1, x6.2.2.2.2.2.2.2.2.2.2.2.2.2.2.2.2.1, x6.2.2.2.2.2.2.2.2.2.2.2.2.2.2.2.2.2.1, x6.2.2.2.2.2.2.2.2.2.2.2.2.2.2.2.2.2.2.1, x6.2.2.2.2.2.2.2.2.2.2.2.2.2.2.2.2.2.2.2.1, x6.2.2.2.2.2.2.2.2.2.2.2.2.2.2.2.2.2.2.2.2.1, x6.2.2.2.2.2.2.2.2.2.2.2.2.2.2.2.2.2.2.2.2.2) (i6.1, i6.2.1, i6.2.2) ⟨J, f6_1⟩ (sc J (sc J (sc J sn))) (kc rm0 (kc rm0 (kc rm0 (kc rm0 (kc rm0 (kc rm0 (kc rm0 (kc rm0 kr))))))))
  ·rintro d5 i5 ⟨rfl, f5_0⟩; replace h := gR hk5; clear hk5; refine aw (cr (op J J ?_)); replace h := aj h; obtain ⟨d23, h23, h⟩ := h; refine o1 J (ai has23 J (mJ i5.1 (⟨d5.2.2.2.2.1, d5.2.2.2.2.2.1, (⟨d5.2.2.2.2.2.2.1, d5.2.2.2.2.2.2.2.1⟩ : ak), d5.2.2.2.2.2.2.2.2.1, d5.2.2.2.2.2.2.2.2.2.1, d5.2.2.2.2.2.2.2.2.2.2.1⟩ : ad) i4.2.1 i5.2.1 _ h23) (pc rm0 (pc rm1 (pc rm3 pn))) (fun i23 => ?_)); refine op J J (oe (cr (op J J ?_))); refine op J J ?_; replace h := aj h; obtain ⟨d25, h25, h⟩ := h; refine o1 J (ai has36 J (nr i5.1 (⟨d5.2.2.2.2.2.2.2.2.2.2.2.1, d5.2.2.2.2.2.2.2.2.2.2.2.2.1, d5.2.2.2.2.2.2.2.2.2.2.2.2.2.1⟩ : ah) i4.1 (⟨d5.2.2.2.2.1, d5.2.2.2.2.2.1, (⟨d5.2.2.2.2.2.2.1, d5.2.2.2.2.2.2.2.1⟩ : ak), d5.2.2.2.2.2.2.2.2.1, d5.2.2.2.2.2.2.2.2.2.1, d5.2.2.2.2.2.2.2.2.2.2.1⟩ : ad) i4.2.1 i5.2.1 (⟨d5.2.2.2.2.2.2.2.2.2.2.2.2.2.2.2.2.2.2.2.2⟩ : az) i4.2.2.2.1 (⟨d23.model, d23.alternate, d23.size, d23.cells, d23.cursor, d23.attrs⟩ : ad) i23.1 i23.2 _ h25) (pc rm0 (pc rm5 (pc rm0 (pc rm0 (pc rm4 (pc rm0 (pc rm0 pn))))))) (fun i25 => ?_)); refine op J J (oe (av (av ?_))); replace h := aj h; obtain ⟨d26, h, hk26⟩ := h; refine cj (D := Unit) (ι := Unit) (fun _ i26 => True) (fun _ i26 => [(132, (O d26)), (19, (F i25 0)), (11, (F i4.2.2.2.2.1 0)), (10, (F i4.2.1 0)), (9, (F i4.1 0))]) (fun _ i26 => i5.1 :: blk i25 (zb7 d25 i23.1 i4.2.2.2.1) :: blk i4.2.2.2.2.1 (tr i4.2.2.2.2.2.1 d5.1 d5.2.1 d5.2.2.1 d5.2.2.2.1) :: blk i4.2.1 (zb9 d5.2.2.2.2.1 d5.2.2.2.2.2.1 d5.2.2.2.2.2.2.1 d5.2.2.2.2.2.2.2.1 i5.2.1 d5.2.2.2.2.2.2.2.2.2.1 d5.2.2.2.2.2.2.2.2.2.2.1) :: blk i4.1 (p8 i4.2.1 i4.2.2.2.1 d5.2.2.2.2.2.2.2.2.2.2.2.1 d5.2.2.2.2.2.2.2.2.2.2.2.2.1 d5.2.2.2.2.2.2.2.2.2.2.2.2.2.1) :: blk i23.1 (zb0 d23 i23.2) :: pgO i4.2.2.2.1 d5.2.2.2.2.2.2.2.2.2.2.2.2.2.2.2.2.2.2.2.2 :: blk i4.2.2.2.2.2.1 (zb3 d5.2.2.2.2.2.2.2.2.2.2.2.2.2.2.1 d5.2.2.2.2.2.2.2.2.2.2.2.2.2.2.2.1 d5.2.2.2.2.2.2.2.2.2.2.2.2.2.2.2.2.1 d5.2.2.2.2.2.2.2.2.2.2.2.2.2.2.2.2.2.1 i5.2.2 d5.2.2.2.2.2.2.2.2.2.2.2.2.2.2.2.2.2.2.2.1) :: Y i5.2.1 d5.2.2.2.2.2.2.2.2.1 :: Y i23.2 d23.cells :: Y i5.2.2 d5.2.2.2.2.2.2.2.2.2.2.2.2.2.2.2.2.2.2.1 :: R) ?_ ?_
   ·refine al (op J J (op J J (op J J ?_))); replace h := aj h; obtain ⟨d27, h27, h⟩ := h; refine o1 J (ai has22 J (jz i5.1 d25 i25 (⟨d23.model, d23.alternate, d23.size, d23.cells, d23.cursor, d23.attrs⟩ : ad) i23.1 i23.2 (⟨d5.2.2.2.2.2.2.2.2.2.2.2.2.2.2.2.2.2.2.2.2⟩ : az) i4.2.2.2.1 (⟨d5.1, d5.2.1, d5.2.2.1, d5.2.2.2.1⟩ : am) i4.2.2.2.2.1 (⟨d5.2.2.2.2.2.2.2.2.2.2.2.2.2.2.1, d5.2.2.2.2.2.2.2.2.2.2.2.2.2.2.2.1, (⟨d5.2.2.2.2.2.2.2.2.2.2.2.2.2.2.2.2.1, d5.2.2.2.2.2.2.2.2.2.2.2.2.2.2.2.2.2.1⟩ : ag), d5.2.2.2.2.2.2.2.2.2.2.2.2.2.2.2.2.2.2.1, d5.2.2.2.2.2.2.2.2.2.2.2.2.2.2.2.2.2.2.2.1⟩ : aa) i4.2.2.2.2.2.1 i5.2.2 _ h27) (pc rm0 (pc rm6 (pc rm4 (pc rm4 (pc rm2 (pc rm3 (pc rm3 (pc rm3 pn)))))))) ?_); refine ov (O (!d27)) J J ?_; refine op J J ?_; rcases aU ((!d27)) with hb1986 | hb1986
    ·replace h := ap hb1986 h; refine on J J J hb1986 ?_; refine on J J J hb1986 ?_; refine on J J J hb1986 ?_; refine o1 J (aI J hb1986 J ?_); refine aB ?_; obtain rfl := si h; exact ej () () trivial (sc J (sc J (sc J (sc J (sc J sn))))) (kc rm0 (kc rm3 (kc rm5 (kc rm5 (kc rm6 (kc rm0 (kc rm1 (kc rm1 (kc rm2 (kc rm0 (kc rm0 kr)))))))))))
    ·replace h := aq hb1986 h; refine oy J J J hb1986 (o_p J ?_); replace h := aj h; obtain ⟨d28, h28, h⟩ := h; refine oy J J J hb1986 (ai has36 J (mc i5.1 (⟨d5.2.2.2.2.2.2.2.2.2.2.2.1, d5.2.2.2.2.2.2.2.2.2.2.2.2.1, d5.2.2.2.2.2.2.2.2.2.2.2.2.2.1⟩ : ah) i4.1 (⟨d5.2.2.2.2.1, d5.2.2.2.2.2.1, (⟨d5.2.2.2.2.2.2.1, d5.2.2.2.2.2.2.2.1⟩ : ak), d5.2.2.2.2.2.2.2.2.1, d5.2.2.2.2.2.2.2.2.2.1, d5.2.2.2.2.2.2.2.2.2.2.1⟩ : ad) i4.2.1 i5.2.1 (⟨d5.2.2.2.2.2.2.2.2.2.2.2.2.2.2.2.2.2.2.2.2⟩ : az) i4.2.2.2.1 _ h28) (pc rm0 (pc rm9 (pc rm7 (pc rm7 (pc rm2 pn))))) ?_); refine oy J J J hb1986 (o_p (v := (O false)) J ?_); refine o1 J (aC J hb1986 J ?_); refine aB ?_; obtain rfl := si h; exact ej () () trivial (sc J (sc J (sc J (sc J (sc J sn))))) (kc rm0 (kc rm6 (kc rm8 (kc rm0 (kc rm2 (kc rm2 (kc rm1 (kc rm2 (kc rm0 (kc rm0 (kc rm0 kr)))))))))))
   ·rintro _ i26 _; replace h := hk26; clear hk26; refine aw ?_; refine aA (b := d26) J (fun hb1987 => ?_) (fun hb1987 => ?_)
    ·replace h := ap hb1987 h; refine cr (op J J (oe (aG ?_))); refine ar (aF ?_); refine ay J J (kc rm0 (kd (kd (kd (kd (kd (kd (kd (kd (kd (kd kr))))))))))) ?_; obtain rfl := si h; exact hk i5.1 f5_0
    ·replace h := aq hb1987 h; refine aH (aw (cr (op J J ?_))); refine o1 J (aT (fs := f_3) (ps := [(0, 1), (1, 1), (2, 1)]) (cs := [(I 17), (.int .i32 0), (I 0)]) J J J J J ?_); replace h := aj h; obtain ⟨d30, h30, h⟩ := h; refine o1 J (ai pW J (ey i5.1 d25 i25 (⟨d23.model, d23.alternate, d23.size, d23.cells, d23.cursor, d23.attrs⟩ : ad) i23.1 i23.2 (⟨d5.2.2.2.2.2.2.2.2.2.2.2.2.2.2.2.2.2.2.2.2⟩ : az) i4.2.2.2.1 (⟨17, 0, 0⟩ : bR) _ h30) (pc rm0 (pc rm0 (pc rm3 (pc rm6 (pc rm3 pn))))) (fun i30 f30_0 => ?_)); refine oe (cr (op J J ?_)); refine o1 J (aT (fs := f_3) (ps := [(0, 1), (1, 1), (2, 1)]) (cs := [(I 12), (.int .i32 0), (I 0)]) J J J J J ?_); replace h := aj h; obtain ⟨d31, h31, h⟩ := h; refine o1 J (ai pW J (ey i30.1 d30.2.2.1 i25 (⟨d30.1.model, d30.1.alternate, d30.1.size, d30.1.cells, d30.1.cursor, d30.1.attrs⟩ : ad) i23.1 i30.2 (⟨d30.2.1.number⟩ : az) i4.2.2.2.1 (⟨12, 0, 0⟩ : bR) _ h31) (pc rm0 (pc rm3 (pc rm0 (pc rm0 (pc rm0 pn))))) (fun i31 f31_0 => ?_)); refine oe (cr (op J J ?_)); refine o1 J (aT (fs := f_3) (ps := [(0, 1), (1, 1), (2, 1)]) (cs := [(I 16), (.int .i32 0), (I 0)]) J J J J J ?_); replace h := aj h; obtain ⟨d32, h32, h⟩ := h; refine o1 J (ai pW J (ey i31.1 d31.2.2.1 i25 (⟨d31.1.model, d31.1.alternate, d31.1.size, d31.1.cells, d31.1.cursor, d31.1.attrs⟩ : ad) i23.1 i31.2 (⟨d31.2.1.number⟩ : az) i4.2.2.2.1 (⟨16, 0, 0⟩ : bR) _ h32) (pc rm0 (pc rm3 (pc rm0 (pc rm0 (pc rm0 pn))))) (fun i32 f32_0 => ?_)); refine oe (cr (op J J (op J J ?_))); refine op J J ?_; replace h := aj h; obtain ⟨d33, h33, h⟩ := h; refine o1 J (ai has22 J (jz i32.1 (⟨d5.2.2.2.2.2.2.2.2.2.2.2.1, d5.2.2.2.2.2.2.2.2.2.2.2.2.1, d5.2.2.2.2.2.2.2.2.2.2.2.2.2.1⟩ : ah) i4.1 (⟨d5.2.2.2.2.1, d5.2.2.2.2.2.1, (⟨d5.2.2.2.2.2.2.1, d5.2.2.2.2.2.2.2.1⟩ : ak), d5.2.2.2.2.2.2.2.2.1, d5.2.2.2.2.2.2.2.2.2.1, d5.2.2.2.2.2.2.2.2.2.2.1⟩ : ad) i4.2.1 i5.2.1 (⟨d32.2.1.number⟩ : az) i4.2.2.2.1 (⟨d5.1, d5.2.1, d5.2.2.1, d5.2.2.2.1⟩ : am) i4.2.2.2.2.1 (⟨d5.2.2.2.2.2.2.2.2.2.2.2.2.2.2.1, d5.2.2.2.2.2.2.2.2.2.2.2.2.2.2.2.1, (⟨d5.2.2.2.2.2.2.2.2.2.2.2.2.2.2.2.2.1, d5.2.2.2.2.2.2.2.2.2.2.2.2.2.2.2.2.2.1⟩ : ag), d5.2.2.2.2.2.2.2.2.2.2.2.2.2.2.2.2.2.2.1, d5.2.2.2.2.2.2.2.2.2.2.2.2.2.2.2.2.2.2.2.1⟩ : aa) i4.2.2.2.2.2.1 i5.2.2 _ h33) (pc rm0 (pc rm6 (pc rm5 (pc rm6 (pc rm2 (pc rm3 (pc rm3 (pc rm3 pn)))))))) ?_); refine op J J (oe (aG (aF ?_))); refine ay J J (kc rm0 (kd (kd (kd (kd (kd (kd (kd (kd (kd (kd kr))))))))))) ?_; obtain rfl := si h; exact hk i32.1 (Ext.trans (Ext.trans (Ext.trans f5_0 f30_0) f31_0) f32_0)

end Go.Vt
set_option linter.unusedVariables false
set_option maxRecDepth 100000
set_option maxHeartbeats 4000000
namespace Go.Vt
open Go.Proofs
end Go.Vt
set_option linter.unusedVariables false
set_option linter.unusedSimpArgs false
namespace Go.Vt
theorem aX {α : Type} {c : Prop} [Decidable c] {x : Option α} (h : c) : gd c x = x := by unfold gd; rw [if_pos h]
theorem c3 {x : Int} (h1 : -9223372036854775808 ≤ x) (h2 : x < 9223372036854775808) : w64 x = x := by
 unfold w64 IntKind.wrap; simp only [IntKind.bits, IntKind.signed, Bool.true_and]
 split
 ·rename_i h1; simp at h1; omega
 ·rename_i h1; simp at h1; omega
theorem gp {n : Nat} (h : n < 9223372036854775807) : w64 ((n : Int) + 1) = ((n + 1 : Nat) : Int) := by rw [c3 (by omega) (by omega)]; omega
theorem nv {a b : Int} (h : a ≠ b) : (a != b) = true := by simp [h]
theorem nw {a b : Int} (h : a = b) : (a != b) = false := by simp [h]
theorem jA {a b : Int} (h : a = b) : (a == b) = true := by simp [h]
theorem cN {a b : Int} (h : a ≠ b) : (a == b) = false := by simp [h]
theorem rdn {τ : Type} [Inhabited τ] {l : List τ} {n : Nat} (h : n < l.length) : rd l (n : Int) = l[n] := by
 unfold rd; simp [List.getD_eq_getElem?_getD, h]
/-- n steps from i on -/
def rh {σ : Type} (step : Nat → σ → σ) : Nat → Nat → σ → σ
 | _, 0, s => s
 | i, m + 1, s => rh step (i + 1) m (step i s)
/-- a loop that counts -/
theorem pP {σ ρ : Type} {L : Nat → Int × σ → Option ρ} {n : Nat} (step : Nat → σ → σ) (Inv : Nat → σ → Prop) (r : σ → ρ)
  (h : ∀ k i s, i < n → Inv i s → L (k + 1) ((i : Int), s) = L k (((i + 1 : Nat) : Int), step i s))
  (hi : ∀ i s, i < n → Inv i s → Inv (i + 1) (step i s))
  (he : ∀ k s, Inv n s → L (k + 1) ((n : Int), s) = some (r s)) :
  ∀ (m i k : Nat) (s : σ), i + m = n → m < k → Inv i s → L k ((i : Int), s) = some (r (rh step i m s)) ∧ Inv n (rh step i m s)
 | 0, i, k, s, e, hk, hI => by
  obtain ⟨k, rfl⟩ : ∃ j, k = j + 1 := ⟨k - 1, by omega⟩
  have : i = n := by omega
  subst this
  exact ⟨he k s hI, hI⟩
 | m + 1, i, k, s, e, hk, hI => by
  obtain ⟨k, rfl⟩ : ∃ j, k = j + 1 := ⟨k - 1, by omega⟩
  rw [h k i s (by omega) hI]
  exact pP step Inv r h hi he m (i + 1) k _ (by omega) (by omega) (hi i s (by omega) hI)
/-- the same from 0 on -/
theorem loop_0 {σ ρ : Type} {L : Nat → Int × σ → Option ρ} {n : Nat} (step : Nat → σ → σ) (Inv : Nat → σ → Prop) (r : σ → ρ) {s : σ} (hn : n ≤ 9223372036854775807)
  (h : ∀ k i s, i < n → Inv i s → L (k + 1) ((i : Int), s) = L k (((i + 1 : Nat) : Int), step i s))
  (hi : ∀ i s, i < n → Inv i s → Inv (i + 1) (step i s))
  (he : ∀ k s, Inv n s → L (k + 1) ((n : Int), s) = some (r s)) (h0 : Inv 0 s) :
  L bw (0, s) = some (r (rh step 0 n s)) ∧ Inv n (rh step 0 n s) :=
 pP step Inv r h hi he n 0 bw s (by omega) (by unfold bw; omega) h0
/-- a loop that counts, its state known by what it says -/
theorem rf {σ ρ : Type} {L : Nat → Int × σ → Option ρ} {n : Nat} (Inv : Nat → σ → Prop) (Post : ρ → Prop)
  (h : ∀ k i s, i < n → Inv i s → ∃ s', L (k + 1) ((i : Int), s) = L k (((i + 1 : Nat) : Int), s') ∧ Inv (i + 1) s')
  (he : ∀ k s, Inv n s → ∃ r, L (k + 1) ((n : Int), s) = some r ∧ Post r) :
  ∀ (m i k : Nat) (s : σ), i + m = n → m < k → Inv i s → ∃ r, L k ((i : Int), s) = some r ∧ Post r
 | 0, i, k, s, e, hk, hI => by
  obtain ⟨k, rfl⟩ : ∃ j, k = j + 1 := ⟨k - 1, by omega⟩
  have : i = n := by omega
  subst this
  exact he k s hI
 | m + 1, i, k, s, e, hk, hI => by
  obtain ⟨k, rfl⟩ : ∃ j, k = j + 1 := ⟨k - 1, by omega⟩
  obtain ⟨s', h1, h2⟩ := h k i s (by omega) hI
  rw [h1]
  exact rf Inv Post h he m (i + 1) k _ (by omega) (by omega) h2
theorem iz {σ ρ : Type} {L : Nat → Int × σ → Option ρ} {n : Nat} (Inv : Nat → σ → Prop) (Post : ρ → Prop) {s : σ} (hn : n ≤ 9223372036854775807)
  (h : ∀ k i s, i < n → Inv i s → ∃ s', L (k + 1) ((i : Int), s) = L k (((i + 1 : Nat) : Int), s') ∧ Inv (i + 1) s')
  (he : ∀ k s, Inv n s → ∃ r, L (k + 1) ((n : Int), s) = some r ∧ Post r) (h0 : Inv 0 s) : ∃ r, L bw (0, s) = some r ∧ Post r :=
 rf Inv Post h he n 0 bw s (by omega) (by unfold bw; omega) h0
end Go.Vt
set_option linter.unusedVariables false
set_option linter.unusedSimpArgs false
namespace Go.Vt
def By (n : Int) : Prop := 0 ≤ n ∧ n < 256
def Bs (l : List Int) : Prop := ∀ n ∈ l, By n
theorem By.fin {n : Int} (h : By n) : ∃ f : Fin 256, (f.val : Int) = n := ⟨⟨n.toNat, by have := h.1; have := h.2; omega⟩, by have := h.1; simp; omega⟩
theorem nR {x : Int} (h : By x) : IntKind.wrap .u8 x = x := by
 have h1 := h.1; have h2 := h.2
 unfold IntKind.wrap; simp only [IntKind.bits, IntKind.signed, Bool.false_and]
 simp; omega
theorem Bs.drop {l : List Int} (h : Bs l) (n : Nat) : Bs (l.drop n) := fun x hx => h x (List.mem_of_mem_drop hx)
theorem Bs.take {l : List Int} (h : Bs l) (n : Nat) : Bs (l.take n) := fun x hx => h x (List.mem_of_mem_take hx)
theorem two {l : List Int} (h : l.length = 2) : ∃ a b, l = [a, b] := by
 match l, h with
 | [a, b], _ => exact ⟨a, b, rfl⟩
theorem one {l : List Int} (h : l.length = 1) : ∃ a, l = [a] := by
 match l, h with
 | [a], _ => exact ⟨a, rfl⟩
end Go.Vt
set_option linter.unusedVariables false
set_option linter.unusedSimpArgs false
namespace Go.Vt
structure Dim (r c : Int) (N : Nat) : Prop where
 d : (r = 24 ∧ c = 80 ∧ N = 1920) ∨ (r = 32 ∧ c = 80 ∧ N = 2560) ∨ (r = 43 ∧ c = 80 ∧ N = 3440) ∨ (r = 27 ∧ c = 132 ∧ N = 3564)
theorem Dim.le {r c : Int} {N : Nat} (h : Dim r c N) : 1920 ≤ N ∧ N ≤ 3564 := by rcases h.d with ⟨_, _, h⟩ | ⟨_, _, h⟩ | ⟨_, _, h⟩ | ⟨_, _, h⟩ <;> omega
/-- a whole number as Go has it -/
def I64 (n : Int) : Prop := -9223372036854775808 ≤ n ∧ n < 9223372036854775808
theorem lj {r c : Int} {N : Nat} (h : Dim r c N) : cZ ⟨r, c⟩ = some true := by
 rcases h.d with ⟨rfl, rfl, rfl⟩ | ⟨rfl, rfl, rfl⟩ | ⟨rfl, rfl, rfl⟩ | ⟨rfl, rfl, rfl⟩ <;> decide +kernel
theorem ni {r c : Int} {N : Nat} (h : Dim r c N) : cl ⟨r, c⟩ = some (N : Int) := by
 rcases h.d with ⟨rfl, rfl, rfl⟩ | ⟨rfl, rfl, rfl⟩ | ⟨rfl, rfl, rfl⟩ | ⟨rfl, rfl, rfl⟩ <;> decide +kernel
theorem ox {n : Int} {N : Nat} (hN : 0 < N) : (0 ≤ n.tmod N ∧ n.tmod N = n % N) ∨ (n.tmod N < 0 ∧ n.tmod N + N = n % N) := by
 have hN' : (0 : Int) < N := by omega
 have h3 := Int.emod_nonneg n (show (N : Int) ≠ 0 by omega)
 have h4 := Int.emod_lt_of_pos n hN'
 by_cases h : 0 ≤ n
 ·left
  have h1 := Int.tmod_eq_emod_of_nonneg (b := (N : Int)) h
  exact ⟨by rw [h1]; exact h3, h1⟩
 ·have h1 : n.tmod N = -((-n) % N) := by
   rw [← Int.tmod_eq_emod_of_nonneg (show 0 ≤ -n by omega), Int.neg_tmod]; omega
  have h5 := Int.emod_nonneg (-n) (show (N : Int) ≠ 0 by omega)
  have h6 := Int.emod_lt_of_pos (-n) hN'
  have h7 : n = N * (n / N) + n % N := (Int.mul_ediv_add_emod n N).symm
  have h8 : -n = N * (-n / N) + (-n) % N := (Int.mul_ediv_add_emod (-n) N).symm
  have h9 : (N : Int) * (n / N + -n / N) + (n % N + (-n) % N) = 0 := by rw [Int.mul_add]; omega
  generalize hq : n / (N : Int) + -n / (N : Int) = q at h9
  by_cases hz : (-n) % (N : Int) = 0
  ·left
   have : q = 0 := by
    rcases Int.lt_trichotomy q 0 with hq0 | hq0 | hq0
    ·have : (N : Int) * q ≤ N * (-1) := Int.mul_le_mul_of_nonneg_left (by omega) (by omega)
     omega
    ·exact hq0
    ·have : (N : Int) * 1 ≤ N * q := Int.mul_le_mul_of_nonneg_left (by omega) (by omega)
     omega
   subst this; rw [Int.mul_zero] at h9
   exact ⟨by omega, by omega⟩
  ·right
   have : q = -1 := by
    rcases Int.lt_trichotomy q (-1) with hq0 | hq0 | hq0
    ·have : (N : Int) * q ≤ N * (-2) := Int.mul_le_mul_of_nonneg_left (by omega) (by omega)
     omega
    ·exact hq0
    ·have : (N : Int) * 0 ≤ N * q := Int.mul_le_mul_of_nonneg_left (by omega) (by omega)
     omega
   subst this
   exact ⟨by omega, by omega⟩
theorem oh {n : Int} {N : Nat} (hN : 0 < N) (h2 : N ≤ 1000000) : fI n N = some (n % N) := by
 unfold fI
 rw [aX (by omega)]
 have h4 := Int.emod_lt_of_pos n (show (0 : Int) < N by omega)
 have h5 := Int.emod_nonneg n (show (N : Int) ≠ 0 by omega)
 rcases ox (n := n) hN with ⟨h, h3⟩ | ⟨h, h3⟩
 ·have d1 : decide (n.tmod N < 0) = false := decide_eq_false (by omega)
  simp only [d1, cond_false, Option.bind_some]; rw [h3]
 ·have d1 : decide (n.tmod N < 0) = true := decide_eq_true h
  simp only [d1, cond_true, Option.bind_some]
  rw [h3, c3 (by omega) (by omega)]
theorem mS {r c : Int} {N : Nat} (h : Dim r c N) (n : Int) : aP ⟨r, c⟩ n = some (n % N) := by
 have := h.le
 unfold aP; simp only [lj h, ni h, Option.bind_some, Bool.not_true, cond_false]
 rw [oh (by omega) (by omega)]; rfl
/-! ### the document's -/
theorem pH {r c : Int} {N : Nat} (h : Dim r c N) : dI ⟨r, c⟩ = some true := by
 rcases h.d with ⟨rfl, rfl, rfl⟩ | ⟨rfl, rfl, rfl⟩ | ⟨rfl, rfl, rfl⟩ | ⟨rfl, rfl, rfl⟩ <;> decide +kernel
theorem lO {r c : Int} {N : Nat} (h : Dim r c N) : df ⟨r, c⟩ = some (N : Int) := by
 rcases h.d with ⟨rfl, rfl, rfl⟩ | ⟨rfl, rfl, rfl⟩ | ⟨rfl, rfl, rfl⟩ | ⟨rfl, rfl, rfl⟩ <;> decide +kernel
theorem lu {n : Int} {N : Nat} (hN : 0 < N) (h2 : N ≤ 1000000) : bx n N = some (n % N) := by
 unfold bx
 have d1 : decide ((N : Int) < 1) = false := decide_eq_false (by omega)
 have h4 := Int.emod_lt_of_pos n (show (0 : Int) < N by omega)
 have h5 := Int.emod_nonneg n (show (N : Int) ≠ 0 by omega)
 simp only [d1, cond_false]
 rw [aX (by omega), aX (by omega)]
 rcases ox (n := n) hN with ⟨h, h3⟩ | ⟨h, h3⟩
 ·rw [c3 (by omega) (by omega), h3, Int.tmod_eq_emod_of_nonneg (by omega), Int.add_emod_right, Int.emod_emod]
 ·rw [c3 (by omega) (by omega), h3, Int.tmod_eq_emod_of_nonneg (by omega), Int.emod_emod]
theorem qS {r c : Int} {N : Nat} (h : Dim r c N) (n : Int) : dz ⟨r, c⟩ n = some (n % N) := by
 have := h.le
 unfold dz; simp only [lO h, Option.bind_some]
 rw [lu (by omega) (by omega)]; rfl
/-! ### cells -/
abbrev zc : ae := ⟨0, false, 0, 0, 0, 0⟩
/-- a cell as it may stand -/
structure COk (c : ae) : Prop where
 char : By c.Char
 fa : By c.FA
 high : By c.High
 color : By c.Color
 set : By c.f_Set
 attr : c.Attr = true → c.Char = 0 ∧ bU .u8 c.FA 61 = c.FA
 plain : c.Attr = false → c.FA = 0
def fit (c : ae) : ae := if c.Attr then { c with Char := 0, FA := bU .u8 c.FA 61 } else { c with FA := 0 }
theorem COk.fit {c : ae} (h : COk c) : fit c = c := by
 unfold Vt.fit
 cases ha : c.Attr with
 | true => obtain ⟨h1, h2⟩ := h.attr ha; simp only [if_true]; rw [h2, ← h1]; cases c; simp_all
 | false => have h1 := h.plain ha; simp only [Bool.false_eq_true, if_false]; rw [← h1]; cases c; simp_all
instance (n : Int) : Decidable (By n) := by unfold By; infer_instance
theorem band61 : ∀ f : Fin 256, By (bU .u8 (f.val : Int) 61) ∧ bU .u8 (bU .u8 (f.val : Int) 61) 61 = bU .u8 (f.val : Int) 61 ∧ ga (f.val : Int) = some (bU .u8 (f.val : Int) 61) := by decide +kernel
/-- what is told of a cell: bytes -/
structure CB (c : ae) : Prop where
 char : By c.Char
 fa : By c.FA
 high : By c.High
 color : By c.Color
 set : By c.f_Set
theorem COk.cb {c : ae} (h : COk c) : CB c := ⟨h.char, h.fa, h.high, h.color, h.set⟩
theorem by0 : By 0 := ⟨by omega, by omega⟩
theorem fit_ok {c : ae} (h : CB c) : COk (Vt.fit c) := by
 unfold Vt.fit; obtain ⟨f, hf⟩ := h.fa.fin; obtain ⟨b1, b2, _⟩ := band61 f; rw [hf] at b1 b2
 cases ha : c.Attr with
 | true => simp only [if_true]; exact ⟨by0, b1, h.high, h.color, h.set, fun _ => ⟨rfl, b2⟩, (fun e => by cases e)⟩
 | false => simp only [Bool.false_eq_true, if_false]; exact ⟨h.char, by0, h.high, h.color, h.set, (fun e => by cases e), fun _ => rfl⟩
theorem sx : COk zc := ⟨by0, by0, by0, by0, by0, (fun h => by cases h), fun _ => rfl⟩
theorem rfit_ok {c : ae} (h : CB c) : fi c = some (Vt.fit c) := by
 obtain ⟨f, hf⟩ := h.fa.fin; obtain ⟨_, _, b3⟩ := band61 f; rw [hf] at b3; unfold fi Vt.fit
 cases ha : c.Attr with
 | true => simp only [cond_true, b3, Option.bind_some, if_true]
 | false => simp only [cond_false, Option.bind_some, Bool.false_eq_true, if_false]
/-! ### the document's space -/
/-- model, and which size -/
def mj (m : Int) (alt : Bool) (r c : Int) (N : Nat) : Prop := if alt then (m = 2 ∧ r = 24 ∧ c = 80 ∧ N = 1920) ∨ (m = 3 ∧ r = 32 ∧ c = 80 ∧ N = 2560) ∨ (m = 4 ∧ r = 43 ∧ c = 80 ∧ N = 3440) ∨ (m = 5 ∧ r = 27 ∧ c = 132 ∧ N = 3564) else r = 24 ∧ c = 80 ∧ N = 1920
theorem mj.dim {m : Int} {alt : Bool} {r c : Int} {N : Nat} (h : mj m alt r c N) : Dim r c N := by
 unfold mj at h
 cases alt with
 | true =>
  simp only [if_true] at h; rcases h with ⟨_, h⟩ | ⟨_, h⟩ | ⟨_, h⟩ | ⟨_, h⟩
  ·exact ⟨.inl h⟩
  ·exact ⟨.inr (.inl h)⟩
  ·exact ⟨.inr (.inr (.inl h))⟩
  ·exact ⟨.inr (.inr (.inr h))⟩
 | false => simp only [Bool.false_eq_true, if_false] at h; exact ⟨.inl h⟩
structure RS (m : Int) (N : Nat) (x : aa) : Prop where
 model : x.Model = m
 dim : mj m x.Alt x.Size.Rows x.Size.Cols N
 len : x.L.length = N
 ok : ∀ c ∈ x.L, COk c
 cur : 0 ≤ x.Cursor ∧ x.Cursor < N
theorem f5 {m : Int} {N : Nat} {x : aa} (h : RS m N x) (n : Int) : aZ x n = some (n % N) := by
 unfold aZ; rw [show x.Size = ⟨x.Size.Rows, x.Size.Cols⟩ from rfl, qS h.dim.dim]; rfl
theorem jN (n : Int) {N : Nat} (h : 0 < N) : ∃ k : Nat, n % N = (k : Int) ∧ k < N := by
 have h4 := Int.emod_lt_of_pos n (show (0 : Int) < N by omega)
 have h5 := Int.emod_nonneg n (show (N : Int) ≠ 0 by omega)
 exact ⟨(n % N).toNat, by omega, by omega⟩
theorem rs_at {m : Int} {N : Nat} {x : aa} (h : RS m N x) (n : Int) : fA x n = some (rd x.L (n % N)) := by
 have hd := h.dim.dim.le
 obtain ⟨k, hk, hlt⟩ := jN n (N := N) (by omega)
 unfold fA
 have hl := h.len
 simp only [f5 h, Option.bind_some]
 rw [aX (by omega)]
theorem fS {τ : Type} [Inhabited τ] {l : List τ} {n : Int} (h : 0 ≤ n ∧ n < l.length) : rd l n ∈ l := List.mem_of_getElem? (nT h)
theorem mr {m : Int} {N : Nat} {x : aa} (h : RS m N x) (n : Int) {c : ae} (hc : CB c) :
  bI x n c = some ⟨x.Model, x.Alt, x.Size, x.L.set (n % N).toNat (Vt.fit c), x.Cursor⟩ ∧ RS m N ⟨x.Model, x.Alt, x.Size, x.L.set (n % N).toNat (Vt.fit c), x.Cursor⟩ := by
 have hd := h.dim.dim.le
 obtain ⟨k, hk, hlt⟩ := jN n (N := N) (by omega)
 have hl := h.len
 refine ⟨?_, h.model, h.dim, by simp [hl], fun d hd' => ?_, h.cur⟩
 ·unfold bI; simp only [f5 h, rfit_ok hc, Option.bind_some]
  rw [aX (by omega)]
 ·rcases List.mem_or_eq_of_mem_set hd' with h1 | h1
  ·exact h.ok d h1
  ·rw [h1]; exact fit_ok hc
theorem rs_put {m : Int} {N : Nat} {x : aa} (h : RS m N x) (n : Int) {c : Int} (hc : By c) : ∃ x', bn x n c = some x' ∧ RS m N x' ∧ x'.Alt = x.Alt := by
 have hd := h.dim.dim.le
 obtain ⟨k, hk, hlt⟩ := jN n (N := N) (by omega)
 have hl := h.len
 have hm := h.ok _ (fS (l := x.L) (n := n % N) (by omega))
 unfold bn; simp only [rs_at h, Option.bind_some]
 cases ha : (rd x.L (n % N)).Attr with
 | true => simp only [Bool.not_true, cond_false]; exact ⟨_, rfl, h, rfl⟩
 | false =>
  simp only [Bool.not_false, cond_true]; obtain ⟨h1, h2⟩ := mr h n (c := ⟨c, false, (rd x.L (n % N)).FA, (rd x.L (n % N)).High, (rd x.L (n % N)).Color, (rd x.L (n % N)).f_Set⟩) ⟨hc, hm.fa, hm.high, hm.color, hm.set⟩
  have h1' : bI ⟨x.Model, x.Alt, x.Size, x.L, x.Cursor⟩ n _ = _ := h1
  rw [h1']; exact ⟨_, rfl, h2, rfl⟩
def kT (m : Int) : Prop := m = 2 ∨ m = 3 ∨ m = 4 ∨ m = 5
def nOf (m : Int) (alt : Bool) : Nat := if alt then (if m = 2 then 1920 else if m = 3 then 2560 else if m = 4 then 3440 else 3564) else 1920
def rOf (m : Int) (alt : Bool) : Int := if alt then (if m = 2 then 24 else if m = 3 then 32 else if m = 4 then 43 else 27) else 24
def cOf (m : Int) (alt : Bool) : Int := if alt then (if m = 5 then 132 else 80) else 80
theorem o8 {m : Int} (h : kT m) (alt : Bool) : mj m alt (rOf m alt) (cOf m alt) (nOf m alt) := by
 unfold mj rOf cOf nOf; rcases h with rfl | rfl | rfl | rfl <;> cases alt <;> simp
theorem mj.n {m : Int} {alt : Bool} {r c : Int} {N : Nat} (h : mj m alt r c N) : r = rOf m alt ∧ c = cOf m alt ∧ N = nOf m alt := by
 unfold mj at h; unfold rOf cOf nOf
 cases alt with
 | true => simp only [if_true] at h; rcases h with ⟨rfl, rfl, rfl, rfl⟩ | ⟨rfl, rfl, rfl, rfl⟩ | ⟨rfl, rfl, rfl, rfl⟩ | ⟨rfl, rfl, rfl, rfl⟩ <;> simp
 | false => simpa using h
def clr (m : Int) (alt : Bool) : aa := ⟨m, alt, ⟨rOf m alt, cOf m alt⟩, List.replicate (nOf m alt) zc, 0⟩
theorem rL {m : Int} (h : kT m) (alt : Bool) : RS m (nOf m alt) (clr m alt) := by
 have hd := o8 h alt
 have := hd.dim.le
 exact ⟨rfl, hd, by simp [clr], fun c hc => by rw [(List.mem_replicate.1 hc).2]; exact sx, by simp only [clr]; omega⟩
theorem nx {m : Int} (h : kT m) : cE m = some (⟨rOf m true, cOf m true⟩, true) := by
 rcases h with rfl | rfl | rfl | rfl <;> decide +kernel
theorem ny {x : aa} {m : Int} (h : kT m) (hx : x.Model = m) (alt : Bool) : dm x alt = some (clr m alt) ∧ eD x alt = some (clr m alt) := by
 have h2 := nx (m := 2) (.inl rfl)
 have hm := nx h
 have hd := o8 h alt
 have hle := hd.dim.le
 unfold dm eD; simp only [h2, hm, hx, Option.bind_some]
 cases alt with
 | true =>
  simp only [cond_true, Option.bind_some, lO hd.dim]
  rw [aX (show (0 : Int) ≤ (nOf m true : Int) ∧ (nOf m true : Int) ≤ 68719476736 by omega)]
  exact ⟨rfl, rfl⟩
 | false =>
  have hd' : Dim (rOf 2 true) (cOf 2 true) (nOf m false) := ⟨.inl ⟨rfl, rfl, rfl⟩⟩
  simp only [cond_false, Option.bind_some, lO hd']
  rw [aX (show (0 : Int) ≤ (nOf m false : Int) ∧ (nOf m false : Int) ≤ 68719476736 by omega)]
  exact ⟨rfl, rfl⟩
theorem rnew_ok {m : Int} (h : kT m) : fh m = some (.inr (clr m false)) := by
 unfold fh; simp only [nx h, Option.bind_some, Bool.not_true, cond_false]; rw [(ny h (x := ⟨m, false, ⟨0, 0⟩, [], 0⟩) rfl false).2]; rfl
end Go.Vt
set_option linter.unusedVariables false
set_option linter.unusedSimpArgs false
namespace Go.Vt
structure AOk (a : aM) : Prop where
 do_ : By a.Do
 code : By a.Code
 c : CB a.C
 text : Bs a.Text
 len : a.Text.length ≤ 9223372036854775807
abbrev T6 := Int × Bool × Int × Int × List ae × Int
abbrev of6 (y : T6) : aa := ⟨y.1, y.2.1, ⟨y.2.2.1, y.2.2.2.1⟩, y.2.2.2.2.1, y.2.2.2.2.2⟩
theorem do_loop {m : Int} {N : Nat} {a : aM} (ha : AOk a) {y : T6} (h : RS m N (of6 y)) : ∃ r : T6, c7 a bw (0, y) = some r ∧ RS m N (of6 r) := by
 refine iz (L := c7 a) (n := a.Text.length) (fun _ y => RS m N (of6 y)) (fun r => RS m N (of6 r)) (by have := ha.len; omega) ?_ ?_ h
 ·intro k i y hi hy
  have hle := hy.dim.dim.le
  rw [c7.eq_2]
  have hlen := ha.len
  have d1 : decide ((i : Int) < (a.Text.length : Int)) = true := decide_eq_true (by omega)
  simp only [d1, cond_true]
  rw [aX (by omega)]
  by_cases h2 : i < 200
  ·have d2 : decide ((i : Int) < 200) = true := decide_eq_true (by omega)
   have hB : By (rd a.Text (i : Int)) := ha.text _ (fS (by omega))
   obtain ⟨j, hj, hjl⟩ := jN a.N (N := N) (by omega)
   obtain ⟨x', h3, h4, _⟩ := rs_put hy (w64 (a.N % N + i)) hB
   simp only [d2, cond_true, f5 hy, Option.bind_some, h3, gp (show i < 9223372036854775807 by omega)]
   exact ⟨_, rfl, h4⟩
  ·have d2 : decide ((i : Int) < 200) = false := decide_eq_false (by omega)
   simp only [d2, cond_false, Option.bind_some, gp (show i < 9223372036854775807 by omega)]
   exact ⟨_, rfl, hy⟩
 ·intro k y hy; rw [c7.eq_2]
  have d1 : decide ((a.Text.length : Int) < (a.Text.length : Int)) = false := decide_eq_false (by omega)
  simp only [d1, cond_false]; exact ⟨_, rfl, hy⟩
theorem RS.nof {m : Int} {N : Nat} {x : aa} (h : RS m N x) : N = nOf m x.Alt := h.dim.n.2.2
theorem tmod6 {n : Int} (h : By n) : 0 ≤ n.tmod 6 ∧ n.tmod 6 < 6 := by
 have := h.1
 rw [Int.tmod_eq_emod_of_nonneg this]; omega
theorem rs_do {m : Int} {N : Nat} (hm : kT m) {x : aa} (h : RS m N x) {a : aM} (ha : AOk a) : ∃ N' x', dO x a = some x' ∧ RS m N' x' := by
 have hle := h.dim.dim.le
 unfold dO
 have h6 := tmod6 ha.do_
 generalize hz : a.Do.tmod 6 = z at h6 ⊢
 have hx : (⟨x.Model, x.Alt, x.Size, x.L, x.Cursor⟩ : aa) = x := rfl
 obtain ⟨j, hj, hjl⟩ := jN a.N (N := N) (by omega)
 have cases6 : z = 0 ∨ z = 1 ∨ z = 2 ∨ z = 3 ∨ z = 4 ∨ z = 5 := by omega
 rcases cases6 with rfl | rfl | rfl | rfl | rfl | rfl
 ·have e0 : ((0 : Int) == 0) = true := rfl
  simp only [e0, cond_true, (ny hm h.model a.On).1, Option.bind_some]; exact ⟨_, _, rfl, rL hm a.On⟩
 ·have e0 : ((1 : Int) == 0) = false := rfl
  have e1 : ((1 : Int) == 1) = true := rfl
  simp only [e0, e1, cond_true, cond_false, hx, f5 h, Option.bind_some]
  exact ⟨_, _, rfl, ⟨h.model, h.dim, h.len, h.ok, by simp only; omega⟩⟩
 ·obtain ⟨x', h1, h2, _⟩ := rs_put h a.N ha.code
  have e0 : ((2 : Int) == 0) = false := rfl
  have e1 : ((2 : Int) == 1) = false := rfl
  have e2 : ((2 : Int) == 2) = true := rfl
  simp only [e0, e1, e2, cond_true, cond_false, hx, h1, Option.bind_some]; exact ⟨_, _, rfl, h2⟩
 ·obtain ⟨h1, h2⟩ := mr h a.N (c := ⟨0, true, a.Code, 0, 0, 0⟩) ⟨by0, ha.code, by0, by0, by0⟩
  have e0 : ((3 : Int) == 0) = false := rfl
  have e1 : ((3 : Int) == 1) = false := rfl
  have e2 : ((3 : Int) == 2) = false := rfl
  have e3 : ((3 : Int) == 3) = true := rfl
  simp only [e0, e1, e2, e3, cond_true, cond_false, hx, h1, Option.bind_some]; exact ⟨_, _, rfl, h2⟩
 ·obtain ⟨h1, h2⟩ := mr h a.N ha.c
  have e0 : ((4 : Int) == 0) = false := rfl
  have e1 : ((4 : Int) == 1) = false := rfl
  have e2 : ((4 : Int) == 2) = false := rfl
  have e3 : ((4 : Int) == 3) = false := rfl
  have e4 : ((4 : Int) == 4) = true := rfl
  simp only [e0, e1, e2, e3, e4, cond_true, cond_false, hx, h1, Option.bind_some]; exact ⟨_, _, rfl, h2⟩
 ·obtain ⟨r, h1, h2⟩ := do_loop ha (y := (x.Model, x.Alt, x.Size.Rows, x.Size.Cols, x.L, x.Cursor)) h
  have e0 : ((5 : Int) == 0) = false := rfl
  have e1 : ((5 : Int) == 1) = false := rfl
  have e2 : ((5 : Int) == 2) = false := rfl
  have e3 : ((5 : Int) == 3) = false := rfl
  have e4 : ((5 : Int) == 4) = false := rfl
  simp only [e0, e1, e2, e3, e4, cond_true, cond_false, h1, Option.bind_some]; exact ⟨_, _, rfl, h2⟩
/-! ### the program's space -/
def cnt (l : List ae) : Int := ((l.filter (·.Attr)).length : Int)
theorem cnt_le (l : List ae) : 0 ≤ cnt l ∧ cnt l ≤ l.length := by
 have := List.length_filter_le (fun c : ae => c.Attr) l
 unfold cnt; omega
theorem cnt_app (a b : List ae) : cnt (a ++ b) = cnt a + cnt b := by unfold cnt; simp [List.filter_append]
def c1 (c : ae) : Int := if c.Attr then 1 else 0
theorem ph (c : ae) (l : List ae) : cnt (c :: l) = c1 c + cnt l := by
 unfold cnt c1; cases h : c.Attr <;> simp [List.filter_cons, h]; omega
theorem qF : ∀ (l : List ae) (n : Nat) (c : ae) (h : n < l.length), cnt (l.set n c) = cnt l + (c1 c - c1 l[n])
 | [], n, c, h => by simp at h
 | x :: l, 0, c, h => by simp only [List.set_cons_zero, ph, List.getElem_cons_zero]; omega
 | x :: l, n + 1, c, h => by
  simp only [List.set_cons_succ, ph, List.getElem_cons_succ]
  rw [qF l n c (by simpa using h)]; omega
/-- the program's space of model m -/
structure SS (m : Int) (N : Nat) (s : ad) : Prop where
 model : s.model = m
 dim : mj m s.alternate s.size.Rows s.size.Cols N
 len : s.cells.length = N
 ok : ∀ c ∈ s.cells, COk c
 cur : 0 ≤ s.cursor ∧ s.cursor < N
 attrs : s.attrs = cnt s.cells
theorem mX {m : Int} {N : Nat} {s : ad} (h : SS m N s) (n : Int) : aP s.size n = some (n % N) := by
 rw [show s.size = ⟨s.size.Rows, s.size.Cols⟩ from rfl, mS h.dim.dim]
theorem iC {m : Int} {N : Nat} {s : ad} (h : SS m N s) (n : Int) : aN s n = some (rd s.cells (n % N)) := by
 have hd := h.dim.dim.le
 obtain ⟨k, hk, hlt⟩ := jN n (N := N) (by omega)
 unfold aN
 have hl := h.len
 simp only [mX h, Option.bind_some]
 rw [aX (by omega)]
theorem count_ok (c : ae) : gt c = some (c1 c) := by
 unfold gt c1; cases c.Attr <;> rfl
theorem qd {m : Int} {N : Nat} {s : ad} (h : SS m N s) (n : Int) {c : ae} (hc : CB c) :
  ck s n c = some ⟨s.model, s.alternate, s.size, s.cells.set (n % N).toNat (Vt.fit c), s.cursor, cnt (s.cells.set (n % N).toNat (Vt.fit c))⟩ ∧ SS m N ⟨s.model, s.alternate, s.size, s.cells.set (n % N).toNat (Vt.fit c), s.cursor, cnt (s.cells.set (n % N).toNat (Vt.fit c))⟩ := by
 have hd := h.dim.dim.le
 obtain ⟨k, hk, hlt⟩ := jN n (N := N) (by omega)
 have hl := h.len
 refine ⟨?_, h.model, h.dim, by simp [hl], fun d hd' => ?_, h.cur, rfl⟩
 ·unfold ck
  have hkl : k < s.cells.length := by omega
  have hcs := qF s.cells k (Vt.fit c) hkl
  have hle := cnt_le s.cells
  have b1 : ∀ d : ae, 0 ≤ c1 d ∧ c1 d ≤ 1 := fun d => by unfold c1; split <;> omega
  have b2 := b1 (Vt.fit c)
  have b3 := b1 s.cells[k]
  have hf : ((cond c.Attr (some (0, bU .u8 c.FA 61)) (some (c.Char, 0))).bind fun (d1 : Int × Int) => some ({ c with Char := d1.1, FA := d1.2 } : ae)) = some (Vt.fit c) := by
   unfold Vt.fit; cases h : c.Attr <;> simp [h]
  obtain ⟨d1, h1, h2⟩ := aj hf; simp only [h1, mX h, Option.bind_some, Option.some.inj h2, count_ok]
  rw [aX (by omega), aX (by omega), hk, rdn hkl, h.attrs, Int.toNat_natCast, hcs, c3 (x := c1 (Vt.fit c) - c1 s.cells[k]) (by omega) (by omega), c3 (by omega) (by omega)]
 ·rcases List.mem_or_eq_of_mem_set hd' with h1 | h1
  ·exact h.ok d h1
  ·rw [h1]; exact fit_ok hc
theorem oQ {m : Int} (h : kT m) : gY m = some (⟨rOf m true, cOf m true⟩, 0) := by
 rcases h with rfl | rfl | rfl | rfl <;> decide +kernel
def sclr (m : Int) (alt : Bool) : ad := ⟨m, alt, ⟨rOf m alt, cOf m alt⟩, List.replicate (nOf m alt) zc, 0, 0⟩
theorem cnt_rep (n : Nat) : cnt (List.replicate n zc) = 0 := by
 unfold cnt; simp [List.filter_replicate]
theorem pi {s : ad} {m : Int} (h : kT m) (hs : s.model = m) (alt : Bool) : cY s alt = some (sclr m alt) ∧ eS s alt = some (sclr m alt) := by
 have h2 := oQ (m := 2) (.inl rfl)
 have hm := oQ h
 have hd := o8 h alt
 have hle := hd.dim.le
 unfold cY eS; simp only [h2, hm, hs, Option.bind_some]
 cases alt with
 | true =>
  simp only [cond_true, Option.bind_some, hm, ni hd.dim]
  rw [aX (show (0 : Int) ≤ (nOf m true : Int) ∧ (nOf m true : Int) ≤ 68719476736 by omega)]
  exact ⟨rfl, rfl⟩
 | false =>
  have hd' : Dim (rOf 2 true) (cOf 2 true) (nOf m false) := ⟨.inl ⟨rfl, rfl, rfl⟩⟩
  simp only [cond_false, Option.bind_some, h2, ni hd']
  rw [aX (show (0 : Int) ≤ (nOf m false : Int) ∧ (nOf m false : Int) ≤ 68719476736 by omega)]
  exact ⟨rfl, rfl⟩
theorem new_ok {m : Int} (h : kT m) : ji m = some (.inr (sclr m false, 0)) := by
 unfold ji; simp only [oQ h, Option.bind_some]
 have d0 : ((0 : Int) != 0) = false := rfl
 simp only [d0, cond_false, (pi h (s := ⟨m, false, ⟨0, 0⟩, [], 0, 0⟩) rfl false).2, Option.bind_some]
theorem qQ {m : Int} {N : Nat} {s : ad} (h : SS m N s) (n : Int) : bD s n = some { s with cursor := n % N } := by
 unfold bD; simp only [mX h, Option.bind_some]
/-- the program's space is the document's -/
structure Lk (m : Int) (N : Nat) (s : ad) (x : aa) : Prop where
 rs : RS m N x
 ss : SS m N s
 alt : s.alternate = x.Alt
 cells : s.cells = x.L
 cur : s.cursor = x.Cursor
 sz : s.size = ⟨x.Size.Rows, x.Size.Cols⟩
theorem sT {p : Int} (h : By p) : w64 (2 + w64 (p.tmod 4)) = 2 + p % 4 ∧ kT (2 + p % 4) := by
 have h0 := h.1
 rw [Int.tmod_eq_emod_of_nonneg h0]
 have h1 := Int.emod_nonneg p (show (4 : Int) ≠ 0 by omega)
 have h2 := Int.emod_lt_of_pos p (show (0 : Int) < 4 by omega)
 rw [c3 (x := p % 4) (by omega) (by omega), c3 (by omega) (by omega)]
 exact ⟨rfl, by unfold kT; omega⟩
end Go.Vt
set_option linter.unusedVariables false
set_option linter.unusedSimpArgs false
namespace Go.Vt
def lw : aa → List aM → Option aa
 | x, [] => some x
 | x, a :: r => (dO x a).bind fun y => lw y r
theorem pZ : ∀ (l r : List aM) (x : aa), lw x (l ++ r) = (lw x l).bind fun y => lw y r
 | [], r, x => rfl
 | a :: l, r, x => by
  simp only [List.cons_append, lw]
  cases dO x a with
  | none => rfl
  | some y => simp only [Option.bind_some]; exact pZ l r y
/-- the program's space, of the document's -/
def prog (x : aa) : ad := ⟨x.Model, x.Alt, ⟨x.Size.Rows, x.Size.Cols⟩, x.L, x.Cursor, cnt x.L⟩
theorem RS.lk {m : Int} {N : Nat} {x : aa} (h : RS m N x) : Lk m N (prog x) x := ⟨h, ⟨h.model, h.dim, h.len, h.ok, h.cur, rfl⟩, rfl, rfl, rfl, rfl⟩
abbrev T7 := Int × Bool × Int × Int × List ae × Int × Int
theorem min30_lt {i : Nat} (h : i < 30) : min i 30 = i ∧ min (i + 1) 30 = i + 1 := by omega
theorem min30_ge {i : Nat} (h : ¬ i < 30) : min i 30 = 30 ∧ min (i + 1) 30 = 30 := by omega
end Go.Vt
set_option linter.unusedVariables false
set_option linter.unusedSimpArgs false
namespace Go.Vt
theorem mU {m : Int} (hm : kT m) {acts : List aM} (ha : ∀ a ∈ acts, AOk a) (hl : acts.length ≤ 9223372036854775807) (t : Int × T7) :
  ∃ r, cB acts bw (0, m, false, rOf m false, cOf m false, List.replicate (nOf m false) zc, 0, t) = some r ∧ ∃ N x, lw (clr m false) (acts.take 30) = some x ∧ RS m N x ∧ r = (x.Model, x.Alt, x.Size.Rows, x.Size.Cols, x.L, x.Cursor, t) := by
 have h0 := rL hm false
 refine iz (L := cB acts) (n := acts.length) (fun i y => ∃ N x, lw (clr m false) (acts.take (min i 30)) = some x ∧ RS m N x ∧ y = (x.Model, x.Alt, x.Size.Rows, x.Size.Cols, x.L, x.Cursor, t))
  (fun r => ∃ N x, lw (clr m false) (acts.take 30) = some x ∧ RS m N x ∧ r = (x.Model, x.Alt, x.Size.Rows, x.Size.Cols, x.L, x.Cursor, t)) (by omega) ?_ ?_ ⟨_, _, rfl, h0, rfl⟩
 ·rintro k i y hi ⟨N, x, hx, hr, rfl⟩; rw [cB.eq_2]
  have d1 : decide ((i : Int) < (acts.length : Int)) = true := decide_eq_true (by omega)
  simp only [d1, cond_true]
  rw [aX (by omega), gp (by omega)]
  by_cases h2 : i < 30
  ·have d2 : decide ((i : Int) < 30) = true := decide_eq_true (by omega)
   have hA : AOk acts[i] := ha _ (List.getElem_mem hi)
   obtain ⟨N', x', h3, h4⟩ := rs_do hm hr hA
   have hxe : (⟨x.Model, x.Alt, ⟨x.Size.Rows, x.Size.Cols⟩, x.L, x.Cursor⟩ : aa) = x := rfl
   have hce : ({ acts[i] with C := acts[i].C } : aM) = acts[i] := rfl
   simp only [d2, cond_true, rdn hi, hxe, hce, h3, Option.bind_some]; refine ⟨_, rfl, N', x', ?_, h4, rfl⟩; obtain ⟨e1, e2⟩ := min30_lt h2; rw [e1] at hx; rw [e2, List.take_succ_eq_append_getElem hi, pZ, hx]; simp only [Option.bind_some, lw, h3]
  ·have d2 : decide ((i : Int) < 30) = false := decide_eq_false (by omega)
   simp only [d2, cond_false, Option.bind_some]; obtain ⟨e1, e2⟩ := min30_ge h2; rw [e1] at hx
   exact ⟨_, rfl, N, x, by rw [e2]; exact hx, hr, rfl⟩
 ·rintro k y ⟨N, x, hx, hr, rfl⟩; rw [cB.eq_2]
  have d1 : decide ((acts.length : Int) < (acts.length : Int)) = false := decide_eq_false (by omega)
  simp only [d1, cond_false]; refine ⟨_, rfl, N, x, ?_, hr, rfl⟩
  by_cases h : acts.length ≤ 30
  ·rw [Nat.min_eq_left h] at hx; rw [← hx, List.take_of_length_le h, List.take_of_length_le (Nat.le_refl _)]
  ·rw [Nat.min_eq_right (by omega)] at hx; exact hx
theorem ml {m : Int} {N : Nat} {x : aa} (hr : RS m N x) (d : Int × Bool × Int × Int × List ae × Int × Int × T7) (hd : d.2.2.2.2.1 = x.L) :
  cA d bw (0, m, x.Alt, x.Size.Rows, x.Size.Cols, List.replicate N zc, 0, 0) = some (m, x.Alt, x.Size.Rows, x.Size.Cols, x.L, 0, cnt x.L) := by
 have hle := hr.dim.dim.le
 have hlen := hr.len
 have key := iz (L := cA d) (n := N) (s := (m, x.Alt, x.Size.Rows, x.Size.Cols, List.replicate N zc, 0, 0))
  (fun i y => ∃ s : ad, SS m N s ∧ y = (s.model, s.alternate, s.size.Rows, s.size.Cols, s.cells, s.cursor, s.attrs) ∧ s.alternate = x.Alt ∧ s.size = ⟨x.Size.Rows, x.Size.Cols⟩ ∧ s.cursor = 0 ∧ s.cells = x.L.take i ++ List.replicate (N - i) zc)
  (fun r => r = (m, x.Alt, x.Size.Rows, x.Size.Cols, x.L, 0, cnt x.L)) (by omega) ?_ ?_ ?_
 ·obtain ⟨r, h1, h2⟩ := key; rw [h1, h2]
 ·rintro k i y hi ⟨s, hs, rfl, e1, e2, e3, e4⟩; rw [cA.eq_2]
  have hi' : i < x.L.length := by omega
  have d1 : decide ((i : Int) < (d.2.2.2.2.1.length : Int)) = true := decide_eq_true (by rw [hd]; omega)
  have hok : COk x.L[i] := hr.ok _ (List.getElem_mem hi')
  have hset : s.cells.set i x.L[i] = x.L.take (i + 1) ++ List.replicate (N - (i + 1)) zc := by
   rw [e4, List.set_append_right _ _ (by simp; omega)]
   have h5 : i - (x.L.take i).length = 0 := by simp; omega
   rw [h5, show N - i = (N - (i + 1)) + 1 by omega, List.replicate_succ, List.set_cons_zero, List.take_succ_eq_append_getElem hi']
   simp only [List.append_assoc, List.cons_append, List.nil_append]
  simp only [d1, cond_true]
  rw [aX (by rw [hd]; omega), hd, rdn hi', gp (by omega)]
  generalize hb : (!((x.L[i].Char == 0) && ((x.L[i].Attr == false) && ((x.L[i].FA == 0) && ((x.L[i].High == 0) && ((x.L[i].Color == 0) && ((x.L[i].f_Set == 0) && true))))))) = b
  have hse : (⟨s.model, s.alternate, ⟨s.size.Rows, s.size.Cols⟩, s.cells, s.cursor, s.attrs⟩ : ad) = s := rfl
  cases b with
  | true =>
   obtain ⟨h3, h4⟩ := qd hs (i : Int) hok.cb
   have h6 : ((i : Int) % (N : Int)).toNat = i := by rw [Int.emod_eq_of_lt (by omega) (by omega)]; rfl
   rw [h6, hok.fit] at h3 h4; simp only [cond_true, hse, h3, Option.bind_some]; exact ⟨_, rfl, _, h4, rfl, e1, e2, e3, hset⟩
  | false =>
   simp only [cond_false, hse, Option.bind_some]; refine ⟨_, rfl, s, hs, rfl, e1, e2, e3, ?_⟩
   have hz : x.L[i] = zc := by
    simp only [Bool.not_eq_false', Bool.and_eq_true, beq_iff_eq, Bool.and_true] at hb; obtain ⟨g1, g2, g3, g4, g5, g6⟩ := hb
    generalize x.L[i] = c at *
    cases c; simp_all
   rw [← hset, hz, e4, List.set_append_right _ _ (by simp; omega)]
   have h5 : i - (x.L.take i).length = 0 := by simp; omega
   rw [h5, show N - i = (N - (i + 1)) + 1 by omega, List.replicate_succ, List.set_cons_zero]
 ·rintro k y ⟨s, hs, rfl, e1, e2, e3, e4⟩; rw [cA.eq_2]
  have d1 : decide ((N : Int) < (d.2.2.2.2.1.length : Int)) = false := decide_eq_false (by rw [hd]; omega)
  simp only [d1, cond_false]; refine ⟨_, rfl, ?_⟩
  have h5 : s.cells = x.L := by rw [e4, Nat.sub_self, List.take_of_length_le (by omega)]; simp
  rw [hs.attrs, h5, hs.model, e1, e2, e3]
 ·have hn := hr.nof
  refine ⟨⟨m, x.Alt, ⟨x.Size.Rows, x.Size.Cols⟩, List.replicate N zc, 0, 0⟩, ⟨rfl, hr.dim, by simp, (fun c hc => by rw [(List.mem_replicate.1 hc).2]; exact sx), (by simp only; omega), (cnt_rep _).symm⟩, rfl, rfl, rfl, rfl, by simp⟩
def pgs : List Int := [37, 273, 297, 500, 1047, 1140]
def pgN (q : Int) : Int := rd pgs (q % 6)
theorem sM (q : Int) : pgN q ∈ pgs := by
 unfold pgN
 exact fS ⟨Int.emod_nonneg _ (by omega), by have := Int.emod_lt_of_pos q (show (0 : Int) < 6 by omega); simp [pgs]; omega⟩
theorem pnew_ok {n : Int} (h : n ∈ pgs) : kH n = some (.inr (⟨n⟩, 0)) := by
 simp only [pgs, List.mem_cons, List.not_mem_nil, or_false] at h; rcases h with rfl | rfl | rfl | rfl | rfl | rfl <;> rfl
theorem jv {p q : Int} (hp : By p) (hq : By q) {acts : List aM} (ha : ∀ a ∈ acts, AOk a) (hl : acts.length ≤ 9223372036854775807) :
  ∃ N x, lw (clr (2 + p % 4) false) (acts.take 30) = some x ∧ RS (2 + p % 4) N x ∧ eo p q acts = some (⟨0, false, 96⟩, prog x, ⟨pgN q⟩, ⟨pgN q, 0, false, 96⟩, x) := by
 obtain ⟨hmod, hm⟩ := sT hp
 generalize 2 + p % 4 = m at hmod hm ⊢
 have h0 := hq.1
 have e6 : q.tmod 6 = q % 6 := Int.tmod_eq_emod_of_nonneg h0
 have b6 : 0 ≤ q % 6 ∧ q % 6 < 6 := ⟨Int.emod_nonneg _ (by omega), Int.emod_lt_of_pos q (by omega)⟩
 have hpg := sM q
 have epg : rd pgs (q % 6) = pgN q := rfl
 unfold eo fB; simp only [Option.bind_some, e6]
 rw [aX (by simp only [List.length_cons, List.length_nil]; omega)]
 rw [show ([37, 273, 297, 500, 1047, 1140] : List Int) = pgs from rfl, epg]; simp only [hmod, new_ok hm, rnew_ok hm, pnew_ok hpg, Option.bind_some]; obtain ⟨r, h1, N, x, hx, hr, rfl⟩ := mU hm ha hl (pgN q, m, false, rOf m false, cOf m false, List.replicate (nOf m false) zc, 0, 0); refine ⟨N, x, hx, hr, ?_⟩
 have hN := hr.nof
 have hsz := hr.dim.n
 simp only [clr, sclr, h1, Option.bind_some]
 have clear : ((cond x.Alt ((cY ⟨m, false, ⟨rOf m false, cOf m false⟩, List.replicate (nOf m false) zc, 0, 0⟩ true).bind fun (d12 : ad) => some (d12.model, d12.alternate, d12.size.Rows, d12.size.Cols, d12.cells, d12.cursor, d12.attrs))
   (some (m, false, rOf m false, cOf m false, List.replicate (nOf m false) zc, (0 : Int), (0 : Int))) : Option T7)) = some (m, x.Alt, x.Size.Rows, x.Size.Cols, List.replicate N zc, 0, 0) := by
  rw [hsz.1, hsz.2.1, hsz.2.2]
  cases x.Alt with
  | true => simp only [cond_true, (pi hm (s := ⟨m, false, ⟨rOf m false, cOf m false⟩, List.replicate (nOf m false) zc, 0, 0⟩) rfl true).1, Option.bind_some, sclr]
  | false => rfl
 rw [clear]; simp only [Option.bind_some]; rw [ml hr _ rfl]; simp only [Option.bind_some]
 have hS : SS m N ⟨m, x.Alt, ⟨x.Size.Rows, x.Size.Cols⟩, x.L, 0, cnt x.L⟩ := ⟨rfl, hr.dim, hr.len, hr.ok, (by have := hr.dim.dim.le; simp only; omega), rfl⟩
 rw [qQ hS]
 have hc := hr.cur
 have he : x.Cursor % (N : Int) = x.Cursor := Int.emod_eq_of_lt hc.1 hc.2
 simp only [Option.bind_some, he, kI, f8]; unfold prog; rw [hr.model]
 have : x = ⟨m, x.Alt, ⟨x.Size.Rows, x.Size.Cols⟩, x.L, x.Cursor⟩ := by rw [← hr.model]
 rw [← this]
end Go.Vt
set_option linter.unusedVariables false
set_option linter.unusedSimpArgs false
set_option maxRecDepth 100000
namespace Go.Vt
def ax : List aM := [⟨3, 0, false, 0, ⟨0, false, 0, 0, 0, 0⟩, []⟩, ⟨1, 1, false, 0, ⟨0, false, 0, 0, 0, 0⟩, []⟩]
def X0 : aa := ⟨2, false, ⟨24, 80⟩, (List.replicate 1920 zc).set 0 ⟨0, true, 0, 0, 0, 0⟩, 1⟩
theorem ax_ok : ∀ a ∈ ax, AOk a := by
 intro a ha; simp only [ax, List.mem_cons, List.not_mem_nil, or_false] at ha; rcases ha with rfl | rfl
 ·exact ⟨⟨by decide, by decide⟩, ⟨by decide, by decide⟩, sx.cb, (fun x hx => by cases hx), by decide⟩
 ·exact ⟨⟨by decide, by decide⟩, ⟨by decide, by decide⟩, sx.cb, (fun x hx => by cases hx), by decide⟩
theorem ax_do : lw (clr 2 false) ax = some X0 := by decide +kernel
def S2 : ad := ⟨2, false, ⟨24, 80⟩, (((List.replicate 1920 zc).set 0 ⟨0, true, 1, 0, 0, 0⟩).set 1 ⟨193, false, 0, 0, 0, 0⟩).set 2 ⟨130, false, 0, 0, 0, 0⟩, 3, 1⟩
theorem pX0 : prog X0 = ⟨2, false, ⟨24, 80⟩, (List.replicate 1920 zc).set 0 ⟨0, true, 0, 0, 0, 0⟩, 1, 1⟩ := by decide +kernel
theorem ax_type : gC ⟨0, false, 96⟩ ⟨2, false, ⟨24, 80⟩, (List.replicate 1920 zc).set 0 ⟨0, true, 0, 0, 0, 0⟩, 1, 1⟩ ⟨37⟩ (ByteArray.mk (List.toArray [65, 98])) = some (S2, ⟨37⟩, ⟨0, false, 96⟩, 2, 0) := by decide +kernel
theorem ax_press : bB ⟨0, false, 96⟩ S2 ⟨37⟩ ⟨19, 0, 0⟩ = some (S2, ⟨37⟩, ⟨1, false, 125⟩, true, 0) := by decide +kernel
theorem ax_at : aN S2 1 = some ⟨193, false, 0, 0, 0, 0⟩ ∧ aN S2 2 = some ⟨130, false, 0, 0, 0, 0⟩ ∧ aN S2 0 = some ⟨0, true, 1, 0, 0, 0⟩ := by decide +kernel
theorem awake18 : eE = some true := by
 obtain ⟨N, x, hx, _, h⟩ := jv (p := 0) (q := 0) ⟨by decide, by decide⟩ ⟨by decide, by decide⟩ ax_ok (by decide)
 have hx' : x = X0 := by
  have : (2 : Int) + 0 % 4 = 2 := by decide
  rw [this, show ax.take 30 = ax from rfl, ax_do] at hx; exact (Option.some.inj hx).symm
 subst hx'
 have hp : pgN 0 = 37 := rfl
 rw [hp, pX0] at h; unfold eE; unfold ax at h; simp only [h, Option.bind_some, ax_type, ax_press, ax_at.1, ax_at.2.1, ax_at.2.2]
 decide +kernel
end Go.Vt
set_option linter.unusedVariables false
set_option linter.unusedSimpArgs false
set_option maxRecDepth 100000
namespace Go.Vt
/-! ### the places of attributes -/
def bm (L : List ae) (i : Nat) : Bool := (rd L (i : Int)).Attr
def b9 (L : List ae) (n : Nat) : List Nat := (List.range n).filter (bm L)
theorem j9 (L : List ae) (n : Nat) : b9 L (n + 1) = b9 L n ++ (if bm L n then [n] else []) := by
 unfold b9; rw [List.range_succ, List.filter_append]
 cases h : bm L n <;> simp [List.filter_cons, h]
theorem jT (L : List ae) (n : Nat) : (b9 L n).length ≤ n := by
 unfold b9; have := List.length_filter_le (bm L) (List.range n); simpa using this
theorem py {m : Int} {N : Nat} {x : aa} (h : RS m N x) : cD x = some ((b9 x.L N).map (fun i : Nat => (i : Int))) := by
 have hle := h.dim.dim.le
 have hl := h.len
 have key := iz (L := cV x) (n := N) (s := ([] : List Int)) (fun i y => y = (b9 x.L i).map (fun i : Nat => (i : Int))) (fun r => r = (b9 x.L N).map (fun i : Nat => (i : Int))) (by omega) ?_ ?_ rfl
 ·obtain ⟨r, h1, h2⟩ := key; unfold cD; rw [h1, h2]; rfl
 ·rintro k i y hi rfl
  have d1 : decide ((i : Int) < (x.L.length : Int)) = true := decide_eq_true (by omega)
  have hlen := jT x.L i
  rw [cV.eq_2]; simp only [d1, cond_true]
  rw [aX (by omega), gp (by omega), j9]
  have hA : (rd x.L (i : Int)).Attr = bm x.L i := rfl
  rw [hA]
  cases bm x.L i with
  | true => simp only [cond_true]; rw [aX (by simp; omega)]; exact ⟨_, rfl, by simp⟩
  | false => simp only [cond_false, Option.bind_some]; exact ⟨_, rfl, by simp⟩
 ·rintro k y rfl
  have d1 : decide ((N : Int) < (x.L.length : Int)) = false := decide_eq_false (by omega)
  rw [cV.eq_2]; simp only [d1, cond_false]; exact ⟨_, rfl, rfl⟩
theorem fN {L : List ae} {n a : Nat} : a ∈ b9 L n ↔ a < n ∧ bm L a = true := by unfold b9; simp
theorem nJ : ∀ (L : List ae), cnt L = ((b9 L L.length).length : Int) := by
 intro L
 have key : ∀ n, n ≤ L.length → cnt (L.take n) = ((b9 L n).length : Int) := by
  intro n
  induction n with
  | zero => intro _; simp [cnt, b9]
  | succ n ih =>
   intro h
   have hlt : n < L.length := by omega
   rw [List.take_succ_eq_append_getElem hlt, cnt_app, ih (by omega), j9]
   have hA : bm L n = L[n].Attr := by unfold bm; rw [rdn hlt]
   rw [hA, ph]
   have h0 : cnt [] = 0 := rfl
   unfold c1
   cases L[n].Attr <;> simp [h0]
 have := key L.length (Nat.le_refl _)
 rwa [List.take_of_length_le (Nat.le_refl _)] at this
/-! ### the place of a place's attribute -/
def stF (L : List ae) (l0 : Int) : Nat → Int
 | 0 => if bm L 0 then 0 else l0
 | n + 1 => if bm L (n + 1) then ((n + 1 : Nat) : Int) else stF L l0 n
theorem iB {L : List ae} {l0 : Int} {n : Nat} (h : bm L n = true) : stF L l0 n = (n : Int) := by
 cases n with
 | zero => simp [stF, h]
 | succ n => simp [stF, h]
theorem ln {L : List ae} (l0 : Int) : ∀ n, (∃ a, a < n + 1 ∧ bm L a = true) → (b9 L (n + 1)).getLast? = some (stF L l0 n).toNat ∧ 0 ≤ stF L l0 n
 | 0, ⟨a, h1, h2⟩ => by
  have : a = 0 := by omega
  subst this; rw [j9, h2]
  simp [stF, h2]
 | n + 1, ⟨a, h1, h2⟩ => by
  rw [j9]
  cases hA : bm L (n + 1) with
  | true => simp [stF, hA]; omega
  | false =>
   have : a < n + 1 := by
    rcases Nat.lt_or_ge a (n + 1) with h | h
    ·exact h
    ·have : a = n + 1 := by omega
     subst this; rw [hA] at h2; cases h2
   obtain ⟨g1, g2⟩ := ln l0 n ⟨a, this, h2⟩; simp only [Bool.false_eq_true, if_false, List.append_nil, stF, hA]; exact ⟨g1, g2⟩
def ez (L : List ae) (l0 : Int) (N : Nat) : List Int := (List.range N).map (stF L l0)
theorem tx {m : Int} {N : Nat} {x : aa} (h : RS m N x) : ∃ l0, cp x = some (ez x.L l0 N) ∧ ((∃ a, a < N ∧ bm x.L a = true) → l0 = stF x.L l0 (N - 1)) ∧ ((∀ a, a < N → bm x.L a = false) → l0 = -1) := by
 have hle := h.dim.dim.le
 have hl := h.len
 have hal := jT x.L N
 -- the last one's place
 obtain ⟨l0, hl0, hcyc, hno⟩ : ∃ l0, ((cond (decide ((((b9 x.L N).map (fun i : Nat => (i : Int))).length : Int) > 0)) (gd ((0 : Int) ≤ (w64 ((((b9 x.L N).map (fun i : Nat => (i : Int))).length : Int) - 1)) ∧ (w64 ((((b9 x.L N).map (fun i : Nat => (i : Int))).length : Int) - 1)) < (((b9 x.L N).map (fun i : Nat => (i : Int))).length : Int)) <| some (rd ((b9 x.L N).map (fun i : Nat => (i : Int))) (w64 ((((b9 x.L N).map (fun i : Nat => (i : Int))).length : Int) - 1)))) (some (-1))) : Option Int) = some l0 ∧ ((∃ a, a < N ∧ bm x.L a = true) → l0 = stF x.L l0 (N - 1)) ∧ ((∀ a, a < N → bm x.L a = false) → l0 = -1) := by
  by_cases hz : (b9 x.L N).length = 0
  ·have d1 : decide ((((b9 x.L N).map (fun i : Nat => (i : Int))).length : Int) > 0) = false := decide_eq_false (by simp only [List.length_map]; omega)
   rw [d1]; refine ⟨-1, rfl, fun ⟨a, h1, h2⟩ => ?_, fun _ => rfl⟩
   have := fN.2 ⟨h1, h2⟩
   rw [List.length_eq_zero_iff.1 hz] at this; cases this
  ·have d1 : decide ((((b9 x.L N).map (fun i : Nat => (i : Int))).length : Int) > 0) = true := decide_eq_true (by simp only [List.length_map]; omega)
   rw [d1]
   have hw : w64 ((((b9 x.L N).map (fun i : Nat => (i : Int))).length : Int) - 1) = (((b9 x.L N).length - 1 : Nat) : Int) := by
    rw [List.length_map, c3 (by omega) (by omega)]; omega
   simp only [cond_true]
   rw [hw, aX (by rw [List.length_map]; omega), rdn (by rw [List.length_map]; omega)]
   have hlast : (b9 x.L N).getLast? = some ((b9 x.L N)[(b9 x.L N).length - 1]'(by omega)) := by
    rw [List.getLast?_eq_getElem?]; simp [show (b9 x.L N).length - 1 < (b9 x.L N).length by omega]
   refine ⟨_, rfl, fun ⟨a, h1, h2⟩ => ?_, fun hn => ?_⟩
   ·obtain ⟨g1, g2⟩ := ln (L := x.L) ((b9 x.L N)[(b9 x.L N).length - 1]'(by omega) : Int) (N - 1) ⟨a, by omega, h2⟩
    rw [show N - 1 + 1 = N by omega, hlast] at g1
    have g3 := Option.some.inj g1
    simp only [List.getElem_map]
    omega
   ·have hm := List.getElem_mem (l := b9 x.L N) (n := (b9 x.L N).length - 1) (by omega)
    obtain ⟨h1, h2⟩ := fN.1 hm; rw [hn _ h1] at h2; cases h2
 refine ⟨l0, ?_, hcyc, hno⟩; unfold cp; simp only [py h, Option.bind_some]
 rw [aX (by omega)]
 simp only [hl0, Option.bind_some]
 have key := iz (L := cH x) (n := N) (s := (l0, List.replicate (Int.toNat (x.L.length : Int)) 0)) (fun i y => y.1 = (if i = 0 then l0 else stF x.L l0 (i - 1)) ∧ y.2 = ez x.L l0 i ++ List.replicate (N - i) 0)
  (fun r => r = ez x.L l0 N) (by omega) ?_ ?_ ⟨rfl, by simp [ez, hl]⟩
 ·obtain ⟨r, h1, h2⟩ := key; rw [h1, h2]; rfl
 ·rintro k i ⟨u, y⟩ hi ⟨hu, hy⟩; simp only at hu hy; subst hy
  have d1 : decide ((i : Int) < (x.L.length : Int)) = true := decide_eq_true (by omega)
  have hA : (rd x.L (i : Int)).Attr = bm x.L i := rfl
  have hslen : (ez x.L l0 i).length = i := by simp [ez]
  rw [cH.eq_2]; simp only [d1, cond_true]
  rw [aX (by omega), gp (by omega), hA]
  have hv : (cond (bm x.L i) (some (i : Int)) (some u) : Option Int) = some (stF x.L l0 i) := by
   cases hA2 : bm x.L i with
   | true => rw [iB hA2]; rfl
   | false =>
    rw [hu]
    cases i with
    | zero => simp [stF, hA2]
    | succ i => simp [stF, hA2]
  rw [hv]; simp only [Option.bind_some]
  rw [aX (by simp [hslen]; omega)]
  refine ⟨_, rfl, by simp, ?_⟩
  simp only
  rw [Int.toNat_natCast, List.set_append_right _ _ (by omega), hslen, Nat.sub_self, show N - i = (N - (i + 1)) + 1 by omega, List.replicate_succ, List.set_cons_zero]
  have : ez x.L l0 (i + 1) = ez x.L l0 i ++ [stF x.L l0 i] := by unfold ez; rw [List.range_succ, List.map_append]; rfl
  rw [this]; simp only [List.append_assoc, List.cons_append, List.nil_append]
 ·rintro k ⟨u, y⟩ ⟨hu, hy⟩; simp only at hu hy; subst hy
  have d1 : decide ((N : Int) < (x.L.length : Int)) = false := decide_eq_false (by omega)
  rw [cH.eq_2]; simp only [d1, cond_false]
  exact ⟨_, rfl, by simp⟩
/-- round: a place without an attribute has the one of the place ahead -/
theorem oC {L : List ae} {l0 : Int} {N n : Nat} (hc : l0 = stF L l0 (N - 1)) (hn : n < N) (h : bm L ((n + 1) % N) = false) : stF L l0 ((n + 1) % N) = stF L l0 n := by
 by_cases h1 : n + 1 < N
 ·rw [Nat.mod_eq_of_lt h1] at h ⊢; simp [stF, h]
 ·have : n + 1 = N := by omega
  rw [this, Nat.mod_self] at h ⊢
  have e : n = N - 1 := by omega
  rw [e, ← hc]; simp [stF, h]
theorem stF_A {L : List ae} {l0 : Int} {N : Nat} (hc : l0 = stF L l0 (N - 1)) (hn : ∃ b, b < N ∧ bm L b = true) : ∃ b : Nat, l0 = (b : Int) ∧ b < N ∧ bm L b = true := by
 obtain ⟨a, h1, h2⟩ := hn
 obtain ⟨g1, g2⟩ := ln (L := L) l0 (N - 1) ⟨a, by omega, h2⟩
 rw [← hc] at g1 g2
 have hm := List.mem_of_getLast? g1
 rw [show N - 1 + 1 = N by omega] at hm
 obtain ⟨h3, h4⟩ := fN.1 hm
 exact ⟨l0.toNat, by omega, h3, h4⟩
theorem mn {L : List ae} {l0 : Int} {N : Nat} (hc : l0 = stF L l0 (N - 1)) (hn : ∃ b, b < N ∧ bm L b = true) : ∀ n, n < N → ∃ b : Nat, stF L l0 n = (b : Int) ∧ b < N ∧ bm L b = true
 | 0, h => by
  cases hA : bm L 0 with
  | true => exact ⟨0, iB hA, h, hA⟩
  | false =>
   obtain ⟨b, h1, h2⟩ := stF_A hc hn
   exact ⟨b, by simp [stF, hA, h1], h2⟩
 | n + 1, h => by
  cases hA : bm L (n + 1) with
  | true => exact ⟨n + 1, iB hA, h, hA⟩
  | false =>
   obtain ⟨b, h1, h2⟩ := mn hc hn n (by omega)
   exact ⟨b, by simp [stF, hA, h1], h2⟩
/-- without attributes between, a place's attribute is the one that lies behind it -/
theorem p9 {L : List ae} {l0 : Int} {N a : Nat} (hc : l0 = stF L l0 (N - 1)) (ha : a < N) (hat : bm L a = true) : ∀ i, (∀ t, 1 ≤ t → t ≤ i → bm L ((a + t) % N) = false) → stF L l0 ((a + i) % N) = (a : Int)
 | 0, _ => by rw [Nat.add_zero, Nat.mod_eq_of_lt ha]; exact iB hat
 | i + 1, h => by
  have ih := p9 hc ha hat i fun t h1 h2 => h t h1 (by omega)
  have e2 : (a + (i + 1)) % N = ((a + i) % N + 1) % N := by simp only [Nat.mod_add_mod]; rfl
  have hna := h (i + 1) (by omega) (by omega)
  rw [e2] at hna ⊢
  rw [oC hc (Nat.mod_lt _ (by omega)) hna]; exact ih
/-- behind another attribute it isn't -/
theorem oD {L : List ae} {l0 : Int} {N a j : Nat} (hc : l0 = stF L l0 (N - 1)) (ha : a < N) (hj : 1 ≤ j) (hat : bm L ((a + j) % N) = true) : ∀ d, j + d < N → stF L l0 ((a + (j + d)) % N) ≠ (a : Int)
 | 0, h => by
  rw [Nat.add_zero, iB hat]; intro e
  have e : (a + j) % N = a := by omega
  by_cases h3 : a + j < N
  ·rw [Nat.mod_eq_of_lt h3] at e; omega
  ·rw [Nat.mod_eq_sub_mod (by omega), Nat.mod_eq_of_lt (by omega)] at e; omega
 | d + 1, h => by
  have ih := oD hc ha hj hat d (by omega)
  have e2 : (a + (j + (d + 1))) % N = ((a + (j + d)) % N + 1) % N := by simp only [Nat.mod_add_mod]; rfl
  cases hA : bm L ((a + (j + (d + 1))) % N) with
  | true =>
   rw [iB hA]; intro e
   have e : (a + (j + (d + 1))) % N = a := by omega
   by_cases h3 : a + (j + (d + 1)) < N
   ·rw [Nat.mod_eq_of_lt h3] at e; omega
   ·rw [Nat.mod_eq_sub_mod (by omega), Nat.mod_eq_of_lt (by omega)] at e; omega
  | false =>
   rw [e2] at hA ⊢
   rw [oC hc (Nat.mod_lt _ (by omega)) hA]; exact ih
end Go.Vt
set_option linter.unusedVariables false
set_option linter.unusedSimpArgs false
set_option maxRecDepth 100000
namespace Go.Vt
theorem se (s : ad) : (⟨s.model, s.alternate, ⟨s.size.Rows, s.size.Cols⟩, s.cells, s.cursor, s.attrs⟩ : ad) = s := rfl
theorem mW {m : Int} {N : Nat} {s : ad} (h : SS m N s) : cl ⟨s.size.Rows, s.size.Cols⟩ = some (N : Int) := ni h.dim.dim
theorem f4 {m : Int} {N : Nat} {s : ad} (h : SS m N s) (n : Int) : aP ⟨s.size.Rows, s.size.Cols⟩ n = some (n % N) := mS h.dim.dim n
theorem aS {N k : Nat} (h : k < N) : (k : Int) % (N : Int) = (k : Int) := Int.emod_eq_of_lt (by omega) (by omega)
def Fmt (L : List ae) : Prop := ∃ a, a < L.length ∧ bm L a = true
def fO (L : List ae) : Int := match (b9 L L.length).getLast? with
 | some a => (a : Int)
 | none => -1
/-- where the field of a place begins; -1: there is none -/
def stI (L : List ae) (n : Nat) : Int := stF L (fO L) n
theorem lastA_of {L : List ae} {l0 : Int} (h : Fmt L) (hc : l0 = stF L l0 (L.length - 1)) : fO L = l0 := by
 obtain ⟨a, h1, h2⟩ := h
 obtain ⟨g1, g2⟩ := ln (L := L) l0 (L.length - 1) ⟨a, by omega, h2⟩
 rw [show L.length - 1 + 1 = L.length by omega, ← hc] at g1
 rw [← hc] at g2; unfold fO; rw [g1]; simp only; omega
theorem km {L : List ae} (h : Fmt L) : fO L = stF L (fO L) (L.length - 1) := by
 have h' := h
 obtain ⟨a, h1, h2⟩ := h
 obtain ⟨g1, g2⟩ := ln (L := L) (fO L) (L.length - 1) ⟨a, by omega, h2⟩
 rw [show L.length - 1 + 1 = L.length by omega] at g1
 generalize hk : stF L (fO L) (L.length - 1) = z at g1 g2 ⊢
 unfold fO; rw [g1]; simp only; omega
theorem stF_no {L : List ae} : ∀ n, (∀ a, a < n + 1 → bm L a = false) → stF L (-1) n = -1
 | 0, h => by simp [stF, h 0 (by omega)]
 | n + 1, h => by simp [stF, h (n + 1) (by omega), stF_no n fun a ha => h a (by omega)]
theorem lr {L : List ae} (h : ¬ Fmt L) {a : Nat} (ha : a < L.length) : bm L a = false := by
 cases e : bm L a with
 | false => rfl
 | true => exact absurd ⟨a, ha, e⟩ h
theorem rg {L : List ae} (h : ¬ Fmt L) : fO L = -1 := by
 unfold fO
 cases e : (b9 L L.length).getLast? with
 | none => rfl
 | some a =>
  obtain ⟨h1, h2⟩ := fN.1 (List.mem_of_getLast? e); rw [lr h h1] at h2; cases h2
theorem ir {L : List ae} (h : ¬ Fmt L) {n : Nat} (hn : n < L.length) : stI L n = -1 := by
 unfold stI; rw [rg h]; exact stF_no n fun a ha => lr h (by omega)
theorem iW {L : List ae} (h : Fmt L) {n : Nat} (hn : n < L.length) : ∃ b : Nat, stI L n = (b : Int) ∧ b < L.length ∧ bm L b = true := mn (km h) h n hn
theorem qO {L : List ae} {n : Nat} (h : bm L n = true) : stI L n = (n : Int) := iB h
theorem kK {L : List ae} : Fmt L ↔ cnt L > 0 := by
 rw [nJ]
 constructor
 ·rintro ⟨a, h1, h2⟩
  have := List.length_pos_of_mem (fN.2 ⟨h1, h2⟩)
  omega
 ·intro h
  cases hl : b9 L L.length with
  | nil => rw [hl] at h; simp at h
  | cons a r => exact ⟨a, fN.1 (by rw [hl]; simp)⟩
/-! ### the start -/
theorem qg {m : Int} {N : Nat} {x : aa} (h : RS m N x) : cp x = some (ez x.L (fO x.L) N) := by
 obtain ⟨l0, h1, h2, h3⟩ := tx h
 have hl := h.len
 rw [h1]
 by_cases hf : Fmt x.L
 ·have h4 := hf
  obtain ⟨a, ha, hat⟩ := h4
  rw [lastA_of hf (by rw [hl]; exact h2 ⟨a, by omega, hat⟩)]
 ·rw [rg hf, h3 fun a ha => lr hf (by omega)]
theorem kD {L : List ae} {l0 : Int} {N k : Nat} (hk : k < N) : rd (ez L l0 N) (k : Int) = stF L l0 k := by
 unfold ez
 rw [rdn (by simpa using hk)]; simp
theorem oF {m : Int} {N : Nat} {x : aa} (h : RS m N x) {n : Int} {k : Nat} (hk : n % N = (k : Int)) (hkN : k < N) : ci x n = some (stI x.L k) := by
 unfold ci; simp only [qg h, f5 h, Option.bind_some, hk]
 rw [aX (by simp [ez]; omega), kD hkN]; rfl
theorem rb {N a d : Nat} (hN : 0 < N) (hd : 1 ≤ d) (hdN : d < N) (ha : a < N) : ((((a + d) % N : Nat) : Int) - 1) % (N : Int) = (((a + (d - 1)) % N : Nat) : Int) := by
 by_cases h : a + d < N
 ·rw [Nat.mod_eq_of_lt h, Nat.mod_eq_of_lt (by omega), Int.emod_eq_of_lt (by omega) (by omega)]; omega
 ·have h1 : (a + d) % N = a + d - N := by rw [Nat.mod_eq_sub_mod (by omega), Nat.mod_eq_of_lt (by omega)]
  rw [h1]
  by_cases h2 : a + d = N
  ·have h3 : (((a + d - N : Nat) : Int) - 1) = ((N - 1 : Nat) : Int) - N := by omega
   rw [h3, Int.sub_emod_right, Int.emod_eq_of_lt (by omega) (by omega), Nat.mod_eq_of_lt (by omega)]; omega
  ·have h3 : (a + (d - 1)) % N = a + d - 1 - N := by rw [Nat.mod_eq_sub_mod (by omega), Nat.mod_eq_of_lt (by omega)]; omega
   rw [h3, Int.emod_eq_of_lt (by omega) (by omega)]; omega
theorem oA {m : Int} {N : Nat} {s : ad} (h : SS m N s) {a : Nat} (ha : a < N) (hat : bm s.cells a = true) : ∀ (d k : Nat), d < N → d < k → f1 s s.size k (((a + d) % N : Nat) : Int) = some (stI s.cells ((a + d) % N))
 | d, 0, _, hk => by omega
 | d, k + 1, hd, hk => by
  have hle := h.dim.dim.le
  have hl := h.len
  have hp : (a + d) % N < N := Nat.mod_lt _ (by omega)
  rw [f1.eq_2]; simp only [iC h, aS hp, Option.bind_some]
  have hA : (rd s.cells (((a + d) % N : Nat) : Int)).Attr = bm s.cells ((a + d) % N) := rfl
  rw [hA]
  cases e : bm s.cells ((a + d) % N) with
  | true => simp only [Bool.not_true, cond_false]; rw [qO e]
  | false =>
   have hd0 : 1 ≤ d := by
    rcases Nat.eq_zero_or_pos d with h0 | h0
    ·subst h0; rw [Nat.add_zero, Nat.mod_eq_of_lt ha, hat] at e; cases e
    ·exact h0
   have hw : w64 ((((a + d) % N : Nat) : Int) - 1) = (((a + d) % N : Nat) : Int) - 1 := c3 (by omega) (by omega)
   simp only [Bool.not_false, cond_true, hw, f4 h, Option.bind_some, rb (by omega) hd0 hd ha]
   have ih := oA h ha hat (d - 1) k (by omega) (by omega)
   have e2 : ((a + (d - 1)) % N + 1) % N = (a + d) % N := by rw [Nat.mod_add_mod]; congr 1; omega
   have hf : Fmt s.cells := ⟨a, by omega, hat⟩
   have := oC (L := s.cells) (N := N) (n := (a + (d - 1)) % N) (by rw [← hl]; exact km hf) (Nat.mod_lt _ (by omega)) (by rw [e2]; exact e)
   rw [e2] at this; rw [ih]; exact congrArg some this.symm
theorem qk {m : Int} {N : Nat} {s : ad} (h : SS m N s) {n : Int} {k : Nat} (hk : n % N = (k : Int)) (hkN : k < N) : e7 s n = some (stI s.cells k) := by
 have hl := h.len
 have hle := h.dim.dim.le
 unfold e7 cd aQ; simp only [Option.bind_some]
 by_cases hf : Fmt s.cells
 ·have hc := kK.1 hf
  rw [h.attrs, decide_eq_true hc]
  have h4 := hf
  obtain ⟨a, ha, hat⟩ := h4
  have hsz : s.size = ⟨s.size.Rows, s.size.Cols⟩ := rfl
  have e1 : aP s.size n = some (k : Int) := by rw [hsz, f4 h, hk]
  simp only [Bool.not_true, cond_false, e1, Option.bind_some]
  obtain ⟨d, hd, hdN⟩ : ∃ d, (a + d) % N = k ∧ d < N := by
   by_cases hak : a ≤ k
   ·exact ⟨k - a, by rw [show a + (k - a) = k by omega, Nat.mod_eq_of_lt hkN], by omega⟩
   ·exact ⟨k + N - a, by rw [show a + (k + N - a) = k + N by omega, Nat.add_mod_right, Nat.mod_eq_of_lt hkN], by omega⟩
  have := oA h (by omega) hat d bw hdN (by unfold bw; omega)
  rw [hd] at this; rw [this]; rfl
 ·have hc : ¬ cnt s.cells > 0 := fun e => hf (kK.2 e)
  rw [h.attrs, decide_eq_false hc, ir hf (by omega)]; rfl
/-! ### what a field is -/
def fld (f : Int) : bT := ⟨((bU .u8 f 32) != 0), ((bU .u8 f 16) != 0), ri .i64 (w64 (bU .u8 f 12)) 2, ((bU .u8 f 1) != 0)⟩
theorem pof (f : Int) : gX f = some (fld f) := rfl
theorem rof_all : ∀ f : Fin 256, eJ (f.val : Int) = some ⟨(fld (f.val : Int)).Protected, (fld (f.val : Int)).Numeric, (fld (f.val : Int)).Display, (fld (f.val : Int)).Modified⟩ := by decide +kernel
theorem rof {f : Int} (h : By f) : eJ f = some ⟨(fld f).Protected, (fld f).Numeric, (fld f).Display, (fld f).Modified⟩ := by
 obtain ⟨g, rfl⟩ := h.fin; exact rof_all g
/-- the attribute of the field of a place -/
def faI (L : List ae) (k : Nat) : Int := (rd L (stI L k)).FA
/-- may one write there? -/
def ft (L : List ae) (k : Nat) : Bool := !bm L k && (decide (stI L k < 0) || !(fld (faI L k)).Protected)
theorem pfof {m : Int} {N : Nat} {s : ad} (h : SS m N s) {n : Int} {k : Nat} (hk : n % N = (k : Int)) (hkN : k < N) : iu s n = some (if stI s.cells k < 0 then (⟨false, false, 0, false⟩, false) else (fld (faI s.cells k), true)) := by
 have hl := h.len
 unfold iu; simp only [qk h hk hkN, Option.bind_some]
 by_cases hf : Fmt s.cells
 ·obtain ⟨b, h1, h2, _⟩ := iW hf (n := k) (by omega)
  rw [h1, cN (by omega), if_neg (by omega)]
  simp only [cond_false, iC h, aS (show b < N by omega), Option.bind_some, pof]
  unfold faI; rw [h1]
 ·rw [ir hf (by omega)]; rfl
theorem qY {m : Int} {N : Nat} {s : ad} (h : SS m N s) {n : Int} {k : Nat} (hk : n % N = (k : Int)) (hkN : k < N) : eY s n = some (ft s.cells k) := by
 unfold eY ft; simp only [pfof h hk hkN, iC h, hk, Option.bind_some]
 have hA : (rd s.cells (k : Int)).Attr = bm s.cells k := rfl
 rw [hA]
 by_cases hs : stI s.cells k < 0
 ·rw [if_pos hs, decide_eq_true hs]
  cases bm s.cells k <;> rfl
 ·rw [if_neg hs, decide_eq_false hs]
  cases bm s.cells k <;> rfl
theorem rs_fa {m : Int} {N : Nat} {x : aa} (h : RS m N x) {b : Nat} (hb : b < N) : By (rd x.L (b : Int)).FA := by
 have hl := h.len
 exact (h.ok _ (fS (by omega))).fa
theorem ms {m : Int} {N : Nat} {x : aa} (h : RS m N x) {b : Nat} (hb : b < N) : bj x (b : Int) = some ⟨(fld (rd x.L (b : Int)).FA).Protected, (fld (rd x.L (b : Int)).FA).Numeric, (fld (rd x.L (b : Int)).FA).Display, (fld (rd x.L (b : Int)).FA).Modified⟩ := by
 have hl := h.len
 unfold bj
 rw [aX (by omega)]
 simp only [rof (rs_fa h hb), Option.bind_some]
theorem qV {m : Int} {N : Nat} {x : aa} (h : RS m N x) {n : Int} {k : Nat} (hk : n % N = (k : Int)) (hkN : k < N) : cu x n = some (ft x.L k) := by
 have hl := h.len
 unfold cu ft; simp only [f5 h, hk, Option.bind_some, oF h (aS hkN) hkN]
 rw [aX (by omega)]
 have hA : (rd x.L (k : Int)).Attr = bm x.L k := rfl
 rw [hA]
 by_cases hf : Fmt x.L
 ·obtain ⟨b, h1, h2, _⟩ := iW hf (n := k) (by omega)
  unfold faI
  rw [h1, decide_eq_false (show ¬ ((b : Int) < 0) by omega)]
  simp only [cond_false, ms h (show b < N by omega), Option.bind_some]
  cases bm x.L k <;> rfl
 ·rw [ir hf (by omega)]
  cases bm x.L k <;> rfl
/-! ### that it is modified -/
theorem bor1 : ∀ f : Fin 256, By (kn .u8 (f.val : Int) 1) ∧ (bU .u8 (f.val : Int) 61 = (f.val : Int) → bU .u8 (kn .u8 (f.val : Int) 1) 61 = kn .u8 (f.val : Int) 1) := by decide +kernel
def mdf (c : ae) : ae := { c with FA := kn .u8 c.FA 1 }
theorem rU {c : ae} (h : COk c) (ha : c.Attr = true) : COk (mdf c) := by
 obtain ⟨f, hf⟩ := h.fa.fin; obtain ⟨b1, b2⟩ := bor1 f; rw [hf] at b1 b2
 exact ⟨h.char, b1, h.high, h.color, h.set, fun _ => ⟨(h.attr ha).1, b2 (h.attr ha).2⟩, fun e => by have e : c.Attr = false := e; rw [ha] at e; cases e⟩
/-- the cells, the field of a place modified -/
def fq (L : List ae) (k : Nat) : List ae := if stI L k < 0 then L else L.set (stI L k).toNat (mdf (rd L (stI L k)))
theorem iF (L : List ae) (k : Nat) : (fq L k).length = L.length := by unfold fq; split <;> simp
/-- other cells, where they may stand -/
def wL (x : aa) (L : List ae) : aa := ⟨x.Model, x.Alt, x.Size, L, x.Cursor⟩
def wS (s : ad) (L : List ae) : ad := ⟨s.model, s.alternate, s.size, L, s.cursor, cnt L⟩
theorem wS_self {m : Int} {N : Nat} {s : ad} (h : SS m N s) : wS s s.cells = s := by unfold wS; rw [← h.attrs]
theorem RS.w {m : Int} {N : Nat} {x : aa} (h : RS m N x) {L : List ae} (hl : L.length = N) (ho : ∀ c ∈ L, COk c) : RS m N (wL x L) := ⟨h.model, h.dim, hl, ho, h.cur⟩
theorem SS.w {m : Int} {N : Nat} {s : ad} (h : SS m N s) {L : List ae} (hl : L.length = N) (ho : ∀ c ∈ L, COk c) : SS m N (wS s L) := ⟨h.model, h.dim, hl, ho, h.cur, rfl⟩
theorem jC {L : List ae} (ho : ∀ c ∈ L, COk c) {k : Nat} (hk : k < L.length) : ∀ c ∈ fq L k, COk c := by
 intro c hc; unfold fq at hc
 split at hc
 ·exact ho c hc
 ·rename_i hs
  rcases List.mem_or_eq_of_mem_set hc with h1 | rfl
  ·exact ho c h1
  ·have hf : Fmt L := by
    by_cases hf : Fmt L
    ·exact hf
    ·rw [ir hf hk] at hs; exact absurd (by omega) hs
   obtain ⟨b, h1, h2, h3⟩ := iW hf hk; rw [h1]
   exact rU (ho _ (fS (by omega))) h3
theorem tB {m : Int} {N : Nat} {s : ad} (h : SS m N s) {n : Int} {k : Nat} (hk : n % N = (k : Int)) (hkN : k < N) : bL s n = some (wS s (fq s.cells k), decide (0 ≤ stI s.cells k)) := by
 have hl := h.len
 unfold bL fq; simp only [qk h hk hkN, Option.bind_some]
 by_cases hf : Fmt s.cells
 ·obtain ⟨b, h1, h2, h3⟩ := iW hf (n := k) (by omega)
  have hb : b < N := by omega
  have hok := h.ok _ (fS (l := s.cells) (n := (b : Int)) (by omega))
  rw [h1, cN (by omega), if_neg (by omega), decide_eq_true (show (0 : Int) ≤ (b : Int) by omega)]
  simp only [cond_false, iC h, aS hb, Option.bind_some]
  have hmk := rU hok h3
  have hset := (qd h (b : Int) hmk.cb).1
  rw [aS hb, hmk.fit] at hset
  have e : (⟨(rd s.cells (b : Int)).Char, (rd s.cells (b : Int)).Attr, kn .u8 (rd s.cells (b : Int)).FA 1, (rd s.cells (b : Int)).High, (rd s.cells (b : Int)).Color, (rd s.cells (b : Int)).f_Set⟩ : ae) = mdf (rd s.cells (b : Int)) := rfl
  rw [e, hset]; rfl
 ·rw [ir hf (by omega)]
  simp only [Int.reduceBEq, cond_true, if_pos (show (-1 : Int) < 0 by omega), wS_self h]
  rfl
theorem rmod {m : Int} {N : Nat} {x : aa} (h : RS m N x) {n : Int} {k : Nat} (hk : n % N = (k : Int)) (hkN : k < N) : bF x n = some (wL x (fq x.L k), decide (0 ≤ stI x.L k)) := by
 have hl := h.len
 unfold bF fq; simp only [oF h hk hkN, Option.bind_some]
 by_cases hf : Fmt x.L
 ·obtain ⟨b, h1, h2, h3⟩ := iW hf (n := k) (by omega)
  have hb : b < N := by omega
  have hok := h.ok _ (fS (l := x.L) (n := (b : Int)) (by omega))
  rw [h1, decide_eq_false (show ¬ ((b : Int) < 0) by omega), if_neg (by omega), decide_eq_true (show (0 : Int) ≤ (b : Int) by omega)]
  simp only [cond_false]
  rw [aX (by omega)]
  have hmk := rU hok h3
  have hset := (mr h (b : Int) hmk.cb).1
  rw [aS hb, hmk.fit] at hset
  have e : ({ (rd x.L (b : Int)) with FA := kn .u8 ((rd x.L (b : Int)).FA) 1 } : ae) = mdf (rd x.L (b : Int)) := rfl
  rw [e, hset]; rfl
 ·rw [ir hf (by omega)]; rfl
end Go.Vt
set_option linter.unusedVariables false
set_option linter.unusedSimpArgs false
set_option maxRecDepth 100000
namespace Go.Vt
/-! ### loops -/
theorem cw {σ ρ : Type} {F : Nat → σ → Option ρ} {out : ρ} (st : Nat → σ) (j : Nat) (hj : j < 1000000) (step : ∀ k i, i < j → F (k + 1) (st i) = F k (st (i + 1))) (fin : ∀ k, F (k + 1) (st j) = some out) : F bw (st 0) = some out := by
 have key : ∀ n i k, i + n = j → n < k → F k (st i) = some out := by
  intro n
  induction n with
  | zero =>
   intro i k h hk
   obtain ⟨k, rfl⟩ : ∃ q, k = q + 1 := ⟨k - 1, by omega⟩
   have : i = j := by omega
   subst this; exact fin k
  | succ n ih =>
   intro i k h hk
   obtain ⟨k, rfl⟩ : ∃ q, k = q + 1 := ⟨k - 1, by omega⟩
   rw [step k i (by omega)]
   exact ih (i + 1) k (by omega) (by omega)
 exact key j 0 bw (by omega) (by unfold bw; omega)
def tlF (p : Nat → Bool) : Nat → Nat → Nat
 | 0, i => i
 | n + 1, i => if p i then tlF p n (i + 1) else i
/-- how many from the first on are so, of n -/
def tl (p : Nat → Bool) (n : Nat) : Nat := tlF p n 0
theorem mV (p : Nat → Bool) : ∀ n i, i ≤ tlF p n i ∧ tlF p n i ≤ i + n ∧ (∀ q, i ≤ q → q < tlF p n i → p q = true) ∧ (tlF p n i < i + n → p (tlF p n i) = false)
 | 0, i => ⟨Nat.le_refl _, Nat.le_refl _, fun q h1 h2 => by simp only [tlF] at h2; omega, fun h => by simp only [tlF] at h; omega⟩
 | n + 1, i => by
  simp only [tlF]
  by_cases h : p i = true
  ·obtain ⟨g1, g2, g3, g4⟩ := mV p n (i + 1); rw [if_pos h]
   refine ⟨by omega, by omega, fun q h1 h2 => ?_, fun h2 => g4 (by omega)⟩
   by_cases hq : q = i
   ·rw [hq]; exact h
   ·exact g3 q (by omega) h2
  ·rw [if_neg h]
   exact ⟨Nat.le_refl _, by omega, fun q h1 h2 => by omega, fun _ => by simpa using h⟩
theorem jY (p : Nat → Bool) (n : Nat) : tl p n ≤ n := by have := (mV p n 0).2.1; unfold tl; omega
theorem jI {p : Nat → Bool} {n i : Nat} (h : i < tl p n) : p i = true := (mV p n 0).2.2.1 i (by omega) h
theorem iq {p : Nat → Bool} {n : Nat} (h : tl p n < n) : p (tl p n) = false := (mV p n 0).2.2.2 (by unfold tl at h; omega)
theorem tl_eq {p : Nat → Bool} {n j : Nat} (h1 : j ≤ n) (h2 : ∀ i, i < j → p i = true) (h3 : j < n → p j = false) : tl p n = j := by
 have g1 := jY p n
 rcases Nat.lt_trichotomy (tl p n) j with h | h | h
 ·have := iq (p := p) (n := n) (by omega); rw [h2 _ h] at this; cases this
 ·exact h
 ·have := h3 (by omega); rw [jI h] at this; cases this
abbrev ei (f : Nat → Nat) (j : Nat) : List Int := (List.range j).map fun i => ((f i : Nat) : Int)
theorem gZ (f : Nat → Nat) (j : Nat) : ei f (j + 1) = ei f j ++ [((f j : Nat) : Int)] := by unfold ei; rw [List.range_succ, List.map_append]; rfl
theorem bG (f : Nat → Nat) (j : Nat) : (ei f j).length = j := by simp [ei]
theorem iK {f : Nat → Nat} {j i : Nat} (h : i < j) : rd (ei f j) (i : Int) = ((f i : Nat) : Int) := by
 rw [rdn (by rw [bG]; exact h)]; simp [ei]
theorem je {n : Nat} (h : n < 1000000) : w64 ((n : Int) + 1) = ((n + 1 : Nat) : Int) := gp (by omega)
theorem mod1 {N p : Nat} (hN : 1 < N) (hp : p < N) : ((p : Int) + 1) % (N : Int) = (((p + 1) % N : Nat) : Int) := by
 rw [show ((p : Int) + 1) = ((p + 1 : Nat) : Int) by omega]; exact (Int.natCast_emod _ _).symm
theorem modm1 {N p : Nat} (hN : 1 < N) (hp : p < N) : ((p : Int) - 1) % (N : Int) = (((p + (N - 1)) % N : Nat) : Int) := by
 have := rb (N := N) (a := p) (d := N) 
 by_cases h : p = 0
 ·subst h
  rw [show (((0 : Nat) : Int) - 1) = ((N - 1 : Nat) : Int) - N by omega, Int.sub_emod_right, aS (by omega), Nat.mod_eq_of_lt (by omega)]; omega
 ·rw [show ((p : Int) - 1) = ((p - 1 : Nat) : Int) by omega, aS (by omega), show p + (N - 1) = (p - 1) + N by omega, Nat.add_mod_right, Nat.mod_eq_of_lt (by omega)]
/-! ### the places of a field -/
/-- how many places the field of an attribute has -/
def eX (L : List ae) (a : Nat) : Nat := tl (fun i => !bm L ((a + 1 + i) % L.length)) (L.length - 1)
def g8 (L : List ae) (a : Nat) : List Int := ei (fun i => (a + 1 + i) % L.length) (eX L a)
theorem lM {L : List ae} {a : Nat} (hL : 0 < L.length) : eX L a < L.length := by have := jY (fun i => !bm L ((a + 1 + i) % L.length)) (L.length - 1); unfold eX; omega
theorem og {L : List ae} {a i : Nat} (h : i < eX L a) : bm L ((a + 1 + i) % L.length) = false := by have := jI h; simpa using this
/-- behind the last one stands an attribute -/
theorem mY {L : List ae} {a : Nat} (hL : 0 < L.length) (ha : a < L.length) (hat : bm L a = true) : bm L ((a + 1 + eX L a) % L.length) = true := by
 by_cases h : eX L a < L.length - 1
 ·have h2 : (!bm L ((a + 1 + eX L a) % L.length)) = false := iq h
  simpa using h2
 ·have h1 := jY (fun i => !bm L ((a + 1 + i) % L.length)) (L.length - 1)
  have : eX L a = L.length - 1 := by unfold eX at h ⊢; omega
  rw [this, show a + 1 + (L.length - 1) = a + L.length by omega, Nat.add_mod_right, Nat.mod_eq_of_lt ha]; exact hat
theorem stI_run {L : List ae} {a i : Nat} (ha : a < L.length) (hat : bm L a = true) (hi : i ≤ eX L a) : stI L ((a + i) % L.length) = (a : Int) := by
 refine p9 (km ⟨a, ha, hat⟩) ha hat i fun t h1 h2 => ?_
 have := og (L := L) (a := a) (i := t - 1) (by omega)
 rwa [show a + 1 + (t - 1) = a + t by omega] at this
/-- the program's -/
theorem pplaces {m : Int} {N : Nat} {s : ad} (h : SS m N s) {a : Nat} (ha : a < N) (hat : bm s.cells a = true) : fl s (a : Int) = some (s, (a : Int), g8 s.cells a) := by
 have hl := h.len
 have hle := h.dim.dim.le
 have hA : (rd s.cells (a : Int)).Attr = true := hat
 have hw1 : w64 ((a : Int) + 1) = ((a + 1 : Nat) : Int) := je (by omega)
 have loop : cK s ⟨s.size.Rows, s.size.Cols⟩ bw ((((a + 1) % N : Nat) : Int), []) = some (g8 s.cells a) := by
  have hr := lM (L := s.cells) (a := a) (by omega)
  refine cw (fun i => ((((a + 1 + i) % N : Nat) : Int), ei (fun i => (a + 1 + i) % N) i)) (eX s.cells a) (by omega) (fun k i hi => ?_) (fun k => ?_)
  ·have hp : (a + 1 + i) % N < N := Nat.mod_lt _ (by omega)
   have hn := og hi
   rw [hl] at hn
   have hn' : (rd s.cells (((a + 1 + i) % N : Nat) : Int)).Attr = false := hn
   rw [cK.eq_2]; simp only [iC h, aS hp, Option.bind_some, hn', Bool.not_false, cond_true]
   rw [aX (by rw [bG]; simp only [List.length_cons, List.length_nil]; omega), je (by omega)]
   simp only [f4 h, Option.bind_some]
   rw [show (((((a + 1 + i) % N + 1 : Nat) : Int)) % (N : Int)) = (((a + 1 + (i + 1)) % N : Nat) : Int) by
    rw [← Int.natCast_emod, Nat.mod_add_mod]; rfl, gZ]
  ·have hp : (a + 1 + eX s.cells a) % N < N := Nat.mod_lt _ (by omega)
   have he := mY (L := s.cells) (a := a) (by omega) (by omega) hat
   rw [hl] at he
   have he' : (rd s.cells (((a + 1 + eX s.cells a) % N : Nat) : Int)).Attr = true := he
   rw [cK.eq_2]; simp only [iC h, aS hp, Option.bind_some, he', Bool.not_true, cond_false]; unfold g8; rw [hl]
 unfold fl fD aQ; simp only [Option.bind_some, f4 h, aS ha, iC h, hA, Bool.not_true, cond_false, hw1]; rw [show ((((a + 1 : Nat) : Int)) % (N : Int)) = (((a + 1) % N : Nat) : Int) from (Int.natCast_emod _ _).symm]
 have hsz : s.size = ⟨s.size.Rows, s.size.Cols⟩ := rfl
 rw [hsz, loop]
 rfl
theorem sF {N : Nat} (h1 : 0 < N) (h2 : N ≤ 1000000) (n : Nat) : bx (n : Int) (N : Int) = some ((n % N : Nat) : Int) := by
 rw [lu h1 h2, Int.natCast_emod]
/-- the document's -/
theorem sE {m : Int} {N : Nat} {x : aa} (h : RS m N x) {a : Nat} (ha : a < N) (hat : bm x.L a = true) : dD x (a : Int) = some (g8 x.L a) := by
 have hl := h.len
 have hle := h.dim.dim.le
 have hA : (rd x.L (a : Int)).Attr = true := hat
 unfold dD; simp only [f5 h, aS ha, Option.bind_some]
 rw [aX (by omega)]
 simp only [hA, Bool.not_true, cond_false, qg h, Option.bind_some]
 have loop : cI x (a : Int) (ez x.L (fO x.L) N) bw (1, []) = some (g8 x.L a) := by
  have hr := lM (L := x.L) (a := a) (by omega)
  have e1 : (1 : Int) = ((1 + 0 : Nat) : Int) := rfl
  rw [e1]
  refine cw (fun i => (((1 + i : Nat) : Int), ei (fun i => (a + 1 + i) % N) i)) (eX x.L a) (by omega) (fun k i hi => ?_) (fun k => ?_)
  ·have hp : (a + 1 + i) % N < N := Nat.mod_lt _ (by omega)
   have hs := stI_run (L := x.L) (a := a) (i := i + 1) (by omega) hat (by omega)
   rw [hl, show a + (i + 1) = a + 1 + i by omega] at hs
   have hs' : stF x.L (fO x.L) ((a + 1 + i) % N) = (a : Int) := hs
   have d1 : decide (((1 + i : Nat) : Int) < (N : Int)) = true := decide_eq_true (by omega)
   have w1 : w64 ((a : Int) + ((1 + i : Nat) : Int)) = ((a + 1 + i : Nat) : Int) := by rw [c3 (by omega) (by omega)]; omega
   rw [cI.eq_2]
   simp only [d1, cond_true, w1, hl, sF (show 0 < N by omega) (by omega), Option.bind_some]
   rw [aX (by rw [show (ez x.L (fO x.L) N).length = N by simp [ez]]; omega), kD hp, hs', nw rfl]
   simp only [cond_false]
   rw [aX (by rw [bG]; simp only [List.length_cons, List.length_nil]; omega), je (by omega), gZ]
   rfl
  ·rw [cI.eq_2]
   by_cases hj : 1 + eX x.L a < N
   ·have hp : (a + 1 + eX x.L a) % N < N := Nat.mod_lt _ (by omega)
    have he := mY (L := x.L) (a := a) (by omega) (by omega) hat
    rw [hl] at he
    have hne : (a + 1 + eX x.L a) % N ≠ a := by
     intro e
     by_cases h3 : a + 1 + eX x.L a < N
     ·rw [Nat.mod_eq_of_lt h3] at e; omega
     ·rw [Nat.mod_eq_sub_mod (by omega), Nat.mod_eq_of_lt (by omega)] at e; omega
    have d1 : decide (((1 + eX x.L a : Nat) : Int) < (N : Int)) = true := decide_eq_true (by omega)
    have w1 : w64 ((a : Int) + ((1 + eX x.L a : Nat) : Int)) = ((a + 1 + eX x.L a : Nat) : Int) := by rw [c3 (by omega) (by omega)]; omega
    simp only [d1, cond_true, w1, hl, sF (show 0 < N by omega) (by omega), Option.bind_some]
    rw [aX (by rw [show (ez x.L (fO x.L) N).length = N by simp [ez]]; omega), kD hp, iB he, nv (by omega)]
    simp only [cond_true]; unfold g8; rw [hl]
   ·have d1 : decide (((1 + eX x.L a : Nat) : Int) < (N : Int)) = false := decide_eq_false (by omega)
    simp only [hl, d1, cond_false]; unfold g8; rw [hl]
 rw [loop]; rfl
end Go.Vt
set_option linter.unusedVariables false
set_option linter.unusedSimpArgs false
set_option maxRecDepth 100000
namespace Go.Vt
/-- is it the first place of an unprotected field? -/
def frB (L : List ae) (p : Nat) : Bool := bm L ((p + (L.length - 1)) % L.length) && (!bm L p && !(fld (rd L (((p + (L.length - 1)) % L.length : Nat) : Int)).FA).Protected)
def ob (L : List ae) (k : Nat) : Nat := tl (fun i => !frB L ((k + 1 + i) % L.length)) L.length
def oT (L : List ae) (k : Nat) : Nat := tl (fun i => !frB L ((k + (L.length - 1 - i)) % L.length)) L.length
def ls (L : List ae) (k : Nat) : Int := if ob L k < L.length then (((k + 1 + ob L k) % L.length : Nat) : Int) else -1
def m5 (L : List ae) (k : Nat) : Int := if oT L k < L.length then (((k + (L.length - 1 - oT L k)) % L.length : Nat) : Int) else -1
theorem pfirst {m : Int} {N : Nat} {s : ad} (h : SS m N s) {p : Nat} (hp : p < N) : ii s (p : Int) = some (frB s.cells p) := by
 have hl := h.len
 have hle := h.dim.dim.le
 have hw : w64 ((p : Int) - 1) = (p : Int) - 1 := c3 (by omega) (by omega)
 unfold ii frB
 simp only [hw, iC h, modm1 (show 1 < N by omega) hp, aS hp, Option.bind_some, hl, pof]
 have hA : (rd s.cells (((p + (N - 1)) % N : Nat) : Int)).Attr = bm s.cells ((p + (N - 1)) % N) := rfl
 have hB : (rd s.cells (p : Int)).Attr = bm s.cells p := rfl
 rw [hA, hB]
 cases bm s.cells ((p + (N - 1)) % N) <;> cases bm s.cells p <;> rfl
theorem pX {m : Int} {N : Nat} {s : ad} (h : SS m N s) (z : Int) (f : Nat → Nat) (hf : ∀ i, f i < N) (hz : ∀ i, i < N → aP ⟨s.size.Rows, s.size.Cols⟩ (w64 ((f i : Int) + z)) = some ((f (i + 1) : Nat) : Int)) :
  gU s (f 0 : Int) z = some (if tl (fun i => !frB s.cells (f (i + 1))) N < N then ((f (tl (fun i => !frB s.cells (f (i + 1))) N + 1) : Nat) : Int) else -1) := by
 have hl := h.len
 have hle := h.dim.dim.le
 generalize hj : tl (fun i => !frB s.cells (f (i + 1))) N = j
 have hjl : j ≤ N := by rw [← hj]; exact jY _ _
 unfold gU aQ; simp only [Option.bind_some, mW h]
 have loop : fM s z ⟨s.size.Rows, s.size.Cols⟩ (N : Int) bw (0, (f 0 : Int)) = some (if j < N then .inr ((f (j + 1) : Nat) : Int) else .inl ()) := by
  refine cw (fun i => ((i : Int), ((f i : Nat) : Int))) j (by omega) (fun k i hi => ?_) (fun k => ?_)
  ·have d1 : decide ((i : Int) < (N : Int)) = true := decide_eq_true (by omega)
   have hp := jI (p := fun i => !frB s.cells (f (i + 1))) (n := N) (i := i) (by omega)
   have hp' : frB s.cells (f (i + 1)) = false := by simpa using hp
   rw [fM.eq_2]
   simp only [d1, cond_true, hz i (by omega), Option.bind_some, pfirst h (hf _), hp', cond_false, je (show i < 1000000 by omega)]
  ·rw [fM.eq_2]
   by_cases hjN : j < N
   ·have d1 : decide ((j : Int) < (N : Int)) = true := decide_eq_true (by omega)
    have hp := iq (p := fun i => !frB s.cells (f (i + 1))) (n := N) (by omega)
    rw [hj] at hp
    have hp' : frB s.cells (f (j + 1)) = true := by simpa using hp
    simp only [d1, cond_true, hz j hjN, Option.bind_some, pfirst h (hf _), hp', if_pos hjN]
    rfl
   ·have d1 : decide ((j : Int) < (N : Int)) = false := decide_eq_false (by omega)
    simp only [d1, cond_false, if_neg hjN]
 rw [loop]
 by_cases hjN : j < N
 ·rw [if_pos hjN, if_pos hjN]; rfl
 ·rw [if_neg hjN, if_neg hjN]; rfl
theorem pnext {m : Int} {N : Nat} {s : ad} (h : SS m N s) {n : Int} {k : Nat} (hk : n % N = (k : Int)) (hkN : k < N) : fF s n = some (ls s.cells k) := by
 have hl := h.len
 have hle := h.dim.dim.le
 unfold fF aQ; simp only [Option.bind_some, f4 h, hk]
 have key := pX h 1 (fun i => (k + i) % N) (fun i => Nat.mod_lt _ (by omega)) (fun i hi => by
  have hp : (k + i) % N < N := Nat.mod_lt _ (by omega)
  rw [c3 (by omega) (by omega), f4 h, mod1 (by omega) hp, Nat.mod_add_mod]; rfl)
 simp only [Nat.add_zero, Nat.mod_eq_of_lt hkN] at key
 have e : ∀ i, k + (i + 1) = k + 1 + i := fun i => by omega
 have hfun : (fun i => !frB s.cells ((k + (i + 1)) % N)) = fun i => !frB s.cells ((k + 1 + i) % N) := funext fun i => by rw [e]
 rw [hfun, e (tl (fun i => !frB s.cells ((k + 1 + i) % N)) N)] at key; rw [key]; unfold ls ob; rw [hl]
 rfl
theorem pprev {m : Int} {N : Nat} {s : ad} (h : SS m N s) {n : Int} {k : Nat} (hk : n % N = (k : Int)) (hkN : k < N) : iI s n = some (m5 s.cells k) := by
 have hl := h.len
 have hle := h.dim.dim.le
 unfold iI aQ; simp only [Option.bind_some, f4 h, hk]
 have key := pX h (-1) (fun i => (k + (N - i)) % N) (fun i => Nat.mod_lt _ (by omega)) (fun i hi => by
  have hp : (k + (N - i)) % N < N := Nat.mod_lt _ (by omega)
  rw [c3 (by omega) (by omega), f4 h, show ((((k + (N - i)) % N : Nat) : Int) + -1) = (((k + (N - i)) % N : Nat) : Int) - 1 by omega, modm1 (by omega) hp, Nat.mod_add_mod]
  by_cases h0 : i + 1 ≤ N
  ·rw [show k + (N - i) + (N - 1) = k + (N - (i + 1)) + N by omega, Nat.add_mod_right]
  ·omega)
 simp only [Nat.sub_zero, Nat.add_mod_right, Nat.mod_eq_of_lt hkN] at key
 have e : ∀ i, N - (i + 1) = N - 1 - i := fun i => by omega
 have hfun : (fun i => !frB s.cells ((k + (N - (i + 1))) % N)) = fun i => !frB s.cells ((k + (N - 1 - i)) % N) := funext fun i => by rw [e]
 rw [hfun, e (tl (fun i => !frB s.cells ((k + (N - 1 - i)) % N)) N)] at key; rw [key]; unfold m5 oT; rw [hl]
 rfl
/-! ### the document's -/
/-- attributes of unprotected fields that have places -/
def frA (L : List ae) (a : Nat) : Bool := !bm L ((a + 1) % L.length) && !(fld (rd L (a : Int)).FA).Protected
def gE (L : List ae) : List Int := ((b9 L L.length).filter (frA L)).map fun a => (((a + 1) % L.length : Nat) : Int)
theorem runI_pos {L : List ae} {a : Nat} (hL : 1 < L.length) : (0 < eX L a) = (bm L ((a + 1) % L.length) = false) := by
 apply propext
 constructor
 ·intro h; exact og (i := 0) h
 ·intro h; rcases Nat.eq_zero_or_pos (eX L a) with h0 | h0
  ·have : eX L a < L.length - 1 := by omega
   have h2 := iq this
   change tl _ _ = 0 at h0; rw [h0] at h2; simp only [Nat.add_zero] at h2; rw [h] at h2; cases h2
  ·exact h0
theorem rfirsts {m : Int} {N : Nat} {x : aa} (h : RS m N x) : eg x = some (gE x.L) := by
 have hl := h.len
 have hle := h.dim.dim.le
 have hal := jT x.L N
 unfold eg; simp only [py h, Option.bind_some]
 generalize hA : b9 x.L N = A at hal
 have hmem : ∀ i (hi : i < A.length), A[i] < N ∧ bm x.L A[i] = true := fun i hi => fN.1 (by rw [hA]; exact List.getElem_mem hi)
 have loop : cJ x (A.map fun i : Nat => (i : Int)) bw (0, []) = some (gE x.L) := by
  refine cw (fun i => ((i : Int), ((A.take i).filter (frA x.L)).map fun a => (((a + 1) % N : Nat) : Int))) A.length (by omega) (fun k i hi => ?_) (fun k => ?_)
  ·obtain ⟨ha, hat⟩ := hmem i hi
   have d1 : decide ((i : Int) < ((A.map fun i : Nat => (i : Int)).length : Int)) = true := decide_eq_true (by rw [List.length_map]; omega)
   have hrd : rd (A.map fun i : Nat => (i : Int)) (i : Int) = (A[i] : Int) := by rw [rdn (by rw [List.length_map]; exact hi)]; simp
   have hfl : (((A.take i).filter (frA x.L)).map fun a => (((a + 1) % N : Nat) : Int)).length ≤ 3564 := by
    rw [List.length_map]
    have := List.length_filter_le (frA x.L) (A.take i)
    have h2 : (A.take i).length ≤ A.length := by rw [List.length_take]; omega
    omega
   rw [cJ.eq_2]; simp only [d1, cond_true]
   rw [aX (by rw [List.length_map]; omega), hrd]
   simp only [sE h ha hat, Option.bind_some, ms h ha]; rw [List.take_succ_eq_append_getElem hi, List.filter_append, List.map_append]
   have hrun := runI_pos (L := x.L) (a := A[i]) (by omega)
   have hplen : (g8 x.L A[i]).length = eX x.L A[i] := by unfold g8; rw [bG]
   have wz := je (show i < 1000000 by omega)
   cases hfr : bm x.L ((A[i] + 1) % x.L.length) with
   | true =>
    have h0 : ¬ 0 < eX x.L A[i] := by rw [hrun, hfr]; simp
    have d2 : decide (((g8 x.L A[i]).length : Int) > 0) = false := decide_eq_false (by omega)
    have hfa : frA x.L A[i] = false := by unfold frA; rw [hfr]; rfl
    simp only [d2, cond_false, Option.bind_some, wz, List.filter_cons, hfa, List.filter_nil, Bool.false_eq_true, if_false, List.map_nil, List.append_nil]
   | false =>
    have h0 : 0 < eX x.L A[i] := by rw [hrun, hfr]
    have d2 : decide (((g8 x.L A[i]).length : Int) > 0) = true := decide_eq_true (by omega)
    have hfa : frA x.L A[i] = !(fld (rd x.L (A[i] : Int)).FA).Protected := by unfold frA; rw [hfr]; rfl
    simp only [d2, cond_true, Option.bind_some, wz, List.filter_cons, hfa, List.filter_nil]
    cases hp : (fld (rd x.L (A[i] : Int)).FA).Protected with
    | true => simp only [Bool.not_true, cond_false, Option.bind_some, Bool.false_eq_true, if_false, List.map_nil, List.append_nil]
    | false =>
     simp only [Bool.not_false, cond_true, if_true, List.map_cons, List.map_nil]
     have hr0 : rd (g8 x.L A[i]) (0 : Int) = (((A[i] + 1) % N : Nat) : Int) := by
      unfold g8
      have := iK (f := fun q => (A[i] + 1 + q) % x.L.length) h0
      rw [hl] at this
      simpa [hl] using this
     rw [aX (by omega), aX (by simp only [List.length_cons, List.length_nil]; omega), hr0]
     rfl
  ·have d1 : decide ((A.length : Int) < ((A.map fun i : Nat => (i : Int)).length : Int)) = false := decide_eq_false (by rw [List.length_map]; omega)
   rw [cJ.eq_2]; simp only [d1, cond_false]; unfold gE; rw [hl, hA, List.take_of_length_le (Nat.le_refl _)]
 rw [loop]; rfl
theorem ix {L : List ae} (hL : 1 < L.length) {z : Int} : z ∈ gE L ↔ ∃ p : Nat, z = (p : Int) ∧ p < L.length ∧ frB L p = true := by
 unfold gE; simp only [List.mem_map, List.mem_filter]
 constructor
 ·rintro ⟨a, ⟨h1, h2⟩, rfl⟩; obtain ⟨h3, h4⟩ := fN.1 h1
  refine ⟨_, rfl, Nat.mod_lt _ (by omega), ?_⟩
  have e : ((a + 1) % L.length + (L.length - 1)) % L.length = a := by
   rw [Nat.mod_add_mod, show a + 1 + (L.length - 1) = a + L.length by omega, Nat.add_mod_right, Nat.mod_eq_of_lt h3]
  unfold frB; rw [e, h4]; unfold frA at h2
  simpa using h2
 ·rintro ⟨p, rfl, hp, hf⟩; unfold frB at hf; simp only [Bool.and_eq_true] at hf; obtain ⟨g1, g2, g3⟩ := hf
  refine ⟨(p + (L.length - 1)) % L.length, ⟨fN.2 ⟨Nat.mod_lt _ (by omega), g1⟩, ?_⟩, ?_⟩
  ·unfold frA
   rw [Nat.mod_add_mod, show p + (L.length - 1) + 1 = p + L.length by omega, Nat.add_mod_right, Nat.mod_eq_of_lt hp]
   simp only [Bool.and_eq_true]; exact ⟨g2, g3⟩
  ·rw [Nat.mod_add_mod, show p + (L.length - 1) + 1 = p + L.length by omega, Nat.add_mod_right, Nat.mod_eq_of_lt hp]
/-- how far it is from a place to the next, 1 at least -/
def gL (N k p : Nat) (iS : Bool) : Nat := let d := if iS then (k + (N - p)) % N else (p + (N - k)) % N; if d = 0 then N else d
theorem oG {m : Int} {N : Nat} {x : aa} (h : RS m N x) {n : Int} {k : Nat} (hk : n % N = (k : Int)) (hkN : k < N) (iS : Bool) :
  ∃ r, cv x n iS = some r ∧ ((r = -1 ∧ gE x.L = []) ∨ ∃ p : Nat, r = (p : Int) ∧ (p : Int) ∈ gE x.L ∧ ∀ q : Nat, (q : Int) ∈ gE x.L → gL N k p iS ≤ gL N k q iS) := by
 have hl := h.len
 have hle := h.dim.dim.le
 unfold cv; simp only [rfirsts h, Option.bind_some]
 have hFN : ∀ z ∈ gE x.L, ∃ p : Nat, z = (p : Int) ∧ p < N := fun z hz => by
  obtain ⟨p, h1, h2, _⟩ := (ix (by omega)).1 hz; exact ⟨p, h1, by omega⟩
 have hFl : (gE x.L).length ≤ 3564 := by
  unfold gE; rw [List.length_map]
  have := List.length_filter_le (frA x.L) (b9 x.L x.L.length)
  have := jT x.L x.L.length
  omega
 generalize gE x.L = F at hFN hFl
 have key := iz (L := c6 x n iS F) (n := F.length) (s := ((0 : Int), (-1 : Int)))
  (fun i y => (i = 0 ∧ y.2 = -1) ∨ ∃ p : Nat, y.2 = (p : Int) ∧ y.1 = (gL N k p iS : Int) ∧ (p : Int) ∈ F.take i ∧ ∀ q : Nat, (q : Int) ∈ F.take i → gL N k p iS ≤ gL N k q iS)
  (fun r => (r = -1 ∧ F = []) ∨ ∃ p : Nat, r = (p : Int) ∧ (p : Int) ∈ F ∧ ∀ q : Nat, (q : Int) ∈ F → gL N k p iS ≤ gL N k q iS) (by omega) ?_ ?_ (.inl ⟨rfl, rfl⟩)
 ·obtain ⟨r, h1, h2⟩ := key; rw [h1]; exact ⟨r, rfl, h2⟩
 ·rintro kk i ⟨far, best⟩ hi hI; obtain ⟨q, hq, hqN⟩ := hFN _ (List.getElem_mem hi)
  have d1 : decide ((i : Int) < (F.length : Int)) = true := decide_eq_true (by omega)
  rw [c6.eq_2]; simp only [d1, cond_true]
  rw [aX (by omega), rdn hi, hq]
  have m1 : bx (w64 ((q : Int) - (k : Int))) (N : Int) = some ((((q + (N - k)) % N : Nat)) : Int) := by
   rw [c3 (by omega) (by omega), lu (by omega) (by omega), show ((q : Int) - (k : Int)) = ((q + (N - k) : Nat) : Int) - N by omega, Int.sub_emod_right, Int.natCast_emod]
  have m2 : bx (w64 ((k : Int) - (q : Int))) (N : Int) = some ((((k + (N - q)) % N : Nat)) : Int) := by
   rw [c3 (by omega) (by omega), lu (by omega) (by omega), show ((k : Int) - (q : Int)) = ((k + (N - q) : Nat) : Int) - N by omega, Int.sub_emod_right, Int.natCast_emod]
  simp only [f5 h, hk, hl, m1, m2, Option.bind_some]
  have e1 : (cond iS (some ((((k + (N - q)) % N : Nat)) : Int)) (some ((((q + (N - k)) % N : Nat)) : Int)) : Option Int) = some (((if iS then (k + (N - q)) % N else (q + (N - k)) % N : Nat)) : Int) := by cases iS <;> rfl
  rw [e1]; simp only [Option.bind_some]
  have e2 : (cond ((((if iS then (k + (N - q)) % N else (q + (N - k)) % N : Nat)) : Int) == 0) (some (N : Int)) (some (((if iS then (k + (N - q)) % N else (q + (N - k)) % N : Nat)) : Int)) : Option Int) = some (gL N k q iS : Int) := by
   unfold gL
   generalize (if iS then (k + (N - q)) % N else (q + (N - k)) % N) = d
   by_cases hd : d = 0
   ·subst hd; rfl
   ·rw [cN (by omega)]; simp [hd]
  rw [e2]
  simp only [Option.bind_some, je (show i < 1000000 by omega)]
  have htk : F.take (i + 1) = F.take i ++ [(q : Int)] := by rw [List.take_succ_eq_append_getElem hi, hq]
  rcases hI with ⟨h0, hb⟩ | ⟨p, hb, hf, hp, hmin⟩
  ·simp only at hb; subst h0 hb; simp only [show decide ((-1 : Int) < 0) = true from rfl, cond_true, Option.bind_some]
   refine ⟨_, rfl, .inr ⟨q, rfl, rfl, by rw [htk]; simp, fun r hr => ?_⟩⟩
   rw [htk] at hr
   have h9 : (r : Int) = (q : Int) := by simpa using hr
   have : r = q := by omega
   subst this; exact Nat.le_refl _
  ·simp only at hb hf; subst hb hf
   simp only [show decide ((p : Int) < 0) = false from decide_eq_false (by omega), cond_false, Option.bind_some]
   by_cases hlt : gL N k q iS < gL N k p iS
   ·rw [decide_eq_true (show ((gL N k q iS : Nat) : Int) < ((gL N k p iS : Nat) : Int) by omega)]
    simp only [cond_true, Option.bind_some]
    refine ⟨_, rfl, .inr ⟨q, rfl, rfl, by rw [htk]; simp, fun r hr => ?_⟩⟩
    rw [htk] at hr; rcases List.mem_append.1 hr with h1 | h1
    ·have := hmin r h1; omega
    ·have h9 : (r : Int) = (q : Int) := by simpa using h1
     have : r = q := by omega
     subst this; exact Nat.le_refl _
   ·rw [decide_eq_false (show ¬ ((gL N k q iS : Nat) : Int) < ((gL N k p iS : Nat) : Int) by omega)]
    simp only [cond_false, Option.bind_some]
    refine ⟨_, rfl, .inr ⟨p, rfl, rfl, by rw [htk]; exact List.mem_append_left _ hp, fun r hr => ?_⟩⟩
    rw [htk] at hr; rcases List.mem_append.1 hr with h1 | h1
    ·exact hmin r h1
    ·have h9 : (r : Int) = (q : Int) := by simpa using h1
     have : r = q := by omega
     subst this; omega
 ·rintro kk ⟨far, best⟩ hI
  have d1 : decide ((F.length : Int) < (F.length : Int)) = false := decide_eq_false (by omega)
  rw [c6.eq_2]; simp only [d1, cond_false]; refine ⟨_, rfl, ?_⟩; rcases hI with ⟨h0, hb⟩ | ⟨p, hb, hf, hp, hmin⟩
  ·exact .inl ⟨hb, List.length_eq_zero_iff.1 h0⟩
  ·rw [List.take_of_length_le (Nat.le_refl _)] at hp hmin; exact .inr ⟨p, hb, hp, hmin⟩
theorem dist_f {N k i : Nat} (hk : k < N) (hi : i < N) : gL N k ((k + 1 + i) % N) false = i + 1 := by
 unfold gL; simp only [Bool.false_eq_true, if_false, Nat.mod_add_mod]
 rw [show k + 1 + i + (N - k) = (i + 1) + N by omega, Nat.add_mod_right]
 by_cases h : i + 1 = N
 ·rw [h, Nat.mod_self]; simp
 ·rw [Nat.mod_eq_of_lt (by omega)]; simp
theorem at_f {N k p : Nat} (hk : k < N) (hp : p < N) : 1 ≤ gL N k p false ∧ gL N k p false ≤ N ∧ p = (k + 1 + (gL N k p false - 1)) % N := by
 unfold gL; simp only [Bool.false_eq_true, if_false]
 by_cases h : k ≤ p
 ·rw [show p + (N - k) = (p - k) + N by omega, Nat.add_mod_right, Nat.mod_eq_of_lt (by omega)]
  by_cases h2 : p - k = 0
  ·rw [if_pos h2]; refine ⟨by omega, Nat.le_refl _, ?_⟩
   rw [show k + 1 + (N - 1) = p + N by omega, Nat.add_mod_right, Nat.mod_eq_of_lt hp]
  ·rw [if_neg h2]; refine ⟨by omega, by omega, ?_⟩
   rw [show k + 1 + (p - k - 1) = p by omega, Nat.mod_eq_of_lt hp]
 ·rw [Nat.mod_eq_of_lt (by omega), if_neg (by omega)]
  refine ⟨by omega, by omega, ?_⟩
  rw [show k + 1 + (p + (N - k) - 1) = p + N by omega, Nat.add_mod_right, Nat.mod_eq_of_lt hp]
theorem dist_b {N k i : Nat} (hk : k < N) (hi : i < N) : gL N k ((k + (N - 1 - i)) % N) true = i + 1 := by
 unfold gL; simp only [if_true]
 by_cases h : k + (N - 1 - i) < N
 ·rw [Nat.mod_eq_of_lt h, show k + (N - (k + (N - 1 - i))) = i + 1 by omega]
  by_cases h2 : i + 1 = N
  ·rw [h2, Nat.mod_self]; simp
  ·rw [Nat.mod_eq_of_lt (by omega)]; simp
 ·have e : (k + (N - 1 - i)) % N = k - 1 - i := by rw [Nat.mod_eq_sub_mod (by omega), Nat.mod_eq_of_lt (by omega)]; omega
  rw [e, show k + (N - (k - 1 - i)) = (i + 1) + N by omega, Nat.add_mod_right]
  by_cases h2 : i + 1 = N
  ·rw [h2, Nat.mod_self]; simp
  ·rw [Nat.mod_eq_of_lt (by omega)]; simp
theorem at_b {N k p : Nat} (hk : k < N) (hp : p < N) : 1 ≤ gL N k p true ∧ gL N k p true ≤ N ∧ p = (k + (N - 1 - (gL N k p true - 1))) % N := by
 unfold gL; simp only [if_true]
 by_cases h : p ≤ k
 ·rw [show k + (N - p) = (k - p) + N by omega, Nat.add_mod_right, Nat.mod_eq_of_lt (by omega)]
  by_cases h2 : k - p = 0
  ·rw [if_pos h2]; refine ⟨by omega, Nat.le_refl _, ?_⟩
   rw [show k + (N - 1 - (N - 1)) = p by omega, Nat.mod_eq_of_lt hp]
  ·rw [if_neg h2]; refine ⟨by omega, by omega, ?_⟩
   rw [show k + (N - 1 - (k - p - 1)) = p + N by omega, Nat.add_mod_right, Nat.mod_eq_of_lt hp]
 ·rw [Nat.mod_eq_of_lt (by omega), if_neg (by omega)]
  refine ⟨by omega, by omega, ?_⟩
  rw [show k + (N - 1 - (k + (N - p) - 1)) = p by omega, Nat.mod_eq_of_lt hp]
theorem rnext {m : Int} {N : Nat} {x : aa} (h : RS m N x) {n : Int} {k : Nat} (hk : n % N = (k : Int)) (hkN : k < N) : cv x n false = some (ls x.L k) := by
 have hl := h.len
 have hle := h.dim.dim.le
 obtain ⟨r, h1, h2⟩ := oG h hk hkN false; rw [h1]
 congr 1
 unfold ls
 have hjl : ob x.L k ≤ x.L.length := jY _ _
 by_cases hj : ob x.L k < x.L.length
 ·rw [if_pos hj]
  have he : (!frB x.L ((k + 1 + ob x.L k) % x.L.length)) = false := iq (p := fun i => !frB x.L ((k + 1 + i) % x.L.length)) hj
  have hmem : (((k + 1 + ob x.L k) % x.L.length : Nat) : Int) ∈ gE x.L := (ix (by omega)).2 ⟨_, rfl, Nat.mod_lt _ (by omega), by simpa using he⟩
  rcases h2 with ⟨_, h3⟩ | ⟨p, rfl, hp, hmin⟩
  ·rw [h3] at hmem; cases hmem
  ·have g1 := hmin _ hmem
   rw [hl, dist_f hkN (by omega)] at g1
   obtain ⟨p', hp', hpN, hpf⟩ := (ix (by omega)).1 hp
   have : p' = p := by omega
   subst this
   obtain ⟨a1, a2, a3⟩ := at_f hkN (show p' < N by omega)
   rcases Nat.lt_or_ge (gL N k p' false - 1) (ob x.L k) with g2 | g2
   ·have g3 : (!frB x.L ((k + 1 + (gL N k p' false - 1)) % x.L.length)) = true := jI (p := fun i => !frB x.L ((k + 1 + i) % x.L.length)) g2
    rw [hl, ← a3, hpf] at g3; cases g3
   ·rw [hl, show ob x.L k = gL N k p' false - 1 by omega, ← a3]
 ·rw [if_neg hj]; rcases h2 with ⟨h3, _⟩ | ⟨p, rfl, hp, hmin⟩
  ·exact h3
  ·exfalso
   obtain ⟨p', hp', hpN, hpf⟩ := (ix (by omega)).1 hp
   have : p' = p := by omega
   subst this
   obtain ⟨a1, a2, a3⟩ := at_f hkN (show p' < N by omega)
   have g3 : (!frB x.L ((k + 1 + (gL N k p' false - 1)) % x.L.length)) = true := jI (p := fun i => !frB x.L ((k + 1 + i) % x.L.length)) (n := x.L.length) (by unfold ob at hj; omega)
   rw [hl, ← a3, hpf] at g3; cases g3
theorem rprev {m : Int} {N : Nat} {x : aa} (h : RS m N x) {n : Int} {k : Nat} (hk : n % N = (k : Int)) (hkN : k < N) : cv x n true = some (m5 x.L k) := by
 have hl := h.len
 have hle := h.dim.dim.le
 obtain ⟨r, h1, h2⟩ := oG h hk hkN true; rw [h1]
 congr 1
 unfold m5
 have hjl : oT x.L k ≤ x.L.length := jY _ _
 by_cases hj : oT x.L k < x.L.length
 ·rw [if_pos hj]
  have he : (!frB x.L ((k + (x.L.length - 1 - oT x.L k)) % x.L.length)) = false := iq (p := fun i => !frB x.L ((k + (x.L.length - 1 - i)) % x.L.length)) hj
  have hmem : (((k + (x.L.length - 1 - oT x.L k)) % x.L.length : Nat) : Int) ∈ gE x.L := (ix (by omega)).2 ⟨_, rfl, Nat.mod_lt _ (by omega), by simpa using he⟩
  rcases h2 with ⟨_, h3⟩ | ⟨p, rfl, hp, hmin⟩
  ·rw [h3] at hmem; cases hmem
  ·have g1 := hmin _ hmem
   rw [hl, dist_b hkN (by omega)] at g1
   obtain ⟨p', hp', hpN, hpf⟩ := (ix (by omega)).1 hp
   have : p' = p := by omega
   subst this
   obtain ⟨a1, a2, a3⟩ := at_b hkN (show p' < N by omega)
   rcases Nat.lt_or_ge (gL N k p' true - 1) (oT x.L k) with g2 | g2
   ·have g3 : (!frB x.L ((k + (x.L.length - 1 - (gL N k p' true - 1))) % x.L.length)) = true := jI (p := fun i => !frB x.L ((k + (x.L.length - 1 - i)) % x.L.length)) g2
    rw [hl, ← a3, hpf] at g3; cases g3
   ·rw [hl, show oT x.L k = gL N k p' true - 1 by omega, ← a3]
 ·rw [if_neg hj]; rcases h2 with ⟨h3, _⟩ | ⟨p, rfl, hp, hmin⟩
  ·exact h3
  ·exfalso
   obtain ⟨p', hp', hpN, hpf⟩ := (ix (by omega)).1 hp
   have : p' = p := by omega
   subst this
   obtain ⟨a1, a2, a3⟩ := at_b hkN (show p' < N by omega)
   have g3 : (!frB x.L ((k + (x.L.length - 1 - (gL N k p' true - 1))) % x.L.length)) = true := jI (p := fun i => !frB x.L ((k + (x.L.length - 1 - i)) % x.L.length)) (n := x.L.length) (by unfold oT at hj; omega)
   rw [hl, ← a3, hpf] at g3; cases g3
end Go.Vt
set_option linter.unusedVariables false
set_option linter.unusedSimpArgs false
set_option maxRecDepth 100000
namespace Go.Vt
/-! ### characters at places -/
def chr (c : ae) (z : Int) : ae := { c with Char := z }
def gv (L : List ae) (p : Nat) (z : Int) : List ae := if bm L p then L else L.set p (chr (rd L (p : Int)) z)
def dZ (L : List ae) (f : Nat → Nat) (c : Nat → Int) : Nat → List ae
 | 0 => L
 | i + 1 => gv (dZ L f c i) (f i) (c i)
theorem sd {c : ae} (h : COk c) (ha : c.Attr = false) {z : Int} (hz : By z) : COk (chr c z) := ⟨hz, h.fa, h.high, h.color, h.set, (fun e => by have e : c.Attr = true := e; rw [ha] at e; cases e), fun _ => h.plain ha⟩
theorem iE (L : List ae) (p : Nat) (z : Int) : (gv L p z).length = L.length := by unfold gv; split <;> simp
theorem db (L : List ae) (f : Nat → Nat) (c : Nat → Int) : ∀ j, (dZ L f c j).length = L.length
 | 0 => rfl
 | j + 1 => by rw [dZ, iE, db L f c j]
theorem jK {L : List ae} {p q : Nat} {c : ae} (hp : p < L.length) (hq : q < L.length) : rd (L.set p c) (q : Int) = if p = q then c else rd L (q : Int) := by
 rw [rdn (by simpa using hq), rdn hq, List.getElem_set]
theorem oK {L : List ae} {p : Nat} {z : Int} (hp : p < L.length) {q : Nat} (hq : q < L.length) : bm (gv L p z) q = bm L q := by
 unfold gv
 cases h : bm L p with
 | true => rfl
 | false =>
  simp only [Bool.false_eq_true, if_false]; unfold bm; rw [jK hp hq]
  by_cases e : p = q
  ·subst e; rw [if_pos rfl]; rfl
  ·rw [if_neg e]
theorem oi {L : List ae} (ho : ∀ c ∈ L, COk c) {p : Nat} (hp : p < L.length) {z : Int} (hz : By z) : ∀ c ∈ gv L p z, COk c := by
 intro c hc; unfold gv at hc
 split at hc
 ·exact ho c hc
 ·rename_i hA
  rcases List.mem_or_eq_of_mem_set hc with h1 | rfl
  ·exact ho c h1
  ·exact sd (ho _ (fS (by omega))) (by simpa [bm] using hA) hz
theorem cnt_isA {L M : List ae} (hl : M.length = L.length) (h : ∀ q, q < L.length → bm M q = bm L q) : cnt M = cnt L := by
 rw [nJ, nJ, hl]; unfold b9
 congr 2
 exact List.filter_congr fun q hq => h q (List.mem_range.1 hq)
theorem pput {m : Int} {N : Nat} {s : ad} (h : SS m N s) {n : Int} {p : Nat} (hp : n % N = (p : Int)) (hpN : p < N) (z : Int) : bs s n z = some (wS s (gv s.cells p z)) := by
 have hl := h.len
 unfold bs; simp only [mX h, hp, Option.bind_some]
 rw [aX (by omega)]
 have hA : (rd s.cells (p : Int)).Attr = bm s.cells p := rfl
 have hc : cnt (gv s.cells p z) = cnt s.cells := cnt_isA (iE _ _ _) fun q hq => oK (by omega) hq
 unfold wS; rw [hc, ← h.attrs]; unfold gv
 cases ha : bm s.cells p with
 | true => rw [hA, ha]; rfl
 | false =>
  have ha' : (rd s.cells (p : Int)).Attr = false := ha
  have e : (⟨z, false, (rd s.cells (p : Int)).FA, (rd s.cells (p : Int)).High, (rd s.cells (p : Int)).Color, (rd s.cells (p : Int)).f_Set⟩ : ae) = chr (rd s.cells (p : Int)) z := by unfold chr; rw [← ha']
  simp only [ha', Bool.not_false, cond_true, e, Bool.false_eq_true, if_false, Int.toNat_natCast]
theorem rput {m : Int} {N : Nat} {x : aa} (h : RS m N x) {n : Int} {p : Nat} (hp : n % N = (p : Int)) (hpN : p < N) {z : Int} (hz : By z) : bn x n z = some (wL x (gv x.L p z)) := by
 have hl := h.len
 have hm := h.ok _ (fS (l := x.L) (n := (p : Int)) (by omega))
 unfold bn; simp only [rs_at h, hp, Option.bind_some]
 have hA : (rd x.L (p : Int)).Attr = bm x.L p := rfl
 unfold gv
 cases ha : bm x.L p with
 | true => rw [hA, ha]; rfl
 | false =>
  have ha' : (rd x.L (p : Int)).Attr = false := ha
  have hk := sd hm ha' hz
  have hset := (mr h n hk.cb).1
  rw [hp, hk.fit] at hset
  have e : (⟨z, false, (rd x.L (p : Int)).FA, (rd x.L (p : Int)).High, (rd x.L (p : Int)).Color, (rd x.L (p : Int)).f_Set⟩ : ae) = chr (rd x.L (p : Int)) z := by unfold chr; rw [← ha']
  have ha2 : (rd x.L (p : Int)).Attr = false := ha'
  have hx : (⟨x.Model, x.Alt, x.Size, x.L, x.Cursor⟩ : aa) = x := rfl
  simp only [ha', Bool.not_false, cond_true, e, hx, hset, Bool.false_eq_true, if_false]
  rfl
section
variable {L : List ae} {f : Nat → Nat} {c : Nat → Int}
theorem oJ (hf : ∀ i, f i < L.length) : ∀ j {q : Nat}, q < L.length → bm (dZ L f c j) q = bm L q
 | 0, q, _ => rfl
 | j + 1, q, hq => by rw [dZ, oK (by rw [db]; exact hf j) (by rw [db]; exact hq), oJ hf j hq]
theorem lP (ho : ∀ c ∈ L, COk c) (hf : ∀ i, f i < L.length) : ∀ j, (∀ i, i < j → By (c i)) → ∀ d ∈ dZ L f c j, COk d
 | 0, _ => ho
 | j + 1, hc => oi (lP ho hf j fun i hi => hc i (by omega)) (by rw [db]; exact hf j) (hc j (by omega))
theorem iX (hf : ∀ i, f i < L.length) : ∀ j {q : Nat}, q < L.length → (∀ i, i < j → f i ≠ q) → rd (dZ L f c j) (q : Int) = rd L (q : Int)
 | 0, q, _, _ => rfl
 | j + 1, q, hq, hn => by
  have ih := iX hf j hq fun i hi => hn i (by omega)
  rw [dZ]; unfold gv
  split
  ·exact ih
  ·rw [jK (by rw [db]; exact hf j) (by rw [db]; exact hq), if_neg (hn j (by omega)), ih]
theorem qj (hf : ∀ i, f i < L.length) : ∀ j {q : Nat}, q < j → (∀ i i', i < j → i' < j → f i = f i' → i = i') → bm L (f q) = false → rd (dZ L f c j) ((f q : Nat) : Int) = chr (rd L ((f q : Nat) : Int)) (c q)
 | 0, q, h, _, _ => by omega
 | j + 1, q, hq, hi, hA => by
  rw [dZ]
  by_cases e : q = j
  ·subst e; unfold gv; rw [oJ hf q (hf q), hA]; simp only [Bool.false_eq_true, if_false]
   rw [jK (by rw [db]; exact hf q) (by rw [db]; exact hf q), if_pos rfl, iX hf q (hf q) fun i h1 h2 => by have := hi i q (by omega) (by omega) h2; omega]
  ·have ih := qj hf j (q := q) (by omega) (fun i i' h1 h2 => hi i i' (by omega) (by omega)) hA
   unfold gv
   split
   ·exact ih
   ·rw [jK (by rw [db]; exact hf j) (by rw [db]; exact hf q), if_neg (fun h2 => e (hi j q (by omega) (by omega) h2).symm), ih]
theorem mt {c' : Nat → Int} : ∀ j, (∀ i, i < j → c i = c' i) → dZ L f c j = dZ L f c' j
 | 0, _ => rfl
 | j + 1, h => by rw [dZ, dZ, mt j fun i hi => h i (by omega), h j (by omega)]
end
theorem kM {A B : List ae} (hl : A.length = B.length) (h : ∀ q : Nat, q < B.length → rd A (q : Int) = rd B (q : Int)) : A = B := by
 refine List.ext_getElem hl fun q h1 h2 => ?_
 have := h q h2
 rwa [rdn h1, rdn h2] at this
/-- what depends on where attributes stand alone -/
theorem pz {L M : List ae} {n : Nat} (h : ∀ q, q < n → bm M q = bm L q) : b9 M n = b9 L n := by
 unfold b9; exact List.filter_congr fun q hq => h q (List.mem_range.1 hq)
theorem sB {L M : List ae} {l0 : Int} : ∀ n, (∀ q, q < n + 1 → bm M q = bm L q) → stF M l0 n = stF L l0 n
 | 0, h => by simp [stF, h 0 (by omega)]
 | n + 1, h => by simp [stF, h (n + 1) (by omega), sB n fun q hq => h q (by omega)]
theorem stI_isA {L M : List ae} (hl : M.length = L.length) (h : ∀ q, q < L.length → bm M q = bm L q) {k : Nat} (hk : k < L.length) : stI M k = stI L k := by
 unfold stI fO; rw [hl, pz h]
 exact sB k fun q hq => h q (by omega)
/-! ### the places to the field's end -/
instance (L : List ae) : Decidable (Fmt L) := decidable_of_iff (cnt L > 0) kK.symm
/-- how many places there are from one on -/
def rl (L : List ae) (k : Nat) (round : Bool) : Nat := if Fmt L then tl (fun i => !bm L ((k + i) % L.length)) L.length else if round then L.length else L.length - k
abbrev pl (L : List ae) (k : Nat) : Nat → Nat := fun i => (k + i) % L.length
def dC (L : List ae) (k : Nat) (round : Bool) : List Int := ei (pl L k) (rl L k round)
theorem pJ (L : List ae) (k : Nat) (round : Bool) : rl L k round ≤ L.length := by
 unfold rl; split
 ·exact jY _ _
 ·split <;> omega
theorem j0 {L : List ae} {k : Nat} (hL : 0 < L.length) (i : Nat) : pl L k i < L.length := Nat.mod_lt _ hL
theorem nA {L : List ae} {k i i' : Nat} (hi : i < L.length) (hi' : i' < L.length) (h : pl L k i = pl L k i') : i = i' := by
 simp only [pl] at h
 have h1 := Nat.div_add_mod (k + i) L.length
 have h2 := Nat.div_add_mod (k + i') L.length
 rw [h] at h1; rcases Nat.lt_trichotomy ((k + i) / L.length) ((k + i') / L.length) with e | e | e
 ·have := Nat.mul_le_mul_left L.length (show (k + i) / L.length + 1 ≤ (k + i') / L.length from e)
  rw [Nat.mul_add, Nat.mul_one] at this; omega
 ·rw [e] at h1; omega
 ·have := Nat.mul_le_mul_left L.length (show (k + i') / L.length + 1 ≤ (k + i) / L.length from e)
  rw [Nat.mul_add, Nat.mul_one] at this; omega
theorem rl_no {L : List ae} {k i : Nat} {round : Bool} (hL : 0 < L.length) (h : i < rl L k round) : bm L (pl L k i) = false := by
 unfold rl at h
 by_cases hf : Fmt L
 ·rw [if_pos hf] at h
  have := jI h; simpa using this
 ·exact lr hf (Nat.mod_lt _ hL)
/-- of a place in a field: how far behind its attribute -/
theorem in_run {L : List ae} (hf : Fmt L) {k : Nat} (hk : k < L.length) (hA : bm L k = false) : ∃ a t : Nat, stI L k = (a : Int) ∧ a < L.length ∧ bm L a = true ∧ t < eX L a ∧ (a + 1 + t) % L.length = k := by
 obtain ⟨a, h1, h2, h3⟩ := iW hf hk
 obtain ⟨d, hd, hdN⟩ : ∃ d, (a + d) % L.length = k ∧ d < L.length := by
  by_cases hak : a ≤ k
  ·exact ⟨k - a, by rw [show a + (k - a) = k by omega, Nat.mod_eq_of_lt hk], by omega⟩
  ·exact ⟨k + L.length - a, by rw [show a + (k + L.length - a) = k + L.length by omega, Nat.add_mod_right, Nat.mod_eq_of_lt hk], by omega⟩
 have hd0 : d ≠ 0 := by
  rintro rfl; rw [Nat.add_zero, Nat.mod_eq_of_lt h2] at hd; rw [hd, hA] at h3; cases h3
 refine ⟨a, d - 1, h1, h2, h3, ?_, by rw [show a + 1 + (d - 1) = a + d by omega]; exact hd⟩
 rcases Nat.lt_or_ge (d - 1) (eX L a) with h | h
 ·exact h
 ·exfalso
  have he := mY (L := L) (a := a) (by omega) h2 h3
  have hp := oD (L := L) (l0 := fO L) (N := L.length) (a := a) (j := 1 + eX L a) (km hf) h2 (by omega) (by rw [show a + (1 + eX L a) = a + 1 + eX L a by omega]; exact he) (d - 1 - eX L a) (by omega)
  rw [show a + (1 + eX L a + (d - 1 - eX L a)) = a + d by omega, hd] at hp
  exact hp h1
theorem rl_run {L : List ae} (hf : Fmt L) {a t : Nat} (h2 : a < L.length) (h3 : bm L a = true) (ht : t < eX L a) {round : Bool} : rl L ((a + 1 + t) % L.length) round = eX L a - t := by
 have hrl := lM (L := L) (a := a) (by omega)
 unfold rl; rw [if_pos hf]
 refine tl_eq (by omega) (fun i hi => ?_) (fun _ => ?_)
 ·rw [Nat.mod_add_mod, show a + 1 + t + i = a + 1 + (t + i) by omega, og (by omega)]; rfl
 ·rw [Nat.mod_add_mod, show a + 1 + t + (eX L a - t) = a + 1 + eX L a by omega, mY (by omega) h2 h3]; rfl
theorem pQ {f g : Nat → Nat} {n t : Nat} (h : ∀ i, f (t + i) = g i) : (ei f n).drop t = ei g (n - t) := by
 refine List.ext_getElem (by simp [ei]) fun i h1 h2 => ?_
 simp only [ei, List.getElem_drop, List.getElem_map, List.getElem_range, h]
theorem qX {L : List ae} (hf : Fmt L) {a t k : Nat} (h2 : a < L.length) (h3 : bm L a = true) (ht : t < eX L a) (hk : (a + 1 + t) % L.length = k) (round : Bool) : (g8 L a).drop t = dC L k round := by
 unfold g8 dC; rw [← hk, rl_run hf h2 h3 ht]
 exact pQ fun i => by simp only [pl]; rw [Nat.mod_add_mod, show a + 1 + (t + i) = a + 1 + t + i by omega]
theorem pindex {L : List ae} {a t k : Nat} (hL : L.length ≤ 100000) (h2 : a < L.length) (ht : t < eX L a) (hk : (a + 1 + t) % L.length = k) : gH (g8 L a) (k : Int) = some (t : Int) := by
 have hrl := lM (L := L) (a := a) (by omega)
 unfold gH
 have hlen : (g8 L a).length = eX L a := by unfold g8; exact bG _ _
 have hrd : ∀ i, i < eX L a → rd (g8 L a) (i : Int) = (((a + 1 + i) % L.length : Nat) : Int) := fun i hi => by unfold g8; exact iK hi
 have loop : eN (g8 L a) (k : Int) bw 0 = some (.inr (t : Int)) := by
  refine cw (fun i => (i : Int)) t (by omega) (fun q i hi => ?_) (fun q => ?_)
  ·have d1 : decide ((i : Int) < ((g8 L a).length : Int)) = true := decide_eq_true (by omega)
   rw [eN.eq_2]; simp only [d1, cond_true]
   have hne : (a + 1 + i) % L.length ≠ k := fun e => by
    have := nA (L := L) (k := a + 1) (i := i) (i' := t) (by omega) (by omega) (by simp only [pl]; rw [e, hk]); omega
   rw [aX (by omega), hrd i (by omega), cN (by omega), je (by omega)]
   simp only [cond_false]
  ·have d1 : decide ((t : Int) < ((g8 L a).length : Int)) = true := decide_eq_true (by omega)
   rw [eN.eq_2]; simp only [d1, cond_true]
   rw [aX (by omega), hrd t ht, hk, jA rfl]
   rfl
 rw [loop]; rfl
/-- unformatted: a run of places -/
theorem pspan {m : Int} {N : Nat} {s : ad} (h : SS m N s) {k : Nat} (hk : k < N) (to : Int) {j : Nat} (hj : ew ⟨s.size.Rows, s.size.Cols⟩ (k : Int) to = some (j : Int)) (hjN : j ≤ N) :
  e9 ⟨s.size.Rows, s.size.Cols⟩ (k : Int) to = some (⟨s.size.Rows, s.size.Cols⟩, (k : Int), to, ei (pl s.cells k) j) := by
 have hl := h.len
 have hle := h.dim.dim.le
 unfold e9 gb; simp only [hj, Option.bind_some]
 have loop : dw ⟨s.size.Rows, s.size.Cols⟩ (k : Int) (j : Int) bw (0, []) = some (ei (pl s.cells k) j) := by
  refine cw (fun i => ((i : Int), ei (pl s.cells k) i)) j (by omega) (fun q i hi => ?_) (fun q => ?_)
  ·have d1 : decide ((i : Int) < (j : Int)) = true := decide_eq_true (by omega)
   rw [dw.eq_2]; simp only [d1, cond_true, f4 h, aS hk, Option.bind_some]
   rw [c3 (x := (k : Int) + (i : Int)) (by omega) (by omega), show ((k : Int) + (i : Int)) % (N : Int) = (((k + i) % N : Nat) : Int) by rw [Int.natCast_emod]; rfl]
   rw [aX (by rw [bG]; simp only [List.length_cons, List.length_nil]; omega), je (by omega), gZ]
   simp only [pl, hl]
  ·have d1 : decide ((j : Int) < (j : Int)) = false := decide_eq_false (by omega)
   rw [dw.eq_2]; simp only [d1, cond_false]
 rw [loop]; rfl
theorem plen {m : Int} {N : Nat} {s : ad} (h : SS m N s) {k : Nat} (hk : k < N) {to : Int} {b : Nat} (hb : to % N = (b : Int)) (hbN : b < N) : ew ⟨s.size.Rows, s.size.Cols⟩ (k : Int) to = some (((if b ≤ k then N - (k - b) else b - k : Nat)) : Int) := by
 have hle := h.dim.dim.le
 unfold ew; simp only [f4 h, aS hk, hb, Option.bind_some, mW h]
 rw [c3 (by omega) (by omega)]
 by_cases hbk : b ≤ k
 ·rw [if_pos hbk]
  by_cases h0 : b = k
  ·subst h0
   rw [show ((b : Int) - (b : Int)) = ((0 : Nat) : Int) by omega, aS (by omega)]
   simp
  ·rw [show ((b : Int) - (k : Int)) = ((N - (k - b) : Nat) : Int) - N by omega, Int.sub_emod_right, aS (by omega), decide_eq_true (by omega)]; rfl
 ·rw [if_neg hbk, show ((b : Int) - (k : Int)) = ((b - k : Nat) : Int) by omega, aS (by omega), decide_eq_true (by omega)]; rfl
/-- the program's places to the field's end -/
theorem prest {m : Int} {N : Nat} {s : ad} (h : SS m N s) {n : Int} {k : Nat} (hk : n % N = (k : Int)) (hkN : k < N) (hA : bm s.cells k = false) : gV s n = some (s, dC s.cells k false) := by
 have hl := h.len
 have hle := h.dim.dim.le
 unfold gV aQ fb fT; simp only [Option.bind_some, f4 h, hk, qk h (aS hkN) hkN]
 by_cases hf : Fmt s.cells
 ·obtain ⟨a, t, h1, h2, h3, h4, h5⟩ := in_run hf (show k < s.cells.length by omega) hA
  have hrl := lM (L := s.cells) (a := a) (by omega)
  have hlen : (g8 s.cells a).length = eX s.cells a := by unfold g8; exact bG _ _
  rw [h1, decide_eq_false (show ¬ ((a : Int) < 0) by omega)]
  simp only [cond_false, pplaces h (show a < N by omega) h3, Option.bind_some, pindex (by omega) h2 h4 h5]
  rw [aX (by omega), Int.toNat_natCast, qX hf h2 h3 h4 h5 false]
 ·rw [ir hf (by omega)]
  simp only [show decide ((-1 : Int) < 0) = true from rfl, cond_true]
  have hp := plen h hkN (to := 0) (b := 0) rfl (by omega)
  rw [if_pos (by omega), Nat.sub_zero] at hp
  rw [pspan h hkN 0 hp (by omega)]
  simp only [Option.bind_some]; unfold dC rl; rw [if_neg hf, hl]
  rfl
theorem pround {m : Int} {N : Nat} {s : ad} (h : SS m N s) {n : Int} {k : Nat} (hk : n = (k : Int)) (hkN : k < N) (hA : bm s.cells k = false) : ij s n = some (s, dC s.cells k true) := by
 have hl := h.len
 have hle := h.dim.dim.le
 subst hk; unfold ij cd fb aQ; simp only [Option.bind_some, h.attrs]
 by_cases hf : Fmt s.cells
 ·rw [decide_eq_true (kK.1 hf)]; simp only [cond_true, prest h (aS hkN) hkN hA, Option.bind_some]; unfold dC rl; rw [if_pos hf, if_pos hf]
 ·rw [decide_eq_false fun e => hf (kK.2 e)]; simp only [cond_false]
  have hp := plen h hkN (to := (k : Int)) (aS hkN) hkN
  rw [if_pos (Nat.le_refl _), Nat.sub_self, Nat.sub_zero] at hp; rw [pspan h hkN _ hp (Nat.le_refl _)]; simp only [Option.bind_some]; unfold dC rl; rw [if_neg hf, hl]
  rfl
/-- the document's -/
theorem rrest {m : Int} {N : Nat} {x : aa} (h : RS m N x) {n : Int} {k : Nat} (hk : n % N = (k : Int)) (hkN : k < N) (hA : bm x.L k = false) (round : Bool) : dV x n round = some (dC x.L k round) := by
 have hl := h.len
 have hle := h.dim.dim.le
 unfold dV; simp only [Option.bind_some, f5 h, hk, oF h (aS hkN) hkN]
 by_cases hf : Fmt x.L
 ·obtain ⟨a, t, h1, h2, h3, h4, h5⟩ := in_run hf (show k < x.L.length by omega) hA
  have hrl := lM (L := x.L) (a := a) (by omega)
  have hlen : (g8 x.L a).length = eX x.L a := by unfold g8; exact bG _ _
  have hrd : ∀ i, i < eX x.L a → rd (g8 x.L a) (i : Int) = (((a + 1 + i) % x.L.length : Nat) : Int) := fun i hi => by unfold g8; exact iK hi
  rw [h1, decide_eq_false (show ¬ ((a : Int) < 0) by omega)]
  simp only [cond_false, sE h (show a < N by omega) h3, Option.bind_some]
  have loop : cU (k : Int) (g8 x.L a) bw (((0 : Nat) : Int), decide (t < 0), ei (fun q => (a + 1 + t + q) % x.L.length) (0 - t)) = some (dC x.L k round) := by
   rw [← qX hf h2 h3 h4 h5 round]
   refine cw (fun i => ((i : Int), decide (t < i), ei (fun q => (a + 1 + t + q) % x.L.length) (i - t))) (eX x.L a) (by omega) (fun q i hi => ?_) (fun q => ?_)
   ·have d1 : decide ((i : Int) < ((g8 x.L a).length : Int)) = true := decide_eq_true (by omega)
    rw [cU.eq_2]; simp only [d1, cond_true]
    rw [aX (by omega), hrd i hi, je (by omega)]
    have hin : (cond (decide (t < i)) (some true) (some ((((a + 1 + i) % x.L.length : Nat) : Int) == (k : Int))) : Option Bool) = some (decide (t < i + 1)) := by
     by_cases h6 : t < i
     ·rw [decide_eq_true h6, decide_eq_true (by omega)]; rfl
     ·rw [decide_eq_false h6]
      by_cases h7 : t = i
      ·subst h7; rw [h5, jA rfl, decide_eq_true (by omega)]; rfl
      ·have hne : (a + 1 + i) % x.L.length ≠ k := fun e => by
        have := nA (L := x.L) (k := a + 1) (i := i) (i' := t) (by omega) (by omega) (by simp only [pl]; rw [e, h5]); omega
       rw [cN (by omega), decide_eq_false (by omega)]; rfl
    rw [hin]; simp only [Option.bind_some]
    by_cases h6 : t < i + 1
    ·rw [decide_eq_true h6]; simp only [cond_true]
     rw [aX (by rw [bG]; simp only [List.length_cons, List.length_nil]; omega), show i + 1 - t = (i - t) + 1 by omega, gZ, show a + 1 + t + (i - t) = a + 1 + i by omega]
     rfl
    ·rw [decide_eq_false h6]; simp only [cond_false, Option.bind_some]
     rw [show i + 1 - t = i - t by omega]
   ·have d1 : decide (((eX x.L a : Nat) : Int) < ((g8 x.L a).length : Int)) = false := decide_eq_false (by omega)
    rw [cU.eq_2]; simp only [d1, cond_false]; unfold g8
    rw [pQ (g := fun q => (a + 1 + t + q) % x.L.length) fun i => by rw [show a + 1 + (t + i) = a + 1 + t + i by omega]]
  have e0 : ((0 : Int), false, ([] : List Int)) = (((0 : Nat) : Int), decide (t < 0), ei (fun q => (a + 1 + t + q) % x.L.length) (0 - t)) := by
   rw [decide_eq_false (by omega), Nat.zero_sub]; rfl
  rw [e0, loop]; rfl
 ·rw [ir hf (by omega)]
  simp only [show decide ((-1 : Int) < 0) = true from rfl, cond_true]
  have hlen : rl x.L k round = if round then N else N - k := by unfold rl; rw [if_neg hf, hl]
  have loop : c5 x round (k : Int) bw (0, []) = some (dC x.L k round) := by
   unfold dC
   refine cw (fun i => ((i : Int), ei (pl x.L k) (min i (rl x.L k round)))) N (by omega) (fun q i hi => ?_) (fun q => ?_)
   ·have d1 : decide ((i : Int) < (x.L.length : Int)) = true := decide_eq_true (by omega)
    have w1 : w64 ((k : Int) + (i : Int)) = ((k + i : Nat) : Int) := by rw [c3 (by omega) (by omega)]; omega
    rw [c5.eq_2]
    simp only [d1, cond_true, w1, je (show i < 1000000 by omega)]
    have hin : (cond round (some true) (some (decide (((k + i : Nat) : Int) < (x.L.length : Int)))) : Option Bool) = some (decide (i < rl x.L k round)) := by
     rw [hlen]
     cases round with
     | true => simp only [cond_true, if_true]; rw [decide_eq_true hi]
     | false =>
      simp only [cond_false, Bool.false_eq_true, if_false]
      congr 1
      by_cases h6 : i < N - k
      ·rw [decide_eq_true (by omega), decide_eq_true h6]
      ·rw [decide_eq_false (by omega), decide_eq_false h6]
    rw [hin]; simp only [Option.bind_some]
    by_cases h6 : i < rl x.L k round
    ·rw [decide_eq_true h6]; simp only [cond_true, f5 h, Option.bind_some]
     rw [aX (by rw [bG]; simp only [List.length_cons, List.length_nil]; omega), Nat.min_eq_left (by omega), Nat.min_eq_left (show i + 1 ≤ _ by omega), gZ]
     simp only [pl, hl, Option.bind_some]; rw [Int.natCast_emod]
    ·rw [decide_eq_false h6]; simp only [cond_false, Option.bind_some]
     rw [Nat.min_eq_right (by omega), Nat.min_eq_right (show _ ≤ i + 1 by omega)]
   ·have d1 : decide ((N : Int) < (x.L.length : Int)) = false := decide_eq_false (by omega)
    rw [c5.eq_2]; simp only [d1, cond_false]
    have := pJ x.L k round
    rw [Nat.min_eq_right (by omega)]
  rw [loop]; rfl
end Go.Vt
set_option linter.unusedVariables false
set_option linter.unusedSimpArgs false
set_option maxRecDepth 100000
namespace Go.Vt
abbrev t7' (s : ad) : T7 := (s.model, s.alternate, s.size.Rows, s.size.Cols, s.cells, s.cursor, s.attrs)
theorem Dim.cn {r c : Int} {N : Nat} (h : Dim r c N) : ∃ rn cn : Nat, r = (rn : Int) ∧ c = (cn : Int) ∧ N = rn * cn ∧ 80 ≤ cn ∧ cn ≤ 132 ∧ 24 ≤ rn ∧ rn ≤ 43 := by
 rcases h.d with ⟨h1, h2, h3⟩ | ⟨h1, h2, h3⟩ | ⟨h1, h2, h3⟩ | ⟨h1, h2, h3⟩
 ·exact ⟨24, 80, by omega, by omega, by omega, by omega, by omega, by omega, by omega⟩
 ·exact ⟨32, 80, by omega, by omega, by omega, by omega, by omega, by omega, by omega⟩
 ·exact ⟨43, 80, by omega, by omega, by omega, by omega, by omega, by omega, by omega⟩
 ·exact ⟨27, 132, by omega, by omega, by omega, by omega, by omega, by omega, by omega⟩
theorem kE {m : Int} {N : Nat} {s : ad} (h : SS m N s) {f : Nat → Nat} {c : Nat → Int} {j : Nat} (hf : ∀ i, f i < N) (hc : ∀ i, i < j → By (c i)) : SS m N (wS s (dZ s.cells f c j)) :=
 h.w (by rw [db]; exact h.len) (lP h.ok (fun i => by rw [h.len]; exact hf i) j hc)
theorem mZ {m : Int} {N : Nat} {x : aa} (h : RS m N x) {f : Nat → Nat} {c : Nat → Int} {j : Nat} (hf : ∀ i, f i < N) (hc : ∀ i, i < j → By (c i)) : RS m N (wL x (dZ x.L f c j)) :=
 h.w (by rw [db]; exact h.len) (lP h.ok (fun i => by rw [h.len]; exact hf i) j hc)
/-! ### codes of places; characters moved -/
def gM (L : List ae) (f : Nat → Nat) (j : Nat) : List Int := (List.range j).map fun i => (rd L ((f i : Nat) : Int)).Char
theorem iZ (L : List ae) (f : Nat → Nat) (j : Nat) : (gM L f j).length = j := by simp [gM]
theorem rv {L : List ae} {f : Nat → Nat} {j i : Nat} (h : i < j) : rd (gM L f j) (i : Int) = (rd L ((f i : Nat) : Int)).Char := by
 rw [rdn (by rw [iZ]; exact h)]; simp [gM]
theorem rcodes {m : Int} {N : Nat} {x : aa} (h : RS m N x) {f : Nat → Nat} (hf : ∀ i, f i < N) {j : Nat} (hj : j ≤ N) : dH x (ei f j) = some (gM x.L f j) := by
 have hl := h.len
 have hle := h.dim.dim.le
 unfold dH
 have loop : cT x (ei f j) bw (0, []) = some (gM x.L f j) := by
  refine cw (fun i => ((i : Int), gM x.L f i)) j (by omega) (fun k i hi => ?_) (fun k => ?_)
  ·have d1 : decide ((i : Int) < ((ei f j).length : Int)) = true := decide_eq_true (by rw [bG]; omega)
   have hfi := hf i
   rw [cT.eq_2]; simp only [d1, cond_true]
   rw [aX (by rw [bG]; omega), iK hi, aX (by omega), aX (by rw [iZ]; simp only [List.length_cons, List.length_nil]; omega), je (by omega)]
   have : gM x.L f (i + 1) = gM x.L f i ++ [(rd x.L ((f i : Nat) : Int)).Char] := by unfold gM; rw [List.range_succ, List.map_append]; rfl
   rw [this]
  ·have d1 : decide ((j : Int) < ((ei f j).length : Int)) = false := decide_eq_false (by rw [bG]; omega)
   rw [cT.eq_2]; simp only [d1, cond_false]
 rw [loop]; rfl
theorem rmove {m : Int} {N : Nat} {x : aa} (h : RS m N x) {f : Nat → Nat} (hf : ∀ i, f i < N) {j : Nat} (hj : j ≤ N) {cs : List Int} (hcs : j ≤ cs.length) (hb : ∀ i : Nat, i < j → By (rd cs (i : Int))) :
  eQ x (ei f j) cs = some (wL x (dZ x.L f (fun i => rd cs (i : Int)) j)) ∧ ec x (ei f j) cs = some (wL x (dZ x.L f (fun i => rd cs (i : Int)) j)) := by
 have hl := h.len
 have hle := h.dim.dim.le
 have st : ∀ i, i < j → bn (wL x (dZ x.L f (fun i => rd cs (i : Int)) i)) (rd (ei f j) (i : Int)) (rd cs (i : Int)) = some (wL x (dZ x.L f (fun i => rd cs (i : Int)) (i + 1))) := fun i hi => by
  have hR := mZ h (c := fun i => rd cs (i : Int)) (j := i) hf (fun q hq => hb q (by omega))
  rw [iK hi, rput hR (aS (hf i)) (hf i) (hb i hi)]; rfl
 constructor
 ·unfold eQ
  have loop : c4 (ei f j) cs bw (0, x.Model, x.Alt, x.Size.Rows, x.Size.Cols, x.L, x.Cursor) = some (x.Model, x.Alt, x.Size.Rows, x.Size.Cols, dZ x.L f (fun i => rd cs (i : Int)) j, x.Cursor) := by
   refine cw (fun i => ((i : Int), x.Model, x.Alt, x.Size.Rows, x.Size.Cols, dZ x.L f (fun i => rd cs (i : Int)) i, x.Cursor)) j (by omega) (fun k i hi => ?_) (fun k => ?_)
   ·have d1 : decide ((i : Int) < ((ei f j).length : Int)) = true := decide_eq_true (by rw [bG]; omega)
    rw [c4.eq_2]; simp only [d1, cond_true]
    rw [aX (by rw [bG]; omega), aX (by omega), je (by omega)]
    have := st i hi
    unfold wL at this; rw [show x.Size = ⟨x.Size.Rows, x.Size.Cols⟩ from rfl] at this; rw [this]; rfl
   ·have d1 : decide ((j : Int) < ((ei f j).length : Int)) = false := decide_eq_false (by rw [bG]; omega)
    rw [c4.eq_2]; simp only [d1, cond_false]
  rw [loop]; rfl
 ·unfold ec
  have loop : cF (ei f j) cs bw (0, x.Model, x.Alt, x.Size.Rows, x.Size.Cols, x.L, x.Cursor) = some (x.Model, x.Alt, x.Size.Rows, x.Size.Cols, dZ x.L f (fun i => rd cs (i : Int)) j, x.Cursor) := by
   refine cw (fun i => ((i : Int), x.Model, x.Alt, x.Size.Rows, x.Size.Cols, dZ x.L f (fun i => rd cs (i : Int)) i, x.Cursor)) j (by omega) (fun k i hi => ?_) (fun k => ?_)
   ·have d1 : decide ((i : Int) < ((ei f j).length : Int)) = true := decide_eq_true (by rw [bG]; omega)
    rw [cF.eq_2]; simp only [d1, cond_true]
    rw [aX (by rw [bG]; omega), aX (by omega), je (by omega)]
    have := st i hi
    unfold wL at this; rw [show x.Size = ⟨x.Size.Rows, x.Size.Cols⟩ from rfl] at this; rw [this]; rfl
   ·have d1 : decide ((j : Int) < ((ei f j).length : Int)) = false := decide_eq_false (by rw [bG]; omega)
    rw [cF.eq_2]; simp only [d1, cond_false]
  rw [loop]; rfl
/-! ### an erase to the end -/
def endI (L : List ae) (k : Nat) : List ae := fq (dZ L (pl L k) (fun _ => 0) (rl L k false)) k
theorem j1 {L : List ae} {k : Nat} (h : ft L k = true) : bm L k = false := by
 unfold ft at h
 cases e : bm L k with
 | false => rfl
 | true => rw [e] at h; simp at h
theorem pend {m : Int} {N : Nat} {s : ad} (h : SS m N s) {n : Int} {k : Nat} (hk : n % N = (k : Int)) (hkN : k < N) : jl s n = some (if ft s.cells k then (wS s (endI s.cells k), true) else (s, false)) := by
 have hl := h.len
 have hle := h.dim.dim.le
 have hrl := pJ s.cells k false
 unfold jl; simp only [qY h hk hkN, Option.bind_some]
 cases ho : ft s.cells k with
 | false => rfl
 | true =>
  simp only [Bool.not_true, cond_false, prest h hk hkN (j1 ho), Option.bind_some, if_true]
  have hf : ∀ i, pl s.cells k i < N := fun i => by rw [← hl]; exact j0 (by omega) i
  have loop : gi (s, dC s.cells k false) bw (0, s.model, s.alternate, s.size.Rows, s.size.Cols, s.cells, s.cursor, s.attrs) = some (t7' (wS s (dZ s.cells (pl s.cells k) (fun _ => 0) (rl s.cells k false)))) := by
   have e0 : ((0 : Int), s.model, s.alternate, s.size.Rows, s.size.Cols, s.cells, s.cursor, s.attrs) = (((0 : Nat) : Int), t7' (wS s (dZ s.cells (pl s.cells k) (fun _ => 0) 0))) := by
    unfold t7' wS; rw [h.attrs]; rfl
   rw [e0]
   refine cw (fun i => ((i : Int), t7' (wS s (dZ s.cells (pl s.cells k) (fun _ => 0) i)))) (rl s.cells k false) (by omega) (fun q i hi => ?_) (fun q => ?_)
   ·have d1 : decide ((i : Int) < ((dC s.cells k false).length : Int)) = true := decide_eq_true (by unfold dC; rw [bG]; omega)
    have hS := kE h (f := pl s.cells k) (c := fun _ => 0) (j := i) hf (fun _ _ => by0)
    have hp := pput hS (n := ((pl s.cells k i : Nat) : Int)) (aS (hf i)) (hf i) 0
    rw [gi.eq_2]; simp only [d1, cond_true]
    rw [aX (by unfold dC; rw [bG]; omega), je (by omega)]
    have hrd : rd (dC s.cells k false) (i : Int) = ((pl s.cells k i : Nat) : Int) := by unfold dC; exact iK hi
    rw [hrd]; change ((bs (wS s (dZ s.cells (pl s.cells k) (fun _ => 0) i)) _ 0).bind _) = _; rw [hp]; rfl
   ·have d1 : decide (((rl s.cells k false : Nat) : Int) < ((dC s.cells k false).length : Int)) = false := decide_eq_false (by unfold dC; rw [bG]; omega)
    rw [gi.eq_2]; simp only [d1, cond_false]
  rw [loop]
  have hS := kE h (f := pl s.cells k) (c := fun _ => 0) (j := rl s.cells k false) hf (fun _ _ => by0)
  have hm := tB hS hk hkN
  simp only [Option.bind_some]; change ((bL (wS s (dZ s.cells (pl s.cells k) (fun _ => 0) (rl s.cells k false))) n).bind _) = _; rw [hm]; rfl
theorem rend {m : Int} {N : Nat} {x : aa} (h : RS m N x) {n : Int} {k : Nat} (hk : n % N = (k : Int)) (hkN : k < N) : fg x n = some (if ft x.L k then (wL x (endI x.L k), true) else (x, false)) := by
 have hl := h.len
 have hle := h.dim.dim.le
 have hrl := pJ x.L k false
 unfold fg; simp only [qV h hk hkN, Option.bind_some]
 cases ho : ft x.L k with
 | false => rfl
 | true =>
  simp only [Bool.not_true, cond_false, rrest h hk hkN (j1 ho) false, Option.bind_some, if_true]
  have hf : ∀ i, pl x.L k i < N := fun i => by rw [← hl]; exact j0 (by omega) i
  have loop : dt (dC x.L k false) bw (0, x.Model, x.Alt, x.Size.Rows, x.Size.Cols, x.L, x.Cursor) = some (x.Model, x.Alt, x.Size.Rows, x.Size.Cols, dZ x.L (pl x.L k) (fun _ => 0) (rl x.L k false), x.Cursor) := by
   refine cw (fun i => ((i : Int), x.Model, x.Alt, x.Size.Rows, x.Size.Cols, dZ x.L (pl x.L k) (fun _ => 0) i, x.Cursor)) (rl x.L k false) (by omega) (fun q i hi => ?_) (fun q => ?_)
   ·have d1 : decide ((i : Int) < ((dC x.L k false).length : Int)) = true := decide_eq_true (by unfold dC; rw [bG]; omega)
    have hR := mZ h (f := pl x.L k) (c := fun _ => 0) (j := i) hf (fun _ _ => by0)
    have hp := rput hR (n := ((pl x.L k i : Nat) : Int)) (aS (hf i)) (hf i) by0
    rw [dt.eq_2]; simp only [d1, cond_true]
    rw [aX (by unfold dC; rw [bG]; omega), je (by omega)]
    have hrd : rd (dC x.L k false) (i : Int) = ((pl x.L k i : Nat) : Int) := by unfold dC; exact iK hi
    rw [hrd]; change ((bn (wL x (dZ x.L (pl x.L k) (fun _ => 0) i)) _ 0).bind _) = _; rw [hp]; rfl
   ·have d1 : decide (((rl x.L k false : Nat) : Int) < ((dC x.L k false).length : Int)) = false := decide_eq_false (by unfold dC; rw [bG]; omega)
    rw [dt.eq_2]; simp only [d1, cond_false]
  rw [loop]
  have hR := mZ h (f := pl x.L k) (c := fun _ => 0) (j := rl x.L k false) hf (fun _ _ => by0)
  have hm := rmod hR hk hkN
  simp only [Option.bind_some]; change ((bF (wL x (dZ x.L (pl x.L k) (fun _ => 0) (rl x.L k false))) n).bind _) = _; rw [hm]; rfl
end Go.Vt
set_option linter.unusedVariables false
set_option linter.unusedSimpArgs false
set_option maxRecDepth 100000
namespace Go.Vt
/-! ### a row's places, up to the field's end -/
def rw' (L : List ae) (cn k : Nat) : Nat := tl (fun i => !bm L (pl L k i)) (cn - k % cn)
theorem row_in {N rn cn k i : Nat} (hN : N = rn * cn) (hc : 0 < cn) (hk : k < N) (hi : i < cn - k % cn) : k + i < N := by
 have h1 := Nat.div_add_mod k cn
 have h2 : k / cn < rn := by rw [Nat.div_lt_iff_lt_mul hc]; omega
 have h3 := Nat.mul_le_mul_left cn (show k / cn + 1 ≤ rn from h2)
 rw [Nat.mul_add, Nat.mul_one, Nat.mul_comm cn rn] at h3
 omega
theorem rw_le {L : List ae} {cn k : Nat} : rw' L cn k ≤ cn - k % cn := jY _ _
theorem rw_no {L : List ae} {cn k i : Nat} (h : i < rw' L cn k) : bm L (pl L k i) = false := by have := jI h; simpa using this
theorem rP {L : List ae} {k i : Nat} (h : k + i < L.length) : pl L k i = k + i := Nat.mod_eq_of_lt h
theorem lm (a b : Nat) : Int.tmod (a : Int) (b : Int) = ((a % b : Nat) : Int) := by
 rw [Int.tmod_eq_emod_of_nonneg (by omega)]; exact (Int.natCast_emod a b).symm
theorem pcol {r c : Int} {N cn : Nat} (h : Dim r c N) (hc : c = (cn : Int)) {n : Int} {k : Nat} (hk : n % N = (k : Int)) : fx ⟨r, c⟩ n = some ((k % cn : Nat) : Int) := by
 obtain ⟨rn, cn', h1, h2, h3, h4, h5, _⟩ := h.cn; unfold fx; simp only [lj h, mS h, hk, Option.bind_some, Bool.not_true, cond_false]; subst hc
 rw [aX (by omega), lm]
theorem prow {m : Int} {N : Nat} {s : ad} (h : SS m N s) {cn : Nat} (hc : s.size.Cols = (cn : Int)) {n : Int} {k : Nat} (hk : n % N = (k : Int)) (hkN : k < N) (hn : I64 n) : fk s n = some (s, n, ei (pl s.cells k) (rw' s.cells cn k)) := by
 have hl := h.len
 have hle := h.dim.dim.le
 obtain ⟨rn, cn', h1, h2, h3, h4, h5, _⟩ := h.dim.dim.cn
 have hcc : cn' = cn := by omega
 subst hcc
 have hrle := rw_le (L := s.cells) (cn := cn') (k := k)
 have hmod := Nat.mod_lt k (show 0 < cn' by omega)
 unfold fk fC aQ; simp only [Option.bind_some, f4 h, hk, pcol h.dim.dim hc (aS hkN)]
 have hin : ∀ i, i < cn' - k % cn' → k + i < N := fun i hi => row_in h3 (by omega) hkN hi
 have hpl : ∀ i, i < cn' - k % cn' → pl s.cells k i = k + i := fun i hi => rP (by rw [hl]; exact hin i hi)
 have hw : w64 (s.size.Cols - ((k % cn' : Nat) : Int)) = ((cn' - k % cn' : Nat) : Int) := by rw [hc, c3 (by omega) (by omega)]; omega
 have loop : cW s ⟨s.size.Rows, s.size.Cols⟩ (k : Int) ((k % cn' : Nat) : Int) bw (0, []) = some (if rw' s.cells cn' k < cn' - k % cn' then .inr (ei (pl s.cells k) (rw' s.cells cn' k)) else .inl (ei (pl s.cells k) (rw' s.cells cn' k))) := by
  refine cw (fun i => ((i : Int), ei (pl s.cells k) i)) (rw' s.cells cn' k) (by omega) (fun q i hi => ?_) (fun q => ?_)
  ·have hki := hin i (by omega)
   have d1 : decide ((i : Int) < ((cn' - k % cn' : Nat) : Int)) = true := decide_eq_true (by omega)
   have w1 : w64 ((k : Int) + (i : Int)) = ((k + i : Nat) : Int) := by rw [c3 (by omega) (by omega)]; omega
   have hA := rw_no hi
   rw [hpl i (by omega)] at hA
   have hA' : (rd s.cells ((k + i : Nat) : Int)).Attr = false := hA
   rw [cW.eq_2]; simp only [hw, d1, cond_true, w1, iC h, aS hki, Option.bind_some, hA', cond_false]
   rw [aX (by rw [bG]; simp only [List.length_cons, List.length_nil]; omega)]
   simp only [Option.bind_some, cond_false]
   rw [je (by omega), gZ, hpl i (by omega)]
  ·rw [cW.eq_2]
   by_cases hj : rw' s.cells cn' k < cn' - k % cn'
   ·have hki := hin _ hj
    have d1 : decide (((rw' s.cells cn' k : Nat) : Int) < ((cn' - k % cn' : Nat) : Int)) = true := decide_eq_true (by omega)
    have w1 : w64 ((k : Int) + ((rw' s.cells cn' k : Nat) : Int)) = ((k + rw' s.cells cn' k : Nat) : Int) := by rw [c3 (by omega) (by omega)]; omega
    have hA : (!bm s.cells (pl s.cells k (rw' s.cells cn' k))) = false := iq (p := fun i => !bm s.cells (pl s.cells k i)) hj
    rw [hpl _ hj] at hA
    have hA' : (rd s.cells ((k + rw' s.cells cn' k : Nat) : Int)).Attr = true := by simpa [bm] using hA
    simp only [hw, d1, cond_true, w1, iC h, aS hki, Option.bind_some, hA', if_pos hj]
    rfl
   ·have d1 : decide (((rw' s.cells cn' k : Nat) : Int) < ((cn' - k % cn' : Nat) : Int)) = false := decide_eq_false (by omega)
    simp only [hw, d1, cond_false, if_neg hj]
 have hsz : s.size = ⟨s.size.Rows, s.size.Cols⟩ := rfl
 rw [hsz, loop]
 by_cases hj : rw' s.cells cn' k < cn' - k % cn'
 ·rw [if_pos hj]; rfl
 ·rw [if_neg hj]; rfl
theorem rrow {m : Int} {N : Nat} {x : aa} (h : RS m N x) {cn : Nat} (hc : x.Size.Cols = (cn : Int)) {n : Int} {k : Nat} (hk : n % N = (k : Int)) (hkN : k < N) (hA0 : bm x.L k = false) : fe x n = some (ei (pl x.L k) (rw' x.L cn k)) := by
 have hl := h.len
 have hle := h.dim.dim.le
 obtain ⟨rn, cn', h1, h2, h3, h4, h5, _⟩ := h.dim.dim.cn
 have hcc : cn' = cn := by omega
 subst hcc
 have hrle := rw_le (L := x.L) (cn := cn') (k := k)
 have hmod := Nat.mod_lt k (show 0 < cn' by omega)
 have hin : ∀ i, i < cn' - k % cn' → k + i < N := fun i hi => row_in h3 (by omega) hkN hi
 have hpl : ∀ i, i < cn' - k % cn' → pl x.L k i = k + i := fun i hi => rP (by rw [hl]; exact hin i hi)
 have hpos : 0 < rw' x.L cn' k := by
  rcases Nat.eq_zero_or_pos (rw' x.L cn' k) with h0 | h0
  ·have : rw' x.L cn' k < cn' - k % cn' := by omega
   have hA : (!bm x.L (pl x.L k (rw' x.L cn' k))) = false := iq (p := fun i => !bm x.L (pl x.L k i)) this
   rw [h0, hpl 0 (by omega), Nat.add_zero, hA0] at hA; cases hA
  ·exact h0
 have hadd : ∀ i, i < cn' - k % cn' → (k + i) % cn' = k % cn' + i := fun i hi => by
  have e1 := Nat.div_add_mod k cn'
  rw [show k + i = (k % cn' + i) + cn' * (k / cn') by omega, Nat.add_mul_mod_self_left, Nat.mod_eq_of_lt (by omega)]
 have hw : w64 (x.Size.Cols - 1) = ((cn' - 1 : Nat) : Int) := by rw [hc, c3 (by omega) (by omega)]; omega
 unfold fe; simp only [f5 h, hk, Option.bind_some]
 have stepA : ∀ i, i < rw' x.L cn' k → (cond (decide (((k + i : Nat) : Int) < (x.L.length : Int))) (gd ((0 : Int) ≤ ((k + i : Nat) : Int) ∧ ((k + i : Nat) : Int) < (x.L.length : Int)) <| some (!((rd x.L ((k + i : Nat) : Int)).Attr))) (some false) : Option Bool) = some true := fun i hi => by
  have hki := hin i (by omega)
  have hA := rw_no hi
  rw [hpl i (by omega)] at hA
  have hA' : (rd x.L ((k + i : Nat) : Int)).Attr = false := hA
  rw [decide_eq_true (by omega), aX (by omega), hA']; rfl
 have loop : cq x bw (((k + 0 : Nat) : Int), ei (pl x.L k) 0) = some (ei (pl x.L k) (rw' x.L cn' k)) := by
  by_cases hfull : rw' x.L cn' k = cn' - k % cn'
  ·refine cw (fun i => (((k + i : Nat) : Int), ei (pl x.L k) i)) (rw' x.L cn' k - 1) (by omega) (fun q i hi => ?_) (fun q => ?_)
   ·rw [cq.eq_2]
    simp only [stepA i (by omega), Option.bind_some, cond_true]
    rw [aX (by rw [bG]; simp only [List.length_cons, List.length_nil]; omega), aX (by omega), hw, hc, lm, hadd i (by omega), cN (by omega), je (by have := hin i (by omega); omega), gZ, hpl i (by omega)]
    rfl
   ·have hj : rw' x.L cn' k - 1 < rw' x.L cn' k := by omega
    rw [cq.eq_2]; simp only [stepA _ hj, Option.bind_some, cond_true]
    rw [aX (by rw [bG]; simp only [List.length_cons, List.length_nil]; omega), aX (by omega), hw, hc, lm, hadd _ (by omega), jA (by omega)]
    simp only [cond_true]
    rw [show rw' x.L cn' k = (rw' x.L cn' k - 1) + 1 by omega, gZ, Nat.add_sub_cancel, hpl (rw' x.L cn' k - 1) (by omega)]
  ·refine cw (fun i => (((k + i : Nat) : Int), ei (pl x.L k) i)) (rw' x.L cn' k) (by omega) (fun q i hi => ?_) (fun q => ?_)
   ·rw [cq.eq_2]; simp only [stepA i hi, Option.bind_some, cond_true]
    rw [aX (by rw [bG]; simp only [List.length_cons, List.length_nil]; omega), aX (by omega), hw, hc, lm, hadd i (by omega), cN (by omega), je (by have := hin i (by omega); omega), gZ, hpl i (by omega)]
    rfl
   ·have hj : rw' x.L cn' k < cn' - k % cn' := by omega
    have hki := hin _ hj
    have hA : (!bm x.L (pl x.L k (rw' x.L cn' k))) = false := iq (p := fun i => !bm x.L (pl x.L k i)) hj
    rw [hpl _ hj] at hA
    have hA' : (rd x.L ((k + rw' x.L cn' k : Nat) : Int)).Attr = true := by simpa [bm] using hA
    have d1 : decide (((k + rw' x.L cn' k : Nat) : Int) < (x.L.length : Int)) = true := decide_eq_true (by omega)
    rw [cq.eq_2]; simp only [d1, cond_true, hA']
    rw [aX (by omega)]
    rfl
 rw [Nat.add_zero] at loop
 have e0 : ei (pl x.L k) 0 = ([] : List Int) := rfl
 rw [e0] at loop; rw [loop]; rfl
/-! ### a deletion -/
def jW (L : List ae) (k R : Nat) (i : Nat) : Int := if i + 1 < R then (rd L ((pl L k (i + 1) : Nat) : Int)).Char else 0
def tM (L : List ae) (cn k : Nat) : List ae := fq (dZ L (pl L k) (jW L k (rw' L cn k)) (rw' L cn k)) k
theorem tn {L : List ae} (ho : ∀ c ∈ L, COk c) {q : Nat} (hq : q < L.length) : By (rd L (q : Int)).Char := (ho _ (fS (by omega))).char
theorem qD {L : List ae} (ho : ∀ c ∈ L, COk c) (hL : 0 < L.length) {k R i : Nat} : By (jW L k R i) := by
 unfold jW; split
 ·exact tn ho (j0 hL _)
 ·exact by0
theorem rw_lt {m : Int} {N : Nat} {L : List ae} {cn k : Nat} (h : cn ≤ 132) (hN : 1920 ≤ N) (hl : L.length = N) : rw' L cn k < L.length := by have := rw_le (L := L) (cn := cn) (k := k); omega
theorem pdel {m : Int} {N : Nat} {s : ad} (h : SS m N s) {cn : Nat} (hc : s.size.Cols = (cn : Int)) {n : Int} {k : Nat} (hk : n % N = (k : Int)) (hkN : k < N) (hn : I64 n) : gK s n = some (if ft s.cells k then (wS s (tM s.cells cn k), true) else (s, false)) := by
 have hl := h.len
 have hle := h.dim.dim.le
 obtain ⟨rn, cn', h1, h2, h3, h4, h5, _⟩ := h.dim.dim.cn
 have hcc : cn' = cn := by omega
 subst hcc
 have hR : rw' s.cells cn' k < s.cells.length := rw_lt (m := m) h5 hle.1 hl
 unfold gK j2; simp only [qY h hk hkN, Option.bind_some]
 cases ho : ft s.cells k with
 | false => rfl
 | true =>
  simp only [Bool.not_true, cond_false, prow h hc hk hkN hn, Option.bind_some, if_true]
  have hf : ∀ i, pl s.cells k i < N := fun i => by rw [← hl]; exact j0 (by omega) i
  have hdc : ∀ i, By (jW s.cells k (rw' s.cells cn' k) i) := fun i => qD h.ok (by omega)
  unfold tM
  generalize hRR : rw' s.cells cn' k = R at hR hdc
  have loop : eP (s, n, ei (pl s.cells k) R) bw (0, s.model, s.alternate, s.size.Rows, s.size.Cols, s.cells, s.cursor, s.attrs) = some (t7' (wS s (dZ s.cells (pl s.cells k) (jW s.cells k R) R))) := by
   have e0 : ((0 : Int), s.model, s.alternate, s.size.Rows, s.size.Cols, s.cells, s.cursor, s.attrs) = (((0 : Nat) : Int), t7' (wS s (dZ s.cells (pl s.cells k) (jW s.cells k R) 0))) := by
    unfold t7' wS; rw [h.attrs]; rfl
   rw [e0]
   refine cw (fun i => ((i : Int), t7' (wS s (dZ s.cells (pl s.cells k) (jW s.cells k R) i)))) R (by omega) (fun q i hi => ?_) (fun q => ?_)
   ·have d1 : decide ((i : Int) < ((ei (pl s.cells k) R).length : Int)) = true := decide_eq_true (by rw [bG]; omega)
    have hS := kE h (f := pl s.cells k) (c := jW s.cells k R) (j := i) hf (fun q _ => hdc q)
    have hp := pput hS (n := ((pl s.cells k i : Nat) : Int)) (aS (hf i)) (hf i) (jW s.cells k R i)
    rw [eP.eq_2]; simp only [d1, cond_true]
    rw [aX (by rw [bG]; omega), je (by omega)]
    have hcv : (cond (decide (((i + 1 : Nat) : Int) < ((ei (pl s.cells k) R).length : Int))) (gd ((0 : Int) ≤ ((i + 1 : Nat) : Int) ∧ ((i + 1 : Nat) : Int) < ((ei (pl s.cells k) R).length : Int)) <| (aN (wS s (dZ s.cells (pl s.cells k) (jW s.cells k R) i)) (rd (ei (pl s.cells k) R) ((i + 1 : Nat) : Int))).bind fun (d10 : ae) => some d10.Char) (some 0) : Option Int) = some (jW s.cells k R i) := by
     by_cases h6 : i + 1 < R
     ·have hdv : jW s.cells k R i = (rd s.cells ((pl s.cells k (i + 1) : Nat) : Int)).Char := if_pos h6
      rw [decide_eq_true (by rw [bG]; omega), aX (by rw [bG]; omega), iK h6, hdv]
      simp only [cond_true, iC hS, aS (hf (i + 1)), Option.bind_some]
      congr 1
      have := iX (L := s.cells) (f := pl s.cells k) (c := jW s.cells k R) (fun i => by rw [hl]; exact hf i) i (q := pl s.cells k (i + 1)) (by rw [hl]; exact hf _) (fun r hr e => by
       have := nA (L := s.cells) (k := k) (i := r) (i' := i + 1) (by omega) (by omega) e; omega)
      exact congrArg ae.Char this
     ·have hdv : jW s.cells k R i = 0 := if_neg h6
      rw [decide_eq_false (by rw [bG]; omega), hdv]; rfl
    change ((cond _ (gd _ <| (aN (wS s (dZ s.cells (pl s.cells k) (jW s.cells k R) i)) _).bind _) _).bind _) = _; rw [hcv]; simp only [Option.bind_some]; rw [iK hi]; change ((bs (wS s (dZ s.cells (pl s.cells k) (jW s.cells k R) i)) _ _).bind _) = _; rw [hp]; rfl
   ·have d1 : decide (((R : Nat) : Int) < ((ei (pl s.cells k) R).length : Int)) = false := decide_eq_false (by rw [bG]; omega)
    rw [eP.eq_2]; simp only [d1, cond_false]
  rw [loop]
  have hS := kE h (f := pl s.cells k) (c := jW s.cells k R) (j := R) hf (fun q _ => hdc q)
  have hm := tB hS hk hkN
  simp only [Option.bind_some]; change ((bL (wS s (dZ s.cells (pl s.cells k) (jW s.cells k R) R)) n).bind _) = _; rw [hm]; rfl
theorem rdel {m : Int} {N : Nat} {x : aa} (h : RS m N x) {cn : Nat} (hc : x.Size.Cols = (cn : Int)) {n : Int} {k : Nat} (hk : n % N = (k : Int)) (hkN : k < N) : ef x n = some (if ft x.L k then (wL x (tM x.L cn k), true) else (x, false)) := by
 have hl := h.len
 have hle := h.dim.dim.le
 obtain ⟨rn, cn', h1, h2, h3, h4, h5, _⟩ := h.dim.dim.cn
 have hcc : cn' = cn := by omega
 subst hcc
 have hR : rw' x.L cn' k < x.L.length := rw_lt (m := m) h5 hle.1 hl
 unfold ef; simp only [qV h hk hkN, Option.bind_some]
 cases ho : ft x.L k with
 | false => rfl
 | true =>
  have hA0 := j1 ho
  have hf : ∀ i, pl x.L k i < N := fun i => by rw [← hl]; exact j0 (by omega) i
  have hpos : 0 < rw' x.L cn' k := by
   rcases Nat.eq_zero_or_pos (rw' x.L cn' k) with h0 | h0
   ·have hmod := Nat.mod_lt k (show 0 < cn' by omega)
    have : rw' x.L cn' k < cn' - k % cn' := by omega
    have hA : (!bm x.L (pl x.L k (rw' x.L cn' k))) = false := iq (p := fun i => !bm x.L (pl x.L k i)) this
    rw [h0, rP (by omega), Nat.add_zero, hA0] at hA; cases hA
   ·exact h0
  have hdc : ∀ i, By (jW x.L k (rw' x.L cn' k) i) := fun i => qD h.ok (by omega)
  simp only [Bool.not_true, cond_false, rrow h hc hk hkN hA0, Option.bind_some, if_true]; unfold tM
  generalize hRR : rw' x.L cn' k = R at hR hdc hpos
  rw [rcodes h hf (by omega)]
  simp only [Option.bind_some]
  have hcl := iZ x.L (pl x.L k) R
  rw [aX (by omega), aX (by rw [List.length_drop, hcl]; simp only [List.length_cons, List.length_nil]; omega)]
  have hrd : ∀ i, i < R → rd ((gM x.L (pl x.L k) R).drop 1 ++ [0]) (i : Int) = jW x.L k R i := fun i hi => by
   unfold jW
   rw [rdn (by rw [List.length_append, List.length_drop, hcl]; simp only [List.length_cons, List.length_nil]; omega)]
   by_cases h6 : i + 1 < R
   ·rw [if_pos h6, List.getElem_append_left (by rw [List.length_drop, hcl]; omega), List.getElem_drop]
    simp only [gM, List.getElem_map, List.getElem_range]
    rw [show 1 + i = i + 1 by omega]
   ·rw [if_neg h6, List.getElem_append_right (by rw [List.length_drop, hcl]; omega)]
    simp
  have hmv := (rmove h hf (j := R) (by omega) (cs := (gM x.L (pl x.L k) R).drop 1 ++ [0]) (by rw [List.length_append, List.length_drop, hcl]; simp only [List.length_cons, List.length_nil]; omega) (fun i hi => by rw [hrd i hi]; exact hdc i)).2
  rw [hmv, mt R hrd]
  have hS := mZ h (f := pl x.L k) (c := jW x.L k R) (j := R) hf (fun q _ => hdc q)
  have hm := rmod hS hk hkN
  simp only [Option.bind_some, hm]
  rfl
end Go.Vt
set_option linter.unusedVariables false
set_option linter.unusedSimpArgs false
set_option maxRecDepth 100000
namespace Go.Vt
/-- how many places ahead of the first that is null -/
def im (L : List ae) (k : Nat) : Nat := tl (fun i => !((rd L ((pl L k i : Nat) : Int)).Char == 0)) (rl L k true)
def mA (L : List ae) (k : Nat) (z : Int) (i : Nat) : Int := if i = 0 then z else (rd L ((pl L k (i - 1) : Nat) : Int)).Char
def lX (L : List ae) (k : Nat) (z : Int) : List ae := fq (dZ L (pl L k) (mA L k z) (im L k + 1)) k
theorem qv {L : List ae} (ho : ∀ c ∈ L, COk c) (hL : 0 < L.length) {k : Nat} {z : Int} (hz : By z) (i : Nat) : By (mA L k z i) := by
 unfold mA; split
 ·exact hz
 ·exact tn ho (j0 hL _)
/-- the other way about: from the last on -/
def kJ (L : List ae) (k e : Nat) : Nat → Nat := fun i => pl L k (e - i)
def kb (L : List ae) (k e : Nat) (z : Int) : Nat → Int := fun i => mA L k z (e - i)
theorem ins_same {L : List ae} {k e : Nat} {z : Int} (hL : 0 < L.length) (he : e < L.length) (hno : ∀ i, i ≤ e → bm L (pl L k i) = false) : dZ L (kJ L k e) (kb L k e z) (e + 1) = dZ L (pl L k) (mA L k z) (e + 1) := by
 refine kM (by rw [db, db]) fun q hq => ?_
 rw [db] at hq
 have hf1 : ∀ i, kJ L k e i < L.length := fun i => j0 hL _
 have hf2 : ∀ i, pl L k i < L.length := fun i => j0 hL _
 by_cases h : ∃ i, i < e + 1 ∧ pl L k i = q
 ·obtain ⟨i, hi, rfl⟩ := h
  rw [qj hf2 (e + 1) hi (fun a b ha hb hab => nA (by omega) (by omega) hab) (hno i (by omega))]
  have g := qj (c := kb L k e z) hf1 (e + 1) (q := e - i) (by omega) (fun a b ha hb hab => by have := nA (L := L) (k := k) (i := e - a) (i' := e - b) (by omega) (by omega) hab; omega) (by unfold kJ; exact hno _ (by omega))
  have e1 : kJ L k e (e - i) = pl L k i := by unfold kJ; rw [show e - (e - i) = i by omega]
  have e2 : kb L k e z (e - i) = mA L k z i := by unfold kb; rw [show e - (e - i) = i by omega]
  rw [e1, e2] at g; exact g
 ·rw [iX hf1 (e + 1) hq fun i hi hx => h ⟨e - i, by omega, hx⟩, iX hf2 (e + 1) hq fun i hi hx => h ⟨i, hi, hx⟩]
theorem pindexf {m : Int} {N : Nat} {s : ad} (h : SS m N s) {k : Nat} (hkN : k < N) : fj (dC s.cells k true) s = some (if im s.cells k < rl s.cells k true then (im s.cells k : Int) else -1) := by
 have hl := h.len
 have hle := h.dim.dim.le
 have hrl := pJ s.cells k true
 have hej : im s.cells k ≤ rl s.cells k true := jY _ _
 have hf : ∀ i, pl s.cells k i < N := fun i => by rw [← hl]; exact j0 (by omega) i
 have hlen : (dC s.cells k true).length = rl s.cells k true := by unfold dC; exact bG _ _
 have hrd : ∀ i, i < rl s.cells k true → rd (dC s.cells k true) (i : Int) = ((pl s.cells k i : Nat) : Int) := fun i hi => by unfold dC; exact iK hi
 unfold fj
 have hat : ∀ i, i < rl s.cells k true → fU (rd (dC s.cells k true) (i : Int)) s = some ((rd s.cells ((pl s.cells k i : Nat) : Int)).Char == 0) := fun i hi => by
  unfold fU; simp only [hrd i hi, iC h, aS (hf i), Option.bind_some]
 have loop : dv (dC s.cells k true) s bw 0 = some (if im s.cells k < rl s.cells k true then .inr (im s.cells k : Int) else .inl ()) := by
  refine cw (fun i => (i : Int)) (im s.cells k) (by omega) (fun q i hi => ?_) (fun q => ?_)
  ·have d1 : decide ((i : Int) < ((dC s.cells k true).length : Int)) = true := decide_eq_true (by omega)
   have hb : (!((rd s.cells ((pl s.cells k i : Nat) : Int)).Char == 0)) = true := jI (p := fun i => !((rd s.cells ((pl s.cells k i : Nat) : Int)).Char == 0)) hi
   have hb' : ((rd s.cells ((pl s.cells k i : Nat) : Int)).Char == 0) = false := by simpa using hb
   rw [dv.eq_2]; simp only [d1, cond_true]
   rw [aX (by omega), hat i (by omega), hb', je (by omega)]
   rfl
  ·rw [dv.eq_2]
   by_cases hj : im s.cells k < rl s.cells k true
   ·have d1 : decide ((im s.cells k : Int) < ((dC s.cells k true).length : Int)) = true := decide_eq_true (by omega)
    have hb : (!((rd s.cells ((pl s.cells k (im s.cells k) : Nat) : Int)).Char == 0)) = false := iq (p := fun i => !((rd s.cells ((pl s.cells k i : Nat) : Int)).Char == 0)) hj
    have hb' : ((rd s.cells ((pl s.cells k (im s.cells k) : Nat) : Int)).Char == 0) = true := by simpa using hb
    simp only [d1, cond_true]
    rw [aX (by omega), hat _ hj, hb', if_pos hj]
    rfl
   ·have d1 : decide ((im s.cells k : Int) < ((dC s.cells k true).length : Int)) = false := decide_eq_false (by omega)
    simp only [d1, cond_false, if_neg hj]
 rw [loop]
 by_cases hj : im s.cells k < rl s.cells k true
 ·rw [if_pos hj, if_pos hj]; rfl
 ·rw [if_neg hj, if_neg hj]; rfl
theorem pins {m : Int} {N : Nat} {s : ad} (h : SS m N s) {n : Int} {k : Nat} (hk : n = (k : Int)) (hkN : k < N) {z : Int} (hz : By z) : gJ s n z = some (if ft s.cells k = true ∧ im s.cells k < rl s.cells k true then (wS s (lX s.cells k z), true) else (s, false)) := by
 have hl := h.len
 have hle := h.dim.dim.le
 have hrl := pJ s.cells k true
 have hk' : n % N = (k : Int) := by rw [hk]; exact aS hkN
 unfold gJ; simp only [qY h hk' hkN, Option.bind_some]
 cases ho : ft s.cells k with
 | false => rw [if_neg (by rintro ⟨h, _⟩; cases h)]; rfl
 | true =>
  simp only [Bool.not_true, cond_false, pround h hk hkN (j1 ho), Option.bind_some, pindexf h hkN]
  by_cases hj : im s.cells k < rl s.cells k true
  ·rw [if_pos hj, if_pos ⟨trivial, hj⟩, decide_eq_false (show ¬ ((im s.cells k : Int) < 0) by omega)]
   simp only [cond_false]
   have hf : ∀ i, pl s.cells k i < N := fun i => by rw [← hl]; exact j0 (by omega) i
   have hno : ∀ i, i ≤ im s.cells k → bm s.cells (pl s.cells k i) = false := fun i hi => rl_no (by omega) (show i < rl s.cells k true by omega)
   have hic : ∀ i, By (mA s.cells k z i) := qv h.ok (by omega) hz
   have hlen : (dC s.cells k true).length = rl s.cells k true := by unfold dC; exact bG _ _
   have hrd : ∀ i, i < rl s.cells k true → rd (dC s.cells k true) (i : Int) = ((pl s.cells k i : Nat) : Int) := fun i hi => by unfold dC; exact iK hi
   unfold lX
   generalize hee : im s.cells k = e at hj hno
   have hfF : ∀ i, kJ s.cells k e i < N := fun i => hf _
   have hicD : ∀ i, By (kb s.cells k e z i) := fun i => hic _
   have loop : eO (s, dC s.cells k true) bw ((e : Int), s.model, s.alternate, s.size.Rows, s.size.Cols, s.cells, s.cursor, s.attrs) = some (t7' (wS s (dZ s.cells (kJ s.cells k e) (kb s.cells k e z) e))) := by
    have e0 : ((e : Int), s.model, s.alternate, s.size.Rows, s.size.Cols, s.cells, s.cursor, s.attrs) = (((e - 0 : Nat) : Int), t7' (wS s (dZ s.cells (kJ s.cells k e) (kb s.cells k e z) 0))) := by
     unfold t7' wS; rw [h.attrs]; rfl
    rw [e0]
    refine cw (fun i => (((e - i : Nat) : Int), t7' (wS s (dZ s.cells (kJ s.cells k e) (kb s.cells k e z) i)))) e (by omega) (fun q i hi => ?_) (fun q => ?_)
    ·have d1 : decide (((e - i : Nat) : Int) > 0) = true := decide_eq_true (by omega)
     have w1 : w64 (((e - i : Nat) : Int) - 1) = ((e - (i + 1) : Nat) : Int) := by rw [c3 (by omega) (by omega)]; omega
     have hS := kE h (f := kJ s.cells k e) (c := kb s.cells k e z) (j := i) hfF (fun q _ => hicD q)
     rw [eO.eq_2]; simp only [d1, cond_true, w1]
     rw [aX (by omega), aX (by omega), hrd _ (by omega), hrd _ (by omega)]
     change ((aN (wS s (dZ s.cells (kJ s.cells k e) (kb s.cells k e z) i)) _).bind _) = _; simp only [iC hS, aS (hf _), Option.bind_some]
     have hoth := iX (L := s.cells) (f := kJ s.cells k e) (c := kb s.cells k e z) (fun i => by rw [hl]; exact hfF i) i (q := pl s.cells k (e - (i + 1))) (by rw [hl]; exact hf _) (fun r hr hx => by
      have := nA (L := s.cells) (k := k) (i := e - r) (i' := e - (i + 1)) (by omega) (by omega) hx; omega)
     have hch : (rd (wS s (dZ s.cells (kJ s.cells k e) (kb s.cells k e z) i)).cells ((pl s.cells k (e - (i + 1)) : Nat) : Int)).Char = kb s.cells k e z i := by
      have h9 : kb s.cells k e z i = (rd s.cells ((pl s.cells k (e - i - 1) : Nat) : Int)).Char := if_neg (by omega)
      rw [h9, show e - i - 1 = e - (i + 1) by omega]
      exact congrArg ae.Char hoth
     rw [hch]
     have hp := pput hS (n := ((pl s.cells k (e - i) : Nat) : Int)) (aS (hf _)) (hf _) (kb s.cells k e z i)
     change ((bs (wS s (dZ s.cells (kJ s.cells k e) (kb s.cells k e z) i)) _ _).bind _) = _; rw [hp]; rfl
    ·have d1 : decide (((e - e : Nat) : Int) > 0) = false := decide_eq_false (by omega)
     rw [eO.eq_2]; simp only [d1, cond_false]
   rw [loop]; simp only [Option.bind_some]
   rw [aX (by omega)]
   have hS := kE h (f := kJ s.cells k e) (c := kb s.cells k e z) (j := e) hfF (fun q _ => hicD q)
   have h0 : rd (dC s.cells k true) (0 : Int) = ((pl s.cells k 0 : Nat) : Int) := hrd 0 (by omega)
   rw [h0]
   have hp := pput hS (n := ((pl s.cells k 0 : Nat) : Int)) (aS (hf _)) (hf _) z
   change ((bs (wS s (dZ s.cells (kJ s.cells k e) (kb s.cells k e z) e)) _ _).bind _) = _; rw [hp]
   have hlast : gv (wS s (dZ s.cells (kJ s.cells k e) (kb s.cells k e z) e)).cells (pl s.cells k 0) z = dZ s.cells (pl s.cells k) (mA s.cells k z) (e + 1) := by
    rw [← ins_same (by omega) (by omega) hno]
    have e1 : kJ s.cells k e e = pl s.cells k 0 := by unfold kJ; rw [Nat.sub_self]
    have e2 : kb s.cells k e z e = z := by unfold kb mA; rw [Nat.sub_self, if_pos rfl]
    rw [dZ, e1, e2]; rfl
   rw [hlast]
   have hS2 := kE h (f := pl s.cells k) (c := mA s.cells k z) (j := e + 1) hf (fun q _ => hic q)
   have hm := tB hS2 hk' hkN
   simp only [Option.bind_some]; change ((bL (wS s (dZ s.cells (pl s.cells k) (mA s.cells k z) (e + 1))) n).bind _) = _; rw [hm]; rfl
  ·rw [if_neg hj, if_neg fun h => hj h.2]; rfl
theorem rins {m : Int} {N : Nat} {x : aa} (h : RS m N x) {n : Int} {k : Nat} (hk : n % N = (k : Int)) (hkN : k < N) {z : Int} (hz : By z) : ee x n z = some (if ft x.L k = true ∧ im x.L k < rl x.L k true then (wL x (lX x.L k z), true) else (x, false)) := by
 have hl := h.len
 have hle := h.dim.dim.le
 have hrl := pJ x.L k true
 unfold ee; simp only [qV h hk hkN, Option.bind_some]
 cases ho : ft x.L k with
 | false => rw [if_neg (by rintro ⟨h, _⟩; cases h)]; rfl
 | true =>
  have hf : ∀ i, pl x.L k i < N := fun i => by rw [← hl]; exact j0 (by omega) i
  have hrs : dC x.L k true = ei (pl x.L k) (rl x.L k true) := rfl
  simp only [Bool.not_true, cond_false, rrest h hk hkN (j1 ho) true, Option.bind_some]
  rw [hrs, rcodes h hf (by omega)]
  simp only [Option.bind_some]
  have hcl := iZ x.L (pl x.L k) (rl x.L k true)
  have hic : ∀ i, By (mA x.L k z i) := qv h.ok (by omega) hz
  have hej : im x.L k ≤ rl x.L k true := jY _ _
  have loop : cG x n z (ei (pl x.L k) (rl x.L k true)) (gM x.L (pl x.L k) (rl x.L k true)) bw 0 = some (if im x.L k < rl x.L k true then .inr (wL x (lX x.L k z), true) else .inl ()) := by
   refine cw (fun i => (i : Int)) (im x.L k) (by omega) (fun q i hi => ?_) (fun q => ?_)
   ·have d1 : decide ((i : Int) < ((gM x.L (pl x.L k) (rl x.L k true)).length : Int)) = true := decide_eq_true (by omega)
    have hb : (!((rd x.L ((pl x.L k i : Nat) : Int)).Char == 0)) = true := jI (p := fun i => !((rd x.L ((pl x.L k i : Nat) : Int)).Char == 0)) hi
    have hb' : ((rd x.L ((pl x.L k i : Nat) : Int)).Char == 0) = false := by simpa using hb
    rw [cG.eq_2]; simp only [d1, cond_true]
    rw [aX (by omega), rv (by omega), hb', je (by omega)]
    rfl
   ·rw [cG.eq_2]
    by_cases hj : im x.L k < rl x.L k true
    ·have d1 : decide ((im x.L k : Int) < ((gM x.L (pl x.L k) (rl x.L k true)).length : Int)) = true := decide_eq_true (by omega)
     have hb : (!((rd x.L ((pl x.L k (im x.L k) : Nat) : Int)).Char == 0)) = false := iq (p := fun i => !((rd x.L ((pl x.L k i : Nat) : Int)).Char == 0)) hj
     have hb' : ((rd x.L ((pl x.L k (im x.L k) : Nat) : Int)).Char == 0) = true := by simpa using hb
     simp only [d1, cond_true]; unfold lX
     generalize hee : im x.L k = e at hj hb' hej ⊢
     rw [aX (by omega), rv hj, hb', je (by omega)]
     simp only [cond_true]
     rw [aX (by rw [bG]; omega), aX (by omega)]
     have htk : ∀ j f, j ≤ rl x.L k true → (ei f (rl x.L k true)).take j = ei f j := fun j f hjj => by
      refine List.ext_getElem (by rw [List.length_take, bG, bG]; omega) fun i h1 h2 => ?_
      simp only [ei, List.getElem_take, List.getElem_map, List.getElem_range]
     have htc : (gM x.L (pl x.L k) (rl x.L k true)).take e = gM x.L (pl x.L k) e := by
      refine List.ext_getElem (by rw [List.length_take, iZ, iZ]; omega) fun i h1 h2 => ?_
      simp only [gM, List.getElem_take, List.getElem_map, List.getElem_range]
     rw [Int.toNat_natCast, Int.toNat_natCast, htk _ _ (by omega), htc]
     have hcl2 := iZ x.L (pl x.L k) e
     rw [aX (by simp only [List.length_cons, List.length_nil]; omega)]
     have hrd : ∀ i, i < e + 1 → rd ([z] ++ gM x.L (pl x.L k) e) (i : Int) = mA x.L k z i := fun i hi => by
      unfold mA
      rw [rdn (by rw [List.length_append, hcl2]; simp only [List.length_cons, List.length_nil]; omega)]
      cases i with
      | zero => rfl
      | succ i =>
       rw [if_neg (by omega)]
       simp [gM]
     have hmv := (rmove h hf (j := e + 1) (by omega) (cs := [z] ++ gM x.L (pl x.L k) e) (by rw [List.length_append, hcl2]; simp only [List.length_cons, List.length_nil]; omega) (fun i hi => by rw [hrd i hi]; exact hic i)).1
     rw [hmv, mt (e + 1) hrd]
     have hS := mZ h (f := pl x.L k) (c := mA x.L k z) (j := e + 1) hf (fun q _ => hic q)
     have hm := rmod hS hk hkN
     simp only [Option.bind_some, hm, if_pos hj]
     rfl
    ·have d1 : decide ((im x.L k : Int) < ((gM x.L (pl x.L k) (rl x.L k true)).length : Int)) = false := decide_eq_false (by omega)
     simp only [d1, cond_false, if_neg hj]
  rw [loop]
  by_cases hj : im x.L k < rl x.L k true
  ·rw [if_pos hj, if_pos ⟨trivial, hj⟩]; rfl
  ·rw [if_neg hj, if_neg fun h => hj h.2]; rfl
end Go.Vt
set_option linter.unusedVariables false
set_option linter.unusedSimpArgs false
set_option maxRecDepth 100000
namespace Go.Vt
def pC (s : ad) (p : Int) : ad := ⟨s.model, s.alternate, s.size, s.cells, p, s.attrs⟩
def rC (x : aa) (p : Int) : aa := ⟨x.Model, x.Alt, x.Size, x.L, p⟩
theorem RS.c {m : Int} {N : Nat} {x : aa} (h : RS m N x) {p : Int} (h0 : 0 ≤ p) (h1 : p < N) : RS m N (rC x p) := ⟨h.model, h.dim, h.len, h.ok, ⟨h0, h1⟩⟩
theorem SS.c {m : Int} {N : Nat} {s : ad} (h : SS m N s) {p : Int} (h0 : 0 ≤ p) (h1 : p < N) : SS m N (pC s p) := ⟨h.model, h.dim, h.len, h.ok, ⟨h0, h1⟩, h.attrs⟩
theorem mw {m : Int} {N : Nat} {s : ad} (h : SS m N s) {p : Int} (h0 : 0 ≤ p) (h1 : p < N) : bD s p = some (pC s p) := by
 rw [qQ h, Int.emod_eq_of_lt h0 h1]; rfl
theorem nextI_lt {L : List ae} {k : Nat} (hL : 0 < L.length) : -1 ≤ ls L k ∧ ls L k < L.length := by
 unfold ls
 split
 ·have := Nat.mod_lt (k + 1 + ob L k) hL; omega
 ·omega
theorem prevI_lt {L : List ae} {k : Nat} (hL : 0 < L.length) : -1 ≤ m5 L k ∧ m5 L k < L.length := by
 unfold m5
 split
 ·have := Nat.mod_lt (k + (L.length - 1 - oT L k)) hL; omega
 ·omega
theorem imax0 {z : Int} {N : Nat} (hN : 0 < N) (h : -1 ≤ z ∧ z < N) : 0 ≤ kf z 0 ∧ kf z 0 < N := by unfold kf; split <;> omega
/-- the cursor's own place -/
theorem SS.k {m : Int} {N : Nat} {s : ad} (h : SS m N s) : ∃ k : Nat, s.cursor = (k : Int) ∧ k < N := ⟨s.cursor.toNat, by have := h.cur; omega, by have := h.cur; omega⟩
theorem RS.k {m : Int} {N : Nat} {x : aa} (h : RS m N x) : ∃ k : Nat, x.Cursor = (k : Int) ∧ k < N := ⟨x.Cursor.toNat, by have := h.cur; omega, by have := h.cur; omega⟩
def kC (L : List ae) (k : Nat) : Int := kf (ls L k) 0
def pu (L : List ae) (k : Nat) : Int := kf (m5 L k) 0
def iY (L : List ae) (k : Nat) : Int := if ft L k then (k : Int) else kC L k
theorem kB {L : List ae} {N k : Nat} (hl : L.length = N) (hN : 0 < N) : 0 ≤ kC L k ∧ kC L k < N := imax0 hN (by have := nextI_lt (L := L) (k := k) (by omega); rw [hl] at this; exact this)
theorem rF {L : List ae} {N k : Nat} (hl : L.length = N) (hN : 0 < N) : 0 ≤ pu L k ∧ pu L k < N := imax0 hN (by have := prevI_lt (L := L) (k := k) (by omega); rw [hl] at this; exact this)
theorem lR {L : List ae} {N k : Nat} (hl : L.length = N) (hk : k < N) : 0 ≤ iY L k ∧ iY L k < N := by
 unfold iY; split
 ·omega
 ·exact kB hl (by omega)
theorem ptab {m : Int} {N : Nat} {s : ad} (h : SS m N s) {k : Nat} (hk : s.cursor = (k : Int)) (hkN : k < N) : eZ s = some (pC s (kC s.cells k)) := by
 have hle := h.dim.dim.le
 have hb := kB (k := k) h.len (show 0 < N by omega)
 unfold eZ aW; simp only [Option.bind_some, hk, pnext h (aS hkN) hkN]; rw [show kf (ls s.cells k) 0 = kC s.cells k from rfl, mw h hb.1 hb.2]; rfl
theorem pbtab {m : Int} {N : Nat} {s : ad} (h : SS m N s) {k : Nat} (hk : s.cursor = (k : Int)) (hkN : k < N) : fX s = some (pC s (pu s.cells k)) := by
 have hle := h.dim.dim.le
 have hb := rF (k := k) h.len (show 0 < N by omega)
 unfold fX aW; simp only [Option.bind_some, hk, pprev h (aS hkN) hkN]; rw [show kf (m5 s.cells k) 0 = pu s.cells k from rfl, mw h hb.1 hb.2]; rfl
theorem sN {m : Int} {N : Nat} {s : ad} (h : SS m N s) {n : Int} {k : Nat} (hk : n % N = (k : Int)) (hkN : k < N) : fW s n = some (iY s.cells k) := by
 unfold fW aQ iY; simp only [qY h hk hkN, Option.bind_some]
 cases ft s.cells k with
 | true => simp only [cond_true, f4 h, hk, Option.bind_some, if_true]
 | false => simp only [cond_false, pnext h hk hkN, Option.bind_some, Bool.false_eq_true, if_false]; rfl
theorem rtab {m : Int} {N : Nat} {x : aa} (h : RS m N x) {n : Int} {k : Nat} (hk : n % N = (k : Int)) (hkN : k < N) : b5 x n false = some (kC x.L k) := by
 unfold b5; simp only [rnext h hk hkN, Option.bind_some]; rfl
theorem rbtab {m : Int} {N : Nat} {x : aa} (h : RS m N x) {n : Int} {k : Nat} (hk : n % N = (k : Int)) (hkN : k < N) : b5 x n true = some (pu x.L k) := by
 unfold b5; simp only [rprev h hk hkN, Option.bind_some]; rfl
theorem sG {m : Int} {N : Nat} {x : aa} (h : RS m N x) {n : Int} {k : Nat} (hk : n % N = (k : Int)) (hkN : k < N) : dG x n = some (iY x.L k) := by
 unfold dG iY; simp only [qV h hk hkN, Option.bind_some]
 cases ft x.L k with
 | true => simp only [cond_true, f5 h, hk, Option.bind_some, if_true]
 | false => simp only [cond_false, rtab h hk hkN, Option.bind_some, Bool.false_eq_true, if_false]
/-! ### rows and columns -/
def atI (rn cn r c : Nat) : Nat := (r % rn) * cn + c % cn
def mvI (rn cn k dr dc : Nat) : Nat := atI rn cn ((k + dc) % (rn * cn) / cn + dr) ((k + dc) % (rn * cn) % cn)
theorem qJ {rn cn r c : Nat} (hr : 0 < rn) (hc : 0 < cn) : atI rn cn r c < rn * cn := by
 unfold atI
 have h1 := Nat.mod_lt r hr
 have h2 := Nat.mod_lt c hc
 have h3 := Nat.mul_le_mul_right cn (show r % rn + 1 ≤ rn from h1)
 rw [Nat.add_mul, Nat.one_mul] at h3; omega
theorem atI_self {rn cn k : Nat} (hc : 0 < cn) (hk : k < rn * cn) : atI rn cn (k / cn) (k % cn) = k := by
 unfold atI
 rw [Nat.mod_eq_of_lt (show k / cn < rn by rw [Nat.div_lt_iff_lt_mul hc]; exact hk), Nat.mod_mod, Nat.mul_comm]
 exact Nat.div_add_mod k cn
theorem w64n {a : Nat} (h : a < 1000000) : w64 ((a : Nat) : Int) = (a : Int) := c3 (by omega) (by omega)
theorem mT {a b : Nat} (h : a + b < 1000000) : w64 ((a : Int) + (b : Int)) = ((a + b : Nat) : Int) := by rw [c3 (by omega) (by omega)]; omega
theorem ng {r c : Int} {N rn cn : Nat} (h : Dim r c N) (hr : r = (rn : Int)) (hc : c = (cn : Int)) (hN : N = rn * cn) : 80 ≤ cn ∧ cn ≤ 132 ∧ 24 ≤ rn ∧ rn ≤ 43 := by
 obtain ⟨rn', cn', h1, h2, h3, h4, h5, h6, h7⟩ := h.cn
 omega
theorem prowc {r c : Int} {N rn cn : Nat} (h : Dim r c N) (hr : r = (rn : Int)) (hc : c = (cn : Int)) (hN : N = rn * cn) {n : Int} {k : Nat} (hk : n % N = (k : Int)) : fw ⟨r, c⟩ n = some ((k / cn : Nat) : Int) := by
 obtain ⟨b1, b2, b3, b4⟩ := ng h hr hc hN
 have hle := h.le
 have hkN : k < N := by have := Int.emod_lt_of_pos n (show (0 : Int) < N by omega); omega
 unfold fw; simp only [lj h, mS h, hk, Option.bind_some, Bool.not_true, cond_false]; subst hc
 have h9 : k / cn ≤ k := Nat.div_le_self _ _
 rw [aX (by omega), show Int.tdiv (k : Int) (cn : Int) = ((k / cn : Nat) : Int) from rfl, w64n (by omega)]
theorem patc {r c : Int} {N rn cn : Nat} (h : Dim r c N) (hr : r = (rn : Int)) (hc : c = (cn : Int)) (hN : N = rn * cn) {a b : Int} {a' b' : Nat} (ha : a % (rn : Int) = (a' : Int)) (hb : b % (cn : Int) = (b' : Int)) : f0 ⟨r, c⟩ a b = some ((atI rn cn a' b' : Nat) : Int) := by
 obtain ⟨b1, b2, b3, b4⟩ := ng h hr hc hN
 have ha1 : a' < rn := by have := Int.emod_lt_of_pos a (show (0 : Int) < rn by omega); omega
 have hb1 : b' < cn := by have := Int.emod_lt_of_pos b (show (0 : Int) < cn by omega); omega
 have hml : a' * cn ≤ 43 * 132 := Nat.mul_le_mul (by omega) b2
 unfold f0; simp only [lj h, Option.bind_some, Bool.not_true, cond_false]; subst hr hc
 simp only [oh (show 0 < rn by omega) (by omega), oh (show 0 < cn by omega) (by omega), ha, hb, Option.bind_some]
 unfold atI; rw [Nat.mod_eq_of_lt ha1, Nat.mod_eq_of_lt hb1]
 have e1 : ((a' : Int) * (cn : Int)) = ((a' * cn : Nat) : Int) := by simp
 rw [e1, c3 (x := ((a' * cn : Nat) : Int)) (by omega) (by omega), c3 (by omega) (by omega)]
 rfl
theorem ratc {r c : Int} {N rn cn : Nat} (h : Dim r c N) (hr : r = (rn : Int)) (hc : c = (cn : Int)) (hN : N = rn * cn) {a b : Int} {a' b' : Nat} (ha : a % (rn : Int) = (a' : Int)) (hb : b % (cn : Int) = (b' : Int)) : dP ⟨r, c⟩ a b = some ((atI rn cn a' b' : Nat) : Int) := by
 obtain ⟨b1, b2, b3, b4⟩ := ng h hr hc hN
 have ha1 : a' < rn := by have := Int.emod_lt_of_pos a (show (0 : Int) < rn by omega); omega
 have hb1 : b' < cn := by have := Int.emod_lt_of_pos b (show (0 : Int) < cn by omega); omega
 have hml : a' * cn ≤ 43 * 132 := Nat.mul_le_mul (by omega) b2
 unfold dP; simp only [pH h, Option.bind_some, Bool.not_true, cond_false]; subst hr hc
 simp only [lu (show 0 < rn by omega) (by omega), lu (show 0 < cn by omega) (by omega), ha, hb, Option.bind_some]
 unfold atI; rw [Nat.mod_eq_of_lt ha1, Nat.mod_eq_of_lt hb1]
 have e1 : ((cn : Int) * (a' : Int)) = ((a' * cn : Nat) : Int) := by rw [Int.mul_comm]; simp
 rw [e1, c3 (x := ((a' * cn : Nat) : Int)) (by omega) (by omega), c3 (by omega) (by omega)]
 rfl
theorem pmove {r c : Int} {N rn cn : Nat} (h : Dim r c N) (hr : r = (rn : Int)) (hc : c = (cn : Int)) (hN : N = rn * cn) {n dr dc : Int} {k dr' dc' : Nat} (hk : n % N = (k : Int)) (hdr : dr % (rn : Int) = (dr' : Int)) (hdc : dc % (N : Int) = (dc' : Int)) : fY ⟨r, c⟩ n dr dc = some ((mvI rn cn k dr' dc' : Nat) : Int) := by
 obtain ⟨b1, b2, b3, b4⟩ := ng h hr hc hN
 have hle := h.le
 have hkN : k < N := by have := Int.emod_lt_of_pos n (show (0 : Int) < N by omega); omega
 have hdN : dc' < N := by have := Int.emod_lt_of_pos dc (show (0 : Int) < N by omega); omega
 have hdr1 : dr' < rn := by have := Int.emod_lt_of_pos dr (show (0 : Int) < rn by omega); omega
 have hq : (k + dc') % N < N := Nat.mod_lt _ (by omega)
 have hqd : (k + dc') % N / cn < rn := by rw [Nat.div_lt_iff_lt_mul (by omega), ← hN]; exact hq
 unfold fY; simp only [lj h, Option.bind_some, Bool.not_true, cond_false, mS h, hk, hdc]
 rw [c3 (x := (k : Int) + (dc' : Int)) (by omega) (by omega), show ((k : Int) + (dc' : Int)) % (N : Int) = (((k + dc') % N : Nat) : Int) by rw [Int.natCast_emod]; rfl]
 simp only [prowc h hr hc hN (aS hq), pcol h hc (aS hq), Option.bind_some]
 have e2 : fI dr r = some (dr' : Int) := by rw [hr, oh (show 0 < rn by omega) (by omega), hdr]
 simp only [e2, Option.bind_some]
 rw [mT (by omega), patc h hr hc hN (a' := ((k + dc') % N / cn + dr') % rn) (b' := (k + dc') % N % cn) (by rw [Int.natCast_emod]) (by rw [← Int.natCast_emod, Nat.mod_mod])]
 simp only [Option.bind_some]; unfold mvI atI; rw [← hN, Nat.mod_mod]
theorem rmovec {r c : Int} {N rn cn : Nat} (h : Dim r c N) (hr : r = (rn : Int)) (hc : c = (cn : Int)) (hN : N = rn * cn) {n dr dc : Int} {k dr' dc' : Nat} (hk : n % N = (k : Int)) (hdr : dr % (rn : Int) = (dr' : Int)) (hdc : dc % (N : Int) = (dc' : Int)) : dW ⟨r, c⟩ n dr dc = some ((mvI rn cn k dr' dc' : Nat) : Int) := by
 obtain ⟨b1, b2, b3, b4⟩ := ng h hr hc hN
 have hle := h.le
 have hkN : k < N := by have := Int.emod_lt_of_pos n (show (0 : Int) < N by omega); omega
 have hdN : dc' < N := by have := Int.emod_lt_of_pos dc (show (0 : Int) < N by omega); omega
 have hdr1 : dr' < rn := by have := Int.emod_lt_of_pos dr (show (0 : Int) < rn by omega); omega
 have hq : (k + dc') % N < N := Nat.mod_lt _ (by omega)
 have hqd : (k + dc') % N / cn < rn := by rw [Nat.div_lt_iff_lt_mul (by omega), ← hN]; exact hq
 unfold dW; simp only [pH h, Option.bind_some, Bool.not_true, cond_false, qS h, hk, hdc, lO h]
 rw [c3 (x := (k : Int) + (dc' : Int)) (by omega) (by omega), lu (by omega) (by omega), show ((k : Int) + (dc' : Int)) % (N : Int) = (((k + dc') % N : Nat) : Int) by rw [Int.natCast_emod]; rfl]
 simp only [Option.bind_some]
 rw [aX (by omega), aX (by omega)]
 have e2 : bx dr r = some (dr' : Int) := by rw [hr, lu (show 0 < rn by omega) (by omega), hdr]
 simp only [e2, Option.bind_some]
 have e3 : Int.tdiv (((k + dc') % N : Nat) : Int) c = (((k + dc') % N / cn : Nat) : Int) := by rw [hc]; rfl
 have e4 : Int.tmod (((k + dc') % N : Nat) : Int) c = (((k + dc') % N % cn : Nat) : Int) := by rw [hc]; exact lm _ _
 rw [e3, e4, w64n (by omega), mT (by omega), ratc h hr hc hN (a' := ((k + dc') % N / cn + dr') % rn) (b' := (k + dc') % N % cn) (by rw [Int.natCast_emod]) (by rw [← Int.natCast_emod, Nat.mod_mod])]
 simp only [Option.bind_some]; unfold mvI atI; rw [← hN, Nat.mod_mod]
theorem mvI_lt {rn cn k dr dc : Nat} (hr : 0 < rn) (hc : 0 < cn) : mvI rn cn k dr dc < rn * cn := qJ hr hc
theorem mv_on {rn cn k : Nat} (hc : 0 < cn) (hN : 0 < rn * cn) : mvI rn cn k 0 1 = (k + 1) % (rn * cn) := by
 unfold mvI; rw [Nat.add_zero]; exact atI_self hc (Nat.mod_lt _ hN)
end Go.Vt
