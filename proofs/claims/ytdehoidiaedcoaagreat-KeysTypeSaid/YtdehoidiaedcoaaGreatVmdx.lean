/- Lemmas. No conditions. -/
import Derived.Test.YtdehoidiaedcoaaGreatVmcx
set_option linter.unusedVariables false
set_option linter.unusedSimpArgs false
set_option linter.unusedVariables false
set_option maxRecDepth 100000
set_option maxHeartbeats 4000000
namespace Go.Vt
open Go.Proofs
theorem c_space_Space_Set {g : Gw} (X : HP) (p0 : Vspace_Space) (b0 : Nat) (s0 : SV) (p1 : Int) (p2 : Vapi_Cell) (r : Vspace_Space) (h : m_space_Space_Set p0 p1 p2 = some r) : Tri env g 42 (A [(F b0 0), (I p1), (.agg (A [(U p2.Char), (O p2.Attr), (U p2.FA), (U p2.High), (U p2.Color), (U p2.f_Set)]))]) [X, blk b0 (.cells (A [(I p0.model), (O p0.alternate), (I p0.size.Rows), (I p0.size.Cols), (V s0), (I p0.cursor), (I p0.attrs)]) 122 (0, 0)), slO s0 26 en_Vapi_Cell p0.cells] (fun K R => K (.tuple (A [])) (X :: blk b0 (.cells (A [(I r.model), (O r.alternate), (I r.size.Rows), (I r.size.Cols), (V s0), (I r.cursor), (I r.attrs)]) 122 (0, 0)) :: slO s0 26 en_Vapi_Cell r.cells :: R)) := by
 refine tri_of (fn := Tryz.f42) (N := 47) Tryz.func42 J J J ?_
 intro R K hk
 unfold m_space_Space_Set at h
 change GC _ none _ [] [(0, (F b0 0)), (1, (I p1)), (2, (.agg (A [(U p2.Char), (O p2.Attr), (U p2.FA), (U p2.High), (U p2.Color), (U p2.f_Set)])))] (X :: blk b0 (.cells (A [(I p0.model), (O p0.alternate), (I p0.size.Rows), (I p0.size.Cols), (V s0), (I p0.cursor), (I p0.attrs)]) 122 (0, 0)) :: slO s0 26 en_Vapi_Cell p0.cells :: R) g _ _
 refine cr ?_
 refine o1 J (o_box (cs := [(U p2.Char), (O p2.Attr), (U p2.FA), (U p2.High), (U p2.Color), (U p2.f_Set)]) J J (fun b230 => ?_))
 refine oe (c_seq (cr (op J J ?_)))
 refine o1 J (o_p (v := (O false)) J ?_)
 refine oe ?_
 refine c_cond_f J J ?_
 refine c_skip (e_seq (c_seq (cr ?_)))
 refine o1 J (o_fa (fd := ⟨ "Attr", 4, 1, false, "", "", 1⟩) J J J J J ?_)
 refine o1 J (o_ld (b := b230) (off := 1) (v := (O p2.Attr)) J rm0 J J ?_)
 refine oe ?_
 replace h := bsome h
 obtain ⟨d1, h, hk1⟩ := h
 refine cj (D := Unit) (ι := Unit) (fun _ i1 => True) (fun _ i1 => [(5, (F b230 0)), (0, (F b0 0)), (1, (I p1))]) (fun _ i1 => X :: blk b230 (.cells (A [(U d1.1), (O p2.Attr), (U d1.2), (U p2.High), (U p2.Color), (U p2.f_Set)]) 26 (0, 0)) :: blk b0 (.cells (A [(I p0.model), (O p0.alternate), (I p0.size.Rows), (I p0.size.Cols), (V s0), (I p0.cursor), (I p0.attrs)]) 122 (0, 0)) :: slO s0 26 en_Vapi_Cell p0.cells :: R) ?_ ?_
 ·refine c_cond (b := p2.Attr) J (fun hb232 => ?_) (fun hb232 => ?_)
  ·replace h := cond_t hb232 h
   refine c_region ?_
   refine o1 J (o_fa (fd := ⟨ "FA", 5, 2, false, "", "", 2⟩) J J J J J ?_)
   refine o1 J (o_ld (b := b230) (off := 2) (v := (U p2.FA)) J rm0 J J ?_)
   refine o1 J (o_p (v := (U (iband .u8 p2.FA 61))) J ?_)
   refine o1 J (o_fa (fd := ⟨ "Char", 5, 0, false, "", "", 0⟩) J J J J J ?_)
   refine o0 (o_st (b := b230) (off := 0) (vs := [(U 0)]) (cs' := [(U 0), (O p2.Attr), (U p2.FA), (U p2.High), (U p2.Color), (U p2.f_Set)]) J J rp0 J J J J J J ?_)
   refine o1 J (o_fa (fd := ⟨ "FA", 5, 2, false, "", "", 2⟩) J J J J J ?_)
   refine o0 (o_st (b := b230) (off := 2) (vs := [(U (iband .u8 p2.FA 61))]) (cs' := [(U 0), (O p2.Attr), (U (iband .u8 p2.FA 61)), (U p2.High), (U p2.Color), (U p2.f_Set)]) J J rp0 J J J J J J ?_)
   refine o_end ?_
   obtain rfl := si h
   exact ej () () trivial (sc J (sc J (sc J sn))) (kc rm1 (kc rm0 (kc rm0 (kc rm0 kr))))
  ·replace h := cond_f hb232 h
   refine c_region ?_
   refine o1 J (o_fa (fd := ⟨ "FA", 5, 2, false, "", "", 2⟩) J J J J J ?_)
   refine o0 (o_st (b := b230) (off := 2) (vs := [(U 0)]) (cs' := [(U p2.Char), (O p2.Attr), (U 0), (U p2.High), (U p2.Color), (U p2.f_Set)]) J J rp0 J J J J J J ?_)
   refine o_end ?_
   obtain rfl := si h
   exact ej () () trivial (sc J (sc J (sc J sn))) (kc rm1 (kc rm0 (kc rm0 (kc rm0 kr))))
 ·rintro _ i1 _
  replace h := hk1
  clear hk1
  refine e_seq (cr (op J J (op J J ?_)))
  refine o1 J (o_fa (fd := ⟨ "size", 120, 2, false, "", "vitrine/space", 16⟩) J J J J J ?_)
  refine o1 J (o_ld (b := b0) (off := 2) (v := (.agg (A [(I p0.size.Rows), (I p0.size.Cols)]))) J rm2 J J ?_)
  refine op J J ?_
  replace h := bsome h
  obtain ⟨d2, h2, h⟩ := h
  refine o1 J (o_call has53 J (c_addr_Size_Wrap X p0.size p1 _ h2) (pc rm0 pn) ?_)
  refine op J J (oe (c_seq ?_))
  replace h := gsome h
  obtain ⟨hg238, h⟩ := h
  refine c_draw (n := 3) (q := [(0, 22, (F b0 0)), (1, 23, (F b0 0)), (2, 24, (F b0 6)), (3, 25, (I p0.attrs)), (4, 26, (.agg (A [(U d1.1), (O p2.Attr), (U d1.2), (U p2.High), (U p2.Color), (U p2.f_Set)]))), (6, 28, (F b0 0)), (7, 29, (F b0 0)), (8, 30, (F b0 4)), (9, 31, (V s0)), (10, 32, (I d2)), (11, 33, (F (SV.blk s0) (SV.off s0 + Int.toNat d2 * 6))), (12, 34, (.agg (A [(U ((rd p0.cells d2).Char)), (O ((rd p0.cells d2).Attr)), (U ((rd p0.cells d2).FA)), (U ((rd p0.cells d2).High)), (U ((rd p0.cells d2).Color)), (U ((rd p0.cells d2).f_Set))])))]) (pend := [0, 1, 2, 3, 4, 6, 7, 8, 9, 10, 11, 12]) J J J ?_
  replace h := bsome h
  obtain ⟨d4, h4, h⟩ := h
  refine ⟨⟨fun _ => ⟨J, J, J, .inl ⟨J, (o_p J ⟨J, J⟩)⟩⟩, fun _ => ⟨J, J, J, .inl ⟨J, (o_p J ⟨J, J⟩)⟩⟩, fun _ => ⟨J, J, J, .inl ⟨J, (o_fa (fd := ⟨ "attrs", 3, 6, false, "", "vitrine/space", 64⟩) J J J J J ⟨J, J⟩)⟩⟩, fun _ => ⟨J, J, J, .inl ⟨J, (o_ld (b := b0) (off := 6) (v := (I p0.attrs)) J rm2 J J ⟨J, J⟩)⟩⟩, fun _ => ⟨J, J, J, .inl ⟨J, (o_ld (b := b230) (off := 0) (v := (.agg (A [(U d1.1), (O p2.Attr), (U d1.2), (U p2.High), (U p2.Color), (U p2.f_Set)]))) J rm1 J J ⟨J, J⟩)⟩⟩, fun _ => ⟨J, J, J, .inl ⟨J, (o_p J ⟨J, J⟩)⟩⟩, fun _ => ⟨J, J, J, .inl ⟨J, (o_p J ⟨J, J⟩)⟩⟩, fun _ => ⟨J, J, J, .inl ⟨J, (o_fa (fd := ⟨ "cells", 72, 4, false, "", "vitrine/space", 32⟩) J J J J J ⟨J, J⟩)⟩⟩, fun _ => ⟨J, J, J, .inl ⟨J, (o_ld (b := b0) (off := 4) (v := (V s0)) J rm2 J J ⟨J, J⟩)⟩⟩, fun _ => ⟨J, J, J, .inl ⟨J, (o_p J ⟨J, J⟩)⟩⟩, fun _ => ⟨J, J, J, .inl ⟨J, (o_ix (s := s0) (n := d2) (e := en_Vapi_Cell) J J J J J J rm3 (rd_own _ _ _ _) hg238 ⟨J, J⟩)⟩⟩, fun _ => ⟨J, J, J, .inl ⟨J, (o_ldE (s := s0) (e := en_Vapi_Cell) (n := d2) (f := 0) (v := (.agg (A [(U ((rd p0.cells d2).Char)), (O ((rd p0.cells d2).Attr)), (U ((rd p0.cells d2).FA)), (U ((rd p0.cells d2).High)), (U ((rd p0.cells d2).Color)), (U ((rd p0.cells d2).f_Set))]))) J rm3 (rd_own _ _ _ _) hg238 J J ⟨J, J⟩)⟩⟩, trivial⟩, J, .inr ⟨[5], J, J, ⟨J, .inl J, ?_⟩, trivial⟩⟩
  refine (o_call has77 J (c_space_count X { p2 with Char := d1.1, FA := d1.2 } _ h4) (pc rm0 pn) ?_)
  refine ⟨[], [0, 1, 2, 3, 6, 7, 8, 9, 10, 11, 12], J, J, J, J, ?_⟩
  replace h := bsome h
  obtain ⟨d5, h5, h⟩ := h
  refine ⟨⟨fun _ => ⟨J, J, J, .inl ⟨J, (o_p J ⟨J, J⟩)⟩⟩, fun _ => ⟨J, J, J, .inl ⟨J, (o_p J ⟨J, J⟩)⟩⟩, fun _ => ⟨J, J, J, .inl ⟨J, (o_fa (fd := ⟨ "attrs", 3, 6, false, "", "vitrine/space", 64⟩) J J J J J ⟨J, J⟩)⟩⟩, fun _ => ⟨J, J, J, .inl ⟨J, (o_ld (b := b0) (off := 6) (v := (I p0.attrs)) J rm2 J J ⟨J, J⟩)⟩⟩, (fun h => nomatch h), fun _ => ⟨J, J, J, .inl ⟨J, (o_p J ⟨J, J⟩)⟩⟩, fun _ => ⟨J, J, J, .inl ⟨J, (o_p J ⟨J, J⟩)⟩⟩, fun _ => ⟨J, J, J, .inl ⟨J, (o_fa (fd := ⟨ "cells", 72, 4, false, "", "vitrine/space", 32⟩) J J J J J ⟨J, J⟩)⟩⟩, fun _ => ⟨J, J, J, .inl ⟨J, (o_ld (b := b0) (off := 4) (v := (V s0)) J rm2 J J ⟨J, J⟩)⟩⟩, fun _ => ⟨J, J, J, .inl ⟨J, (o_p J ⟨J, J⟩)⟩⟩, fun _ => ⟨J, J, J, .inl ⟨J, (o_ix (s := s0) (n := d2) (e := en_Vapi_Cell) J J J J J J rm3 (rd_own _ _ _ _) hg238 ⟨J, J⟩)⟩⟩, fun _ => ⟨J, J, J, .inl ⟨J, (o_ldE (s := s0) (e := en_Vapi_Cell) (n := d2) (f := 0) (v := (.agg (A [(U ((rd p0.cells d2).Char)), (O ((rd p0.cells d2).Attr)), (U ((rd p0.cells d2).FA)), (U ((rd p0.cells d2).High)), (U ((rd p0.cells d2).Color)), (U ((rd p0.cells d2).f_Set))]))) J rm3 (rd_own _ _ _ _) hg238 J J ⟨J, J⟩)⟩⟩, trivial⟩, J, .inr ⟨[13], J, J, ⟨J, .inl J, ?_⟩, trivial⟩⟩
  refine (o_call has77 J (c_space_count X (rd p0.cells d2) _ h5) (pc rm0 pn) ?_)
  refine ⟨[(14, 36, (I (w64 (d4 - d5)))), (15, 37, (I (w64 (p0.attrs + (w64 (d4 - d5)))))), (16, 38, (F b0 0)), (17, 39, (F b0 6))], [0, 1, 2, 3, 14, 15, 16, 17], J, J, J, J, ?_⟩
  refine ⟨⟨fun _ => ⟨J, J, J, .inl ⟨J, (o_p (v := (I (w64 (d4 - d5)))) J ⟨J, J⟩)⟩⟩, fun _ => ⟨J, J, J, .inl ⟨J, (o_p (v := (I (w64 (p0.attrs + (w64 (d4 - d5)))))) J ⟨J, J⟩)⟩⟩, fun _ => ⟨J, J, J, .inl ⟨J, (o_p J ⟨J, J⟩)⟩⟩, fun _ => ⟨J, J, J, .inl ⟨J, (o_fa (fd := ⟨ "attrs", 3, 6, false, "", "vitrine/space", 64⟩) J J J J J ⟨J, J⟩)⟩⟩, fun _ => ⟨J, J, J, .inl ⟨J, (o_p J ⟨J, J⟩)⟩⟩, fun _ => ⟨J, J, J, .inl ⟨J, (o_p J ⟨J, J⟩)⟩⟩, fun _ => ⟨J, J, J, .inl ⟨J, (o_fa (fd := ⟨ "attrs", 3, 6, false, "", "vitrine/space", 64⟩) J J J J J ⟨J, J⟩)⟩⟩, fun _ => ⟨J, J, J, .inl ⟨J, (o_ld (b := b0) (off := 6) (v := (I p0.attrs)) J rm2 J J ⟨J, J⟩)⟩⟩, (fun h => nomatch h), (fun h => nomatch h), (fun h => nomatch h), (fun h => nomatch h), (fun h => nomatch h), (fun h => nomatch h), (fun h => nomatch h), (fun h => nomatch h), trivial⟩, J, .inr ⟨[18], J, J, ⟨J, .inl J, ?_⟩, trivial⟩⟩
  refine (o_st (b := b0) (off := 6) (vs := [(I (w64 (p0.attrs + (w64 (d4 - d5)))))]) (cs' := [(I p0.model), (O p0.alternate), (I p0.size.Rows), (I p0.size.Cols), (V s0), (I p0.cursor), (I (w64 (p0.attrs + (w64 (d4 - d5)))))]) J J rp2 J J J J J J ?_)
  refine ⟨[], [], J, J, ?_⟩
  refine ⟨⟨(fun h => nomatch h), (fun h => nomatch h), (fun h => nomatch h), (fun h => nomatch h), (fun h => nomatch h), (fun h => nomatch h), (fun h => nomatch h), (fun h => nomatch h), (fun h => nomatch h), (fun h => nomatch h), (fun h => nomatch h), (fun h => nomatch h), (fun h => nomatch h), (fun h => nomatch h), (fun h => nomatch h), (fun h => nomatch h), trivial⟩, J, J, J, ?_⟩
  refine e_seq ?_
  replace h := gsome h
  obtain ⟨hg242, h⟩ := h
  refine c_draw (n := 1) (q := [(0, 40, (F b0 0)), (1, 41, (F b0 0)), (2, 42, (F b0 4)), (3, 43, (V s0)), (4, 44, (I d2)), (5, 45, (.agg (A [(U d1.1), (O p2.Attr), (U d1.2), (U p2.High), (U p2.Color), (U p2.f_Set)]))), (6, 46, (F (SV.blk s0) (SV.off s0 + Int.toNat d2 * 6)))]) (pend := [0, 1, 2, 3, 4, 5, 6]) J J J ?_
  refine ⟨⟨fun _ => ⟨J, J, J, .inl ⟨J, (o_p J ⟨J, J⟩)⟩⟩, fun _ => ⟨J, J, J, .inl ⟨J, (o_p J ⟨J, J⟩)⟩⟩, fun _ => ⟨J, J, J, .inl ⟨J, (o_fa (fd := ⟨ "cells", 72, 4, false, "", "vitrine/space", 32⟩) J J J J J ⟨J, J⟩)⟩⟩, fun _ => ⟨J, J, J, .inl ⟨J, (o_ld (b := b0) (off := 4) (v := (V s0)) J rm2 J J ⟨J, J⟩)⟩⟩, fun _ => ⟨J, J, J, .inl ⟨J, (o_p J ⟨J, J⟩)⟩⟩, fun _ => ⟨J, J, J, .inl ⟨J, (o_ld (b := b230) (off := 0) (v := (.agg (A [(U d1.1), (O p2.Attr), (U d1.2), (U p2.High), (U p2.Color), (U p2.f_Set)]))) J rm1 J J ⟨J, J⟩)⟩⟩, fun _ => ⟨J, J, J, .inl ⟨J, (o_ix (s := s0) (n := d2) (e := en_Vapi_Cell) J J J J J J rm3 (rd_own _ _ _ _) hg242 ⟨J, J⟩)⟩⟩, trivial⟩, J, .inr ⟨[7], J, J, ⟨J, .inl J, ?_⟩, trivial⟩⟩
  refine (o_stE (s := s0) (e := en_Vapi_Cell) (n := d2) (f := 0) (vs := [(U d1.1), (O p2.Attr), (U d1.2), (U p2.High), (U p2.Color), (U p2.f_Set)]) (u := { p2 with Char := d1.1, FA := d1.2 }) J J rp3 hg242 J J J J J J ?_)
  refine ⟨[], [], J, J, ?_⟩
  refine ⟨⟨(fun h => nomatch h), (fun h => nomatch h), (fun h => nomatch h), (fun h => nomatch h), (fun h => nomatch h), (fun h => nomatch h), (fun h => nomatch h), trivial⟩, J, J, J, ?_⟩
  refine e_fall ?_
  refine r_endt J J (kc rm0 (kc rm1 (kc rm1 (kd kr)))) ?_
  obtain rfl := si h
  exact hk

theorem c_space_Space_Place {g : Gw} (X : HP) (p0 : Vspace_Space) (b0 : Nat) (s0 : SV) (p1 : Int) (r : Vspace_Space) (h : m_space_Space_Place p0 p1 = some r) : Tri env g 43 (A [(F b0 0), (I p1)]) [X, blk b0 (.cells (A [(I p0.model), (O p0.alternate), (I p0.size.Rows), (I p0.size.Cols), (V s0), (I p0.cursor), (I p0.attrs)]) 122 (0, 0)), slO s0 26 en_Vapi_Cell p0.cells] (fun K R => K (.tuple (A [])) (X :: blk b0 (.cells (A [(I r.model), (O r.alternate), (I r.size.Rows), (I r.size.Cols), (V s0), (I r.cursor), (I r.attrs)]) 122 (0, 0)) :: slO s0 26 en_Vapi_Cell r.cells :: R)) := by
 refine tri_of (fn := Tryz.f43) (N := 15) Tryz.func43 J J J ?_
 intro R K hk
 unfold m_space_Space_Place at h
 change GC _ none _ [] [(0, (F b0 0)), (1, (I p1))] (X :: blk b0 (.cells (A [(I p0.model), (O p0.alternate), (I p0.size.Rows), (I p0.size.Cols), (V s0), (I p0.cursor), (I p0.attrs)]) 122 (0, 0)) :: slO s0 26 en_Vapi_Cell p0.cells :: R) g _ _
 refine cr (op J J ?_)
 refine o1 J (o_p (v := (O true)) J ?_)
 refine oe ?_
 refine c_cond_t J J ?_
 refine c_region (op J J (op J J (op J J ?_)))
 refine o1 J (o_fa (fd := ⟨ "size", 120, 2, false, "", "vitrine/space", 16⟩) J J J J J ?_)
 refine o1 J (o_ld (b := b0) (off := 2) (v := (.agg (A [(I p0.size.Rows), (I p0.size.Cols)]))) J rm1 J J ?_)
 refine op J J ?_
 replace h := bsome h
 obtain ⟨d1, h1, h⟩ := h
 refine o1 J (o_call has53 J (c_addr_Size_Wrap X p0.size p1 _ h1) (pc rm0 pn) ?_)
 refine op J J ?_
 refine o1 J (o_fa (fd := ⟨ "cursor", 3, 5, false, "", "vitrine/space", 56⟩) J J J J J ?_)
 refine o0 (o_st (b := b0) (off := 5) (vs := [(I d1)]) (cs' := [(I p0.model), (O p0.alternate), (I p0.size.Rows), (I p0.size.Cols), (V s0), (I d1), (I p0.attrs)]) J J rp1 J J J J J J ?_)
 refine o_end (e_fall ?_)
 refine r_endt J J (kc rm0 (kc rm0 (kc rm0 kr))) ?_
 obtain rfl := si h
 exact hk

theorem c_keys_New {g : Gw} (X : HP) (p0 : Vspace_Space) (b0 : Nat) (s0 : SV) (p1 : Vpage_Page) (b1 : Nat) (r : Vkeys_Board × Int) (h : m_keys_New p0 p1 = some r) : Tri env g 44 (A [(F b0 0), (F b1 0)]) [X, blk b0 (.cells (A [(I p0.model), (O p0.alternate), (I p0.size.Rows), (I p0.size.Cols), (V s0), (I p0.cursor), (I p0.attrs)]) 122 (0, 0)), slO s0 26 en_Vapi_Cell p0.cells, pgO b1 p1.number] (fun K R => ∀ (i0 : Nat), K (.tuple (A [(F i0 0), (I r.2)])) (X :: blk b0 (.cells (A [(I p0.model), (O p0.alternate), (I p0.size.Rows), (I p0.size.Cols), (V s0), (I p0.cursor), (I p0.attrs)]) 122 (0, 0)) :: slO s0 26 en_Vapi_Cell p0.cells :: pgO b1 p1.number :: blk i0 (.cells (A [(F b0 0), (F b1 0), (I r.1.lock), (O r.1.inserts), (U r.1.aid)]) 115 (0, 0)) :: R)) := by
 refine tri_of (fn := Tryz.f44) (N := 16) Tryz.func44 J J J ?_
 intro R K hk
 unfold m_keys_New at h
 change GC _ none _ [] [(0, (F b0 0)), (1, (F b1 0))] (X :: blk b0 (.cells (A [(I p0.model), (O p0.alternate), (I p0.size.Rows), (I p0.size.Cols), (V s0), (I p0.cursor), (I p0.attrs)]) 122 (0, 0)) :: slO s0 26 en_Vapi_Cell p0.cells :: pgO b1 p1.number :: R) g _ _
 refine cr (op J J (op J J (oe ?_)))
 refine c_seq (cr (op J J ?_))
 refine o1 J (o_p (v := (O false)) J ?_)
 refine op J J ?_
 refine oy J J J J (o_p J ?_)
 refine oy J J J J (o_p (v := (O false)) J ?_)
 refine o1 J (o_pick_f J J J ?_)
 refine oe ?_
 refine c_cond_f J J ?_
 refine c_skip (e_seq (cr (op J J (op J J ?_))))
 refine o1 J (o_build (fs := [⟨ "s", 31, 0, false, "", "vitrine/keys", 0⟩, ⟨ "p", 35, 1, false, "", "vitrine/keys", 8⟩, ⟨ "lock", 3, 2, false, "", "vitrine/keys", 16⟩, ⟨ "inserts", 4, 3, false, "", "vitrine/keys", 24⟩, ⟨ "aid", 5, 4, false, "", "vitrine/keys", 25⟩]) (ps := [(0, 1), (1, 1), (2, 1), (3, 1), (4, 1)]) (cs := [(F b0 0), (F b1 0), (I 0), (O false), (U 96)]) J J J J J ?_)
 refine o1 J (o_box (cs := [(F b0 0), (F b1 0), (I 0), (O false), (U 96)]) J J (fun b266 => ?_))
 refine op J J (op J J (oe (c_ret (e_ret ?_))))
 refine r_endt J J (kc rm1 (kc rm1 (kc rm1 (kc rm1 (kc rm0 kr))))) ?_
 obtain rfl := si h
 exact hk b266

theorem c_vitrineref18_New {g : Gw} (X : HP) (p0 : Vvitrineref12_Space) (b0 : Nat) (s0 : SV) (p1 : Int) (r : Vvitrineref18_Board) (h : m_vitrineref18_New p0 p1 = some r) : Tri env g 45 (A [(F b0 0), (I p1)]) [X, blk b0 (.cells (A [(I p0.Model), (O p0.Alt), (I p0.Size.Rows), (I p0.Size.Cols), (V s0), (I p0.Cursor)]) 74 (0, 0)), slO s0 26 en_Vapi_Cell p0.L] (fun K R => ∀ (i0 : Nat), K (F i0 0) (X :: blk b0 (.cells (A [(I p0.Model), (O p0.Alt), (I p0.Size.Rows), (I p0.Size.Cols), (V s0), (I p0.Cursor)]) 74 (0, 0)) :: slO s0 26 en_Vapi_Cell p0.L :: blk i0 (.cells (A [(F b0 0), (I r.Page), (I r.Lock), (O r.Ins), (U r.AID)]) 41 (0, 0)) :: R)) := by
 refine tri_of (fn := Tryz.f45) (N := 9) Tryz.func45 J J J ?_
 intro R K hk
 unfold m_vitrineref18_New at h
 change GC _ none _ [] [(0, (F b0 0)), (1, (I p1))] (X :: blk b0 (.cells (A [(I p0.Model), (O p0.Alt), (I p0.Size.Rows), (I p0.Size.Cols), (V s0), (I p0.Cursor)]) 74 (0, 0)) :: slO s0 26 en_Vapi_Cell p0.L :: R) g _ _
 refine cr (op J J (oe (c_seq ?_)))
 refine c_region (op J J (op J J ?_))
 refine o1 J (o_build (fs := [⟨ "S", 39, 0, false, "", "", 0⟩, ⟨ "Page", 3, 1, false, "", "", 8⟩, ⟨ "Lock", 3, 2, false, "", "", 16⟩, ⟨ "Ins", 4, 3, false, "", "", 24⟩, ⟨ "AID", 5, 4, false, "", "", 25⟩]) (ps := [(0, 1), (1, 1), (2, 1), (3, 1), (4, 1)]) (cs := [(F b0 0), (I p1), (I 0), (O false), (U 96)]) J J J J J ?_)
 refine o1 J (o_box (cs := [(F b0 0), (I p1), (I 0), (O false), (U 96)]) J J (fun b270 => ?_))
 refine op J J (oe (c_ret (e_ret ?_)))
 refine r_endt J J (kc rm1 (kc rm1 (kc rm1 (kc rm0 kr)))) ?_
 obtain rfl := si h
 exact hk b270

theorem c_vitrinelaw18_lay {g : Gw} (X : HP) (p0 : Int) (p1 : Int) (p2 : List Vvitrineref12_Act) (s0 : SV) (q0r : RdN X s0 28 en_Vvitrineref12_Act D_Vvitrineref12_Act p2) (r : Vkeys_Board × Vspace_Space × Vpage_Page × Vvitrineref18_Board × Vvitrineref12_Space) (h : m_vitrinelaw18_lay p0 p1 p2 = some r) : Tri env g 10 (A [(U p0), (U p1), (V s0)]) [X] (fun K R => ∀ (i0 : Nat × Nat × SV × Nat × Nat × Nat × SV), K (.tuple (A [(F i0.1 0), (F i0.2.1 0), (F i0.2.2.2.2.1 0)])) (X :: blk i0.1 (.cells (A [(F i0.2.1 0), (F i0.2.2.2.1 0), (I r.1.lock), (O r.1.inserts), (U r.1.aid)]) 115 (0, 0)) :: blk i0.2.1 (.cells (A [(I r.2.1.model), (O r.2.1.alternate), (I r.2.1.size.Rows), (I r.2.1.size.Cols), (V i0.2.2.1), (I r.2.1.cursor), (I r.2.1.attrs)]) 122 (0, 0)) :: slO i0.2.2.1 26 en_Vapi_Cell r.2.1.cells :: pgO i0.2.2.2.1 r.2.2.1.number :: blk i0.2.2.2.2.1 (.cells (A [(F i0.2.2.2.2.2.1 0), (I r.2.2.2.1.Page), (I r.2.2.2.1.Lock), (O r.2.2.2.1.Ins), (U r.2.2.2.1.AID)]) 41 (0, 0)) :: blk i0.2.2.2.2.2.1 (.cells (A [(I r.2.2.2.2.Model), (O r.2.2.2.2.Alt), (I r.2.2.2.2.Size.Rows), (I r.2.2.2.2.Size.Cols), (V i0.2.2.2.2.2.2), (I r.2.2.2.2.Cursor)]) 74 (0, 0)) :: slO i0.2.2.2.2.2.2 26 en_Vapi_Cell r.2.2.2.2.L :: R)) := by
 refine tri_of (fn := Tryz.f10) (N := 97) Tryz.func10 J J J ?_
 intro R K hk
 obtain ⟨L_q0, q0, n_q0⟩ := q0r
 unfold m_vitrinelaw18_lay at h
 change GC _ none _ [] [(0, (U p0)), (1, (U p1)), (2, (V s0))] (X :: R) g _ _
 refine cr (op J J (op J J (op J J (o_end ?_))))
 refine e_seq (c_seq ?_)
 refine c_draw (n := 1) (q := [(0, 22, (U p0)), (1, 23, (U (Int.tmod p0 4))), (2, 24, (I (w64 (Int.tmod p0 4)))), (3, 25, (I (w64 (2 + (w64 (Int.tmod p0 4)))))), (5, 27, (U p1)), (6, 28, (U (Int.tmod p1 6)))]) (pend := [0, 1, 2, 3, 5, 6]) J J J ?_
 replace h := bsome h
 obtain ⟨d2, h2, h⟩ := h
 refine ⟨⟨fun _ => ⟨rfl, rfl, rfl, .inl ⟨rfl, (o_p rfl ⟨rfl, rfl⟩)⟩⟩, fun _ => ⟨rfl, rfl, rfl, .inl ⟨rfl, (o_rem (m := p0) (n := 4) rfl rfl (by decide) ⟨rfl, rfl⟩)⟩⟩, fun _ => ⟨rfl, rfl, rfl, .inl ⟨rfl, (o_p (v := (I (w64 (Int.tmod p0 4)))) rfl ⟨rfl, rfl⟩)⟩⟩, fun _ => ⟨rfl, rfl, rfl, .inl ⟨rfl, (o_p (v := (I (w64 (2 + (w64 (Int.tmod p0 4)))))) rfl ⟨rfl, rfl⟩)⟩⟩, fun _ => ⟨rfl, rfl, rfl, .inl ⟨rfl, (o_p rfl ⟨rfl, rfl⟩)⟩⟩, fun _ => ⟨rfl, rfl, rfl, .inl ⟨rfl, (o_rem (m := p1) (n := 6) rfl rfl (by decide) ⟨rfl, rfl⟩)⟩⟩, trivial⟩, rfl, .inr ⟨[4], rfl, rfl, ⟨rfl, .inl rfl, ?_⟩, trivial⟩⟩
 refine (o_call has38 J (c_vitrinelaw18_pages X _ h2) (pc rm0 pn) (fun i2 => ?_))
 replace h := gsome h
 obtain ⟨hg47, h⟩ := h
 refine ⟨[(7, 29, (F (SV.blk i2) (SV.off i2 + Int.toNat (Int.tmod p1 6) * 1))), (8, 30, (I (rd d2 (Int.tmod p1 6)))), (9, 9, (I (w64 (2 + (w64 (Int.tmod p0 4)))))), (10, 10, (I (rd d2 (Int.tmod p1 6))))], [0, 1, 2, 3, 5, 6, 7, 8, 9, 10], J, J, J, J, ?_⟩
 refine ⟨⟨fun _ => ⟨rfl, rfl, rfl, .inl ⟨rfl, (o_ix (s := i2) (n := Int.tmod p1 6) (e := (enI .i64)) rfl rfl rfl rfl rfl rfl rm1 (rd_own _ _ _ _) hg47 ⟨rfl, rfl⟩)⟩⟩, fun _ => ⟨rfl, rfl, rfl, .inl ⟨rfl, (o_ldE (s := i2) (e := (enI .i64)) (n := Int.tmod p1 6) (f := 0) (v := (I (rd d2 (Int.tmod p1 6)))) rfl rm1 (rd_own _ _ _ _) hg47 rfl rfl ⟨rfl, rfl⟩)⟩⟩, fun _ => ⟨rfl, rfl, rfl, .inl ⟨rfl, (o_p rfl ⟨rfl, rfl⟩)⟩⟩, fun _ => ⟨rfl, rfl, rfl, .inl ⟨rfl, (o_p rfl ⟨rfl, rfl⟩)⟩⟩, fun _ => ⟨rfl, rfl, rfl, .inl ⟨rfl, (o_p rfl ⟨rfl, rfl⟩)⟩⟩, fun _ => ⟨rfl, rfl, rfl, .inl ⟨rfl, (o_rem (m := p0) (n := 4) rfl rfl (by decide) ⟨rfl, rfl⟩)⟩⟩, fun _ => ⟨rfl, rfl, rfl, .inl ⟨rfl, (o_p (v := (I (w64 (Int.tmod p0 4)))) rfl ⟨rfl, rfl⟩)⟩⟩, fun _ => ⟨rfl, rfl, rfl, .inl ⟨rfl, (o_p (v := (I (w64 (2 + (w64 (Int.tmod p0 4)))))) rfl ⟨rfl, rfl⟩)⟩⟩, fun _ => ⟨rfl, rfl, rfl, .inl ⟨rfl, (o_p rfl ⟨rfl, rfl⟩)⟩⟩, fun _ => ⟨rfl, rfl, rfl, .inl ⟨rfl, (o_rem (m := p1) (n := 6) rfl rfl (by decide) ⟨rfl, rfl⟩)⟩⟩, trivial⟩, rfl, rfl, rfl, ?_⟩
 refine e_seq (cr (op J J ?_))
 replace h := bsome h
 obtain ⟨d4, h4, h⟩ := h
 rcases d4 with d4 | d4
 ·cases h
 ·refine o1 J (o_call has39 J (c_space_New X (w64 (2 + (w64 (Int.tmod p0 4)))) _ h4) (pc rm0 pn) (fun i4 => ?_))
  refine op J J (op J J (op J J (op J J (op J J (o_end ?_)))))
  refine e_seq (cr (op J J ?_))
  replace h := bsome h
  obtain ⟨d6, h6, h⟩ := h
  rcases d6 with d6 | d6
  ·cases h
  ·refine o1 J (o_call has11 J (c_page_New X (rd d2 (Int.tmod p1 6)) _ h6) (pc rm0 pn) (fun i6 => ?_))
   refine op J J (op J J (op J J (op J J (op J J (o_end ?_)))))
   refine e_seq (cr (op J J ?_))
   replace h := bsome h
   obtain ⟨d8, h8, h⟩ := h
   rcases d8 with d8 | d8
   ·cases h
   ·refine o1 J (o_call has26 J (c_vitrineref12_New X (w64 (2 + (w64 (Int.tmod p0 4)))) _ h8) (pc rm0 pn) (fun i8 => ?_))
    refine op J J (oe (c_seq (cr ?_)))
    refine op J J ?_
    refine o1 J (o_lenN (s := s0) J J J rm0 q0 n_q0 ?_)
    refine op J J (oe ?_)
    replace h := bsome h
    obtain ⟨d9, h, hk9⟩ := h
    refine cj (D := Unit) (ι := SV) (fun _ i9 => True) (fun _ i9 => [(15, (F i8.1 0)), (13, (F i6 0)), (11, (F i4.1 0)), (10, (I (rd d2 (Int.tmod p1 6))))]) (fun _ i9 => X :: blk i8.1 (.cells (A [(I d9.1), (O d9.2.1), (I d9.2.2.1), (I d9.2.2.2.1), (V i9), (I d9.2.2.2.2.2.1)]) 74 (0, 0)) :: pgO i6 d9.2.2.2.2.2.2.1 :: blk i4.1 (.cells (A [(I d9.2.2.2.2.2.2.2.1), (O d9.2.2.2.2.2.2.2.2.1), (I d9.2.2.2.2.2.2.2.2.2.1), (I d9.2.2.2.2.2.2.2.2.2.2.1), (V i4.2), (I d9.2.2.2.2.2.2.2.2.2.2.2.2.1), (I d9.2.2.2.2.2.2.2.2.2.2.2.2.2)]) 122 (0, 0)) :: slO i9 26 en_Vapi_Cell d9.2.2.2.2.1 :: slO i4.2 26 en_Vapi_Cell d9.2.2.2.2.2.2.2.2.2.2.2.1 :: R) ?_ ?_
    ·refine c_block ?_
     refine c_loop (l_sub (sc J (sc J (sc J (sc J (sc J (sc J (sc J sn))))))) (l_keep (kc rm0 (kc rm0 (kc rm1 (kc rm1 (kc rm0 (kc rm0 (kd kr))))))) (lf (X := Int × Int × Bool × Int × Int × (List Vapi_Cell) × Int × Int × Int × Bool × Int × Int × (List Vapi_Cell) × Int × Int) (ι := SV) (fun k x => vitrinelaw18_lay_l10 p2 k x) _ (fun x10 i10 => True) (fun x10 i10 => [(45, (I x10.1)), (44, (I (p2.length : Int))), (43, (V s0)), (15, (F i8.1 0)), (13, (F i6 0)), (11, (F i4.1 0)), (10, (I (rd d2 (Int.tmod p1 6))))]) (fun x10 i10 => X :: blk i8.1 (.cells (A [(I x10.2.1), (O x10.2.2.1), (I x10.2.2.2.1), (I x10.2.2.2.2.1), (V i10), (I x10.2.2.2.2.2.2.1)]) 74 (0, 0)) :: pgO i6 x10.2.2.2.2.2.2.2.1 :: blk i4.1 (.cells (A [(I x10.2.2.2.2.2.2.2.2.1), (O x10.2.2.2.2.2.2.2.2.2.1), (I x10.2.2.2.2.2.2.2.2.2.2.1), (I x10.2.2.2.2.2.2.2.2.2.2.2.1), (V i4.2), (I x10.2.2.2.2.2.2.2.2.2.2.2.2.2.1), (I x10.2.2.2.2.2.2.2.2.2.2.2.2.2.2)]) 122 (0, 0)) :: slO i10 26 en_Vapi_Cell x10.2.2.2.2.2.1 :: slO i4.2 26 en_Vapi_Cell x10.2.2.2.2.2.2.2.2.2.2.2.2.1 :: R) (fun _ => J) ?_ fuel (0, d8.Model, d8.Alt, d8.Size.Rows, d8.Size.Cols, d8.L, d8.Cursor, d6.1.number, d4.1.model, d4.1.alternate, d4.1.size.Rows, d4.1.size.Cols, d4.1.cells, d4.1.cursor, d4.1.attrs) i8.2 trivial h)))
     clear h
     rintro k10 ih10 x10 i10 _ h
     rw [vitrinelaw18_lay_l10.eq_2] at h
     refine l_round (cr ?_)
     refine o1 J (o_p (v := (O (decide (x10.1 < (p2.length : Int))))) J ?_)
     refine oe (c_seq ?_)
     refine c_cond (b := (decide (x10.1 < (p2.length : Int)))) J (fun hb204 => ?_) (fun hb204 => ?_)
     ·replace h := cond_t hb204 h
      refine c_skip (e_seq (c_seq (c_block (cr ?_))))
      refine op J J ?_
      replace h := gsome h
      obtain ⟨hg205, h⟩ := h
      refine o1 J (o_ix (s := s0) (n := x10.1) (e := en_Vvitrineref12_Act) J J J J J J rm0 q0 (NL.lt n_q0 hg205) ?_)
      obtain ⟨sv206, he_sv206, hd_sv206⟩ := NL.rd n_q0 hg205
      have hr207 : Rd X sv206 5 (enI .u8) ((rd p2 x10.1).Text) := hd_sv206
      refine o1 rfl (o_ldE (s := s0) (e := en_Vvitrineref12_Act) (n := x10.1) (f := 0) (v := (.agg (A [(U ((rd p2 x10.1).Do)), (I ((rd p2 x10.1).N)), (O ((rd p2 x10.1).On)), (U ((rd p2 x10.1).Code)), (U (((rd p2 x10.1).C).Char)), (O (((rd p2 x10.1).C).Attr)), (U (((rd p2 x10.1).C).FA)), (U (((rd p2 x10.1).C).High)), (U (((rd p2 x10.1).C).Color)), (U (((rd p2 x10.1).C).f_Set)), (V sv206)]))) rfl rm0 q0 (NL.lt n_q0 hg205) rfl (by rw [he_sv206]; rfl) ?_)
      refine o1 J (o_alloc (cs := [(U 0), (I 0), (O false), (U 0), (U 0), (O false), (U 0), (U 0), (U 0), (U 0), (V SV.nil)]) J J (fun b208 => ?_))
      refine op J J ?_
      refine o0 (o_st (b := b208) (off := 0) (vs := [(U ((rd p2 x10.1).Do)), (I ((rd p2 x10.1).N)), (O ((rd p2 x10.1).On)), (U ((rd p2 x10.1).Code)), (U (((rd p2 x10.1).C).Char)), (O (((rd p2 x10.1).C).Attr)), (U (((rd p2 x10.1).C).FA)), (U (((rd p2 x10.1).C).High)), (U (((rd p2 x10.1).C).Color)), (U (((rd p2 x10.1).C).f_Set)), (V sv206)]) (cs' := [(U ((rd p2 x10.1).Do)), (I ((rd p2 x10.1).N)), (O ((rd p2 x10.1).On)), (U ((rd p2 x10.1).Code)), (U (((rd p2 x10.1).C).Char)), (O (((rd p2 x10.1).C).Attr)), (U (((rd p2 x10.1).C).FA)), (U (((rd p2 x10.1).C).High)), (U (((rd p2 x10.1).C).Color)), (U (((rd p2 x10.1).C).f_Set)), (V sv206)]) J J rp0 J J J J J J ?_)
      refine oe (cr (op J J ?_))
      refine o1 J (o_p (v := (O (decide (x10.1 < 30)))) J ?_)
      refine oe ?_
      replace h := bsome h
      obtain ⟨d13, h, hk13⟩ := h
      refine cj (D := Unit) (ι := SV) (fun _ i13 => True) (fun _ i13 => [(45, (I x10.1)), (44, (I (p2.length : Int))), (43, (V s0)), (15, (F i8.1 0)), (13, (F i6 0)), (11, (F i4.1 0)), (10, (I (rd d2 (Int.tmod p1 6))))]) (fun _ i13 => X :: blk i8.1 (.cells (A [(I d13.1), (O d13.2.1), (I d13.2.2.1), (I d13.2.2.2.1), (V i13), (I d13.2.2.2.2.2)]) 74 (0, 0)) :: pgO i6 x10.2.2.2.2.2.2.2.1 :: blk i4.1 (.cells (A [(I x10.2.2.2.2.2.2.2.2.1), (O x10.2.2.2.2.2.2.2.2.2.1), (I x10.2.2.2.2.2.2.2.2.2.2.1), (I x10.2.2.2.2.2.2.2.2.2.2.2.1), (V i4.2), (I x10.2.2.2.2.2.2.2.2.2.2.2.2.2.1), (I x10.2.2.2.2.2.2.2.2.2.2.2.2.2.2)]) 122 (0, 0)) :: slO i13 26 en_Vapi_Cell d13.2.2.2.2.1 :: slO i4.2 26 en_Vapi_Cell x10.2.2.2.2.2.2.2.2.2.2.2.2.1 :: R) ?_ ?_
      ·refine c_cond (b := (decide (x10.1 < 30))) J (fun hb210 => ?_) (fun hb210 => ?_)
       ·replace h := cond_t hb210 h
        refine c_region (op J J ?_)
        refine o1 J (o_ld (b := b208) (off := 0) (v := (.agg (A [(U ((rd p2 x10.1).Do)), (I ((rd p2 x10.1).N)), (O ((rd p2 x10.1).On)), (U ((rd p2 x10.1).Code)), (U (((rd p2 x10.1).C).Char)), (O (((rd p2 x10.1).C).Attr)), (U (((rd p2 x10.1).C).FA)), (U (((rd p2 x10.1).C).High)), (U (((rd p2 x10.1).C).Color)), (U (((rd p2 x10.1).C).f_Set)), (V sv206)]))) J rm0 J J ?_)
        replace h := bsome h
        obtain ⟨d14, h14, h⟩ := h
        refine o1 J (o_call has40 J (c_vitrineref12_Do X (⟨x10.2.1, x10.2.2.1, (⟨x10.2.2.2.1, x10.2.2.2.2.1⟩ : Vvitrineref04_Size), x10.2.2.2.2.2.1, x10.2.2.2.2.2.2.1⟩ : Vvitrineref12_Space) i8.1 i10 { (rd p2 x10.1) with C := ((rd p2 x10.1).C) } sv206 hr207 _ h14) (pc rm1 (pc rm1 (pc rm3 pn))) (fun i14 => ?_))
        refine o_end ?_
        obtain rfl := si h
        exact ej () i14 trivial (sc J (sc J (sc J (sc J (sc J (sc J (sc J sn))))))) (kc rm0 (kc rm0 (kc rm2 (kc rm2 (kc rm0 (kc rm1 (kd kr)))))))
       ·replace h := cond_f hb210 h
        refine c_skip ?_
        obtain rfl := si h
        exact ej () i10 trivial (sc J (sc J (sc J (sc J (sc J (sc J (sc J sn))))))) (kc rm1 (kc rm1 (kc rm1 (kc rm1 (kc rm1 (kc rm1 (kd kr)))))))
      ·rintro _ i13 _
       replace h := hk13
       clear hk13
       refine e_blk (e_seq (c_region ?_))
       refine o1 J (o_p (v := (I (w64 (x10.1 + 1)))) J ?_)
       refine op J J (o_end ?_)
       exact e_loop (l_sub (sc J (sc J (sc J (sc J (sc J (sc J (sc J sn))))))) (l_keep (kc rm0 (kc rm0 (kc rm0 (kc rm0 (kc rm0 (kc rm0 kr)))))) (ih10 (w64 (x10.1 + 1), d13.1, d13.2.1, d13.2.2.1, d13.2.2.2.1, d13.2.2.2.2.1, d13.2.2.2.2.2, x10.2.2.2.2.2.2.2.1, x10.2.2.2.2.2.2.2.2.1, x10.2.2.2.2.2.2.2.2.2.1, x10.2.2.2.2.2.2.2.2.2.2.1, x10.2.2.2.2.2.2.2.2.2.2.2.1, x10.2.2.2.2.2.2.2.2.2.2.2.2.1, x10.2.2.2.2.2.2.2.2.2.2.2.2.2.1, x10.2.2.2.2.2.2.2.2.2.2.2.2.2.2) i13 trivial h)))
     ·replace h := cond_f hb204 h
      refine c_exit (e_then_exit (e_then_exit (e_blk_exit ?_)))
      obtain rfl := si h
      exact ej () i10 trivial (sc J (sc J (sc J (sc J sn)))) (kc rm0 (kc rm0 (kc rm0 (kc rm0 (kc rm0 (kc rm0 kr))))))
    ·rintro _ i9 _
     replace h := hk9
     clear hk9
     refine e_seq (c_seq (cr (op J J (op J J ?_))))
     refine o1 J (o_fa (fd := ⟨ "Alt", 4, 1, false, "", "", 8⟩) J J J J J ?_)
     refine o1 J (o_ld (b := i8.1) (off := 1) (v := (O d9.2.1)) J rm1 J J ?_)
     refine oe ?_
     replace h := bsome h
     obtain ⟨d15, h, hk15⟩ := h
     refine cj (D := Unit) (ι := SV) (fun _ i15 => True) (fun _ i15 => [(15, (F i8.1 0)), (13, (F i6 0)), (11, (F i4.1 0)), (10, (I (rd d2 (Int.tmod p1 6))))]) (fun _ i15 => X :: blk i8.1 (.cells (A [(I d9.1), (O d9.2.1), (I d9.2.2.1), (I d9.2.2.2.1), (V i9), (I d9.2.2.2.2.2.1)]) 74 (0, 0)) :: pgO i6 d9.2.2.2.2.2.2.1 :: blk i4.1 (.cells (A [(I d15.1), (O d15.2.1), (I d15.2.2.1), (I d15.2.2.2.1), (V i15), (I d15.2.2.2.2.2.1), (I d15.2.2.2.2.2.2)]) 122 (0, 0)) :: slO i9 26 en_Vapi_Cell d9.2.2.2.2.1 :: slO i15 26 en_Vapi_Cell d15.2.2.2.2.1 :: R) ?_ ?_
     ·refine c_cond (b := d9.2.1) J (fun hb217 => ?_) (fun hb217 => ?_)
      ·replace h := cond_t hb217 h
       refine c_region (op J J ?_)
       replace h := bsome h
       obtain ⟨d16, h16, h⟩ := h
       refine o1 J (o_call has41 J (c_space_Space_Clear_2 X (⟨d9.2.2.2.2.2.2.2.1, d9.2.2.2.2.2.2.2.2.1, (⟨d9.2.2.2.2.2.2.2.2.2.1, d9.2.2.2.2.2.2.2.2.2.2.1⟩ : Vaddr_Size), d9.2.2.2.2.2.2.2.2.2.2.2.1, d9.2.2.2.2.2.2.2.2.2.2.2.2.1, d9.2.2.2.2.2.2.2.2.2.2.2.2.2⟩ : Vspace_Space) i4.1 i4.2 true _ h16) (pc rm0 (pc rm2 (pc rm3 pn))) (fun i16 => ?_))
       refine o_end ?_
       obtain rfl := si h
       exact ej () i16 trivial (sc J (sc J (sc J (sc J sn)))) (kc rm0 (kc rm3 (kc rm3 (kc rm0 (kc rm2 (kc rm0 (kd kr)))))))
      ·replace h := cond_f hb217 h
       refine c_skip ?_
       obtain rfl := si h
       exact ej () i4.2 trivial (sc J (sc J (sc J (sc J sn)))) (kc rm0 (kc rm0 (kc rm0 (kc rm0 (kc rm0 (kc rm0 kr))))))
     ·rintro _ i15 _
      replace h := hk15
      clear hk15
      refine e_seq (c_seq (cr (op J J (op J J ?_))))
      refine o1 J (o_fa (fd := ⟨ "L", 72, 4, false, "", "", 32⟩) J J J J J ?_)
      refine o1 J (o_ld (b := i8.1) (off := 4) (v := (V i9)) J rm1 J J ?_)
      refine o1 J (o_len (s := i9) J J J rm4 (rd_own _ _ _ _) ?_)
      refine op J J (oe ?_)
      replace h := bsome h
      obtain ⟨d17, h, hk17⟩ := h
      refine cj (D := Unit) (ι := Unit) (fun _ i17 => True) (fun _ i17 => [(15, (F i8.1 0)), (13, (F i6 0)), (11, (F i4.1 0)), (10, (I (rd d2 (Int.tmod p1 6))))]) (fun _ i17 => X :: blk i8.1 (.cells (A [(I d9.1), (O d9.2.1), (I d9.2.2.1), (I d9.2.2.2.1), (V i9), (I d9.2.2.2.2.2.1)]) 74 (0, 0)) :: pgO i6 d9.2.2.2.2.2.2.1 :: blk i4.1 (.cells (A [(I d17.1), (O d17.2.1), (I d17.2.2.1), (I d17.2.2.2.1), (V i15), (I d17.2.2.2.2.2.1), (I d17.2.2.2.2.2.2)]) 122 (0, 0)) :: slO i9 26 en_Vapi_Cell d9.2.2.2.2.1 :: slO i15 26 en_Vapi_Cell d17.2.2.2.2.1 :: R) ?_ ?_
      ·refine c_block ?_
       refine c_loop (l_sub (sc J (sc J (sc J (sc J (sc J (sc J (sc J sn))))))) (l_keep (kc rm0 (kc rm3 (kc rm0 (kc rm0 (kc rm0 (kc rm0 kr)))))) (lf (X := Int × Int × Bool × Int × Int × (List Vapi_Cell) × Int × Int) (ι := Unit) (fun k x => vitrinelaw18_lay_l18 d9 k x) _ (fun x18 i18 => True) (fun x18 i18 => [(67, (I x18.1)), (66, (I (d9.2.2.2.2.1.length : Int))), (65, (V i9)), (15, (F i8.1 0)), (13, (F i6 0)), (11, (F i4.1 0)), (10, (I (rd d2 (Int.tmod p1 6))))]) (fun x18 i18 => X :: slO i9 26 en_Vapi_Cell d9.2.2.2.2.1 :: blk i8.1 (.cells (A [(I d9.1), (O d9.2.1), (I d9.2.2.1), (I d9.2.2.2.1), (V i9), (I d9.2.2.2.2.2.1)]) 74 (0, 0)) :: pgO i6 d9.2.2.2.2.2.2.1 :: blk i4.1 (.cells (A [(I x18.2.1), (O x18.2.2.1), (I x18.2.2.2.1), (I x18.2.2.2.2.1), (V i15), (I x18.2.2.2.2.2.2.1), (I x18.2.2.2.2.2.2.2)]) 122 (0, 0)) :: slO i15 26 en_Vapi_Cell x18.2.2.2.2.2.1 :: R) (fun _ => J) ?_ fuel (0, d15.1, d15.2.1, d15.2.2.1, d15.2.2.2.1, d15.2.2.2.2.1, d15.2.2.2.2.2.1, d15.2.2.2.2.2.2) () trivial h)))
       clear h
       rintro k18 ih18 x18 i18 _ h
       rw [vitrinelaw18_lay_l18.eq_2] at h
       refine l_round (cr ?_)
       refine o1 J (o_p (v := (O (decide (x18.1 < (d9.2.2.2.2.1.length : Int))))) J ?_)
       refine oe (c_seq ?_)
       refine c_cond (b := (decide (x18.1 < (d9.2.2.2.2.1.length : Int)))) J (fun hb255 => ?_) (fun hb255 => ?_)
       ·replace h := cond_t hb255 h
        refine c_skip (e_seq (c_seq (c_block (cr ?_))))
        refine op J J ?_
        replace h := gsome h
        obtain ⟨hg256, h⟩ := h
        refine o1 J (o_ix (s := i9) (n := x18.1) (e := en_Vapi_Cell) J J J J J J rm1 (rd_own _ _ _ _) hg256 ?_)
        refine o1 J (o_ldE (s := i9) (e := en_Vapi_Cell) (n := x18.1) (f := 0) (v := (.agg (A [(U ((rd d9.2.2.2.2.1 x18.1).Char)), (O ((rd d9.2.2.2.2.1 x18.1).Attr)), (U ((rd d9.2.2.2.2.1 x18.1).FA)), (U ((rd d9.2.2.2.2.1 x18.1).High)), (U ((rd d9.2.2.2.2.1 x18.1).Color)), (U ((rd d9.2.2.2.2.1 x18.1).f_Set))]))) J rm1 (rd_own _ _ _ _) hg256 J J ?_)
        refine o1 J (o_alloc (cs := [(U 0), (O false), (U 0), (U 0), (U 0), (U 0)]) J J (fun b257 => ?_))
        refine op J J ?_
        refine o0 (o_st (b := b257) (off := 0) (vs := [(U ((rd d9.2.2.2.2.1 x18.1).Char)), (O ((rd d9.2.2.2.2.1 x18.1).Attr)), (U ((rd d9.2.2.2.2.1 x18.1).FA)), (U ((rd d9.2.2.2.2.1 x18.1).High)), (U ((rd d9.2.2.2.2.1 x18.1).Color)), (U ((rd d9.2.2.2.2.1 x18.1).f_Set))]) (cs' := [(U ((rd d9.2.2.2.2.1 x18.1).Char)), (O ((rd d9.2.2.2.2.1 x18.1).Attr)), (U ((rd d9.2.2.2.2.1 x18.1).FA)), (U ((rd d9.2.2.2.2.1 x18.1).High)), (U ((rd d9.2.2.2.2.1 x18.1).Color)), (U ((rd d9.2.2.2.2.1 x18.1).f_Set))]) J J rp0 J J J J J J ?_)
        refine oe (cr ?_)
        refine o1 J (o_ld (b := b257) (off := 0) (v := (.agg (A [(U ((rd d9.2.2.2.2.1 x18.1).Char)), (O ((rd d9.2.2.2.2.1 x18.1).Attr)), (U ((rd d9.2.2.2.2.1 x18.1).FA)), (U ((rd d9.2.2.2.2.1 x18.1).High)), (U ((rd d9.2.2.2.2.1 x18.1).Color)), (U ((rd d9.2.2.2.2.1 x18.1).f_Set))]))) J rm0 J J ?_)
        refine o1 J (o_build (fs := f_5) (ps := [(0, 1), (1, 1), (2, 1), (3, 1), (4, 1), (5, 1)]) (cs := [(U 0), (O false), (U 0), (U 0), (U 0), (U 0)]) J J J J J ?_)
        refine o1 rfl (o_neT (b := ((((rd d9.2.2.2.2.1 x18.1).Char) == 0) && ((((rd d9.2.2.2.2.1 x18.1).Attr) == false) && ((((rd d9.2.2.2.2.1 x18.1).FA) == 0) && ((((rd d9.2.2.2.2.1 x18.1).High) == 0) && ((((rd d9.2.2.2.2.1 x18.1).Color) == 0) && ((((rd d9.2.2.2.2.1 x18.1).f_Set) == 0) && true))))))) (xs := [(U ((rd d9.2.2.2.2.1 x18.1).Char)), (O ((rd d9.2.2.2.2.1 x18.1).Attr)), (U ((rd d9.2.2.2.2.1 x18.1).FA)), (U ((rd d9.2.2.2.2.1 x18.1).High)), (U ((rd d9.2.2.2.2.1 x18.1).Color)), (U ((rd d9.2.2.2.2.1 x18.1).f_Set))]) (ys := [(U 0), (O false), (U 0), (U 0), (U 0), (U 0)]) rfl rfl (by kernel_rfl) stood rfl ?_)
        refine oe ?_
        replace h := bsome h
        obtain ⟨d21, h, hk21⟩ := h
        refine cj (D := Unit) (ι := Unit) (fun _ i21 => True) (fun _ i21 => [(67, (I x18.1)), (66, (I (d9.2.2.2.2.1.length : Int))), (65, (V i9)), (15, (F i8.1 0)), (13, (F i6 0)), (11, (F i4.1 0)), (10, (I (rd d2 (Int.tmod p1 6))))]) (fun _ i21 => X :: slO i9 26 en_Vapi_Cell d9.2.2.2.2.1 :: blk i8.1 (.cells (A [(I d9.1), (O d9.2.1), (I d9.2.2.1), (I d9.2.2.2.1), (V i9), (I d9.2.2.2.2.2.1)]) 74 (0, 0)) :: pgO i6 d9.2.2.2.2.2.2.1 :: blk i4.1 (.cells (A [(I d21.1), (O d21.2.1), (I d21.2.2.1), (I d21.2.2.2.1), (V i15), (I d21.2.2.2.2.2.1), (I d21.2.2.2.2.2.2)]) 122 (0, 0)) :: slO i15 26 en_Vapi_Cell d21.2.2.2.2.1 :: R) ?_ ?_
        ·refine c_cond (b := (!((((rd d9.2.2.2.2.1 x18.1).Char) == 0) && ((((rd d9.2.2.2.2.1 x18.1).Attr) == false) && ((((rd d9.2.2.2.2.1 x18.1).FA) == 0) && ((((rd d9.2.2.2.2.1 x18.1).High) == 0) && ((((rd d9.2.2.2.2.1 x18.1).Color) == 0) && ((((rd d9.2.2.2.2.1 x18.1).f_Set) == 0) && true)))))))) J (fun hb259 => ?_) (fun hb259 => ?_)
         ·replace h := cond_t hb259 h
          refine c_region (op J J (op J J ?_))
          refine o1 J (o_ld (b := b257) (off := 0) (v := (.agg (A [(U ((rd d9.2.2.2.2.1 x18.1).Char)), (O ((rd d9.2.2.2.2.1 x18.1).Attr)), (U ((rd d9.2.2.2.2.1 x18.1).FA)), (U ((rd d9.2.2.2.2.1 x18.1).High)), (U ((rd d9.2.2.2.2.1 x18.1).Color)), (U ((rd d9.2.2.2.2.1 x18.1).f_Set))]))) J rm0 J J ?_)
          replace h := bsome h
          obtain ⟨d22, h22, h⟩ := h
          refine o1 J (o_call has42 J (c_space_Space_Set X (⟨x18.2.1, x18.2.2.1, (⟨x18.2.2.2.1, x18.2.2.2.2.1⟩ : Vaddr_Size), x18.2.2.2.2.2.1, x18.2.2.2.2.2.2.1, x18.2.2.2.2.2.2.2⟩ : Vspace_Space) i4.1 i15 x18.1 (rd d9.2.2.2.2.1 x18.1) _ h22) (pc rm1 (pc rm4 (pc rm4 pn))) ?_)
          refine o_end ?_
          obtain rfl := si h
          exact ej () () trivial (sc J (sc J (sc J (sc J (sc J (sc J (sc J sn))))))) (kc rm0 (kc rm3 (kc rm3 (kc rm3 (kc rm0 (kc rm0 (kd kr)))))))
         ·replace h := cond_f hb259 h
          refine c_skip ?_
          obtain rfl := si h
          exact ej () () trivial (sc J (sc J (sc J (sc J (sc J (sc J (sc J sn))))))) (kc rm1 (kc rm1 (kc rm1 (kc rm1 (kc rm1 (kc rm1 (kd kr)))))))
        ·rintro _ i21 _
         replace h := hk21
         clear hk21
         refine e_blk (e_seq (c_region ?_))
         refine o1 J (o_p (v := (I (w64 (x18.1 + 1)))) J ?_)
         refine op J J (o_end ?_)
         exact e_loop (l_sub (sc J (sc J (sc J (sc J (sc J (sc J (sc J sn))))))) (l_keep (kc rm0 (kc rm0 (kc rm0 (kc rm0 (kc rm0 (kc rm0 kr)))))) (ih18 (w64 (x18.1 + 1), d21.1, d21.2.1, d21.2.2.1, d21.2.2.2.1, d21.2.2.2.2.1, d21.2.2.2.2.2.1, d21.2.2.2.2.2.2) () trivial h)))
       ·replace h := cond_f hb255 h
        refine c_exit (e_then_exit (e_then_exit (e_blk_exit ?_)))
        obtain rfl := si h
        exact ej () () trivial (sc J (sc J (sc J (sc J sn)))) (kc rm0 (kc rm1 (kc rm1 (kc rm1 (kc rm0 (kc rm0 kr))))))
      ·rintro _ i17 _
       replace h := hk17
       clear hk17
       refine e_seq (cr (op J J (op J J (op J J ?_))))
       refine o1 J (o_fa (fd := ⟨ "Cursor", 3, 5, false, "", "", 56⟩) J J J J J ?_)
       refine o1 J (o_ld (b := i8.1) (off := 5) (v := (I d9.2.2.2.2.2.1)) J rm1 J J ?_)
       replace h := bsome h
       obtain ⟨d23, h23, h⟩ := h
       refine o1 J (o_call has43 J (c_space_Space_Place X (⟨d17.1, d17.2.1, (⟨d17.2.2.1, d17.2.2.2.1⟩ : Vaddr_Size), d17.2.2.2.2.1, d17.2.2.2.2.2.1, d17.2.2.2.2.2.2⟩ : Vspace_Space) i4.1 i15 d9.2.2.2.2.2.1 _ h23) (pc rm0 (pc rm2 (pc rm3 pn))) ?_)
       refine oe (cr (op J J (op J J ?_)))
       replace h := bsome h
       obtain ⟨d25, h25, h⟩ := h
       refine o1 J (o_call has44 J (c_keys_New X d23 i4.1 i15 (⟨d9.2.2.2.2.2.2.1⟩ : Vpage_Page) i6 _ h25) (pc rm0 (pc rm0 (pc rm0 (pc rm1 pn)))) (fun i25 => ?_))
       refine op J J (op J J (op J J (op J J (op J J (o_end ?_)))))
       refine e_seq (cr (op J J (op J J (op J J ?_))))
       refine op J J ?_
       replace h := bsome h
       obtain ⟨d27, h27, h⟩ := h
       refine o1 J (o_call has45 J (c_vitrineref18_New X (⟨d9.1, d9.2.1, (⟨d9.2.2.1, d9.2.2.2.1⟩ : Vvitrineref04_Size), d9.2.2.2.2.1, d9.2.2.2.2.2.1⟩ : Vvitrineref12_Space) i8.1 i9 (rd d2 (Int.tmod p1 6)) _ h27) (pc rm0 (pc rm4 (pc rm4 pn))) (fun i27 => ?_))
       refine op J J (op J J (op J J (oe (c_ret ?_))))
       refine e_ret ?_
       refine r_endt J J (kc rm0 (kc rm6 (kc rm3 (kc rm3 (kc rm3 (kc rm2 (kc rm0 (kc rm0 kr)))))))) ?_
       obtain rfl := si h
       exact hk (i25, i4.1, i15, i6, i27, i8.1, i9)

theorem c_keys_AID {g : Gw} (X : HP) (p0 : Vkeys_Key) (r : Int × Bool) (h : m_keys_AID p0 = some r) : Tri env g 47 (A [(.agg (A [(I p0.Kind), (.int .i32 p0.Sign), (I p0.N)]))]) [X] (fun K R => K (.tuple (A [(U r.1), (O r.2)])) (X :: R)) := by
 refine tri_of (fn := Tryz.f47) (N := 48) Tryz.func47 J J J ?_
 intro R K hk
 unfold m_keys_AID at h
 change GC _ none _ [] [(0, (.agg (A [(I p0.Kind), (.int .i32 p0.Sign), (I p0.N)])))] (X :: R) g _ _
 refine cr ?_
 refine o1 J (o_box (cs := [(I p0.Kind), (.int .i32 p0.Sign), (I p0.N)]) J J (fun b293 => ?_))
 refine op J J (op J J (oe (c_seq (c_block ?_))))
 refine cr ?_
 refine o1 J (o_fa (fd := ⟨ "Kind", 3, 0, false, "", "", 0⟩) J J J J J ?_)
 refine o1 J (o_ld (b := b293) (off := 0) (v := (I p0.Kind)) J rm0 J J ?_)
 refine o1 J (o_p (v := (O (p0.Kind == 19))) J ?_)
 refine op J J (oe ?_)
 refine c_cond (b := (p0.Kind == 19)) J (fun hb295 => ?_) (fun hb295 => ?_)
 ·replace h := cond_t hb295 h
  refine cr (op J J (op J J (oe ?_)))
  refine c_ret (e_blk_ret (e_then_ret (e_ret ?_)))
  refine r_endt J J (kc rm1 (kd kr)) ?_
  obtain rfl := si h
  exact hk
 ·replace h := cond_f hb295 h
  refine cr ?_
  refine o1 J (o_fa (fd := ⟨ "Kind", 3, 0, false, "", "", 0⟩) J J J J J ?_)
  refine o1 J (o_ld (b := b293) (off := 0) (v := (I p0.Kind)) J rm0 J J ?_)
  refine o1 J (o_p (v := (O (p0.Kind == 22))) J ?_)
  refine op J J (oe ?_)
  refine c_cond (b := (p0.Kind == 22)) J (fun hb296 => ?_) (fun hb296 => ?_)
  ·replace h := cond_t hb296 h
   refine cr (op J J (op J J (oe ?_)))
   refine c_ret (e_blk_ret (e_then_ret (e_ret ?_)))
   refine r_endt J J (kc rm1 (kd kr)) ?_
   obtain rfl := si h
   exact hk
  ·replace h := cond_f hb296 h
   refine c_seq ?_
   replace h := bsome h
   obtain ⟨d3, h, hk3⟩ := h
   refine cj (D := Unit) (ι := Unit) (fun _ i3 => True) (fun _ i3 => [(12, (O d3)), (1, (F b293 0))]) (fun _ i3 => X :: blk b293 (.cells (A [(I p0.Kind), (.int .i32 p0.Sign), (I p0.N)]) 45 (0, 0)) :: R) ?_ ?_
   ·refine c_region ?_
    refine o1 J (o_fa (fd := ⟨ "Kind", 3, 0, false, "", "", 0⟩) J J J J J ?_)
    refine o1 J (o_ld (b := b293) (off := 0) (v := (I p0.Kind)) J rm0 J J ?_)
    refine o1 J (o_p (v := (O (p0.Kind == 20))) J ?_)
    refine op J J ?_
    rcases bool_or ((p0.Kind == 20)) with hb297 | hb297
    ·replace h := cond_t hb297 h
     refine oy J J J hb297 (o_fa (fd := ⟨ "N", 3, 2, false, "", "", 16⟩) J J J J J ?_)
     refine oy J J J hb297 (o_ld (b := b293) (off := 2) (v := (I p0.N)) J rm0 J J ?_)
     refine oy J J J hb297 (o_p (v := (O (decide (p0.N ≥ 1)))) J ?_)
     refine o1 J (o_pick_t J hb297 J ?_)
     refine op J J ?_
     rcases bool_or ((decide (p0.N ≥ 1))) with hb298 | hb298
     ·replace h := cond_t hb298 h
      refine oy J J J hb298 (o_fa (fd := ⟨ "N", 3, 2, false, "", "", 16⟩) J J J J J ?_)
      refine oy J J J hb298 (o_ld (b := b293) (off := 2) (v := (I p0.N)) J rm0 J J ?_)
      refine oy J J J hb298 (o_p (v := (O (decide (p0.N ≤ 24)))) J ?_)
      refine o1 J (o_pick_t J hb298 J ?_)
      refine op J J (o_end ?_)
      obtain rfl := si h
      exact ej () () trivial (sc J (sc J sn)) (kc rm1 (kc rm0 kr))
     ·replace h := cond_f hb298 h
      refine on J J J hb298 ?_
      refine on J J J hb298 ?_
      refine on J J J hb298 ?_
      refine o1 J (o_pick_f J hb298 J ?_)
      refine op J J (o_end ?_)
      obtain rfl := si h
      exact ej () () trivial (sc J (sc J sn)) (kc rm1 (kc rm0 kr))
    ·replace h := cond_f hb297 h
     refine on J J J hb297 ?_
     refine on J J J hb297 ?_
     refine on J J J hb297 ?_
     refine o1 J (o_pick_f J hb297 J ?_)
     refine op J J ?_
     refine on J J J J ?_
     refine on J J J J ?_
     refine on J J J J ?_
     refine o1 J (o_pick_f J J J ?_)
     refine op J J (o_end ?_)
     obtain rfl := si h
     exact ej () () trivial (sc J (sc J sn)) (kc rm1 (kc rm0 kr))
   ·rintro _ i3 _
    replace h := hk3
    clear hk3
    refine e_seq ?_
    refine c_cond (b := d3) J (fun hb299 => ?_) (fun hb299 => ?_)
    ·replace h := cond_t hb299 h
     refine cr ?_
     refine o1 J (o_fa (fd := ⟨ "N", 3, 2, false, "", "", 16⟩) J J J J J ?_)
     refine o1 J (o_ld (b := b293) (off := 2) (v := (I p0.N)) J rm1 J J ?_)
     refine o1 J (o_p (v := (I (w64 (p0.N - 1)))) J ?_)
     replace h := gsome h
     obtain ⟨hg300, h⟩ := h
     refine o1 J (o_sidx (s := (ByteArray.mk (A [241, 242, 243, 244, 245, 246, 247, 248, 249, 122, 123, 124, 193, 194, 195, 196, 197, 198, 199, 200, 201, 74, 75, 76]))) (n := w64 (p0.N - 1)) J J J J hg300 ?_)
     refine op J J (op J J (oe (c_ret (e_blk_ret ?_))))
     refine e_then_ret (e_ret ?_)
     refine r_endt J J (kc rm0 (kd kr)) ?_
     obtain rfl := si h
     exact hk
    ·replace h := cond_f hb299 h
     refine c_seq ?_
     replace h := bsome h
     obtain ⟨d4, h, hk4⟩ := h
     refine cj (D := Unit) (ι := Unit) (fun _ i4 => True) (fun _ i4 => [(30, (O d4)), (1, (F b293 0))]) (fun _ i4 => X :: blk b293 (.cells (A [(I p0.Kind), (.int .i32 p0.Sign), (I p0.N)]) 45 (0, 0)) :: R) ?_ ?_
     ·refine c_region ?_
      refine o1 J (o_fa (fd := ⟨ "Kind", 3, 0, false, "", "", 0⟩) J J J J J ?_)
      refine o1 J (o_ld (b := b293) (off := 0) (v := (I p0.Kind)) J rm1 J J ?_)
      refine o1 J (o_p (v := (O (p0.Kind == 21))) J ?_)
      refine op J J ?_
      rcases bool_or ((p0.Kind == 21)) with hb301 | hb301
      ·replace h := cond_t hb301 h
       refine oy J J J hb301 (o_fa (fd := ⟨ "N", 3, 2, false, "", "", 16⟩) J J J J J ?_)
       refine oy J J J hb301 (o_ld (b := b293) (off := 2) (v := (I p0.N)) J rm1 J J ?_)
       refine oy J J J hb301 (o_p (v := (O (decide (p0.N ≥ 1)))) J ?_)
       refine o1 J (o_pick_t J hb301 J ?_)
       refine op J J ?_
       rcases bool_or ((decide (p0.N ≥ 1))) with hb302 | hb302
       ·replace h := cond_t hb302 h
        refine oy J J J hb302 (o_fa (fd := ⟨ "N", 3, 2, false, "", "", 16⟩) J J J J J ?_)
        refine oy J J J hb302 (o_ld (b := b293) (off := 2) (v := (I p0.N)) J rm1 J J ?_)
        refine oy J J J hb302 (o_p (v := (O (decide (p0.N ≤ 3)))) J ?_)
        refine o1 J (o_pick_t J hb302 J ?_)
        refine op J J (o_end ?_)
        obtain rfl := si h
        exact ej () () trivial (sc J (sc J sn)) (kc rm0 (kc rm0 kr))
       ·replace h := cond_f hb302 h
        refine on J J J hb302 ?_
        refine on J J J hb302 ?_
        refine on J J J hb302 ?_
        refine o1 J (o_pick_f J hb302 J ?_)
        refine op J J (o_end ?_)
        obtain rfl := si h
        exact ej () () trivial (sc J (sc J sn)) (kc rm0 (kc rm0 kr))
      ·replace h := cond_f hb301 h
       refine on J J J hb301 ?_
       refine on J J J hb301 ?_
       refine on J J J hb301 ?_
       refine o1 J (o_pick_f J hb301 J ?_)
       refine op J J ?_
       refine on J J J J ?_
       refine on J J J J ?_
       refine on J J J J ?_
       refine o1 J (o_pick_f J J J ?_)
       refine op J J (o_end ?_)
       obtain rfl := si h
       exact ej () () trivial (sc J (sc J sn)) (kc rm0 (kc rm0 kr))
     ·rintro _ i4 _
      replace h := hk4
      clear hk4
      refine e_seq ?_
      refine c_cond (b := d4) J (fun hb303 => ?_) (fun hb303 => ?_)
      ·replace h := cond_t hb303 h
       refine cr ?_
       refine o1 J (o_fa (fd := ⟨ "N", 3, 2, false, "", "", 16⟩) J J J J J ?_)
       refine o1 J (o_ld (b := b293) (off := 2) (v := (I p0.N)) J rm1 J J ?_)
       refine o1 J (o_p (v := (I (w64 (p0.N - 1)))) J ?_)
       replace h := gsome h
       obtain ⟨hg304, h⟩ := h
       refine o1 J (o_sidx (s := (ByteArray.mk (A [108, 110, 107]))) (n := w64 (p0.N - 1)) J J J J hg304 ?_)
       refine op J J (op J J (oe (c_ret (e_blk_ret ?_))))
       refine e_then_ret (e_ret ?_)
       refine r_endt J J (kc rm0 (kd kr)) ?_
       obtain rfl := si h
       exact hk
      ·replace h := cond_f hb303 h
       refine c_skip (e_blk (e_seq (cr (op J J ?_))))
       refine op J J (oe (c_ret (e_ret ?_)))
       refine r_endt J J (kc rm0 (kd kr)) ?_
       obtain rfl := si h
       exact hk

theorem c_keys_Board_reset {g : Gw} (X : HP) (p0 : Vkeys_Board) (b0 : Nat) (p1 : Vspace_Space) (b1 : Nat) (s0 : SV) (p2 : Vpage_Page) (b2 : Nat) (r : Vkeys_Board) (h : m_keys_Board_reset p0 p1 p2 = some r) : Tri env g 48 (A [(F b0 0)]) [X, blk b0 (.cells (A [(F b1 0), (F b2 0), (I p0.lock), (O p0.inserts), (U p0.aid)]) 115 (0, 0)), blk b1 (.cells (A [(I p1.model), (O p1.alternate), (I p1.size.Rows), (I p1.size.Cols), (V s0), (I p1.cursor), (I p1.attrs)]) 122 (0, 0)), slO s0 26 en_Vapi_Cell p1.cells, pgO b2 p2.number] (fun K R => K (.tuple (A [])) (X :: blk b1 (.cells (A [(I p1.model), (O p1.alternate), (I p1.size.Rows), (I p1.size.Cols), (V s0), (I p1.cursor), (I p1.attrs)]) 122 (0, 0)) :: slO s0 26 en_Vapi_Cell p1.cells :: pgO b2 p2.number :: blk b0 (.cells (A [(F b1 0), (F b2 0), (I r.lock), (O r.inserts), (U r.aid)]) 115 (0, 0)) :: R)) := by
 refine tri_of (fn := Tryz.f48) (N := 13) Tryz.func48 J J J ?_
 intro R K hk
 unfold m_keys_Board_reset at h
 change GC _ none _ [] [(0, (F b0 0))] (X :: blk b0 (.cells (A [(F b1 0), (F b2 0), (I p0.lock), (O p0.inserts), (U p0.aid)]) 115 (0, 0)) :: blk b1 (.cells (A [(I p1.model), (O p1.alternate), (I p1.size.Rows), (I p1.size.Cols), (V s0), (I p1.cursor), (I p1.attrs)]) 122 (0, 0)) :: slO s0 26 en_Vapi_Cell p1.cells :: pgO b2 p2.number :: R) g _ _
 refine c_seq (cr (op J J (op J J ?_)))
 refine o1 J (o_fa (fd := ⟨ "lock", 3, 2, false, "", "vitrine/keys", 16⟩) J J J J J ?_)
 refine o1 J (o_ld (b := b0) (off := 2) (v := (I p0.lock)) J rm1 J J ?_)
 refine o1 J (o_p (v := (O (p0.lock != 1))) J ?_)
 refine oe ?_
 replace h := bsome h
 obtain ⟨d1, h, hk1⟩ := h
 refine cj (D := Unit) (ι := Unit) (fun _ i1 => True) (fun _ i1 => [(0, (F b0 0))]) (fun _ i1 => X :: blk b0 (.cells (A [(F b1 0), (F b2 0), (I d1), (O p0.inserts), (U p0.aid)]) 115 (0, 0)) :: blk b1 (.cells (A [(I p1.model), (O p1.alternate), (I p1.size.Rows), (I p1.size.Cols), (V s0), (I p1.cursor), (I p1.attrs)]) 122 (0, 0)) :: pgO b2 p2.number :: slO s0 26 en_Vapi_Cell p1.cells :: R) ?_ ?_
 ·refine c_cond (b := (p0.lock != 1)) J (fun hb308 => ?_) (fun hb308 => ?_)
  ·replace h := cond_t hb308 h
   refine c_region (op J J (op J J ?_))
   refine o1 J (o_fa (fd := ⟨ "lock", 3, 2, false, "", "vitrine/keys", 16⟩) J J J J J ?_)
   refine o0 (o_st (b := b0) (off := 2) (vs := [(I 0)]) (cs' := [(F b1 0), (F b2 0), (I 0), (O p0.inserts), (U p0.aid)]) J J rp1 J J J J J J ?_)
   refine o_end ?_
   obtain rfl := si h
   exact ej () () trivial (sc J sn) (kc rm0 (kc rm0 (kc rm0 (kc rm1 (kc rm0 kr)))))
  ·replace h := cond_f hb308 h
   refine c_skip ?_
   obtain rfl := si h
   exact ej () () trivial (sc J sn) (kc rm0 (kc rm0 (kc rm0 (kc rm1 (kc rm0 kr)))))
 ·rintro _ i1 _
  replace h := hk1
  clear hk1
  refine e_seq (c_region (op J J (op J J ?_)))
  refine o1 J (o_fa (fd := ⟨ "inserts", 4, 3, false, "", "vitrine/keys", 24⟩) J J J J J ?_)
  refine o0 (o_st (b := b0) (off := 3) (vs := [(O false)]) (cs' := [(F b1 0), (F b2 0), (I d1), (O false), (U p0.aid)]) J J rp1 J J J J J J ?_)
  refine o_end (e_fall ?_)
  refine r_endt J J (kc rm0 (kc rm1 (kc rm2 (kc rm1 (kc rm0 kr))))) ?_
  obtain rfl := si h
  exact hk

theorem c_space_Space_Cursor {g : Gw} (X : HP) (p0 : Vspace_Space) (b0 : Nat) (s0 : SV) (r : Int) (h : m_space_Space_Cursor p0 = some r) : Tri env g 24 (A [(F b0 0)]) [X, blk b0 (.cells (A [(I p0.model), (O p0.alternate), (I p0.size.Rows), (I p0.size.Cols), (V s0), (I p0.cursor), (I p0.attrs)]) 122 (0, 0)), slO s0 26 en_Vapi_Cell p0.cells] (fun K R => K (I r) (X :: blk b0 (.cells (A [(I p0.model), (O p0.alternate), (I p0.size.Rows), (I p0.size.Cols), (V s0), (I p0.cursor), (I p0.attrs)]) 122 (0, 0)) :: slO s0 26 en_Vapi_Cell p0.cells :: R)) := by
 refine tri_of (fn := Tryz.f24) (N := 9) Tryz.func24 J J J ?_
 intro R K hk
 unfold m_space_Space_Cursor at h
 change GC _ none _ [] [(0, (F b0 0))] (X :: blk b0 (.cells (A [(I p0.model), (O p0.alternate), (I p0.size.Rows), (I p0.size.Cols), (V s0), (I p0.cursor), (I p0.attrs)]) 122 (0, 0)) :: slO s0 26 en_Vapi_Cell p0.cells :: R) g _ _
 refine cr (op J J (oe (c_seq ?_)))
 refine cr (op J J ?_)
 refine o1 J (o_p (v := (O false)) J ?_)
 refine oe ?_
 refine c_cond_f J J ?_
 refine c_skip (e_seq (cr (op J J (op J J ?_))))
 refine o1 J (o_fa (fd := ⟨ "cursor", 3, 5, false, "", "vitrine/space", 56⟩) J J J J J ?_)
 refine o1 J (o_ld (b := b0) (off := 5) (v := (I p0.cursor)) J rm1 J J ?_)
 refine op J J (oe (c_ret (e_ret ?_)))
 refine r_endt J J (kc rm0 (kc rm0 (kc rm0 kr))) ?_
 obtain rfl := si h
 exact hk

theorem c_space_Space_Formatted {g : Gw} (X : HP) (p0 : Vspace_Space) (b0 : Nat) (s0 : SV) (r : Bool) (h : m_space_Space_Formatted p0 = some r) : Tri env g 120 (A [(F b0 0)]) [X, blk b0 (.cells (A [(I p0.model), (O p0.alternate), (I p0.size.Rows), (I p0.size.Cols), (V s0), (I p0.cursor), (I p0.attrs)]) 122 (0, 0)), slO s0 26 en_Vapi_Cell p0.cells] (fun K R => K (O r) (X :: blk b0 (.cells (A [(I p0.model), (O p0.alternate), (I p0.size.Rows), (I p0.size.Cols), (V s0), (I p0.cursor), (I p0.attrs)]) 122 (0, 0)) :: slO s0 26 en_Vapi_Cell p0.cells :: R)) := by
 refine tri_of (fn := Tryz.f120) (N := 12) Tryz.func120 J J J ?_
 intro R K hk
 unfold m_space_Space_Formatted at h
 change GC _ none _ [] [(0, (F b0 0))] (X :: blk b0 (.cells (A [(I p0.model), (O p0.alternate), (I p0.size.Rows), (I p0.size.Cols), (V s0), (I p0.cursor), (I p0.attrs)]) 122 (0, 0)) :: slO s0 26 en_Vapi_Cell p0.cells :: R) g _ _
 refine cr (op J J (oe (c_seq ?_)))
 refine c_region (op J J ?_)
 refine o1 J (o_p (v := (O true)) J ?_)
 refine op J J ?_
 refine oy J J J J (o_p J ?_)
 refine oy J J J J (o_p J ?_)
 refine oy J J J J (o_fa (fd := ⟨ "attrs", 3, 6, false, "", "vitrine/space", 64⟩) J J J J J ?_)
 refine oy J J J J (o_ld (b := b0) (off := 6) (v := (I p0.attrs)) J rm1 J J ?_)
 refine oy J J J J (o_p (v := (O (decide (p0.attrs > 0)))) J ?_)
 refine o1 J (o_pick_t J J J ?_)
 refine op J J (oe (c_ret (e_ret ?_)))
 refine r_endt J J (kc rm0 (kc rm0 (kc rm0 kr))) ?_
 obtain rfl := si h
 exact hk

theorem c_space_Space_Size {g : Gw} (X : HP) (p0 : Vspace_Space) (b0 : Nat) (s0 : SV) (r : Vaddr_Size) (h : m_space_Space_Size p0 = some r) : Tri env g 121 (A [(F b0 0)]) [X, blk b0 (.cells (A [(I p0.model), (O p0.alternate), (I p0.size.Rows), (I p0.size.Cols), (V s0), (I p0.cursor), (I p0.attrs)]) 122 (0, 0)), slO s0 26 en_Vapi_Cell p0.cells] (fun K R => K (.agg (A [(I r.Rows), (I r.Cols)])) (X :: blk b0 (.cells (A [(I p0.model), (O p0.alternate), (I p0.size.Rows), (I p0.size.Cols), (V s0), (I p0.cursor), (I p0.attrs)]) 122 (0, 0)) :: slO s0 26 en_Vapi_Cell p0.cells :: R)) := by
 refine tri_of (fn := Tryz.f121) (N := 10) Tryz.func121 J J J ?_
 intro R K hk
 unfold m_space_Space_Size at h
 change GC _ none _ [] [(0, (F b0 0))] (X :: blk b0 (.cells (A [(I p0.model), (O p0.alternate), (I p0.size.Rows), (I p0.size.Cols), (V s0), (I p0.cursor), (I p0.attrs)]) 122 (0, 0)) :: slO s0 26 en_Vapi_Cell p0.cells :: R) g _ _
 refine cr ?_
 refine o1 J (o_alloc (cs := [(I 0), (I 0)]) J J (fun b312 => ?_))
 refine oe (c_seq (cr (op J J ?_)))
 refine o1 J (o_p (v := (O false)) J ?_)
 refine oe ?_
 refine c_cond_f J J ?_
 refine c_skip (e_seq (cr (op J J (op J J ?_))))
 refine o1 J (o_fa (fd := ⟨ "size", 120, 2, false, "", "vitrine/space", 16⟩) J J J J J ?_)
 refine o1 J (o_ld (b := b0) (off := 2) (v := (.agg (A [(I p0.size.Rows), (I p0.size.Cols)]))) J rm2 J J ?_)
 refine o0 (o_st (b := b312) (off := 0) (vs := [(I p0.size.Rows), (I p0.size.Cols)]) (cs' := [(I p0.size.Rows), (I p0.size.Cols)]) J J rp0 J J J J J J ?_)
 refine oe (c_ret (e_ret ?_))
 refine r_endc (B := [[(I p0.size.Rows), (I p0.size.Cols)]]) J ⟨⟨_, _, _, _, J, rm0⟩, trivial⟩ J (kc rm1 (kc rm1 (kc rm1 (kd kr)))) ?_
 obtain rfl := si h
 exact hk

theorem c_space_Space_At {g : Gw} (X : HP) (p0 : Vspace_Space) (b0 : Nat) (s0 : SV) (p1 : Int) (r : Vapi_Cell) (h : m_space_Space_At p0 p1 = some r) : Tri env g 13 (A [(F b0 0), (I p1)]) [X, blk b0 (.cells (A [(I p0.model), (O p0.alternate), (I p0.size.Rows), (I p0.size.Cols), (V s0), (I p0.cursor), (I p0.attrs)]) 122 (0, 0)), slO s0 26 en_Vapi_Cell p0.cells] (fun K R => K (.agg (A [(U r.Char), (O r.Attr), (U r.FA), (U r.High), (U r.Color), (U r.f_Set)])) (X :: blk b0 (.cells (A [(I p0.model), (O p0.alternate), (I p0.size.Rows), (I p0.size.Cols), (V s0), (I p0.cursor), (I p0.attrs)]) 122 (0, 0)) :: slO s0 26 en_Vapi_Cell p0.cells :: R)) := by
 refine tri_of (fn := Tryz.f13) (N := 20) Tryz.func13 J J J ?_
 intro R K hk
 unfold m_space_Space_At at h
 change GC _ none _ [] [(0, (F b0 0)), (1, (I p1))] (X :: blk b0 (.cells (A [(I p0.model), (O p0.alternate), (I p0.size.Rows), (I p0.size.Cols), (V s0), (I p0.cursor), (I p0.attrs)]) 122 (0, 0)) :: slO s0 26 en_Vapi_Cell p0.cells :: R) g _ _
 refine cr ?_
 refine o1 J (o_alloc (cs := [(U 0), (O false), (U 0), (U 0), (U 0), (U 0)]) J J (fun b316 => ?_))
 refine oe (c_seq (cr (op J J ?_)))
 refine o1 J (o_p (v := (O false)) J ?_)
 refine oe ?_
 refine c_cond_f J J ?_
 refine c_skip (e_seq (c_seq ?_))
 refine c_draw (n := 2) (q := [(0, 8, (F b0 0)), (1, 9, (F b0 0)), (2, 10, (F b0 4)), (3, 11, (V s0)), (4, 12, (F b0 0)), (5, 13, (F b0 0)), (6, 14, (F b0 2)), (7, 15, (.agg (A [(I p0.size.Rows), (I p0.size.Cols)]))), (8, 16, (I p1))]) (pend := [0, 1, 2, 3, 4, 5, 6, 7, 8]) J J J ?_
 replace h := bsome h
 obtain ⟨d2, h2, h⟩ := h
 refine ⟨⟨fun _ => ⟨J, J, J, .inl ⟨J, (o_p J ⟨J, J⟩)⟩⟩, fun _ => ⟨J, J, J, .inl ⟨J, (o_p J ⟨J, J⟩)⟩⟩, fun _ => ⟨J, J, J, .inl ⟨J, (o_fa (fd := ⟨ "cells", 72, 4, false, "", "vitrine/space", 32⟩) J J J J J ⟨J, J⟩)⟩⟩, fun _ => ⟨J, J, J, .inl ⟨J, (o_ld (b := b0) (off := 4) (v := (V s0)) J rm2 J J ⟨J, J⟩)⟩⟩, fun _ => ⟨J, J, J, .inl ⟨J, (o_p J ⟨J, J⟩)⟩⟩, fun _ => ⟨J, J, J, .inl ⟨J, (o_p J ⟨J, J⟩)⟩⟩, fun _ => ⟨J, J, J, .inl ⟨J, (o_fa (fd := ⟨ "size", 120, 2, false, "", "vitrine/space", 16⟩) J J J J J ⟨J, J⟩)⟩⟩, fun _ => ⟨J, J, J, .inl ⟨J, (o_ld (b := b0) (off := 2) (v := (.agg (A [(I p0.size.Rows), (I p0.size.Cols)]))) J rm2 J J ⟨J, J⟩)⟩⟩, fun _ => ⟨J, J, J, .inl ⟨J, (o_p J ⟨J, J⟩)⟩⟩, trivial⟩, J, .inr ⟨[9], J, J, ⟨J, .inl J, ?_⟩, trivial⟩⟩
 refine (o_call has53 J (c_addr_Size_Wrap X p0.size p1 _ h2) (pc rm1 pn) ?_)
 replace h := gsome h
 obtain ⟨hg318, h⟩ := h
 refine ⟨[(10, 18, (F (SV.blk s0) (SV.off s0 + Int.toNat d2 * 6))), (11, 19, (.agg (A [(U ((rd p0.cells d2).Char)), (O ((rd p0.cells d2).Attr)), (U ((rd p0.cells d2).FA)), (U ((rd p0.cells d2).High)), (U ((rd p0.cells d2).Color)), (U ((rd p0.cells d2).f_Set))])))], [0, 1, 2, 3, 10, 11], J, J, J, J, ?_⟩
 refine ⟨⟨fun _ => ⟨J, J, J, .inl ⟨J, (o_ix (s := s0) (n := d2) (e := en_Vapi_Cell) J J J J J J rm3 (rd_own _ _ _ _) hg318 ⟨J, J⟩)⟩⟩, fun _ => ⟨J, J, J, .inl ⟨J, (o_ldE (s := s0) (e := en_Vapi_Cell) (n := d2) (f := 0) (v := (.agg (A [(U ((rd p0.cells d2).Char)), (O ((rd p0.cells d2).Attr)), (U ((rd p0.cells d2).FA)), (U ((rd p0.cells d2).High)), (U ((rd p0.cells d2).Color)), (U ((rd p0.cells d2).f_Set))]))) J rm3 (rd_own _ _ _ _) hg318 J J ⟨J, J⟩)⟩⟩, fun _ => ⟨J, J, J, .inl ⟨J, (o_p J ⟨J, J⟩)⟩⟩, fun _ => ⟨J, J, J, .inl ⟨J, (o_p J ⟨J, J⟩)⟩⟩, fun _ => ⟨J, J, J, .inl ⟨J, (o_fa (fd := ⟨ "cells", 72, 4, false, "", "vitrine/space", 32⟩) J J J J J ⟨J, J⟩)⟩⟩, fun _ => ⟨J, J, J, .inl ⟨J, (o_ld (b := b0) (off := 4) (v := (V s0)) J rm2 J J ⟨J, J⟩)⟩⟩, (fun h => nomatch h), (fun h => nomatch h), (fun h => nomatch h), (fun h => nomatch h), (fun h => nomatch h), trivial⟩, J, .inr ⟨[12], J, J, ⟨J, .inl J, ?_⟩, trivial⟩⟩
 refine (o_st (b := b316) (off := 0) (vs := [(U ((rd p0.cells d2).Char)), (O ((rd p0.cells d2).Attr)), (U ((rd p0.cells d2).FA)), (U ((rd p0.cells d2).High)), (U ((rd p0.cells d2).Color)), (U ((rd p0.cells d2).f_Set))]) (cs' := [(U ((rd p0.cells d2).Char)), (O ((rd p0.cells d2).Attr)), (U ((rd p0.cells d2).FA)), (U ((rd p0.cells d2).High)), (U ((rd p0.cells d2).Color)), (U ((rd p0.cells d2).f_Set))]) J J rp1 J J J J J J ?_)
 refine ⟨[], [], J, J, ?_⟩
 refine ⟨⟨(fun h => nomatch h), (fun h => nomatch h), (fun h => nomatch h), (fun h => nomatch h), (fun h => nomatch h), (fun h => nomatch h), (fun h => nomatch h), (fun h => nomatch h), (fun h => nomatch h), (fun h => nomatch h), (fun h => nomatch h), trivial⟩, J, J, J, ?_⟩
 refine e_seq (c_ret (e_ret ?_))
 refine r_endc (B := [[(U ((rd p0.cells d2).Char)), (O ((rd p0.cells d2).Attr)), (U ((rd p0.cells d2).FA)), (U ((rd p0.cells d2).High)), (U ((rd p0.cells d2).Color)), (U ((rd p0.cells d2).f_Set))]]) J ⟨⟨_, _, _, _, J, rm1⟩, trivial⟩ J (kc rm0 (kc rm1 (kc rm1 (kd kr)))) ?_
 obtain rfl := si h
 exact hk

theorem c_field_Start {g : Gw} (X : HP) (p0 : Vspace_Space) (b0 : Nat) (s0 : SV) (p1 : Int) (r : Int) (h : m_field_Start p0 p1 = some r) : Tri env g 78 (A [(F b0 0), (I p1)]) [X, blk b0 (.cells (A [(I p0.model), (O p0.alternate), (I p0.size.Rows), (I p0.size.Cols), (V s0), (I p0.cursor), (I p0.attrs)]) 122 (0, 0)), slO s0 26 en_Vapi_Cell p0.cells] (fun K R => K (I r) (X :: blk b0 (.cells (A [(I p0.model), (O p0.alternate), (I p0.size.Rows), (I p0.size.Cols), (V s0), (I p0.cursor), (I p0.attrs)]) 122 (0, 0)) :: slO s0 26 en_Vapi_Cell p0.cells :: R)) := by
 refine tri_of (fn := Tryz.f78) (N := 24) Tryz.func78 J J J ?_
 intro R K hk
 unfold m_field_Start at h
 change GC _ none _ [] [(0, (F b0 0)), (1, (I p1))] (X :: blk b0 (.cells (A [(I p0.model), (O p0.alternate), (I p0.size.Rows), (I p0.size.Cols), (V s0), (I p0.cursor), (I p0.attrs)]) 122 (0, 0)) :: slO s0 26 en_Vapi_Cell p0.cells :: R) g _ _
 refine cr (op J J (oe (c_seq ?_)))
 refine cr (op J J ?_)
 replace h := bsome h
 obtain ⟨d1, h1, h⟩ := h
 refine o1 J (o_call has120 J (c_space_Space_Formatted X p0 b0 s0 _ h1) (pc rm0 (pc rm0 (pc rm0 pn))) ?_)
 refine o1 J (o_p (v := (O (!d1))) J ?_)
 refine oe ?_
 refine c_cond (b := (!d1)) J (fun hb311 => ?_) (fun hb311 => ?_)
 ·replace h := cond_t hb311 h
  refine cr (op J J (oe (c_ret ?_)))
  refine e_then_ret (e_ret ?_)
  refine r_endt J J (kc rm0 (kc rm0 (kc rm0 kr))) ?_
  obtain rfl := si h
  exact hk
 ·replace h := cond_f hb311 h
  refine c_skip (e_seq (cr (op J J ?_)))
  replace h := bsome h
  obtain ⟨d3, h3, h⟩ := h
  refine o1 J (o_call has121 J (c_space_Space_Size X p0 b0 s0 _ h3) (pc rm0 (pc rm0 (pc rm0 pn))) ?_)
  refine o1 J (o_alloc (cs := [(I 0), (I 0)]) J J (fun b314 => ?_))
  refine o0 (o_st (b := b314) (off := 0) (vs := [(I d3.Rows), (I d3.Cols)]) (cs' := [(I d3.Rows), (I d3.Cols)]) J J rp0 J J J J J J ?_)
  refine oe (cr ?_)
  refine o1 J (o_ld (b := b314) (off := 0) (v := (.agg (A [(I d3.Rows), (I d3.Cols)]))) J rm0 J J ?_)
  refine op J J ?_
  replace h := bsome h
  obtain ⟨d4, h4, h⟩ := h
  refine o1 J (o_call has53 J (c_addr_Size_Wrap X d3 p1 _ h4) (pc rm1 pn) ?_)
  refine op J J (oe (c_seq ?_))
  replace h := bsome h
  obtain ⟨d5, h, hk5⟩ := h
  refine cj (D := Unit) (ι := Unit) (fun _ i5 => True) (fun _ i5 => [(1, (I d5))]) (fun _ i5 => X :: blk b0 (.cells (A [(I p0.model), (O p0.alternate), (I p0.size.Rows), (I p0.size.Cols), (V s0), (I p0.cursor), (I p0.attrs)]) 122 (0, 0)) :: slO s0 26 en_Vapi_Cell p0.cells :: R) ?_ ?_
  ·refine c_block ?_
   refine c_loop (l_sub (sc J (sc J (sc J sn))) (l_keep (kc rm0 (kc rm0 (kc rm0 (kc rm0 kr)))) (lf (X := Int) (ι := Unit) (fun k x => field_Start_l6 p0 d3 k x) _ (fun x6 i6 => True) (fun x6 i6 => [(1, (I x6)), (5, (F b314 0)), (0, (F b0 0))]) (fun x6 i6 => X :: blk b314 (.cells (A [(I d3.Rows), (I d3.Cols)]) 120 (0, 0)) :: blk b0 (.cells (A [(I p0.model), (O p0.alternate), (I p0.size.Rows), (I p0.size.Cols), (V s0), (I p0.cursor), (I p0.attrs)]) 122 (0, 0)) :: slO s0 26 en_Vapi_Cell p0.cells :: R) (fun _ => J) ?_ fuel d4 () trivial h)))
   clear h
   rintro k6 ih6 x6 i6 _ h
   rw [field_Start_l6.eq_2] at h
   refine l_round (c_seq (cr (op J J (op J J ?_))))
   replace h := bsome h
   obtain ⟨d7, h7, h⟩ := h
   refine o1 J (o_call has13 J (c_space_Space_At X p0 b0 s0 x6 _ h7) (pc rm0 (pc rm1 (pc rm1 pn))) ?_)
   refine o1 J (o_field (v := (O d7.Attr)) J J J ?_)
   refine o1 J (o_p (v := (O (!d7.Attr))) J ?_)
   refine oe ?_
   refine c_cond (b := (!d7.Attr)) J (fun hb321 => ?_) (fun hb321 => ?_)
   ·replace h := cond_t hb321 h
    refine c_skip (e_seq (c_block (c_region ?_)))
    refine o1 J (o_ld (b := b314) (off := 0) (v := (.agg (A [(I d3.Rows), (I d3.Cols)]))) J rm3 J J ?_)
    refine op J J ?_
    refine o1 J (o_p (v := (I (w64 (x6 - 1)))) J ?_)
    replace h := bsome h
    obtain ⟨d9, h9, h⟩ := h
    refine o1 J (o_call has53 J (c_addr_Size_Wrap X d3 (w64 (x6 - 1)) _ h9) (pc rm0 pn) ?_)
    refine op J J (o_end (e_blk ?_))
    exact e_loop (l_sub (sc J (sc J (sc J sn))) (l_keep (kc rm0 (kc rm2 (kc rm0 (kc rm0 kr)))) (ih6 d9 () trivial h)))
   ·replace h := cond_f hb321 h
    refine c_exit (e_then_exit (e_then_exit (e_blk_exit ?_)))
    obtain rfl := si h
    exact ej () () trivial (sc J sn) (kc rm0 (kc rm0 (kc rm0 (kd kr))))
  ·rintro _ i5 _
   replace h := hk5
   clear hk5
   refine e_seq (cr (op J J (op J J (o_end ?_))))
   refine e_seq (c_ret (e_ret ?_))
   refine r_endt J J (kc rm0 (kc rm0 (kc rm0 kr))) ?_
   obtain rfl := si h
   exact hk

theorem c_attr_Of {g : Gw} (X : HP) (p0 : Int) (r : Vattr_Field) (h : m_attr_Of p0 = some r) : Tri env g 122 (A [(U p0)]) [X] (fun K R => K (.agg (A [(O r.Protected), (O r.Numeric), (I r.Display), (O r.Modified)])) (X :: R)) := by
 refine tri_of (fn := Tryz.f122) (N := 17) Tryz.func122 J J J ?_
 intro R K hk
 unfold m_attr_Of at h
 change GC _ none _ [] [(0, (U p0))] (X :: R) g _ _
 refine cr ?_
 refine o1 J (o_alloc (cs := [(O false), (O false), (I 0), (O false)]) J J (fun b325 => ?_))
 refine oe (cr (op J J ?_))
 refine o1 J (o_p (v := (U (iband .u8 p0 32))) J ?_)
 refine o1 J (o_p (v := (O ((iband .u8 p0 32) != 0))) J ?_)
 refine op J J ?_
 refine o1 J (o_p (v := (U (iband .u8 p0 16))) J ?_)
 refine o1 J (o_p (v := (O ((iband .u8 p0 16) != 0))) J ?_)
 refine op J J ?_
 refine o1 J (o_p (v := (U (iband .u8 p0 12))) J ?_)
 refine o1 J (o_p (v := (I (w64 (iband .u8 p0 12)))) J ?_)
 refine o1 rfl (o_shr (m := w64 (iband .u8 p0 12)) (n := 2) rfl rfl (by decide) ?_)
 refine op J J ?_
 refine o1 J (o_p (v := (U (iband .u8 p0 1))) J ?_)
 refine o1 J (o_p (v := (O ((iband .u8 p0 1) != 0))) J ?_)
 refine o1 J (o_build (fs := f_3) (ps := [(0, 1), (1, 1), (2, 1), (3, 1)]) (cs := [(O ((iband .u8 p0 32) != 0)), (O ((iband .u8 p0 16) != 0)), (I (ishr .i64 (w64 (iband .u8 p0 12)) 2)), (O ((iband .u8 p0 1) != 0))]) J J J J J ?_)
 refine o0 (o_st (b := b325) (off := 0) (vs := [(O ((iband .u8 p0 32) != 0)), (O ((iband .u8 p0 16) != 0)), (I (ishr .i64 (w64 (iband .u8 p0 12)) 2)), (O ((iband .u8 p0 1) != 0))]) (cs' := [(O ((iband .u8 p0 32) != 0)), (O ((iband .u8 p0 16) != 0)), (I (ishr .i64 (w64 (iband .u8 p0 12)) 2)), (O ((iband .u8 p0 1) != 0))]) J J rp0 J J J J J J ?_)
 refine oe (c_ret (e_ret ?_))
 refine r_endc (B := [[(O ((iband .u8 p0 32) != 0)), (O ((iband .u8 p0 16) != 0)), (I (ishr .i64 (w64 (iband .u8 p0 12)) 2)), (O ((iband .u8 p0 1) != 0))]]) J ⟨⟨_, _, _, _, J, rm0⟩, trivial⟩ J (kc rm1 (kd kr)) ?_
 obtain rfl := si h
 exact hk

theorem c_field_Of {g : Gw} (X : HP) (p0 : Vspace_Space) (b0 : Nat) (s0 : SV) (p1 : Int) (r : Vattr_Field × Bool) (h : m_field_Of p0 p1 = some r) : Tri env g 79 (A [(F b0 0), (I p1)]) [X, blk b0 (.cells (A [(I p0.model), (O p0.alternate), (I p0.size.Rows), (I p0.size.Cols), (V s0), (I p0.cursor), (I p0.attrs)]) 122 (0, 0)), slO s0 26 en_Vapi_Cell p0.cells] (fun K R => K (.tuple (A [(.agg (A [(O r.1.Protected), (O r.1.Numeric), (I r.1.Display), (O r.1.Modified)])), (O r.2)])) (X :: blk b0 (.cells (A [(I p0.model), (O p0.alternate), (I p0.size.Rows), (I p0.size.Cols), (V s0), (I p0.cursor), (I p0.attrs)]) 122 (0, 0)) :: slO s0 26 en_Vapi_Cell p0.cells :: R)) := by
 refine tri_of (fn := Tryz.f79) (N := 18) Tryz.func79 J J J ?_
 intro R K hk
 unfold m_field_Of at h
 change GC _ none _ [] [(0, (F b0 0)), (1, (I p1))] (X :: blk b0 (.cells (A [(I p0.model), (O p0.alternate), (I p0.size.Rows), (I p0.size.Cols), (V s0), (I p0.cursor), (I p0.attrs)]) 122 (0, 0)) :: slO s0 26 en_Vapi_Cell p0.cells :: R) g _ _
 refine cr ?_
 refine o1 J (o_alloc (cs := [(O false), (O false), (I 0), (O false)]) J J (fun b322 => ?_))
 refine op J J (oe (cr (op J J ?_)))
 refine op J J ?_
 replace h := bsome h
 obtain ⟨d1, h1, h⟩ := h
 refine o1 J (o_call has78 J (c_field_Start X p0 b0 s0 p1 _ h1) (pc rm1 (pc rm1 (pc rm1 pn))) ?_)
 refine op J J (oe (c_seq (cr ?_)))
 refine op J J ?_
 refine o1 J (o_p (v := (O (d1 == (-1)))) J ?_)
 refine oe ?_
 refine c_cond (b := (d1 == (-1))) J (fun hb324 => ?_) (fun hb324 => ?_)
 ·replace h := cond_t hb324 h
  refine cr ?_
  refine o1 J (o_build (fs := f_3) (ps := [(0, 1), (1, 1), (2, 1), (3, 1)]) (cs := [(O false), (O false), (I 0), (O false)]) J J J J J ?_)
  refine o0 (o_st (b := b322) (off := 0) (vs := [(O false), (O false), (I 0), (O false)]) (cs' := [(O false), (O false), (I 0), (O false)]) J J rp3 J J J J J J ?_)
  refine op J J (oe (c_ret (e_then_ret (e_ret ?_))))
  refine r_endc (B := [[(O false), (O false), (I 0), (O false)]]) J ⟨⟨_, _, _, _, J, rm3⟩, trivial⟩ J (kc rm0 (kc rm0 (kc rm0 (kd kr)))) ?_
  obtain rfl := si h
  exact hk
 ·replace h := cond_f hb324 h
  refine c_skip (e_seq (cr (op J J (op J J ?_))))
  replace h := bsome h
  obtain ⟨d3, h3, h⟩ := h
  refine o1 J (o_call has13 J (c_space_Space_At X p0 b0 s0 d1 _ h3) (pc rm0 (pc rm0 (pc rm0 pn))) ?_)
  refine o1 J (o_field (v := (U d3.FA)) J J J ?_)
  replace h := bsome h
  obtain ⟨d4, h4, h⟩ := h
  refine o1 J (o_call has122 J (c_attr_Of X d3.FA _ h4) (pc rm0 pn) ?_)
  refine o0 (o_st (b := b322) (off := 0) (vs := [(O d4.Protected), (O d4.Numeric), (I d4.Display), (O d4.Modified)]) (cs' := [(O d4.Protected), (O d4.Numeric), (I d4.Display), (O d4.Modified)]) J J rp3 J J J J J J ?_)
  refine op J J (oe (c_ret (e_ret ?_)))
  refine r_endc (B := [[(O d4.Protected), (O d4.Numeric), (I d4.Display), (O d4.Modified)]]) J ⟨⟨_, _, _, _, J, rm3⟩, trivial⟩ J (kc rm0 (kc rm0 (kc rm0 (kd kr)))) ?_
  obtain rfl := si h
  exact hk

theorem c_attr_Field_Detectable {g : Gw} (X : HP) (p0 : Vattr_Field) (r : Bool) (h : m_attr_Field_Detectable p0 = some r) : Tri env g 80 (A [(.agg (A [(O p0.Protected), (O p0.Numeric), (I p0.Display), (O p0.Modified)]))]) [X] (fun K R => K (O r) (X :: R)) := by
 refine tri_of (fn := Tryz.f80) (N := 11) Tryz.func80 J J J ?_
 intro R K hk
 unfold m_attr_Field_Detectable at h
 change GC _ none _ [] [(0, (.agg (A [(O p0.Protected), (O p0.Numeric), (I p0.Display), (O p0.Modified)])))] (X :: R) g _ _
 refine cr ?_
 refine o1 J (o_box (cs := [(O p0.Protected), (O p0.Numeric), (I p0.Display), (O p0.Modified)]) J J (fun b331 => ?_))
 refine op J J (oe (c_seq ?_))
 replace h := bsome h
 obtain ⟨d1, h, hk1⟩ := h
 refine cj (D := Unit) (ι := Unit) (fun _ i1 => True) (fun _ i1 => [(2, (O d1))]) (fun _ i1 => X :: R) ?_ ?_
 ·refine c_region ?_
  refine o1 J (o_fa (fd := ⟨ "Display", 3, 2, false, "", "", 8⟩) J J J J J ?_)
  refine o1 J (o_ld (b := b331) (off := 2) (v := (I p0.Display)) J rm0 J J ?_)
  refine o1 J (o_p (v := (O (p0.Display == 1))) J ?_)
  refine op J J ?_
  rcases bool_or ((p0.Display == 1)) with hb333 | hb333
  ·replace h := cond_t hb333 h
   refine on J J J hb333 ?_
   refine on J J J hb333 ?_
   refine on J J J hb333 ?_
   refine o1 J (o_pick_t J hb333 J ?_)
   refine op J J (o_end ?_)
   obtain rfl := si h
   exact ej () () trivial (sc J sn) (kc rm1 (kd kr))
  ·replace h := cond_f hb333 h
   refine oy J J J hb333 (o_fa (fd := ⟨ "Display", 3, 2, false, "", "", 8⟩) J J J J J ?_)
   refine oy J J J hb333 (o_ld (b := b331) (off := 2) (v := (I p0.Display)) J rm0 J J ?_)
   refine oy J J J hb333 (o_p (v := (O (p0.Display == 2))) J ?_)
   refine o1 J (o_pick_f J hb333 J ?_)
   refine op J J (o_end ?_)
   obtain rfl := si h
   exact ej () () trivial (sc J sn) (kc rm1 (kd kr))
 ·rintro _ i1 _
  replace h := hk1
  clear hk1
  refine e_seq (c_ret (e_ret ?_))
  refine r_endt J J (kc rm0 kr) ?_
  obtain rfl := si h
  exact hk

theorem c_keys_Board_refuse {g : Gw} (X : HP) (p0 : Vkeys_Board) (b0 : Nat) (p1 : Vspace_Space) (b1 : Nat) (s0 : SV) (p2 : Vpage_Page) (b2 : Nat) (p3 : Int) (r : Vkeys_Board × Int) (h : m_keys_Board_refuse p0 p1 p2 p3 = some r) : Tri env g 81 (A [(F b0 0), (I p3)]) [X, blk b0 (.cells (A [(F b1 0), (F b2 0), (I p0.lock), (O p0.inserts), (U p0.aid)]) 115 (0, 0)), blk b1 (.cells (A [(I p1.model), (O p1.alternate), (I p1.size.Rows), (I p1.size.Cols), (V s0), (I p1.cursor), (I p1.attrs)]) 122 (0, 0)), slO s0 26 en_Vapi_Cell p1.cells, pgO b2 p2.number] (fun K R => K (I r.2) (X :: blk b1 (.cells (A [(I p1.model), (O p1.alternate), (I p1.size.Rows), (I p1.size.Cols), (V s0), (I p1.cursor), (I p1.attrs)]) 122 (0, 0)) :: slO s0 26 en_Vapi_Cell p1.cells :: pgO b2 p2.number :: blk b0 (.cells (A [(F b1 0), (F b2 0), (I r.1.lock), (O r.1.inserts), (U r.1.aid)]) 115 (0, 0)) :: R)) := by
 refine tri_of (fn := Tryz.f81) (N := 14) Tryz.func81 J J J ?_
 intro R K hk
 unfold m_keys_Board_refuse at h
 change GC _ none _ [] [(0, (F b0 0)), (1, (I p3))] (X :: blk b0 (.cells (A [(F b1 0), (F b2 0), (I p0.lock), (O p0.inserts), (U p0.aid)]) 115 (0, 0)) :: blk b1 (.cells (A [(I p1.model), (O p1.alternate), (I p1.size.Rows), (I p1.size.Cols), (V s0), (I p1.cursor), (I p1.attrs)]) 122 (0, 0)) :: slO s0 26 en_Vapi_Cell p1.cells :: pgO b2 p2.number :: R) g _ _
 refine cr (op J J (oe (c_seq ?_)))
 refine c_region (op J J (op J J (op J J ?_)))
 refine o1 J (o_fa (fd := ⟨ "lock", 3, 2, false, "", "vitrine/keys", 16⟩) J J J J J ?_)
 refine o0 (o_st (b := b0) (off := 2) (vs := [(I p3)]) (cs' := [(F b1 0), (F b2 0), (I p3), (O p0.inserts), (U p0.aid)]) J J rp1 J J J J J J ?_)
 refine oe (c_seq (cr (op J J ?_)))
 refine oe (c_block (cr ?_))
 refine o1 J (o_p (v := (O (p3 == 3))) J ?_)
 refine op J J (oe ?_)
 refine c_cond (b := (p3 == 3)) J (fun hb335 => ?_) (fun hb335 => ?_)
 ·replace h := cond_t hb335 h
  refine cr (op J J (oe (c_ret ?_)))
  refine e_blk_ret (e_then_ret (e_ret ?_))
  refine r_endt J J (kc rm0 (kc rm1 (kc rm1 (kc rm1 (kc rm0 kr))))) ?_
  obtain rfl := si h
  exact hk
 ·replace h := cond_f hb335 h
  refine cr ?_
  refine o1 J (o_p (v := (O (p3 == 4))) J ?_)
  refine op J J (oe ?_)
  refine c_cond (b := (p3 == 4)) J (fun hb336 => ?_) (fun hb336 => ?_)
  ·replace h := cond_t hb336 h
   refine cr (op J J (oe (c_ret ?_)))
   refine e_blk_ret (e_then_ret (e_ret ?_))
   refine r_endt J J (kc rm0 (kc rm1 (kc rm1 (kc rm1 (kc rm0 kr))))) ?_
   obtain rfl := si h
   exact hk
  ·replace h := cond_f hb336 h
   refine c_skip (e_blk (e_seq (cr (op J J ?_))))
   refine oe (c_ret (e_ret ?_))
   refine r_endt J J (kc rm0 (kc rm1 (kc rm1 (kc rm1 (kc rm0 kr))))) ?_
   obtain rfl := si h
   exact hk

theorem c_page_Page_Sign {g : Gw} (X : HP) (p0 : Vpage_Page) (b0 : Nat) (p1 : Int) (r : Int) (h : m_page_Page_Sign p0 p1 = some r) : Tri env g 98 (A [(F b0 0), (U p1)]) [X, pgO b0 p0.number] (fun K R => K (.int .i32 r) (X :: pgO b0 p0.number :: R)) :=
 t_sign h

theorem c_class_sign {g : Gw} (X : HP) (p0 : Vpage_Page) (b0 : Nat) (p1 : Int) (r : Int) (h : m_class_sign p0 p1 = some r) : Tri env g 54 (A [(F b0 0), (U p1)]) [X, pgO b0 p0.number] (fun K R => K (.int .i32 r) (X :: pgO b0 p0.number :: R)) := by
 refine tri_of (fn := Tryz.f54) (N := 14) Tryz.func54 J J J ?_
 intro R K hk
 unfold m_class_sign at h
 change GC _ none _ [] [(0, (F b0 0)), (1, (U p1))] (X :: pgO b0 p0.number :: R) g _ _
 refine cr (op J J (oe (c_seq ?_)))
 refine cr (op J J ?_)
 refine o1 J (o_p (v := (O false)) J ?_)
 refine oe ?_
 refine c_cond_f J J ?_
 refine c_skip (e_seq (cr (op J J (op J J ?_))))
 replace h := bsome h
 obtain ⟨d1, h1, h⟩ := h
 refine o1 J (o_call has98 J (c_page_Page_Sign X p0 b0 p1 _ h1) (pc rm0 (pc rm0 pn)) ?_)
 refine op J J (oe (c_ret (e_ret ?_)))
 refine r_endt J J (kc rm0 (kc rm0 kr)) ?_
 obtain rfl := si h
 exact hk

theorem c_class_Designator {g : Gw} (X : HP) (p0 : Vpage_Page) (b0 : Nat) (p1 : Int) (r : Int) (h : m_class_Designator p0 p1 = some r) : Tri env g 82 (A [(F b0 0), (U p1)]) [X, pgO b0 p0.number] (fun K R => K (I r) (X :: pgO b0 p0.number :: R)) := by
 refine tri_of (fn := Tryz.f82) (N := 18) Tryz.func82 J J J ?_
 intro R K hk
 unfold m_class_Designator at h
 change GC _ none _ [] [(0, (F b0 0)), (1, (U p1))] (X :: pgO b0 p0.number :: R) g _ _
 refine cr (op J J (oe (c_seq ?_)))
 refine cr (op J J ?_)
 refine o1 J (o_p (v := (O (p1 == 0))) J ?_)
 refine oe ?_
 refine c_cond (b := (p1 == 0)) J (fun hb337 => ?_) (fun hb337 => ?_)
 ·replace h := cond_t hb337 h
  refine cr (op J J (oe (c_ret ?_)))
  refine e_then_ret (e_ret ?_)
  refine r_endt J J (kc rm0 (kc rm0 kr)) ?_
  obtain rfl := si h
  exact hk
 ·replace h := cond_f hb337 h
  refine c_skip (e_seq (c_seq (cr (op J J ?_))))
  refine op J J ?_
  replace h := bsome h
  obtain ⟨d2, h2, h⟩ := h
  refine o1 J (o_call has54 J (c_class_sign X p0 b0 p1 _ h2) (pc rm0 (pc rm0 pn)) ?_)
  refine oe (c_block (cr ?_))
  refine o1 J (o_p (v := (O (d2 == 63))) J ?_)
  refine op J J (oe ?_)
  refine c_cond (b := (d2 == 63)) J (fun hb338 => ?_) (fun hb338 => ?_)
  ·replace h := cond_t hb338 h
   refine cr (op J J (oe (c_ret ?_)))
   refine e_blk_ret (e_then_ret (e_ret ?_))
   refine r_endt J J (kc rm0 (kc rm0 kr)) ?_
   obtain rfl := si h
   exact hk
  ·replace h := cond_f hb338 h
   refine cr ?_
   refine o1 J (o_p (v := (O (d2 == 62))) J ?_)
   refine op J J (oe ?_)
   refine c_cond (b := (d2 == 62)) J (fun hb339 => ?_) (fun hb339 => ?_)
   ·replace h := cond_t hb339 h
    refine cr (op J J (oe (c_ret ?_)))
    refine e_blk_ret (e_then_ret (e_ret ?_))
    refine r_endt J J (kc rm0 (kc rm0 kr)) ?_
    obtain rfl := si h
    exact hk
   ·replace h := cond_f hb339 h
    refine cr ?_
    refine o1 J (o_p (v := (O (d2 == 32))) J ?_)
    refine op J J (oe ?_)
    refine c_cond (b := (d2 == 32)) J (fun hb340 => ?_) (fun hb340 => ?_)
    ·replace h := cond_t hb340 h
     refine cr (op J J (oe (c_ret ?_)))
     refine e_blk_ret (e_then_ret (e_ret ?_))
     refine r_endt J J (kc rm0 (kc rm0 kr)) ?_
     obtain rfl := si h
     exact hk
    ·replace h := cond_f hb340 h
     refine cr ?_
     refine o1 J (o_p (v := (O (d2 == 38))) J ?_)
     refine op J J (oe ?_)
     refine c_cond (b := (d2 == 38)) J (fun hb341 => ?_) (fun hb341 => ?_)
     ·replace h := cond_t hb341 h
      refine cr (op J J (oe (c_ret ?_)))
      refine e_blk_ret (e_then_ret (e_ret ?_))
      refine r_endt J J (kc rm0 (kc rm0 kr)) ?_
      obtain rfl := si h
      exact hk
     ·replace h := cond_f hb341 h
      refine c_skip (e_blk (e_seq (cr (op J J ?_))))
      refine oe (c_ret (e_ret ?_))
      refine r_endt J J (kc rm0 (kc rm0 kr)) ?_
      obtain rfl := si h
      exact hk

theorem c_page_Page_Code {g : Gw} (X : HP) (p0 : Vpage_Page) (b0 : Nat) (p1 : Int) (r : Int × Bool) (h : m_page_Page_Code p0 p1 = some r) : Tri env g 123 (A [(F b0 0), (.int .i32 p1)]) [X, pgO b0 p0.number] (fun K R => K (.tuple (A [(U r.1), (O r.2)])) (X :: pgO b0 p0.number :: R)) :=
 t_code h

theorem c_space_Space_Put {g : Gw} (X : HP) (p0 : Vspace_Space) (b0 : Nat) (s0 : SV) (p1 : Int) (p2 : Int) (r : Vspace_Space) (h : m_space_Space_Put p0 p1 p2 = some r) : Tri env g 19 (A [(F b0 0), (I p1), (U p2)]) [X, blk b0 (.cells (A [(I p0.model), (O p0.alternate), (I p0.size.Rows), (I p0.size.Cols), (V s0), (I p0.cursor), (I p0.attrs)]) 122 (0, 0)), slO s0 26 en_Vapi_Cell p0.cells] (fun K R => K (.tuple (A [])) (X :: blk b0 (.cells (A [(I r.model), (O r.alternate), (I r.size.Rows), (I r.size.Cols), (V s0), (I r.cursor), (I r.attrs)]) 122 (0, 0)) :: slO s0 26 en_Vapi_Cell r.cells :: R)) := by
 refine tri_of (fn := Tryz.f19) (N := 29) Tryz.func19 J J J ?_
 intro R K hk
 unfold m_space_Space_Put at h
 change GC _ none _ [] [(0, (F b0 0)), (1, (I p1)), (2, (U p2))] (X :: blk b0 (.cells (A [(I p0.model), (O p0.alternate), (I p0.size.Rows), (I p0.size.Cols), (V s0), (I p0.cursor), (I p0.attrs)]) 122 (0, 0)) :: slO s0 26 en_Vapi_Cell p0.cells :: R) g _ _
 refine c_seq (cr (op J J ?_))
 refine o1 J (o_p (v := (O false)) J ?_)
 refine oe ?_
 refine c_cond_f J J ?_
 refine c_skip (e_seq (c_seq ?_))
 refine c_draw (n := 1) (q := [(0, 9, (F b0 0)), (1, 10, (F b0 0)), (2, 11, (F b0 4)), (3, 12, (V s0)), (4, 13, (F b0 0)), (5, 14, (F b0 0)), (6, 15, (F b0 2)), (7, 16, (.agg (A [(I p0.size.Rows), (I p0.size.Cols)]))), (8, 17, (I p1))]) (pend := [0, 1, 2, 3, 4, 5, 6, 7, 8]) J J J ?_
 replace h := bsome h
 obtain ⟨d2, h2, h⟩ := h
 refine ⟨⟨fun _ => ⟨J, J, J, .inl ⟨J, (o_p J ⟨J, J⟩)⟩⟩, fun _ => ⟨J, J, J, .inl ⟨J, (o_p J ⟨J, J⟩)⟩⟩, fun _ => ⟨J, J, J, .inl ⟨J, (o_fa (fd := ⟨ "cells", 72, 4, false, "", "vitrine/space", 32⟩) J J J J J ⟨J, J⟩)⟩⟩, fun _ => ⟨J, J, J, .inl ⟨J, (o_ld (b := b0) (off := 4) (v := (V s0)) J rm1 J J ⟨J, J⟩)⟩⟩, fun _ => ⟨J, J, J, .inl ⟨J, (o_p J ⟨J, J⟩)⟩⟩, fun _ => ⟨J, J, J, .inl ⟨J, (o_p J ⟨J, J⟩)⟩⟩, fun _ => ⟨J, J, J, .inl ⟨J, (o_fa (fd := ⟨ "size", 120, 2, false, "", "vitrine/space", 16⟩) J J J J J ⟨J, J⟩)⟩⟩, fun _ => ⟨J, J, J, .inl ⟨J, (o_ld (b := b0) (off := 2) (v := (.agg (A [(I p0.size.Rows), (I p0.size.Cols)]))) J rm1 J J ⟨J, J⟩)⟩⟩, fun _ => ⟨J, J, J, .inl ⟨J, (o_p J ⟨J, J⟩)⟩⟩, trivial⟩, J, .inr ⟨[9], J, J, ⟨J, .inl J, ?_⟩, trivial⟩⟩
 refine (o_call has53 J (c_addr_Size_Wrap X p0.size p1 _ h2) (pc rm0 pn) ?_)
 replace h := gsome h
 obtain ⟨hg346, h⟩ := h
 refine ⟨[(10, 19, (F (SV.blk s0) (SV.off s0 + Int.toNat d2 * 6))), (11, 6, (F (SV.blk s0) (SV.off s0 + Int.toNat d2 * 6)))], [0, 1, 2, 3, 10, 11], J, J, J, J, ?_⟩
 refine ⟨⟨fun _ => ⟨J, J, J, .inl ⟨J, (o_ix (s := s0) (n := d2) (e := en_Vapi_Cell) J J J J J J rm2 (rd_own _ _ _ _) hg346 ⟨J, J⟩)⟩⟩, fun _ => ⟨J, J, J, .inl ⟨J, (o_p J ⟨J, J⟩)⟩⟩, fun _ => ⟨J, J, J, .inl ⟨J, (o_p J ⟨J, J⟩)⟩⟩, fun _ => ⟨J, J, J, .inl ⟨J, (o_p J ⟨J, J⟩)⟩⟩, fun _ => ⟨J, J, J, .inl ⟨J, (o_fa (fd := ⟨ "cells", 72, 4, false, "", "vitrine/space", 32⟩) J J J J J ⟨J, J⟩)⟩⟩, fun _ => ⟨J, J, J, .inl ⟨J, (o_ld (b := b0) (off := 4) (v := (V s0)) J rm1 J J ⟨J, J⟩)⟩⟩, (fun h => nomatch h), (fun h => nomatch h), (fun h => nomatch h), (fun h => nomatch h), (fun h => nomatch h), trivial⟩, J, J, J, ?_⟩
 refine e_seq (cr (op J J (op J J ?_)))
 refine o1 J (o_fa (fd := ⟨ "Attr", 4, 1, false, "", "", 1⟩) J J J J J ?_)
 refine o1 J (o_ldE (s := s0) (e := en_Vapi_Cell) (n := d2) (f := 1) (v := (O ((rd p0.cells d2).Attr))) J rm2 (rd_own _ _ _ _) hg346 J J ?_)
 refine o1 J (o_p (v := (O (!((rd p0.cells d2).Attr)))) J ?_)
 refine oe ?_
 refine c_cond (b := (!((rd p0.cells d2).Attr))) J (fun hb347 => ?_) (fun hb347 => ?_)
 ·replace h := cond_t hb347 h
  refine c_region (op J J (op J J (op J J ?_)))
  refine o1 J (o_fa (fd := ⟨ "Char", 5, 0, false, "", "", 0⟩) J J J J J ?_)
  refine o0 (o_stE (s := s0) (e := en_Vapi_Cell) (n := d2) (f := 0) (vs := [(U p2)]) (u := { (rd p0.cells d2) with Char := p2 }) J J rp2 hg346 J J J J J J ?_)
  refine o_end (e_fall ?_)
  refine r_endt J J (kc rm0 (kc rm0 (kc rm0 kr))) ?_
  obtain rfl := si h
  exact hk
 ·replace h := cond_f hb347 h
  refine c_skip (e_fall ?_)
  refine r_endt J J (kc rm0 (kc rm0 (kc rm0 kr))) ?_
  obtain rfl := si h
  exact hk

theorem c_keys_Board_designate {g : Gw} (X : HP) (p0 : Vkeys_Board) (b0 : Nat) (p1 : Vspace_Space) (b1 : Nat) (s0 : SV) (p2 : Vpage_Page) (b2 : Nat) (p3 : Int) (p4 : Int) (r : Vspace_Space × Vpage_Page × Vkeys_Board) (h : m_keys_Board_designate p0 p1 p2 p3 p4 = some r) : Tri env g 83 (A [(F b0 0), (.int .i32 p3), (I p4)]) [X, blk b0 (.cells (A [(F b1 0), (F b2 0), (I p0.lock), (O p0.inserts), (U p0.aid)]) 115 (0, 0)), blk b1 (.cells (A [(I p1.model), (O p1.alternate), (I p1.size.Rows), (I p1.size.Cols), (V s0), (I p1.cursor), (I p1.attrs)]) 122 (0, 0)), slO s0 26 en_Vapi_Cell p1.cells, pgO b2 p2.number] (fun K R => K (.tuple (A [])) (X :: blk b1 (.cells (A [(I r.1.model), (O r.1.alternate), (I r.1.size.Rows), (I r.1.size.Cols), (V s0), (I r.1.cursor), (I r.1.attrs)]) 122 (0, 0)) :: slO s0 26 en_Vapi_Cell r.1.cells :: pgO b2 r.2.1.number :: blk b0 (.cells (A [(F b1 0), (F b2 0), (I r.2.2.lock), (O r.2.2.inserts), (U r.2.2.aid)]) 115 (0, 0)) :: R)) := by
 refine tri_of (fn := Tryz.f83) (N := 25) Tryz.func83 J J J ?_
 intro R K hk
 unfold m_keys_Board_designate at h
 change GC _ none _ [] [(0, (F b0 0)), (1, (.int .i32 p3)), (2, (I p4))] (X :: blk b0 (.cells (A [(F b1 0), (F b2 0), (I p0.lock), (O p0.inserts), (U p0.aid)]) 115 (0, 0)) :: blk b1 (.cells (A [(I p1.model), (O p1.alternate), (I p1.size.Rows), (I p1.size.Cols), (V s0), (I p1.cursor), (I p1.attrs)]) 122 (0, 0)) :: slO s0 26 en_Vapi_Cell p1.cells :: pgO b2 p2.number :: R) g _ _
 refine cr (op J J (op J J ?_))
 refine o1 J (o_fa (fd := ⟨ "p", 35, 1, false, "", "vitrine/keys", 8⟩) J J J J J ?_)
 refine o1 J (o_ld (b := b0) (off := 1) (v := (F b2 0)) J rm1 J J ?_)
 refine op J J ?_
 replace h := bsome h
 obtain ⟨d1, h1, h⟩ := h
 refine o1 J (o_call has123 J (c_page_Page_Code X p2 b2 p3 _ h1) (pc rm0 (pc rm3 pn)) ?_)
 refine op J J (op J J (op J J (op J J (op J J (o_end ?_)))))
 refine e_seq (c_region (op J J (op J J ?_)))
 refine o1 J (o_fa (fd := ⟨ "s", 31, 0, false, "", "vitrine/keys", 0⟩) J J J J J ?_)
 refine o1 J (o_ld (b := b0) (off := 0) (v := (F b1 0)) J rm2 J J ?_)
 refine op J J ?_
 refine o1 J (o_p (v := (I (w64 (p4 + 1)))) J ?_)
 refine op J J ?_
 replace h := bsome h
 obtain ⟨d2, h2, h⟩ := h
 refine o1 J (o_call has19 J (c_space_Space_Put X p1 b1 s0 (w64 (p4 + 1)) d1.1 _ h2) (pc rm0 (pc rm2 (pc rm2 pn))) ?_)
 refine o_end (e_fall ?_)
 refine r_endt J J (kc rm0 (kc rm0 (kc rm0 (kc rm0 (kc rm0 kr))))) ?_
 obtain rfl := si h
 exact hk

theorem c_keys_Board_send {g : Gw} (X : HP) (p0 : Vkeys_Board) (b0 : Nat) (p1 : Vspace_Space) (b1 : Nat) (s0 : SV) (p2 : Vpage_Page) (b2 : Nat) (p3 : Int) (r : Vkeys_Board) (h : m_keys_Board_send p0 p1 p2 p3 = some r) : Tri env g 50 (A [(F b0 0), (U p3)]) [X, blk b0 (.cells (A [(F b1 0), (F b2 0), (I p0.lock), (O p0.inserts), (U p0.aid)]) 115 (0, 0)), blk b1 (.cells (A [(I p1.model), (O p1.alternate), (I p1.size.Rows), (I p1.size.Cols), (V s0), (I p1.cursor), (I p1.attrs)]) 122 (0, 0)), slO s0 26 en_Vapi_Cell p1.cells, pgO b2 p2.number] (fun K R => K (.tuple (A [])) (X :: blk b1 (.cells (A [(I p1.model), (O p1.alternate), (I p1.size.Rows), (I p1.size.Cols), (V s0), (I p1.cursor), (I p1.attrs)]) 122 (0, 0)) :: slO s0 26 en_Vapi_Cell p1.cells :: pgO b2 p2.number :: blk b0 (.cells (A [(F b1 0), (F b2 0), (I r.lock), (O r.inserts), (U r.aid)]) 115 (0, 0)) :: R)) := by
 refine tri_of (fn := Tryz.f50) (N := 14) Tryz.func50 J J J ?_
 intro R K hk
 unfold m_keys_Board_send at h
 change GC _ none _ [] [(0, (F b0 0)), (1, (U p3))] (X :: blk b0 (.cells (A [(F b1 0), (F b2 0), (I p0.lock), (O p0.inserts), (U p0.aid)]) 115 (0, 0)) :: blk b1 (.cells (A [(I p1.model), (O p1.alternate), (I p1.size.Rows), (I p1.size.Cols), (V s0), (I p1.cursor), (I p1.attrs)]) 122 (0, 0)) :: slO s0 26 en_Vapi_Cell p1.cells :: pgO b2 p2.number :: R) g _ _
 refine c_region (op J J (op J J (op J J (op J J (op J J ?_)))))
 refine o1 J (o_fa (fd := ⟨ "aid", 5, 4, false, "", "vitrine/keys", 25⟩) J J J J J ?_)
 refine o0 (o_st (b := b0) (off := 4) (vs := [(U p3)]) (cs' := [(F b1 0), (F b2 0), (I p0.lock), (O p0.inserts), (U p3)]) J J rp1 J J J J J J ?_)
 refine op J J ?_
 refine o1 J (o_fa (fd := ⟨ "lock", 3, 2, false, "", "vitrine/keys", 16⟩) J J J J J ?_)
 refine o0 (o_st (b := b0) (off := 2) (vs := [(I 1)]) (cs' := [(F b1 0), (F b2 0), (I 1), (O p0.inserts), (U p3)]) J J rp1 J J J J J J ?_)
 refine op J J ?_
 refine o1 J (o_fa (fd := ⟨ "inserts", 4, 3, false, "", "vitrine/keys", 24⟩) J J J J J ?_)
 refine o0 (o_st (b := b0) (off := 3) (vs := [(O false)]) (cs' := [(F b1 0), (F b2 0), (I 1), (O false), (U p3)]) J J rp1 J J J J J J ?_)
 refine o_end (e_fall ?_)
 refine r_endt J J (kc rm0 (kc rm1 (kc rm1 (kc rm1 (kc rm0 kr))))) ?_
 obtain rfl := si h
 exact hk

theorem c_field_Modify {g : Gw} (X : HP) (p0 : Vspace_Space) (b0 : Nat) (s0 : SV) (p1 : Int) (r : Vspace_Space × Bool) (h : m_field_Modify p0 p1 = some r) : Tri env g 84 (A [(F b0 0), (I p1)]) [X, blk b0 (.cells (A [(I p0.model), (O p0.alternate), (I p0.size.Rows), (I p0.size.Cols), (V s0), (I p0.cursor), (I p0.attrs)]) 122 (0, 0)), slO s0 26 en_Vapi_Cell p0.cells] (fun K R => K (O r.2) (X :: blk b0 (.cells (A [(I r.1.model), (O r.1.alternate), (I r.1.size.Rows), (I r.1.size.Cols), (V s0), (I r.1.cursor), (I r.1.attrs)]) 122 (0, 0)) :: slO s0 26 en_Vapi_Cell r.1.cells :: R)) := by
 refine tri_of (fn := Tryz.f84) (N := 23) Tryz.func84 J J J ?_
 intro R K hk
 unfold m_field_Modify at h
 change GC _ none _ [] [(0, (F b0 0)), (1, (I p1))] (X :: blk b0 (.cells (A [(I p0.model), (O p0.alternate), (I p0.size.Rows), (I p0.size.Cols), (V s0), (I p0.cursor), (I p0.attrs)]) 122 (0, 0)) :: slO s0 26 en_Vapi_Cell p0.cells :: R) g _ _
 refine cr (op J J (oe (c_seq ?_)))
 refine c_region (op J J (op J J ?_))
 replace h := bsome h
 obtain ⟨d1, h1, h⟩ := h
 refine o1 J (o_call has78 J (c_field_Start X p0 b0 s0 p1 _ h1) (pc rm0 (pc rm0 (pc rm0 pn))) ?_)
 refine op J J (oe (c_seq (cr ?_)))
 refine op J J ?_
 refine o1 J (o_p (v := (O (d1 == (-1)))) J ?_)
 refine oe ?_
 refine c_cond (b := (d1 == (-1))) J (fun hb356 => ?_) (fun hb356 => ?_)
 ·replace h := cond_t hb356 h
  refine cr (op J J (oe (c_ret ?_)))
  refine e_then_ret (e_ret ?_)
  refine r_endt J J (kc rm0 (kc rm0 (kc rm0 kr))) ?_
  obtain rfl := si h
  exact hk
 ·replace h := cond_f hb356 h
  refine c_skip (e_seq (cr (op J J (op J J ?_))))
  replace h := bsome h
  obtain ⟨d3, h3, h⟩ := h
  refine o1 J (o_call has13 J (c_space_Space_At X p0 b0 s0 d1 _ h3) (pc rm0 (pc rm0 (pc rm0 pn))) ?_)
  refine o1 J (o_alloc (cs := [(U 0), (O false), (U 0), (U 0), (U 0), (U 0)]) J J (fun b357 => ?_))
  refine o0 (o_st (b := b357) (off := 0) (vs := [(U d3.Char), (O d3.Attr), (U d3.FA), (U d3.High), (U d3.Color), (U d3.f_Set)]) (cs' := [(U d3.Char), (O d3.Attr), (U d3.FA), (U d3.High), (U d3.Color), (U d3.f_Set)]) J J rp0 J J J J J J ?_)
  refine oe (cr ?_)
  refine o1 J (o_fa (fd := ⟨ "FA", 5, 2, false, "", "", 2⟩) J J J J J ?_)
  refine o1 J (o_ld (b := b357) (off := 2) (v := (U d3.FA)) J rm0 J J ?_)
  refine o1 J (o_p (v := (U (ibor .u8 d3.FA 1))) J ?_)
  refine o1 J (o_fa (fd := ⟨ "FA", 5, 2, false, "", "", 2⟩) J J J J J ?_)
  refine o0 (o_st (b := b357) (off := 2) (vs := [(U (ibor .u8 d3.FA 1))]) (cs' := [(U d3.Char), (O d3.Attr), (U (ibor .u8 d3.FA 1)), (U d3.High), (U d3.Color), (U d3.f_Set)]) J J rp0 J J J J J J ?_)
  refine oe (cr (op J J (op J J ?_)))
  refine o1 J (o_ld (b := b357) (off := 0) (v := (.agg (A [(U d3.Char), (O d3.Attr), (U (ibor .u8 d3.FA 1)), (U d3.High), (U d3.Color), (U d3.f_Set)]))) J rm0 J J ?_)
  replace h := bsome h
  obtain ⟨d4, h4, h⟩ := h
  refine o1 J (o_call has42 J (c_space_Space_Set X p0 b0 s0 d1 (⟨d3.Char, d3.Attr, ibor .u8 d3.FA 1, d3.High, d3.Color, d3.f_Set⟩ : Vapi_Cell) _ h4) (pc rm1 (pc rm1 (pc rm1 pn))) ?_)
  refine oe (cr (op J J (o_end ?_)))
  refine e_seq (c_ret (e_ret ?_))
  refine r_endt J J (kc rm0 (kc rm0 (kc rm0 (kd kr)))) ?_
  obtain rfl := si h
  exact hk

theorem c_keys_Board_choose {g : Gw} (X : HP) (p0 : Vkeys_Board) (b0 : Nat) (p1 : Vspace_Space) (b1 : Nat) (s0 : SV) (p2 : Vpage_Page) (b2 : Nat) (r : Vspace_Space × Vpage_Page × Vkeys_Board × Bool × Int) (h : m_keys_Board_choose p0 p1 p2 = some r) : Tri env g 49 (A [(F b0 0)]) [X, blk b0 (.cells (A [(F b1 0), (F b2 0), (I p0.lock), (O p0.inserts), (U p0.aid)]) 115 (0, 0)), blk b1 (.cells (A [(I p1.model), (O p1.alternate), (I p1.size.Rows), (I p1.size.Cols), (V s0), (I p1.cursor), (I p1.attrs)]) 122 (0, 0)), slO s0 26 en_Vapi_Cell p1.cells, pgO b2 p2.number] (fun K R => K (.tuple (A [(O r.2.2.2.1), (I r.2.2.2.2)])) (X :: blk b1 (.cells (A [(I r.1.model), (O r.1.alternate), (I r.1.size.Rows), (I r.1.size.Cols), (V s0), (I r.1.cursor), (I r.1.attrs)]) 122 (0, 0)) :: slO s0 26 en_Vapi_Cell r.1.cells :: pgO b2 r.2.1.number :: blk b0 (.cells (A [(F b1 0), (F b2 0), (I r.2.2.1.lock), (O r.2.2.1.inserts), (U r.2.2.1.aid)]) 115 (0, 0)) :: R)) := by
 refine tri_of (fn := Tryz.f49) (N := 97) Tryz.func49 J J J ?_
 intro R K hk
 unfold m_keys_Board_choose at h
 change GC _ none _ [] [(0, (F b0 0))] (X :: blk b0 (.cells (A [(F b1 0), (F b2 0), (I p0.lock), (O p0.inserts), (U p0.aid)]) 115 (0, 0)) :: blk b1 (.cells (A [(I p1.model), (O p1.alternate), (I p1.size.Rows), (I p1.size.Cols), (V s0), (I p1.cursor), (I p1.attrs)]) 122 (0, 0)) :: slO s0 26 en_Vapi_Cell p1.cells :: pgO b2 p2.number :: R) g _ _
 refine cr (op J J (op J J (oe ?_)))
 refine cr (op J J (op J J ?_))
 refine o1 J (o_fa (fd := ⟨ "s", 31, 0, false, "", "vitrine/keys", 0⟩) J J J J J ?_)
 refine o1 J (o_ld (b := b0) (off := 0) (v := (F b1 0)) J rm1 J J ?_)
 replace h := bsome h
 obtain ⟨d1, h1, h⟩ := h
 refine o1 J (o_call has24 J (c_space_Space_Cursor X p1 b1 s0 _ h1) (pc rm0 (pc rm1 (pc rm1 pn))) ?_)
 refine op J J (oe (cr (op J J ?_)))
 refine op J J ?_
 refine o1 J (o_fa (fd := ⟨ "s", 31, 0, false, "", "vitrine/keys", 0⟩) J J J J J ?_)
 refine o1 J (o_ld (b := b0) (off := 0) (v := (F b1 0)) J rm3 J J ?_)
 refine op J J ?_
 replace h := bsome h
 obtain ⟨d2, h2, h⟩ := h
 refine o1 J (o_call has78 J (c_field_Start X p1 b1 s0 d1 _ h2) (pc rm0 (pc rm0 (pc rm0 pn))) ?_)
 refine op J J (oe (cr (op J J ?_)))
 refine op J J ?_
 refine o1 J (o_fa (fd := ⟨ "s", 31, 0, false, "", "vitrine/keys", 0⟩) J J J J J ?_)
 refine o1 J (o_ld (b := b0) (off := 0) (v := (F b1 0)) J rm3 J J ?_)
 refine op J J ?_
 replace h := bsome h
 obtain ⟨d3, h3, h⟩ := h
 refine o1 J (o_call has79 J (c_field_Of X p1 b1 s0 d1 _ h3) (pc rm0 (pc rm0 (pc rm0 pn))) ?_)
 refine op J J (op J J (op J J ?_))
 refine o1 J (o_alloc (cs := [(O false), (O false), (I 0), (O false)]) J J (fun b327 => ?_))
 refine o0 (o_st (b := b327) (off := 0) (vs := [(O d3.1.Protected), (O d3.1.Numeric), (I d3.1.Display), (O d3.1.Modified)]) (cs' := [(O d3.1.Protected), (O d3.1.Numeric), (I d3.1.Display), (O d3.1.Modified)]) J J rp0 J J J J J J ?_)
 refine op J J (oe (c_seq (c_seq ?_)))
 replace h := bsome h
 obtain ⟨d4, h, hk4⟩ := h
 refine cj (D := Unit) (ι := Unit) (fun _ i4 => True) (fun _ i4 => [(44, (O d4)), (6, (F b327 0)), (5, (I d2)), (4, (I d1)), (0, (F b0 0))]) (fun _ i4 => X :: blk b327 (.cells (A [(O d3.1.Protected), (O d3.1.Numeric), (I d3.1.Display), (O d3.1.Modified)]) 153 (0, 0)) :: blk b0 (.cells (A [(F b1 0), (F b2 0), (I p0.lock), (O p0.inserts), (U p0.aid)]) 115 (0, 0)) :: blk b1 (.cells (A [(I p1.model), (O p1.alternate), (I p1.size.Rows), (I p1.size.Cols), (V s0), (I p1.cursor), (I p1.attrs)]) 122 (0, 0)) :: pgO b2 p2.number :: slO s0 26 en_Vapi_Cell p1.cells :: R) ?_ ?_
 ·refine c_region (op J J ?_)
  refine o1 J (o_p (v := (O (!d3.2))) J ?_)
  refine op J J ?_
  rcases bool_or ((!d3.2)) with hb329 | hb329
  ·replace h := cond_t hb329 h
   refine on J J J hb329 ?_
   refine on J J J hb329 ?_
   refine on J J J hb329 ?_
   refine on J J J hb329 ?_
   refine on J J J hb329 ?_
   refine on J J J hb329 ?_
   refine on J J J hb329 ?_
   refine o1 J (o_pick_t J hb329 J ?_)
   refine op J J ?_
   refine on J J J J ?_
   refine on J J J J ?_
   refine on J J J J ?_
   refine o1 J (o_pick_t J J J ?_)
   refine o_end ?_
   obtain rfl := si h
   exact ej () () trivial (sc J (sc J (sc J (sc J (sc J sn))))) (kc rm1 (kc rm0 (kc rm2 (kc rm0 (kc rm1 (kc rm0 kr))))))
  ·replace h := cond_f hb329 h
   refine oy J J J hb329 (o_p J ?_)
   refine oy J J J hb329 (o_p J ?_)
   refine oy J J J hb329 (o_fa (fd := ⟨ "s", 31, 0, false, "", "vitrine/keys", 0⟩) J J J J J ?_)
   refine oy J J J hb329 (o_ld (b := b0) (off := 0) (v := (F b1 0)) J rm4 J J ?_)
   refine oy J J J hb329 (o_p J ?_)
   replace h := bsome h
   obtain ⟨d5, h5, h⟩ := h
   refine oy J J J hb329 (o_call has13 J (c_space_Space_At X p1 b1 s0 d1 _ h5) (pc rm1 (pc rm1 (pc rm1 pn))) ?_)
   refine oy J J J hb329 (o_field (v := (O d5.Attr)) J J J ?_)
   refine o1 J (o_pick_f J hb329 J ?_)
   refine op J J ?_
   rcases bool_or (d5.Attr) with hb330 | hb330
   ·replace h := cond_t hb330 h
    refine on J J J hb330 ?_
    refine on J J J hb330 ?_
    refine on J J J hb330 ?_
    refine o1 J (o_pick_t J hb330 J ?_)
    refine o_end ?_
    obtain rfl := si h
    exact ej () () trivial (sc J (sc J (sc J (sc J (sc J sn))))) (kc rm0 (kc rm2 (kc rm2 (kc rm0 (kc rm1 (kc rm0 kr))))))
   ·replace h := cond_f hb330 h
    refine oy J J J hb330 (o_ld (b := b327) (off := 0) (v := (.agg (A [(O d3.1.Protected), (O d3.1.Numeric), (I d3.1.Display), (O d3.1.Modified)]))) J rm3 J J ?_)
    replace h := bsome h
    obtain ⟨d6, h6, h⟩ := h
    refine oy J J J hb330 (o_call has80 J (c_attr_Field_Detectable X d3.1 _ h6) (pc rm0 pn) ?_)
    refine oy J J J hb330 (o_p (v := (O (!d6))) J ?_)
    refine o1 J (o_pick_f J hb330 J ?_)
    refine o_end ?_
    obtain rfl := si h
    exact ej () () trivial (sc J (sc J (sc J (sc J (sc J sn))))) (kc rm0 (kc rm2 (kc rm2 (kc rm0 (kc rm1 (kc rm0 kr))))))
 ·rintro _ i4 _
  replace h := hk4
  clear hk4
  refine e_seq ?_
  refine c_cond (b := d4) J (fun hb334 => ?_) (fun hb334 => ?_)
  ·replace h := cond_t hb334 h
   refine cr (op J J ?_)
   replace h := bsome h
   obtain ⟨d8, h8, h⟩ := h
   refine o1 J (o_call has81 J (c_keys_Board_refuse X p0 b0 p1 b1 s0 p2 b2 2 _ h8) (pc rm0 (pc rm1 (pc rm1 (pc rm2 (pc rm1 pn))))) ?_)
   refine op J J (op J J (oe (c_ret (e_then_ret ?_))))
   refine e_ret ?_
   refine r_endt J J (kc rm0 (kc rm0 (kc rm0 (kc rm0 (kc rm0 (kd kr)))))) ?_
   obtain rfl := si h
   exact hk
  ·replace h := cond_f hb334 h
   refine c_skip (e_seq (c_seq ?_))
   refine c_draw (n := 2) (q := [(0, 47, (F b0 0)), (1, 48, (F b0 0)), (2, 49, (F b0 1)), (3, 50, (F b2 0)), (4, 51, (F b0 0)), (5, 52, (F b0 0)), (6, 53, (F b0 0)), (7, 54, (F b1 0)), (8, 55, (I d2)), (9, 56, (I (w64 (d2 + 1))))]) (pend := [0, 1, 2, 3, 4, 5, 6, 7, 8, 9]) J J J ?_
   replace h := bsome h
   obtain ⟨d10, h10, h⟩ := h
   refine ⟨⟨fun _ => ⟨J, J, J, .inl ⟨J, (o_p J ⟨J, J⟩)⟩⟩, fun _ => ⟨J, J, J, .inl ⟨J, (o_p J ⟨J, J⟩)⟩⟩, fun _ => ⟨J, J, J, .inl ⟨J, (o_fa (fd := ⟨ "p", 35, 1, false, "", "vitrine/keys", 8⟩) J J J J J ⟨J, J⟩)⟩⟩, fun _ => ⟨J, J, J, .inl ⟨J, (o_ld (b := b0) (off := 1) (v := (F b2 0)) J rm2 J J ⟨J, J⟩)⟩⟩, fun _ => ⟨J, J, J, .inl ⟨J, (o_p J ⟨J, J⟩)⟩⟩, fun _ => ⟨J, J, J, .inl ⟨J, (o_p J ⟨J, J⟩)⟩⟩, fun _ => ⟨J, J, J, .inl ⟨J, (o_fa (fd := ⟨ "s", 31, 0, false, "", "vitrine/keys", 0⟩) J J J J J ⟨J, J⟩)⟩⟩, fun _ => ⟨J, J, J, .inl ⟨J, (o_ld (b := b0) (off := 0) (v := (F b1 0)) J rm2 J J ⟨J, J⟩)⟩⟩, fun _ => ⟨J, J, J, .inl ⟨J, (o_p J ⟨J, J⟩)⟩⟩, fun _ => ⟨J, J, J, .inl ⟨J, (o_p (v := (I (w64 (d2 + 1)))) J ⟨J, J⟩)⟩⟩, trivial⟩, J, .inr ⟨[10], J, J, ⟨J, .inl J, ?_⟩, trivial⟩⟩
   refine (o_call has13 J (c_space_Space_At X p1 b1 s0 (w64 (d2 + 1)) _ h10) (pc rm0 (pc rm2 (pc rm3 pn))) ?_)
   refine ⟨[(11, 58, (U d10.Char))], [0, 1, 2, 3, 11], J, J, J, J, ?_⟩
   replace h := bsome h
   obtain ⟨d11, h11, h⟩ := h
   refine ⟨⟨fun _ => ⟨J, J, J, .inl ⟨J, (o_field (v := (U d10.Char)) J J J ⟨J, J⟩)⟩⟩, fun _ => ⟨J, J, J, .inl ⟨J, (o_p J ⟨J, J⟩)⟩⟩, fun _ => ⟨J, J, J, .inl ⟨J, (o_p J ⟨J, J⟩)⟩⟩, fun _ => ⟨J, J, J, .inl ⟨J, (o_fa (fd := ⟨ "p", 35, 1, false, "", "vitrine/keys", 8⟩) J J J J J ⟨J, J⟩)⟩⟩, fun _ => ⟨J, J, J, .inl ⟨J, (o_ld (b := b0) (off := 1) (v := (F b2 0)) J rm4 J J ⟨J, J⟩)⟩⟩, (fun h => nomatch h), (fun h => nomatch h), (fun h => nomatch h), (fun h => nomatch h), (fun h => nomatch h), (fun h => nomatch h), trivial⟩, J, .inr ⟨[12], J, J, ⟨J, .inl J, ?_⟩, trivial⟩⟩
   refine (o_call has82 J (c_class_Designator X p2 b2 d10.Char _ h11) (pc rm0 (pc rm4 pn)) ?_)
   refine ⟨[(13, 8, (I d11))], [13], J, J, J, J, ?_⟩
   refine ⟨⟨fun _ => ⟨J, J, J, .inl ⟨J, (o_p J ⟨J, J⟩)⟩⟩, (fun h => nomatch h), (fun h => nomatch h), (fun h => nomatch h), (fun h => nomatch h), (fun h => nomatch h), (fun h => nomatch h), (fun h => nomatch h), (fun h => nomatch h), (fun h => nomatch h), (fun h => nomatch h), (fun h => nomatch h), trivial⟩, J, J, J, ?_⟩
   refine e_seq (c_seq (c_seq ?_))
   replace h := bsome h
   obtain ⟨d12, h, hk12⟩ := h
   refine cj (D := Unit) (ι := Unit) (fun _ i12 => True) (fun _ i12 => [(69, (O d12)), (8, (I d11)), (5, (I d2)), (4, (I d1)), (0, (F b0 0))]) (fun _ i12 => X :: blk b0 (.cells (A [(F b1 0), (F b2 0), (I p0.lock), (O p0.inserts), (U p0.aid)]) 115 (0, 0)) :: blk b1 (.cells (A [(I p1.model), (O p1.alternate), (I p1.size.Rows), (I p1.size.Cols), (V s0), (I p1.cursor), (I p1.attrs)]) 122 (0, 0)) :: pgO b2 p2.number :: slO s0 26 en_Vapi_Cell p1.cells :: R) ?_ ?_
   ·refine c_region (op J J ?_)
    refine o1 J (o_p (v := (O (d11 == 0))) J ?_)
    refine op J J ?_
    rcases bool_or ((d11 == 0)) with hb342 | hb342
    ·replace h := cond_t hb342 h
     refine on J J J hb342 ?_
     refine on J J J hb342 ?_
     refine on J J J hb342 ?_
     refine ou J J J ?_
     refine ou J J J ?_
     refine on J J J hb342 ?_
     refine o1 J (o_pick_t J hb342 J ?_)
     refine o_end ?_
     obtain rfl := si h
     exact ej () () trivial (sc J (sc J (sc J (sc J (sc J sn))))) (kc rm0 (kc rm4 (kc rm1 (kc rm0 (kc rm0 (kd kr))))))
    ·replace h := cond_f hb342 h
     refine oy J J J hb342 (o_p J ?_)
     refine oy J J J hb342 (o_p (v := (O (decide (d11 < 3)))) J ?_)
     refine oy J J J hb342 (o_p J ?_)
     rcases bool_or ((decide (d11 < 3))) with hb343 | hb343
     ·replace h := cond_t hb343 h
      refine oy J J J hb343 (o_fa (fd := ⟨ "Protected", 4, 0, false, "", "", 0⟩) J J J J J ?_)
      refine oy J J J hb343 (o_ld (b := b327) (off := 0) (v := (O d3.1.Protected)) J rm4 J J ?_)
      refine oy J J J hb342 (o_pick_t J hb343 J ?_)
      refine o1 J (o_pick_f J hb342 J ?_)
      refine o_end ?_
      obtain rfl := si h
      exact ej () () trivial (sc J (sc J (sc J (sc J (sc J sn))))) (kc rm0 (kc rm4 (kc rm1 (kc rm0 (kc rm0 (kd kr))))))
     ·replace h := cond_f hb343 h
      refine on J J J hb343 ?_
      refine on J J J hb343 ?_
      refine oy J J J hb342 (o_pick_f J hb343 J ?_)
      refine o1 J (o_pick_f J hb342 J ?_)
      refine o_end ?_
      obtain rfl := si h
      exact ej () () trivial (sc J (sc J (sc J (sc J (sc J sn))))) (kc rm0 (kc rm4 (kc rm1 (kc rm0 (kc rm0 (kd kr))))))
   ·rintro _ i12 _
    replace h := hk12
    clear hk12
    refine e_seq ?_
    refine c_cond (b := d12) J (fun hb344 => ?_) (fun hb344 => ?_)
    ·replace h := cond_t hb344 h
     refine cr (op J J ?_)
     replace h := bsome h
     obtain ⟨d14, h14, h⟩ := h
     refine o1 J (o_call has81 J (c_keys_Board_refuse X (⟨p0.lock, p0.inserts, p0.aid⟩ : Vkeys_Board) b0 p1 b1 s0 p2 b2 2 _ h14) (pc rm0 (pc rm0 (pc rm0 (pc rm1 (pc rm0 pn))))) ?_)
     refine op J J (op J J (oe (c_ret (e_then_ret ?_))))
     refine e_ret ?_
     refine r_endt J J (kc rm0 (kc rm0 (kc rm0 (kc rm0 (kc rm0 kr))))) ?_
     obtain rfl := si h
     exact hk
    ·replace h := cond_f hb344 h
     refine c_skip (e_seq (c_seq (cr (op J J ?_))))
     refine oe (c_block (cr ?_))
     refine o1 J (o_p (v := (O (d11 == 1))) J ?_)
     refine op J J (oe ?_)
     replace h := jn_some h
     obtain ⟨y16, h, hk16⟩ := h
     refine cj (D := Int × Bool × Int × Int × Bool × Int × Int × (List Vapi_Cell) × Int × Int × Int) (ι := Unit) (fun d16 i16 => y16 = Sum.inl d16) (fun d16 i16 => [(8, (I d11)), (4, (I d1)), (0, (F b0 0))]) (fun d16 i16 => X :: blk b0 (.cells (A [(F b1 0), (F b2 0), (I d16.1), (O d16.2.1), (U d16.2.2.1)]) 115 (0, 0)) :: blk b1 (.cells (A [(I d16.2.2.2.1), (O d16.2.2.2.2.1), (I d16.2.2.2.2.2.1), (I d16.2.2.2.2.2.2.1), (V s0), (I d16.2.2.2.2.2.2.2.2.1), (I d16.2.2.2.2.2.2.2.2.2.1)]) 122 (0, 0)) :: pgO b2 d16.2.2.2.2.2.2.2.2.2.2 :: slO s0 26 en_Vapi_Cell d16.2.2.2.2.2.2.2.1 :: R) ?_ ?_
     ·refine c_cond (b := (d11 == 1)) J (fun hb345 => ?_) (fun hb345 => ?_)
      ·replace h := cond_t hb345 h
       refine c_region (op J J (op J J ?_))
       replace h := bsome h
       obtain ⟨d17, h17, h⟩ := h
       refine o1 J (o_call has83 J (c_keys_Board_designate X (⟨p0.lock, p0.inserts, p0.aid⟩ : Vkeys_Board) b0 p1 b1 s0 p2 b2 62 d2 _ h17) (pc rm0 (pc rm0 (pc rm0 (pc rm1 (pc rm0 pn))))) ?_)
       refine o_end ?_
       obtain rfl := si h
       exact ej (d17.2.2.lock, d17.2.2.inserts, d17.2.2.aid, d17.1.model, d17.1.alternate, d17.1.size.Rows, d17.1.size.Cols, d17.1.cells, d17.1.cursor, d17.1.attrs, d17.2.1.number) () J (sc J (sc J (sc J sn))) (kc rm0 (kc rm3 (kc rm0 (kc rm1 (kc rm0 kr)))))
      ·replace h := cond_f hb345 h
       refine cr ?_
       refine o1 J (o_p (v := (O (d11 == 2))) J ?_)
       refine op J J (oe ?_)
       refine c_cond (b := (d11 == 2)) J (fun hb352 => ?_) (fun hb352 => ?_)
       ·replace h := cond_t hb352 h
        refine cr (op J J (op J J ?_))
        replace h := bsome h
        obtain ⟨d18, h18, h⟩ := h
        refine o1 J (o_call has83 J (c_keys_Board_designate X (⟨p0.lock, p0.inserts, p0.aid⟩ : Vkeys_Board) b0 p1 b1 s0 p2 b2 63 d2 _ h18) (pc rm0 (pc rm0 (pc rm0 (pc rm1 (pc rm0 pn))))) ?_)
        refine oe (cr (op J J (op J J ?_)))
        refine oe (c_ret (ej_ret ?_))
        replace h := esc_some h
        obtain ⟨z16, h, rfl⟩ := h
        obtain rfl := (hk16 : z16 = _)
        refine e_blk_ret (e_then_ret (e_ret ?_))
        refine r_endt J J (kc rm0 (kc rm0 (kc rm0 (kc rm0 (kc rm0 kr))))) ?_
        obtain rfl := si h
        exact hk
       ·replace h := cond_f hb352 h
        refine cr ?_
        refine o1 J (o_p (v := (O (d11 == 3))) J ?_)
        refine op J J (oe ?_)
        refine c_cond (b := (d11 == 3)) J (fun hb354 => ?_) (fun hb354 => ?_)
        ·replace h := cond_t hb354 h
         refine c_region (op J J ?_)
         replace h := bsome h
         obtain ⟨d19, h19, h⟩ := h
         refine o1 J (o_call has50 J (c_keys_Board_send X p0 b0 p1 b1 s0 p2 b2 126 _ h19) (pc rm0 (pc rm0 (pc rm0 (pc rm1 (pc rm0 pn))))) ?_)
         refine o_end ?_
         obtain rfl := si h
         exact ej (d19.lock, d19.inserts, d19.aid, p1.model, p1.alternate, p1.size.Rows, p1.size.Cols, p1.cells, p1.cursor, p1.attrs, p2.number) () J (sc J (sc J (sc J sn))) (kc rm0 (kc rm3 (kc rm0 (kc rm1 (kc rm0 kr)))))
        ·replace h := cond_f hb354 h
         refine c_region (op J J ?_)
         replace h := bsome h
         obtain ⟨d20, h20, h⟩ := h
         refine o1 J (o_call has50 J (c_keys_Board_send X p0 b0 p1 b1 s0 p2 b2 125 _ h20) (pc rm0 (pc rm0 (pc rm0 (pc rm1 (pc rm0 pn))))) ?_)
         refine o_end ?_
         obtain rfl := si h
         exact ej (d20.lock, d20.inserts, d20.aid, p1.model, p1.alternate, p1.size.Rows, p1.size.Cols, p1.cells, p1.cursor, p1.attrs, p2.number) () J (sc J (sc J (sc J sn))) (kc rm0 (kc rm3 (kc rm0 (kc rm1 (kc rm0 kr)))))
     ·rintro d16 i16 rfl
      replace h := JK_inl hk16
      clear hk16
      refine e_blk (e_seq (cr (op J J (op J J ?_))))
      refine o1 J (o_fa (fd := ⟨ "s", 31, 0, false, "", "vitrine/keys", 0⟩) J J J J J ?_)
      refine o1 J (o_ld (b := b0) (off := 0) (v := (F b1 0)) J rm1 J J ?_)
      refine op J J ?_
      replace h := bsome h
      obtain ⟨d21, h21, h⟩ := h
      refine o1 J (o_call has84 J (c_field_Modify X (⟨d16.2.2.2.1, d16.2.2.2.2.1, (⟨d16.2.2.2.2.2.1, d16.2.2.2.2.2.2.1⟩ : Vaddr_Size), d16.2.2.2.2.2.2.2.1, d16.2.2.2.2.2.2.2.2.1, d16.2.2.2.2.2.2.2.2.2.1⟩ : Vspace_Space) b1 s0 d1 _ h21) (pc rm0 (pc rm1 (pc rm2 pn))) ?_)
      refine oe (cr (op J J ?_))
      refine o1 J (o_p (v := (O (decide (d11 > 2)))) J ?_)
      refine op J J (op J J (oe (c_ret (e_ret ?_))))
      refine r_endt J J (kc rm0 (kc rm0 (kc rm0 (kc rm1 (kc rm0 kr))))) ?_
      obtain rfl := si h
      exact hk

theorem c_field_first {g : Gw} (X : HP) (p0 : Vspace_Space) (b0 : Nat) (s0 : SV) (p1 : Int) (r : Bool) (h : m_field_first p0 p1 = some r) : Tri env g 161 (A [(F b0 0), (I p1)]) [X, blk b0 (.cells (A [(I p0.model), (O p0.alternate), (I p0.size.Rows), (I p0.size.Cols), (V s0), (I p0.cursor), (I p0.attrs)]) 122 (0, 0)), slO s0 26 en_Vapi_Cell p0.cells] (fun K R => K (O r) (X :: blk b0 (.cells (A [(I p0.model), (O p0.alternate), (I p0.size.Rows), (I p0.size.Cols), (V s0), (I p0.cursor), (I p0.attrs)]) 122 (0, 0)) :: slO s0 26 en_Vapi_Cell p0.cells :: R)) := by
 refine tri_of (fn := Tryz.f161) (N := 26) Tryz.func161 J J J ?_
 intro R K hk
 unfold m_field_first at h
 change GC _ none _ [] [(0, (F b0 0)), (1, (I p1))] (X :: blk b0 (.cells (A [(I p0.model), (O p0.alternate), (I p0.size.Rows), (I p0.size.Cols), (V s0), (I p0.cursor), (I p0.attrs)]) 122 (0, 0)) :: slO s0 26 en_Vapi_Cell p0.cells :: R) g _ _
 refine cr (op J J (oe (c_seq ?_)))
 refine c_region (op J J (op J J ?_))
 refine o1 J (o_p (v := (I (w64 (p1 - 1)))) J ?_)
 replace h := bsome h
 obtain ⟨d1, h1, h⟩ := h
 refine o1 J (o_call has13 J (c_space_Space_At X p0 b0 s0 (w64 (p1 - 1)) _ h1) (pc rm0 (pc rm0 (pc rm0 pn))) ?_)
 refine o1 J (o_alloc (cs := [(U 0), (O false), (U 0), (U 0), (U 0), (U 0)]) J J (fun b374 => ?_))
 refine o0 (o_st (b := b374) (off := 0) (vs := [(U d1.Char), (O d1.Attr), (U d1.FA), (U d1.High), (U d1.Color), (U d1.f_Set)]) (cs' := [(U d1.Char), (O d1.Attr), (U d1.FA), (U d1.High), (U d1.Color), (U d1.f_Set)]) J J rp0 J J J J J J ?_)
 refine oe (c_seq ?_)
 replace h := bsome h
 obtain ⟨d2, h, hk2⟩ := h
 refine cj (D := Unit) (ι := Unit) (fun _ i2 => True) (fun _ i2 => [(4, (O d2))]) (fun _ i2 => X :: blk b0 (.cells (A [(I p0.model), (O p0.alternate), (I p0.size.Rows), (I p0.size.Cols), (V s0), (I p0.cursor), (I p0.attrs)]) 122 (0, 0)) :: slO s0 26 en_Vapi_Cell p0.cells :: R) ?_ ?_
 ·refine c_region ?_
  refine o1 J (o_fa (fd := ⟨ "Attr", 4, 1, false, "", "", 1⟩) J J J J J ?_)
  refine o1 J (o_ld (b := b374) (off := 1) (v := (O d1.Attr)) J rm0 J J ?_)
  refine op J J ?_
  rcases bool_or (d1.Attr) with hb376 | hb376
  ·replace h := cond_t hb376 h
   refine oy J J J hb376 (o_p J ?_)
   refine oy J J J hb376 (o_p J ?_)
   replace h := bsome h
   obtain ⟨d3, h3, h⟩ := h
   refine oy J J J hb376 (o_call has13 J (c_space_Space_At X p0 b0 s0 p1 _ h3) (pc rm1 (pc rm1 (pc rm1 pn))) ?_)
   refine oy J J J hb376 (o_field (v := (O d3.Attr)) J J J ?_)
   refine oy J J J hb376 (o_p (v := (O (!d3.Attr))) J ?_)
   refine o1 J (o_pick_t J hb376 J ?_)
   refine op J J ?_
   rcases bool_or ((!d3.Attr)) with hb377 | hb377
   ·replace h := cond_t hb377 h
    refine oy J J J hb377 (o_fa (fd := ⟨ "FA", 5, 2, false, "", "", 2⟩) J J J J J ?_)
    refine oy J J J hb377 (o_ld (b := b374) (off := 2) (v := (U d1.FA)) J rm3 J J ?_)
    replace h := bsome h
    obtain ⟨d4, h4, h⟩ := h
    refine oy J J J hb377 (o_call has122 J (c_attr_Of X d1.FA _ h4) (pc rm0 pn) ?_)
    refine oy J J J hb377 (o_field (v := (O d4.Protected)) J J J ?_)
    refine oy J J J hb377 (o_p (v := (O (!d4.Protected))) J ?_)
    refine o1 J (o_pick_t J hb377 J ?_)
    refine op J J (o_end ?_)
    obtain rfl := si h
    exact ej () () trivial (sc J sn) (kc rm0 (kc rm0 (kc rm0 (kd kr))))
   ·replace h := cond_f hb377 h
    refine on J J J hb377 ?_
    refine on J J J hb377 ?_
    refine on J J J hb377 ?_
    refine on J J J hb377 ?_
    refine on J J J hb377 ?_
    refine o1 J (o_pick_f J hb377 J ?_)
    refine op J J (o_end ?_)
    obtain rfl := si h
    exact ej () () trivial (sc J sn) (kc rm0 (kc rm0 (kc rm0 (kd kr))))
  ·replace h := cond_f hb376 h
   refine on J J J hb376 ?_
   refine on J J J hb376 ?_
   refine on J J J hb376 ?_
   refine on J J J hb376 ?_
   refine on J J J hb376 ?_
   refine o1 J (o_pick_f J hb376 J ?_)
   refine op J J ?_
   refine on J J J J ?_
   refine on J J J J ?_
   refine on J J J J ?_
   refine on J J J J ?_
   refine on J J J J ?_
   refine o1 J (o_pick_f J J J ?_)
   refine op J J (o_end ?_)
   obtain rfl := si h
   exact ej () () trivial (sc J sn) (kc rm1 (kc rm1 (kc rm1 (kd kr))))
 ·rintro _ i2 _
  replace h := hk2
  clear hk2
  refine e_seq (c_ret (e_ret ?_))
  refine r_endt J J (kc rm0 (kc rm0 (kc rm0 kr))) ?_
  obtain rfl := si h
  exact hk

theorem c_field_find {g : Gw} (X : HP) (p0 : Vspace_Space) (b0 : Nat) (s0 : SV) (p1 : Int) (p2 : Int) (r : Int) (h : m_field_find p0 p1 p2 = some r) : Tri env g 144 (A [(F b0 0), (I p1), (I p2)]) [X, blk b0 (.cells (A [(I p0.model), (O p0.alternate), (I p0.size.Rows), (I p0.size.Cols), (V s0), (I p0.cursor), (I p0.attrs)]) 122 (0, 0)), slO s0 26 en_Vapi_Cell p0.cells] (fun K R => K (I r) (X :: blk b0 (.cells (A [(I p0.model), (O p0.alternate), (I p0.size.Rows), (I p0.size.Cols), (V s0), (I p0.cursor), (I p0.attrs)]) 122 (0, 0)) :: slO s0 26 en_Vapi_Cell p0.cells :: R)) := by
 refine tri_of (fn := Tryz.f144) (N := 24) Tryz.func144 J J J ?_
 intro R K hk
 unfold m_field_find at h
 change GC _ none _ [] [(0, (F b0 0)), (1, (I p1)), (2, (I p2))] (X :: blk b0 (.cells (A [(I p0.model), (O p0.alternate), (I p0.size.Rows), (I p0.size.Cols), (V s0), (I p0.cursor), (I p0.attrs)]) 122 (0, 0)) :: slO s0 26 en_Vapi_Cell p0.cells :: R) g _ _
 refine cr (op J J (oe (c_seq ?_)))
 refine c_region (op J J ?_)
 replace h := bsome h
 obtain ⟨d1, h1, h⟩ := h
 refine o1 J (o_call has121 J (c_space_Space_Size X p0 b0 s0 _ h1) (pc rm0 (pc rm0 (pc rm0 pn))) ?_)
 refine o1 J (o_alloc (cs := [(I 0), (I 0)]) J J (fun b371 => ?_))
 refine o0 (o_st (b := b371) (off := 0) (vs := [(I d1.Rows), (I d1.Cols)]) (cs' := [(I d1.Rows), (I d1.Cols)]) J J rp0 J J J J J J ?_)
 refine oe (c_seq (cr ?_))
 refine o1 J (o_ld (b := b371) (off := 0) (v := (.agg (A [(I d1.Rows), (I d1.Cols)]))) J rm0 J J ?_)
 replace h := bsome h
 obtain ⟨d2, h2, h⟩ := h
 refine o1 J (o_call has76 J (c_addr_Size_Cells X (⟨d1.Rows, d1.Cols⟩ : Vaddr_Size) _ h2) (pc rm1 pn) ?_)
 refine op J J (oe ?_)
 replace h := jn_some h
 obtain ⟨y3, h, hk3⟩ := h
 refine cj (D := Unit) (ι := Unit) (fun d3 i3 => y3 = Sum.inl d3) (fun d3 i3 => []) (fun d3 i3 => X :: blk b0 (.cells (A [(I p0.model), (O p0.alternate), (I p0.size.Rows), (I p0.size.Cols), (V s0), (I p0.cursor), (I p0.attrs)]) 122 (0, 0)) :: slO s0 26 en_Vapi_Cell p0.cells :: R) ?_ ?_
 ·refine c_block ?_
  refine c_loop (l_sub (sc J (sc J (sc J (sc J (sc J (sc J sn)))))) (l_keep (kc rm0 (kc rm0 (kc rm0 (kc rm0 kr)))) (lf (X := Int × Int) (ι := Unit) (fun k x => field_find_l4 p0 p2 d1 d2 k x) _ (fun x4 i4 => True) (fun x4 i4 => [(12, (I x4.1)), (11, (I d2)), (7, (F b371 0)), (0, (F b0 0)), (1, (I x4.2)), (2, (I p2))]) (fun x4 i4 => X :: blk b371 (.cells (A [(I d1.Rows), (I d1.Cols)]) 120 (0, 0)) :: blk b0 (.cells (A [(I p0.model), (O p0.alternate), (I p0.size.Rows), (I p0.size.Cols), (V s0), (I p0.cursor), (I p0.attrs)]) 122 (0, 0)) :: slO s0 26 en_Vapi_Cell p0.cells :: R) (fun _ => J) ?_ fuel (0, p1) () trivial h)))
  clear h
  rintro k4 ih4 x4 i4 _ h
  rw [field_find_l4.eq_2] at h
  refine l_round (cr ?_)
  refine o1 J (o_p (v := (O (decide (x4.1 < d2)))) J ?_)
  refine oe (c_seq ?_)
  refine c_cond (b := (decide (x4.1 < d2))) J (fun hb381 => ?_) (fun hb381 => ?_)
  ·replace h := cond_t hb381 h
   refine c_skip (e_seq (c_seq (c_block (cr ?_))))
   refine o1 J (o_ld (b := b371) (off := 0) (v := (.agg (A [(I d1.Rows), (I d1.Cols)]))) J rm1 J J ?_)
   refine op J J (op J J ?_)
   refine o1 J (o_p (v := (I (w64 (x4.2 + p2)))) J ?_)
   replace h := bsome h
   obtain ⟨d7, h7, h⟩ := h
   refine o1 J (o_call has53 J (c_addr_Size_Wrap X (⟨d1.Rows, d1.Cols⟩ : Vaddr_Size) (w64 (x4.2 + p2)) _ h7) (pc rm0 pn) ?_)
   refine op J J (oe (cr (op J J ?_)))
   refine op J J ?_
   replace h := bsome h
   obtain ⟨d8, h8, h⟩ := h
   refine o1 J (o_call has161 J (c_field_first X p0 b0 s0 d7 _ h8) (pc rm0 (pc rm1 (pc rm1 pn))) ?_)
   refine oe ?_
   refine c_cond (b := d8) J (fun hb382 => ?_) (fun hb382 => ?_)
   ·replace h := cond_t hb382 h
    refine cr (op J J (op J J (oe ?_)))
    refine c_ret (e_blk_ret (e_then_ret (e_then_ret (e_blk_ret (ej_ret ?_)))))
    replace h := esc_some h
    obtain ⟨z3, h, rfl⟩ := h
    obtain rfl := (hk3 : z3 = _)
    refine e_then_ret (e_ret ?_)
    refine r_endt J J (kc rm0 (kc rm0 (kc rm0 (kd kr)))) ?_
    obtain rfl := si h
    exact hk
   ·replace h := cond_f hb382 h
    refine c_skip (e_blk (e_seq (c_region ?_)))
    refine o1 J (o_p (v := (I (w64 (x4.1 + 1)))) J ?_)
    refine op J J (o_end ?_)
    exact e_loop (l_sub (sc J (sc J (sc J (sc J (sc J (sc J sn)))))) (l_keep (kc rm0 (kc rm2 (kc rm0 (kc rm0 kr)))) (ih4 (w64 (x4.1 + 1), d7) () trivial h)))
  ·replace h := cond_f hb381 h
   refine c_exit (e_then_exit (e_then_exit (e_blk_exit ?_)))
   obtain rfl := si h
   exact ej () () J sn (kc rm0 (kc rm1 (kc rm1 (kd kr))))
 ·rintro d3 i3 rfl
  replace h := JK_inl hk3
  clear hk3
  refine e_seq (cr (op J J (oe ?_)))
  refine c_ret (e_ret ?_)
  refine r_endt J J (kc rm0 (kc rm0 (kc rm0 kr))) ?_
  obtain rfl := si h
  exact hk

theorem c_field_Next {g : Gw} (X : HP) (p0 : Vspace_Space) (b0 : Nat) (s0 : SV) (p1 : Int) (r : Int) (h : m_field_Next p0 p1 = some r) : Tri env g 124 (A [(F b0 0), (I p1)]) [X, blk b0 (.cells (A [(I p0.model), (O p0.alternate), (I p0.size.Rows), (I p0.size.Cols), (V s0), (I p0.cursor), (I p0.attrs)]) 122 (0, 0)), slO s0 26 en_Vapi_Cell p0.cells] (fun K R => K (I r) (X :: blk b0 (.cells (A [(I p0.model), (O p0.alternate), (I p0.size.Rows), (I p0.size.Cols), (V s0), (I p0.cursor), (I p0.attrs)]) 122 (0, 0)) :: slO s0 26 en_Vapi_Cell p0.cells :: R)) := by
 refine tri_of (fn := Tryz.f124) (N := 11) Tryz.func124 J J J ?_
 intro R K hk
 unfold m_field_Next at h
 change GC _ none _ [] [(0, (F b0 0)), (1, (I p1))] (X :: blk b0 (.cells (A [(I p0.model), (O p0.alternate), (I p0.size.Rows), (I p0.size.Cols), (V s0), (I p0.cursor), (I p0.attrs)]) 122 (0, 0)) :: slO s0 26 en_Vapi_Cell p0.cells :: R) g _ _
 refine cr (op J J (oe (c_seq ?_)))
 refine c_region (op J J (op J J ?_))
 replace h := bsome h
 obtain ⟨d1, h1, h⟩ := h
 refine o1 J (o_call has121 J (c_space_Space_Size X p0 b0 s0 _ h1) (pc rm0 (pc rm0 (pc rm0 pn))) ?_)
 refine op J J ?_
 replace h := bsome h
 obtain ⟨d2, h2, h⟩ := h
 refine o1 J (o_call has53 J (c_addr_Size_Wrap X (⟨d1.Rows, d1.Cols⟩ : Vaddr_Size) p1 _ h2) (pc rm0 pn) ?_)
 replace h := bsome h
 obtain ⟨d3, h3, h⟩ := h
 refine o1 J (o_call has144 J (c_field_find X p0 b0 s0 d2 1 _ h3) (pc rm0 (pc rm0 (pc rm0 pn))) ?_)
 refine op J J (oe (c_ret (e_ret ?_)))
 refine r_endt J J (kc rm0 (kc rm0 (kc rm0 kr))) ?_
 obtain rfl := si h
 exact hk

theorem c_cursor_Tab {g : Gw} (X : HP) (p0 : Vspace_Space) (b0 : Nat) (s0 : SV) (r : Vspace_Space) (h : m_cursor_Tab p0 = some r) : Tri env g 85 (A [(F b0 0)]) [X, blk b0 (.cells (A [(I p0.model), (O p0.alternate), (I p0.size.Rows), (I p0.size.Cols), (V s0), (I p0.cursor), (I p0.attrs)]) 122 (0, 0)), slO s0 26 en_Vapi_Cell p0.cells] (fun K R => K (.tuple (A [])) (X :: blk b0 (.cells (A [(I r.model), (O r.alternate), (I r.size.Rows), (I r.size.Cols), (V s0), (I r.cursor), (I r.attrs)]) 122 (0, 0)) :: slO s0 26 en_Vapi_Cell r.cells :: R)) := by
 refine tri_of (fn := Tryz.f85) (N := 9) Tryz.func85 J J J ?_
 intro R K hk
 unfold m_cursor_Tab at h
 change GC _ none _ [] [(0, (F b0 0))] (X :: blk b0 (.cells (A [(I p0.model), (O p0.alternate), (I p0.size.Rows), (I p0.size.Cols), (V s0), (I p0.cursor), (I p0.attrs)]) 122 (0, 0)) :: slO s0 26 en_Vapi_Cell p0.cells :: R) g _ _
 refine c_region (op J J (op J J (op J J ?_)))
 replace h := bsome h
 obtain ⟨d1, h1, h⟩ := h
 refine o1 J (o_call has24 J (c_space_Space_Cursor X p0 b0 s0 _ h1) (pc rm0 (pc rm0 (pc rm0 pn))) ?_)
 replace h := bsome h
 obtain ⟨d2, h2, h⟩ := h
 refine o1 J (o_call has124 J (c_field_Next X p0 b0 s0 d1 _ h2) (pc rm0 (pc rm0 (pc rm0 pn))) ?_)
 refine o1 J (o_max (m := d2) (n := 0) J J ?_)
 replace h := bsome h
 obtain ⟨d3, h3, h⟩ := h
 refine o1 J (o_call has43 J (c_space_Space_Place X p0 b0 s0 (imax d2 0) _ h3) (pc rm0 (pc rm0 (pc rm0 pn))) ?_)
 refine o_end (e_fall ?_)
 refine r_endt J J (kc rm0 (kc rm0 (kc rm0 kr))) ?_
 obtain rfl := si h
 exact hk

theorem c_field_Prev {g : Gw} (X : HP) (p0 : Vspace_Space) (b0 : Nat) (s0 : SV) (p1 : Int) (r : Int) (h : m_field_Prev p0 p1 = some r) : Tri env g 125 (A [(F b0 0), (I p1)]) [X, blk b0 (.cells (A [(I p0.model), (O p0.alternate), (I p0.size.Rows), (I p0.size.Cols), (V s0), (I p0.cursor), (I p0.attrs)]) 122 (0, 0)), slO s0 26 en_Vapi_Cell p0.cells] (fun K R => K (I r) (X :: blk b0 (.cells (A [(I p0.model), (O p0.alternate), (I p0.size.Rows), (I p0.size.Cols), (V s0), (I p0.cursor), (I p0.attrs)]) 122 (0, 0)) :: slO s0 26 en_Vapi_Cell p0.cells :: R)) := by
 refine tri_of (fn := Tryz.f125) (N := 11) Tryz.func125 J J J ?_
 intro R K hk
 unfold m_field_Prev at h
 change GC _ none _ [] [(0, (F b0 0)), (1, (I p1))] (X :: blk b0 (.cells (A [(I p0.model), (O p0.alternate), (I p0.size.Rows), (I p0.size.Cols), (V s0), (I p0.cursor), (I p0.attrs)]) 122 (0, 0)) :: slO s0 26 en_Vapi_Cell p0.cells :: R) g _ _
 refine cr (op J J (oe (c_seq ?_)))
 refine c_region (op J J (op J J ?_))
 replace h := bsome h
 obtain ⟨d1, h1, h⟩ := h
 refine o1 J (o_call has121 J (c_space_Space_Size X p0 b0 s0 _ h1) (pc rm0 (pc rm0 (pc rm0 pn))) ?_)
 refine op J J ?_
 replace h := bsome h
 obtain ⟨d2, h2, h⟩ := h
 refine o1 J (o_call has53 J (c_addr_Size_Wrap X (⟨d1.Rows, d1.Cols⟩ : Vaddr_Size) p1 _ h2) (pc rm0 pn) ?_)
 replace h := bsome h
 obtain ⟨d3, h3, h⟩ := h
 refine o1 J (o_call has144 J (c_field_find X p0 b0 s0 d2 (-1) _ h3) (pc rm0 (pc rm0 (pc rm0 pn))) ?_)
 refine op J J (oe (c_ret (e_ret ?_)))
 refine r_endt J J (kc rm0 (kc rm0 (kc rm0 kr))) ?_
 obtain rfl := si h
 exact hk

theorem c_cursor_BackTab {g : Gw} (X : HP) (p0 : Vspace_Space) (b0 : Nat) (s0 : SV) (r : Vspace_Space) (h : m_cursor_BackTab p0 = some r) : Tri env g 86 (A [(F b0 0)]) [X, blk b0 (.cells (A [(I p0.model), (O p0.alternate), (I p0.size.Rows), (I p0.size.Cols), (V s0), (I p0.cursor), (I p0.attrs)]) 122 (0, 0)), slO s0 26 en_Vapi_Cell p0.cells] (fun K R => K (.tuple (A [])) (X :: blk b0 (.cells (A [(I r.model), (O r.alternate), (I r.size.Rows), (I r.size.Cols), (V s0), (I r.cursor), (I r.attrs)]) 122 (0, 0)) :: slO s0 26 en_Vapi_Cell r.cells :: R)) := by
 refine tri_of (fn := Tryz.f86) (N := 9) Tryz.func86 J J J ?_
 intro R K hk
 unfold m_cursor_BackTab at h
 change GC _ none _ [] [(0, (F b0 0))] (X :: blk b0 (.cells (A [(I p0.model), (O p0.alternate), (I p0.size.Rows), (I p0.size.Cols), (V s0), (I p0.cursor), (I p0.attrs)]) 122 (0, 0)) :: slO s0 26 en_Vapi_Cell p0.cells :: R) g _ _
 refine c_region (op J J (op J J (op J J ?_)))
 replace h := bsome h
 obtain ⟨d1, h1, h⟩ := h
 refine o1 J (o_call has24 J (c_space_Space_Cursor X p0 b0 s0 _ h1) (pc rm0 (pc rm0 (pc rm0 pn))) ?_)
 replace h := bsome h
 obtain ⟨d2, h2, h⟩ := h
 refine o1 J (o_call has125 J (c_field_Prev X p0 b0 s0 d1 _ h2) (pc rm0 (pc rm0 (pc rm0 pn))) ?_)
 refine o1 J (o_max (m := d2) (n := 0) J J ?_)
 replace h := bsome h
 obtain ⟨d3, h3, h⟩ := h
 refine o1 J (o_call has43 J (c_space_Space_Place X p0 b0 s0 (imax d2 0) _ h3) (pc rm0 (pc rm0 (pc rm0 pn))) ?_)
 refine o_end (e_fall ?_)
 refine r_endt J J (kc rm0 (kc rm0 (kc rm0 kr))) ?_
 obtain rfl := si h
 exact hk

theorem c_addr_Size_Row {g : Gw} (X : HP) (p0 : Vaddr_Size) (p1 : Int) (r : Int) (h : m_addr_Size_Row p0 p1 = some r) : Tri env g 146 (A [(.agg (A [(I p0.Rows), (I p0.Cols)])), (I p1)]) [X] (fun K R => K (I r) (X :: R)) := by
 refine tri_of (fn := Tryz.f146) (N := 14) Tryz.func146 J J J ?_
 intro R K hk
 unfold m_addr_Size_Row at h
 change GC _ none _ [] [(0, (.agg (A [(I p0.Rows), (I p0.Cols)]))), (1, (I p1))] (X :: R) g _ _
 refine cr ?_
 refine o1 J (o_box (cs := [(I p0.Rows), (I p0.Cols)]) J J (fun b393 => ?_))
 refine op J J (oe (c_seq (cr ?_)))
 refine o1 J (o_ld (b := b393) (off := 0) (v := (.agg (A [(I p0.Rows), (I p0.Cols)]))) J rm0 J J ?_)
 replace h := bsome h
 obtain ⟨d1, h1, h⟩ := h
 refine o1 J (o_call has96 J (c_addr_Size_Valid X p0 _ h1) (pc rm1 pn) ?_)
 refine o1 J (o_p (v := (O (!d1))) J ?_)
 refine oe ?_
 refine c_cond (b := (!d1)) J (fun hb395 => ?_) (fun hb395 => ?_)
 ·replace h := cond_t hb395 h
  refine cr (op J J (oe (c_ret ?_)))
  refine e_then_ret (e_ret ?_)
  refine r_endt J J (kc rm0 (kd kr)) ?_
  obtain rfl := si h
  exact hk
 ·replace h := cond_f hb395 h
  refine c_skip (e_seq (c_seq ?_))
  refine c_sub (T' := [(7, (O (!d1))), (6, (O d1)), (5, (.agg (A [(I p0.Rows), (I p0.Cols)]))), (2, (F b393 0)), (0, (.agg (A [(I p0.Rows), (I p0.Cols)]))), (1, (I p1))]) (sc J (sc J (sc J (sc J (sc J (sc J sn)))))) ?_
  refine c_draw (n := 1) (q := [(0, 8, (.agg (A [(I p0.Rows), (I p0.Cols)]))), (1, 9, (I p1)), (3, 11, (F b393 1)), (4, 12, (I p0.Cols))]) (pend := [0, 1, 3, 4]) J J J ?_
  replace h := bsome h
  obtain ⟨d4, h4, h⟩ := h
  refine ⟨⟨fun _ => ⟨J, J, J, .inl ⟨J, (o_ld (b := b393) (off := 0) (v := (.agg (A [(I p0.Rows), (I p0.Cols)]))) J rm1 J J ⟨J, J⟩)⟩⟩, fun _ => ⟨J, J, J, .inl ⟨J, (o_p J ⟨J, J⟩)⟩⟩, fun _ => ⟨J, J, J, .inl ⟨J, (o_fa (fd := ⟨ "Cols", 3, 1, false, "", "", 8⟩) J J J J J ⟨J, J⟩)⟩⟩, fun _ => ⟨J, J, J, .inl ⟨J, (o_ld (b := b393) (off := 1) (v := (I p0.Cols)) J rm1 J J ⟨J, J⟩)⟩⟩, trivial⟩, J, .inr ⟨[2], J, J, ⟨J, .inl J, ?_⟩, trivial⟩⟩
  refine (o_call has53 J (c_addr_Size_Wrap X p0 p1 _ h4) (pc rm0 pn) ?_)
  replace h := gsome h
  obtain ⟨hg396, h⟩ := h
  refine ⟨[(5, 13, (I (w64 (Int.tdiv d4 p0.Cols)))), (6, 4, (I (w64 (Int.tdiv d4 p0.Cols))))], [3, 4, 5, 6], J, J, J, J, ?_⟩
  refine ⟨⟨fun _ => ⟨J, J, J, .inl ⟨J, (o_quo (m := d4) (n := p0.Cols) J J hg396 ⟨J, J⟩)⟩⟩, fun _ => ⟨J, J, J, .inl ⟨J, (o_p J ⟨J, J⟩)⟩⟩, (fun h => nomatch h), (fun h => nomatch h), fun _ => ⟨J, J, J, .inl ⟨J, (o_fa (fd := ⟨ "Cols", 3, 1, false, "", "", 8⟩) J J J J J ⟨J, J⟩)⟩⟩, fun _ => ⟨J, J, J, .inl ⟨J, (o_ld (b := b393) (off := 1) (v := (I p0.Cols)) J rm1 J J ⟨J, J⟩)⟩⟩, trivial⟩, J, J, J, ?_⟩
  refine e_seq (c_ret (e_ret ?_))
  refine r_endt J J (kc rm0 (kd kr)) ?_
  obtain rfl := si h
  exact hk

theorem c_addr_Size_At {g : Gw} (X : HP) (p0 : Vaddr_Size) (p1 : Int) (p2 : Int) (r : Int) (h : m_addr_Size_At p0 p1 p2 = some r) : Tri env g 145 (A [(.agg (A [(I p0.Rows), (I p0.Cols)])), (I p1), (I p2)]) [X] (fun K R => K (I r) (X :: R)) := by
 refine tri_of (fn := Tryz.f145) (N := 22) Tryz.func145 J J J ?_
 intro R K hk
 unfold m_addr_Size_At at h
 change GC _ none _ [] [(0, (.agg (A [(I p0.Rows), (I p0.Cols)]))), (1, (I p1)), (2, (I p2))] (X :: R) g _ _
 refine cr ?_
 refine o1 J (o_box (cs := [(I p0.Rows), (I p0.Cols)]) J J (fun b397 => ?_))
 refine op J J (oe (c_seq (cr ?_)))
 refine o1 J (o_ld (b := b397) (off := 0) (v := (.agg (A [(I p0.Rows), (I p0.Cols)]))) J rm0 J J ?_)
 replace h := bsome h
 obtain ⟨d1, h1, h⟩ := h
 refine o1 J (o_call has96 J (c_addr_Size_Valid X p0 _ h1) (pc rm1 pn) ?_)
 refine o1 J (o_p (v := (O (!d1))) J ?_)
 refine oe ?_
 refine c_cond (b := (!d1)) J (fun hb399 => ?_) (fun hb399 => ?_)
 ·replace h := cond_t hb399 h
  refine cr (op J J (oe (c_ret ?_)))
  refine e_then_ret (e_ret ?_)
  refine r_endt J J (kc rm0 (kd kr)) ?_
  obtain rfl := si h
  exact hk
 ·replace h := cond_f hb399 h
  refine c_skip (e_seq (c_seq ?_))
  refine c_sub (T' := [(9, (O (!d1))), (8, (O d1)), (7, (.agg (A [(I p0.Rows), (I p0.Cols)]))), (3, (F b397 0)), (0, (.agg (A [(I p0.Rows), (I p0.Cols)]))), (1, (I p1)), (2, (I p2))]) (sc J (sc J (sc J (sc J (sc J (sc J (sc J sn))))))) ?_
  refine c_draw (n := 2) (q := [(0, 10, (I p1)), (1, 11, (F b397 0)), (2, 12, (I p0.Rows)), (4, 14, (F b397 1)), (5, 15, (I p0.Cols)), (7, 17, (I p2)), (8, 18, (F b397 1)), (9, 19, (I p0.Cols))]) (pend := [0, 1, 2, 4, 5, 7, 8, 9]) J J J ?_
  replace h := bsome h
  obtain ⟨d4, h4, h⟩ := h
  refine ⟨⟨fun _ => ⟨J, J, J, .inl ⟨J, (o_p J ⟨J, J⟩)⟩⟩, fun _ => ⟨J, J, J, .inl ⟨J, (o_fa (fd := ⟨ "Rows", 3, 0, false, "", "", 0⟩) J J J J J ⟨J, J⟩)⟩⟩, fun _ => ⟨J, J, J, .inl ⟨J, (o_ld (b := b397) (off := 0) (v := (I p0.Rows)) J rm1 J J ⟨J, J⟩)⟩⟩, fun _ => ⟨J, J, J, .inl ⟨J, (o_fa (fd := ⟨ "Cols", 3, 1, false, "", "", 8⟩) J J J J J ⟨J, J⟩)⟩⟩, fun _ => ⟨J, J, J, .inl ⟨J, (o_ld (b := b397) (off := 1) (v := (I p0.Cols)) J rm1 J J ⟨J, J⟩)⟩⟩, fun _ => ⟨J, J, J, .inl ⟨J, (o_p J ⟨J, J⟩)⟩⟩, fun _ => ⟨J, J, J, .inl ⟨J, (o_fa (fd := ⟨ "Cols", 3, 1, false, "", "", 8⟩) J J J J J ⟨J, J⟩)⟩⟩, fun _ => ⟨J, J, J, .inl ⟨J, (o_ld (b := b397) (off := 1) (v := (I p0.Cols)) J rm1 J J ⟨J, J⟩)⟩⟩, trivial⟩, J, .inr ⟨[3], J, J, ⟨J, .inl J, ?_⟩, trivial⟩⟩
  refine (o_call has97 J (c_addr_rest X p1 p0.Rows _ h4) (pc rm0 pn) ?_)
  refine ⟨[(6, 16, (I (w64 (d4 * p0.Cols))))], [4, 5, 7, 8, 9, 6], J, J, J, J, ?_⟩
  replace h := bsome h
  obtain ⟨d5, h5, h⟩ := h
  refine ⟨⟨fun _ => ⟨J, J, J, .inl ⟨J, (o_p (v := (I (w64 (d4 * p0.Cols)))) J ⟨J, J⟩)⟩⟩, (fun h => nomatch h), (fun h => nomatch h), (fun h => nomatch h), fun _ => ⟨J, J, J, .inl ⟨J, (o_fa (fd := ⟨ "Cols", 3, 1, false, "", "", 8⟩) J J J J J ⟨J, J⟩)⟩⟩, fun _ => ⟨J, J, J, .inl ⟨J, (o_ld (b := b397) (off := 1) (v := (I p0.Cols)) J rm1 J J ⟨J, J⟩)⟩⟩, fun _ => ⟨J, J, J, .inl ⟨J, (o_p J ⟨J, J⟩)⟩⟩, fun _ => ⟨J, J, J, .inl ⟨J, (o_fa (fd := ⟨ "Cols", 3, 1, false, "", "", 8⟩) J J J J J ⟨J, J⟩)⟩⟩, fun _ => ⟨J, J, J, .inl ⟨J, (o_ld (b := b397) (off := 1) (v := (I p0.Cols)) J rm1 J J ⟨J, J⟩)⟩⟩, trivial⟩, J, .inr ⟨[10], J, J, ⟨J, .inl J, ?_⟩, trivial⟩⟩
  refine (o_call has97 J (c_addr_rest X p2 p0.Cols _ h5) (pc rm0 pn) ?_)
  refine ⟨[(11, 21, (I (w64 ((w64 (d4 * p0.Cols)) + d5)))), (12, 6, (I (w64 ((w64 (d4 * p0.Cols)) + d5))))], [4, 5, 6, 11, 12], J, J, J, J, ?_⟩
  refine ⟨⟨fun _ => ⟨J, J, J, .inl ⟨J, (o_p (v := (I (w64 ((w64 (d4 * p0.Cols)) + d5)))) J ⟨J, J⟩)⟩⟩, fun _ => ⟨J, J, J, .inl ⟨J, (o_p J ⟨J, J⟩)⟩⟩, fun _ => ⟨J, J, J, .inl ⟨J, (o_p (v := (I (w64 (d4 * p0.Cols)))) J ⟨J, J⟩)⟩⟩, (fun h => nomatch h), (fun h => nomatch h), (fun h => nomatch h), fun _ => ⟨J, J, J, .inl ⟨J, (o_fa (fd := ⟨ "Cols", 3, 1, false, "", "", 8⟩) J J J J J ⟨J, J⟩)⟩⟩, fun _ => ⟨J, J, J, .inl ⟨J, (o_ld (b := b397) (off := 1) (v := (I p0.Cols)) J rm1 J J ⟨J, J⟩)⟩⟩, (fun h => nomatch h), (fun h => nomatch h), (fun h => nomatch h), trivial⟩, J, J, J, ?_⟩
  refine e_seq (c_ret (e_ret ?_))
  refine r_endt J J (kc rm0 (kd kr)) ?_
  obtain rfl := si h
  exact hk

theorem c_addr_Size_Line {g : Gw} (X : HP) (p0 : Vaddr_Size) (p1 : Int) (r : Int) (h : m_addr_Size_Line p0 p1 = some r) : Tri env g 127 (A [(.agg (A [(I p0.Rows), (I p0.Cols)])), (I p1)]) [X] (fun K R => K (I r) (X :: R)) := by
 refine tri_of (fn := Tryz.f127) (N := 11) Tryz.func127 J J J ?_
 intro R K hk
 unfold m_addr_Size_Line at h
 change GC _ none _ [] [(0, (.agg (A [(I p0.Rows), (I p0.Cols)]))), (1, (I p1))] (X :: R) g _ _
 refine cr ?_
 refine o1 J (o_box (cs := [(I p0.Rows), (I p0.Cols)]) J J (fun b391 => ?_))
 refine op J J (oe (c_seq ?_))
 refine c_sub (T' := [(2, (F b391 0)), (0, (.agg (A [(I p0.Rows), (I p0.Cols)]))), (1, (I p1))]) (sc J (sc J (sc J sn))) ?_
 refine c_draw (n := 2) (q := [(0, 5, (.agg (A [(I p0.Rows), (I p0.Cols)]))), (1, 6, (.agg (A [(I p0.Rows), (I p0.Cols)]))), (2, 7, (I p1))]) (pend := [0, 1, 2]) J J J ?_
 replace h := bsome h
 obtain ⟨d2, h2, h⟩ := h
 refine ⟨⟨fun _ => ⟨J, J, J, .inl ⟨J, (o_ld (b := b391) (off := 0) (v := (.agg (A [(I p0.Rows), (I p0.Cols)]))) J rm0 J J ⟨J, J⟩)⟩⟩, fun _ => ⟨J, J, J, .inl ⟨J, (o_ld (b := b391) (off := 0) (v := (.agg (A [(I p0.Rows), (I p0.Cols)]))) J rm0 J J ⟨J, J⟩)⟩⟩, fun _ => ⟨J, J, J, .inl ⟨J, (o_p J ⟨J, J⟩)⟩⟩, trivial⟩, J, .inr ⟨[3], J, J, ⟨J, .inl J, ?_⟩, trivial⟩⟩
 refine (o_call has146 J (c_addr_Size_Row X p0 p1 _ h2) (pc rm1 pn) ?_)
 refine ⟨[(4, 9, (I (w64 (d2 + 1))))], [0, 4], J, J, J, J, ?_⟩
 replace h := bsome h
 obtain ⟨d3, h3, h⟩ := h
 refine ⟨⟨fun _ => ⟨J, J, J, .inl ⟨J, (o_p (v := (I (w64 (d2 + 1)))) J ⟨J, J⟩)⟩⟩, fun _ => ⟨J, J, J, .inl ⟨J, (o_ld (b := b391) (off := 0) (v := (.agg (A [(I p0.Rows), (I p0.Cols)]))) J rm1 J J ⟨J, J⟩)⟩⟩, (fun h => nomatch h), (fun h => nomatch h), trivial⟩, J, .inr ⟨[5], J, J, ⟨J, .inl J, ?_⟩, trivial⟩⟩
 refine (o_call has145 J (c_addr_Size_At X p0 (w64 (d2 + 1)) 0 _ h3) (pc rm0 pn) ?_)
 refine ⟨[(6, 4, (I d3))], [6], J, J, J, J, ?_⟩
 refine ⟨⟨fun _ => ⟨J, J, J, .inl ⟨J, (o_p J ⟨J, J⟩)⟩⟩, (fun h => nomatch h), (fun h => nomatch h), (fun h => nomatch h), (fun h => nomatch h), trivial⟩, J, J, J, ?_⟩
 refine e_seq (c_ret (e_ret ?_))
 refine r_endt J J (kc rm0 (kd kr)) ?_
 obtain rfl := si h
 exact hk

theorem c_field_Open {g : Gw} (X : HP) (p0 : Vspace_Space) (b0 : Nat) (s0 : SV) (p1 : Int) (r : Bool) (h : m_field_Open p0 p1 = some r) : Tri env g 129 (A [(F b0 0), (I p1)]) [X, blk b0 (.cells (A [(I p0.model), (O p0.alternate), (I p0.size.Rows), (I p0.size.Cols), (V s0), (I p0.cursor), (I p0.attrs)]) 122 (0, 0)), slO s0 26 en_Vapi_Cell p0.cells] (fun K R => K (O r) (X :: blk b0 (.cells (A [(I p0.model), (O p0.alternate), (I p0.size.Rows), (I p0.size.Cols), (V s0), (I p0.cursor), (I p0.attrs)]) 122 (0, 0)) :: slO s0 26 en_Vapi_Cell p0.cells :: R)) := by
 refine tri_of (fn := Tryz.f129) (N := 30) Tryz.func129 J J J ?_
 intro R K hk
 unfold m_field_Open at h
 change GC _ none _ [] [(0, (F b0 0)), (1, (I p1))] (X :: blk b0 (.cells (A [(I p0.model), (O p0.alternate), (I p0.size.Rows), (I p0.size.Cols), (V s0), (I p0.cursor), (I p0.attrs)]) 122 (0, 0)) :: slO s0 26 en_Vapi_Cell p0.cells :: R) g _ _
 refine cr (op J J (oe (c_seq ?_)))
 refine c_region (op J J (op J J ?_))
 replace h := bsome h
 obtain ⟨d1, h1, h⟩ := h
 refine o1 J (o_call has79 J (c_field_Of X p0 b0 s0 p1 _ h1) (pc rm0 (pc rm0 (pc rm0 pn))) ?_)
 refine op J J (op J J (op J J ?_))
 refine o1 J (o_alloc (cs := [(O false), (O false), (I 0), (O false)]) J J (fun b400 => ?_))
 refine o0 (o_st (b := b400) (off := 0) (vs := [(O d1.1.Protected), (O d1.1.Numeric), (I d1.1.Display), (O d1.1.Modified)]) (cs' := [(O d1.1.Protected), (O d1.1.Numeric), (I d1.1.Display), (O d1.1.Modified)]) J J rp0 J J J J J J ?_)
 refine op J J (oe (c_seq ?_))
 replace h := bsome h
 obtain ⟨d2, h, hk2⟩ := h
 refine cj (D := Unit) (ι := Unit) (fun _ i2 => True) (fun _ i2 => [(4, (O d2))]) (fun _ i2 => X :: blk b0 (.cells (A [(I p0.model), (O p0.alternate), (I p0.size.Rows), (I p0.size.Cols), (V s0), (I p0.cursor), (I p0.attrs)]) 122 (0, 0)) :: slO s0 26 en_Vapi_Cell p0.cells :: R) ?_ ?_
 ·refine c_region (op J J ?_)
  refine o1 J (o_p (v := (O true)) J ?_)
  refine op J J ?_
  refine oy J J J J (o_p J ?_)
  refine oy J J J J (o_p J ?_)
  replace h := bsome h
  obtain ⟨d3, h3, h⟩ := h
  refine oy J J J J (o_call has13 J (c_space_Space_At X p0 b0 s0 p1 _ h3) (pc rm1 (pc rm1 (pc rm1 pn))) ?_)
  refine oy J J J J (o_field (v := (O d3.Attr)) J J J ?_)
  refine oy J J J J (o_p (v := (O (!d3.Attr))) J ?_)
  refine o1 J (o_pick_t J J J ?_)
  refine op J J ?_
  rcases bool_or ((!d3.Attr)) with hb402 | hb402
  ·replace h := cond_t hb402 h
   refine oy J J J hb402 (o_p J ?_)
   refine oy J J J hb402 (o_p J ?_)
   rcases bool_or (d1.2) with hb403 | hb403
   ·replace h := cond_t hb403 h
    refine oy J J J hb403 (o_fa (fd := ⟨ "Protected", 4, 0, false, "", "", 0⟩) J J J J J ?_)
    refine oy J J J hb403 (o_ld (b := b400) (off := 0) (v := (O d1.1.Protected)) J rm3 J J ?_)
    refine oy J J J hb402 (o_pick_t J hb403 J ?_)
    refine oy J J J hb402 (o_p (v := (O (!d1.1.Protected))) J ?_)
    refine o1 J (o_pick_t J hb402 J ?_)
    refine op J J (o_end ?_)
    obtain rfl := si h
    exact ej () () trivial (sc J sn) (kc rm0 (kc rm0 (kc rm0 (kd kr))))
   ·replace h := cond_f hb403 h
    refine on J J J hb403 ?_
    refine on J J J hb403 ?_
    refine oy J J J hb402 (o_pick_f J hb403 J ?_)
    refine oy J J J hb402 (o_p (v := (O true)) J ?_)
    refine o1 J (o_pick_t J hb402 J ?_)
    refine op J J (o_end ?_)
    obtain rfl := si h
    exact ej () () trivial (sc J sn) (kc rm0 (kc rm0 (kc rm0 (kd kr))))
  ·replace h := cond_f hb402 h
   refine on J J J hb402 ?_
   refine on J J J hb402 ?_
   refine ou J J J ?_
   refine ou J J J ?_
   refine on J J J hb402 ?_
   refine on J J J hb402 ?_
   refine o1 J (o_pick_f J hb402 J ?_)
   refine op J J (o_end ?_)
   obtain rfl := si h
   exact ej () () trivial (sc J sn) (kc rm0 (kc rm0 (kc rm0 (kd kr))))
 ·rintro _ i2 _
  replace h := hk2
  clear hk2
  refine e_seq (c_ret (e_ret ?_))
  refine r_endt J J (kc rm0 (kc rm0 (kc rm0 kr))) ?_
  obtain rfl := si h
  exact hk

theorem c_cursor_First {g : Gw} (X : HP) (p0 : Vspace_Space) (b0 : Nat) (s0 : SV) (p1 : Int) (r : Int) (h : m_cursor_First p0 p1 = some r) : Tri env g 126 (A [(F b0 0), (I p1)]) [X, blk b0 (.cells (A [(I p0.model), (O p0.alternate), (I p0.size.Rows), (I p0.size.Cols), (V s0), (I p0.cursor), (I p0.attrs)]) 122 (0, 0)), slO s0 26 en_Vapi_Cell p0.cells] (fun K R => K (I r) (X :: blk b0 (.cells (A [(I p0.model), (O p0.alternate), (I p0.size.Rows), (I p0.size.Cols), (V s0), (I p0.cursor), (I p0.attrs)]) 122 (0, 0)) :: slO s0 26 en_Vapi_Cell p0.cells :: R)) := by
 refine tri_of (fn := Tryz.f126) (N := 16) Tryz.func126 J J J ?_
 intro R K hk
 unfold m_cursor_First at h
 change GC _ none _ [] [(0, (F b0 0)), (1, (I p1))] (X :: blk b0 (.cells (A [(I p0.model), (O p0.alternate), (I p0.size.Rows), (I p0.size.Cols), (V s0), (I p0.cursor), (I p0.attrs)]) 122 (0, 0)) :: slO s0 26 en_Vapi_Cell p0.cells :: R) g _ _
 refine cr (op J J (oe (c_seq ?_)))
 refine cr (op J J (op J J ?_))
 replace h := bsome h
 obtain ⟨d1, h1, h⟩ := h
 refine o1 J (o_call has129 J (c_field_Open X p0 b0 s0 p1 _ h1) (pc rm0 (pc rm0 (pc rm0 pn))) ?_)
 refine oe ?_
 refine c_cond (b := d1) J (fun hb404 => ?_) (fun hb404 => ?_)
 ·replace h := cond_t hb404 h
  refine cr (op J J ?_)
  replace h := bsome h
  obtain ⟨d3, h3, h⟩ := h
  refine o1 J (o_call has121 J (c_space_Space_Size X p0 b0 s0 _ h3) (pc rm0 (pc rm0 (pc rm0 pn))) ?_)
  refine op J J ?_
  replace h := bsome h
  obtain ⟨d4, h4, h⟩ := h
  refine o1 J (o_call has53 J (c_addr_Size_Wrap X (⟨d3.Rows, d3.Cols⟩ : Vaddr_Size) p1 _ h4) (pc rm0 pn) ?_)
  refine op J J (oe (c_ret (e_then_ret (e_ret ?_))))
  refine r_endt J J (kc rm0 (kc rm0 (kc rm0 kr))) ?_
  obtain rfl := si h
  exact hk
 ·replace h := cond_f hb404 h
  refine c_skip (e_seq (cr (op J J (op J J ?_))))
  replace h := bsome h
  obtain ⟨d5, h5, h⟩ := h
  refine o1 J (o_call has124 J (c_field_Next X p0 b0 s0 p1 _ h5) (pc rm0 (pc rm0 (pc rm0 pn))) ?_)
  refine o1 J (o_max (m := d5) (n := 0) J J ?_)
  refine op J J (oe (c_ret (e_ret ?_)))
  refine r_endt J J (kc rm0 (kc rm0 (kc rm0 kr))) ?_
  obtain rfl := si h
  exact hk

theorem c_cursor_NewLine {g : Gw} (X : HP) (p0 : Vspace_Space) (b0 : Nat) (s0 : SV) (r : Vspace_Space) (h : m_cursor_NewLine p0 = some r) : Tri env g 87 (A [(F b0 0)]) [X, blk b0 (.cells (A [(I p0.model), (O p0.alternate), (I p0.size.Rows), (I p0.size.Cols), (V s0), (I p0.cursor), (I p0.attrs)]) 122 (0, 0)), slO s0 26 en_Vapi_Cell p0.cells] (fun K R => K (.tuple (A [])) (X :: blk b0 (.cells (A [(I r.model), (O r.alternate), (I r.size.Rows), (I r.size.Cols), (V s0), (I r.cursor), (I r.attrs)]) 122 (0, 0)) :: slO s0 26 en_Vapi_Cell r.cells :: R)) := by
 refine tri_of (fn := Tryz.f87) (N := 11) Tryz.func87 J J J ?_
 intro R K hk
 unfold m_cursor_NewLine at h
 change GC _ none _ [] [(0, (F b0 0))] (X :: blk b0 (.cells (A [(I p0.model), (O p0.alternate), (I p0.size.Rows), (I p0.size.Cols), (V s0), (I p0.cursor), (I p0.attrs)]) 122 (0, 0)) :: slO s0 26 en_Vapi_Cell p0.cells :: R) g _ _
 refine c_region (op J J (op J J (op J J ?_)))
 replace h := bsome h
 obtain ⟨d1, h1, h⟩ := h
 refine o1 J (o_call has121 J (c_space_Space_Size X p0 b0 s0 _ h1) (pc rm0 (pc rm0 (pc rm0 pn))) ?_)
 refine op J J ?_
 replace h := bsome h
 obtain ⟨d2, h2, h⟩ := h
 refine o1 J (o_call has24 J (c_space_Space_Cursor X p0 b0 s0 _ h2) (pc rm0 (pc rm0 (pc rm0 pn))) ?_)
 replace h := bsome h
 obtain ⟨d3, h3, h⟩ := h
 refine o1 J (o_call has127 J (c_addr_Size_Line X (⟨d1.Rows, d1.Cols⟩ : Vaddr_Size) d2 _ h3) (pc rm0 pn) ?_)
 replace h := bsome h
 obtain ⟨d4, h4, h⟩ := h
 refine o1 J (o_call has126 J (c_cursor_First X p0 b0 s0 d3 _ h4) (pc rm0 (pc rm0 (pc rm0 pn))) ?_)
 replace h := bsome h
 obtain ⟨d5, h5, h⟩ := h
 refine o1 J (o_call has43 J (c_space_Space_Place X p0 b0 s0 d4 _ h5) (pc rm0 (pc rm0 (pc rm0 pn))) ?_)
 refine o_end (e_fall ?_)
 refine r_endt J J (kc rm0 (kc rm0 (kc rm0 kr))) ?_
 obtain rfl := si h
 exact hk

theorem c_cursor_Home {g : Gw} (X : HP) (p0 : Vspace_Space) (b0 : Nat) (s0 : SV) (r : Vspace_Space) (h : m_cursor_Home p0 = some r) : Tri env g 88 (A [(F b0 0)]) [X, blk b0 (.cells (A [(I p0.model), (O p0.alternate), (I p0.size.Rows), (I p0.size.Cols), (V s0), (I p0.cursor), (I p0.attrs)]) 122 (0, 0)), slO s0 26 en_Vapi_Cell p0.cells] (fun K R => K (.tuple (A [])) (X :: blk b0 (.cells (A [(I r.model), (O r.alternate), (I r.size.Rows), (I r.size.Cols), (V s0), (I r.cursor), (I r.attrs)]) 122 (0, 0)) :: slO s0 26 en_Vapi_Cell r.cells :: R)) := by
 refine tri_of (fn := Tryz.f88) (N := 6) Tryz.func88 J J J ?_
 intro R K hk
 unfold m_cursor_Home at h
 change GC _ none _ [] [(0, (F b0 0))] (X :: blk b0 (.cells (A [(I p0.model), (O p0.alternate), (I p0.size.Rows), (I p0.size.Cols), (V s0), (I p0.cursor), (I p0.attrs)]) 122 (0, 0)) :: slO s0 26 en_Vapi_Cell p0.cells :: R) g _ _
 refine c_region (op J J (op J J ?_))
 replace h := bsome h
 obtain ⟨d1, h1, h⟩ := h
 refine o1 J (o_call has126 J (c_cursor_First X p0 b0 s0 0 _ h1) (pc rm0 (pc rm0 (pc rm0 pn))) ?_)
 replace h := bsome h
 obtain ⟨d2, h2, h⟩ := h
 refine o1 J (o_call has43 J (c_space_Space_Place X p0 b0 s0 d1 _ h2) (pc rm0 (pc rm0 (pc rm0 pn))) ?_)
 refine o_end (e_fall ?_)
 refine r_endt J J (kc rm0 (kc rm0 (kc rm0 kr))) ?_
 obtain rfl := si h
 exact hk

theorem c_addr_Size_Col {g : Gw} (X : HP) (p0 : Vaddr_Size) (p1 : Int) (r : Int) (h : m_addr_Size_Col p0 p1 = some r) : Tri env g 147 (A [(.agg (A [(I p0.Rows), (I p0.Cols)])), (I p1)]) [X] (fun K R => K (I r) (X :: R)) := by
 refine tri_of (fn := Tryz.f147) (N := 14) Tryz.func147 J J J ?_
 intro R K hk
 unfold m_addr_Size_Col at h
 change GC _ none _ [] [(0, (.agg (A [(I p0.Rows), (I p0.Cols)]))), (1, (I p1))] (X :: R) g _ _
 refine cr ?_
 refine o1 J (o_box (cs := [(I p0.Rows), (I p0.Cols)]) J J (fun b416 => ?_))
 refine op J J (oe (c_seq (cr ?_)))
 refine o1 J (o_ld (b := b416) (off := 0) (v := (.agg (A [(I p0.Rows), (I p0.Cols)]))) J rm0 J J ?_)
 replace h := bsome h
 obtain ⟨d1, h1, h⟩ := h
 refine o1 J (o_call has96 J (c_addr_Size_Valid X p0 _ h1) (pc rm1 pn) ?_)
 refine o1 J (o_p (v := (O (!d1))) J ?_)
 refine oe ?_
 refine c_cond (b := (!d1)) J (fun hb418 => ?_) (fun hb418 => ?_)
 ·replace h := cond_t hb418 h
  refine cr (op J J (oe (c_ret ?_)))
  refine e_then_ret (e_ret ?_)
  refine r_endt J J (kc rm0 (kd kr)) ?_
  obtain rfl := si h
  exact hk
 ·replace h := cond_f hb418 h
  refine c_skip (e_seq (c_seq ?_))
  refine c_sub (T' := [(7, (O (!d1))), (6, (O d1)), (5, (.agg (A [(I p0.Rows), (I p0.Cols)]))), (2, (F b416 0)), (0, (.agg (A [(I p0.Rows), (I p0.Cols)]))), (1, (I p1))]) (sc J (sc J (sc J (sc J (sc J (sc J sn)))))) ?_
  refine c_draw (n := 1) (q := [(0, 8, (.agg (A [(I p0.Rows), (I p0.Cols)]))), (1, 9, (I p1)), (3, 11, (F b416 1)), (4, 12, (I p0.Cols))]) (pend := [0, 1, 3, 4]) J J J ?_
  replace h := bsome h
  obtain ⟨d4, h4, h⟩ := h
  refine ⟨⟨fun _ => ⟨J, J, J, .inl ⟨J, (o_ld (b := b416) (off := 0) (v := (.agg (A [(I p0.Rows), (I p0.Cols)]))) J rm1 J J ⟨J, J⟩)⟩⟩, fun _ => ⟨J, J, J, .inl ⟨J, (o_p J ⟨J, J⟩)⟩⟩, fun _ => ⟨J, J, J, .inl ⟨J, (o_fa (fd := ⟨ "Cols", 3, 1, false, "", "", 8⟩) J J J J J ⟨J, J⟩)⟩⟩, fun _ => ⟨J, J, J, .inl ⟨J, (o_ld (b := b416) (off := 1) (v := (I p0.Cols)) J rm1 J J ⟨J, J⟩)⟩⟩, trivial⟩, J, .inr ⟨[2], J, J, ⟨J, .inl J, ?_⟩, trivial⟩⟩
  refine (o_call has53 J (c_addr_Size_Wrap X p0 p1 _ h4) (pc rm0 pn) ?_)
  replace h := gsome h
  obtain ⟨hg419, h⟩ := h
  refine ⟨[(5, 13, (I (Int.tmod d4 p0.Cols))), (6, 4, (I (Int.tmod d4 p0.Cols)))], [3, 4, 5, 6], J, J, J, J, ?_⟩
  refine ⟨⟨fun _ => ⟨J, J, J, .inl ⟨J, (o_rem (m := d4) (n := p0.Cols) J J hg419 ⟨J, J⟩)⟩⟩, fun _ => ⟨J, J, J, .inl ⟨J, (o_p J ⟨J, J⟩)⟩⟩, (fun h => nomatch h), (fun h => nomatch h), fun _ => ⟨J, J, J, .inl ⟨J, (o_fa (fd := ⟨ "Cols", 3, 1, false, "", "", 8⟩) J J J J J ⟨J, J⟩)⟩⟩, fun _ => ⟨J, J, J, .inl ⟨J, (o_ld (b := b416) (off := 1) (v := (I p0.Cols)) J rm1 J J ⟨J, J⟩)⟩⟩, trivial⟩, J, J, J, ?_⟩
  refine e_seq (c_ret (e_ret ?_))
  refine r_endt J J (kc rm0 (kd kr)) ?_
  obtain rfl := si h
  exact hk

theorem c_addr_Size_Move {g : Gw} (X : HP) (p0 : Vaddr_Size) (p1 : Int) (p2 : Int) (p3 : Int) (r : Int) (h : m_addr_Size_Move p0 p1 p2 p3 = some r) : Tri env g 128 (A [(.agg (A [(I p0.Rows), (I p0.Cols)])), (I p1), (I p2), (I p3)]) [X] (fun K R => K (I r) (X :: R)) := by
 refine tri_of (fn := Tryz.f128) (N := 35) Tryz.func128 J J J ?_
 intro R K hk
 unfold m_addr_Size_Move at h
 change GC _ none _ [] [(0, (.agg (A [(I p0.Rows), (I p0.Cols)]))), (1, (I p1)), (2, (I p2)), (3, (I p3))] (X :: R) g _ _
 refine cr ?_
 refine o1 J (o_box (cs := [(I p0.Rows), (I p0.Cols)]) J J (fun b413 => ?_))
 refine op J J (oe (c_seq (cr ?_)))
 refine o1 J (o_ld (b := b413) (off := 0) (v := (.agg (A [(I p0.Rows), (I p0.Cols)]))) J rm0 J J ?_)
 replace h := bsome h
 obtain ⟨d1, h1, h⟩ := h
 refine o1 J (o_call has96 J (c_addr_Size_Valid X p0 _ h1) (pc rm1 pn) ?_)
 refine o1 J (o_p (v := (O (!d1))) J ?_)
 refine oe ?_
 refine c_cond (b := (!d1)) J (fun hb415 => ?_) (fun hb415 => ?_)
 ·replace h := cond_t hb415 h
  refine cr (op J J (oe (c_ret ?_)))
  refine e_then_ret (e_ret ?_)
  refine r_endt J J (kc rm0 (kd kr)) ?_
  obtain rfl := si h
  exact hk
 ·replace h := cond_f hb415 h
  refine c_skip (e_seq (c_seq ?_))
  refine c_draw (n := 3) (q := [(0, 13, (.agg (A [(I p0.Rows), (I p0.Cols)]))), (1, 14, (.agg (A [(I p0.Rows), (I p0.Cols)]))), (2, 15, (I p1)), (4, 17, (.agg (A [(I p0.Rows), (I p0.Cols)]))), (5, 18, (I p3))]) (pend := [0, 1, 2, 4, 5]) J J J ?_
  replace h := bsome h
  obtain ⟨d4, h4, h⟩ := h
  refine ⟨⟨fun _ => ⟨J, J, J, .inl ⟨J, (o_ld (b := b413) (off := 0) (v := (.agg (A [(I p0.Rows), (I p0.Cols)]))) J rm1 J J ⟨J, J⟩)⟩⟩, fun _ => ⟨J, J, J, .inl ⟨J, (o_ld (b := b413) (off := 0) (v := (.agg (A [(I p0.Rows), (I p0.Cols)]))) J rm1 J J ⟨J, J⟩)⟩⟩, fun _ => ⟨J, J, J, .inl ⟨J, (o_p J ⟨J, J⟩)⟩⟩, fun _ => ⟨J, J, J, .inl ⟨J, (o_ld (b := b413) (off := 0) (v := (.agg (A [(I p0.Rows), (I p0.Cols)]))) J rm1 J J ⟨J, J⟩)⟩⟩, fun _ => ⟨J, J, J, .inl ⟨J, (o_p J ⟨J, J⟩)⟩⟩, trivial⟩, J, .inr ⟨[3], J, J, ⟨J, .inl J, ?_⟩, trivial⟩⟩
  refine (o_call has53 J (c_addr_Size_Wrap X p0 p1 _ h4) (pc rm0 pn) ?_)
  refine ⟨[], [0, 4, 5], J, J, J, J, ?_⟩
  replace h := bsome h
  obtain ⟨d5, h5, h⟩ := h
  refine ⟨⟨fun _ => ⟨J, J, J, .inl ⟨J, (o_ld (b := b413) (off := 0) (v := (.agg (A [(I p0.Rows), (I p0.Cols)]))) J rm1 J J ⟨J, J⟩)⟩⟩, (fun h => nomatch h), (fun h => nomatch h), fun _ => ⟨J, J, J, .inl ⟨J, (o_ld (b := b413) (off := 0) (v := (.agg (A [(I p0.Rows), (I p0.Cols)]))) J rm1 J J ⟨J, J⟩)⟩⟩, fun _ => ⟨J, J, J, .inl ⟨J, (o_p J ⟨J, J⟩)⟩⟩, trivial⟩, J, .inr ⟨[6], J, J, ⟨J, .inl J, ?_⟩, trivial⟩⟩
  refine (o_call has53 J (c_addr_Size_Wrap X p0 p3 _ h5) (pc rm0 pn) ?_)
  refine ⟨[(7, 20, (I (w64 (d4 + d5))))], [0, 7], J, J, J, J, ?_⟩
  replace h := bsome h
  obtain ⟨d6, h6, h⟩ := h
  refine ⟨⟨fun _ => ⟨J, J, J, .inl ⟨J, (o_p (v := (I (w64 (d4 + d5)))) J ⟨J, J⟩)⟩⟩, fun _ => ⟨J, J, J, .inl ⟨J, (o_ld (b := b413) (off := 0) (v := (.agg (A [(I p0.Rows), (I p0.Cols)]))) J rm1 J J ⟨J, J⟩)⟩⟩, (fun h => nomatch h), (fun h => nomatch h), (fun h => nomatch h), (fun h => nomatch h), trivial⟩, J, .inr ⟨[8], J, J, ⟨J, .inl J, ?_⟩, trivial⟩⟩
  refine (o_call has53 J (c_addr_Size_Wrap X p0 (w64 (d4 + d5)) _ h6) (pc rm0 pn) ?_)
  refine ⟨[(9, 9, (I d6))], [9], J, J, J, J, ?_⟩
  refine ⟨⟨fun _ => ⟨J, J, J, .inl ⟨J, (o_p J ⟨J, J⟩)⟩⟩, (fun h => nomatch h), (fun h => nomatch h), (fun h => nomatch h), (fun h => nomatch h), (fun h => nomatch h), (fun h => nomatch h), trivial⟩, J, J, J, ?_⟩
  refine e_seq (c_seq ?_)
  refine c_sub (T' := [(9, (I d6)), (21, (I d6)), (20, (I (w64 (d4 + d5)))), (19, (I d5)), (16, (I d4)), (18, (I p3)), (17, (.agg (A [(I p0.Rows), (I p0.Cols)]))), (15, (I p1)), (14, (.agg (A [(I p0.Rows), (I p0.Cols)]))), (13, (.agg (A [(I p0.Rows), (I p0.Cols)]))), (12, (O (!d1))), (11, (O d1)), (10, (.agg (A [(I p0.Rows), (I p0.Cols)]))), (4, (F b413 0)), (0, (.agg (A [(I p0.Rows), (I p0.Cols)]))), (1, (I p1)), (2, (I p2)), (3, (I p3))]) (sc J (sc J (sc J (sc J (sc J (sc J (sc J (sc J (sc J (sc J (sc J (sc J (sc J (sc J (sc J (sc J (sc J (sc J sn)))))))))))))))))) ?_
  refine c_draw (n := 4) (q := [(0, 22, (.agg (A [(I p0.Rows), (I p0.Cols)]))), (1, 23, (.agg (A [(I p0.Rows), (I p0.Cols)]))), (2, 24, (I d6)), (4, 26, (I p2)), (5, 27, (F b413 0)), (6, 28, (I p0.Rows)), (9, 31, (.agg (A [(I p0.Rows), (I p0.Cols)]))), (10, 32, (I d6))]) (pend := [0, 1, 2, 4, 5, 6, 9, 10]) J J J ?_
  replace h := bsome h
  obtain ⟨d8, h8, h⟩ := h
  refine ⟨⟨fun _ => ⟨J, J, J, .inl ⟨J, (o_ld (b := b413) (off := 0) (v := (.agg (A [(I p0.Rows), (I p0.Cols)]))) J rm1 J J ⟨J, J⟩)⟩⟩, fun _ => ⟨J, J, J, .inl ⟨J, (o_ld (b := b413) (off := 0) (v := (.agg (A [(I p0.Rows), (I p0.Cols)]))) J rm1 J J ⟨J, J⟩)⟩⟩, fun _ => ⟨J, J, J, .inl ⟨J, (o_p J ⟨J, J⟩)⟩⟩, fun _ => ⟨J, J, J, .inl ⟨J, (o_p J ⟨J, J⟩)⟩⟩, fun _ => ⟨J, J, J, .inl ⟨J, (o_fa (fd := ⟨ "Rows", 3, 0, false, "", "", 0⟩) J J J J J ⟨J, J⟩)⟩⟩, fun _ => ⟨J, J, J, .inl ⟨J, (o_ld (b := b413) (off := 0) (v := (I p0.Rows)) J rm1 J J ⟨J, J⟩)⟩⟩, fun _ => ⟨J, J, J, .inl ⟨J, (o_ld (b := b413) (off := 0) (v := (.agg (A [(I p0.Rows), (I p0.Cols)]))) J rm1 J J ⟨J, J⟩)⟩⟩, fun _ => ⟨J, J, J, .inl ⟨J, (o_p J ⟨J, J⟩)⟩⟩, trivial⟩, J, .inr ⟨[3], J, J, ⟨J, .inl J, ?_⟩, trivial⟩⟩
  refine (o_call has146 J (c_addr_Size_Row X p0 d6 _ h8) (pc rm0 pn) ?_)
  refine ⟨[], [0, 4, 5, 6, 9, 10], J, J, J, J, ?_⟩
  replace h := bsome h
  obtain ⟨d9, h9, h⟩ := h
  refine ⟨⟨fun _ => ⟨J, J, J, .inl ⟨J, (o_ld (b := b413) (off := 0) (v := (.agg (A [(I p0.Rows), (I p0.Cols)]))) J rm1 J J ⟨J, J⟩)⟩⟩, (fun h => nomatch h), (fun h => nomatch h), fun _ => ⟨J, J, J, .inl ⟨J, (o_p J ⟨J, J⟩)⟩⟩, fun _ => ⟨J, J, J, .inl ⟨J, (o_fa (fd := ⟨ "Rows", 3, 0, false, "", "", 0⟩) J J J J J ⟨J, J⟩)⟩⟩, fun _ => ⟨J, J, J, .inl ⟨J, (o_ld (b := b413) (off := 0) (v := (I p0.Rows)) J rm1 J J ⟨J, J⟩)⟩⟩, fun _ => ⟨J, J, J, .inl ⟨J, (o_ld (b := b413) (off := 0) (v := (.agg (A [(I p0.Rows), (I p0.Cols)]))) J rm1 J J ⟨J, J⟩)⟩⟩, fun _ => ⟨J, J, J, .inl ⟨J, (o_p J ⟨J, J⟩)⟩⟩, trivial⟩, J, .inr ⟨[7], J, J, ⟨J, .inl J, ?_⟩, trivial⟩⟩
  refine (o_call has97 J (c_addr_rest X p2 p0.Rows _ h9) (pc rm0 pn) ?_)
  refine ⟨[(8, 30, (I (w64 (d8 + d9))))], [0, 9, 10, 8], J, J, J, J, ?_⟩
  replace h := bsome h
  obtain ⟨d10, h10, h⟩ := h
  refine ⟨⟨fun _ => ⟨J, J, J, .inl ⟨J, (o_p (v := (I (w64 (d8 + d9)))) J ⟨J, J⟩)⟩⟩, fun _ => ⟨J, J, J, .inl ⟨J, (o_ld (b := b413) (off := 0) (v := (.agg (A [(I p0.Rows), (I p0.Cols)]))) J rm1 J J ⟨J, J⟩)⟩⟩, (fun h => nomatch h), (fun h => nomatch h), (fun h => nomatch h), (fun h => nomatch h), (fun h => nomatch h), fun _ => ⟨J, J, J, .inl ⟨J, (o_ld (b := b413) (off := 0) (v := (.agg (A [(I p0.Rows), (I p0.Cols)]))) J rm1 J J ⟨J, J⟩)⟩⟩, fun _ => ⟨J, J, J, .inl ⟨J, (o_p J ⟨J, J⟩)⟩⟩, trivial⟩, J, .inr ⟨[11], J, J, ⟨J, .inl J, ?_⟩, trivial⟩⟩
  refine (o_call has147 J (c_addr_Size_Col X p0 d6 _ h10) (pc rm0 pn) ?_)
  refine ⟨[], [0, 8], J, J, J, J, ?_⟩
  replace h := bsome h
  obtain ⟨d11, h11, h⟩ := h
  refine ⟨⟨fun _ => ⟨J, J, J, .inl ⟨J, (o_p (v := (I (w64 (d8 + d9)))) J ⟨J, J⟩)⟩⟩, fun _ => ⟨J, J, J, .inl ⟨J, (o_ld (b := b413) (off := 0) (v := (.agg (A [(I p0.Rows), (I p0.Cols)]))) J rm1 J J ⟨J, J⟩)⟩⟩, (fun h => nomatch h), (fun h => nomatch h), (fun h => nomatch h), (fun h => nomatch h), (fun h => nomatch h), (fun h => nomatch h), (fun h => nomatch h), trivial⟩, J, .inr ⟨[12], J, J, ⟨J, .inl J, ?_⟩, trivial⟩⟩
  refine (o_call has145 J (c_addr_Size_At X p0 (w64 (d8 + d9)) d10 _ h11) (pc rm0 pn) ?_)
  refine ⟨[(13, 8, (I d11))], [13], J, J, J, J, ?_⟩
  refine ⟨⟨fun _ => ⟨J, J, J, .inl ⟨J, (o_p J ⟨J, J⟩)⟩⟩, (fun h => nomatch h), (fun h => nomatch h), (fun h => nomatch h), (fun h => nomatch h), (fun h => nomatch h), (fun h => nomatch h), (fun h => nomatch h), (fun h => nomatch h), (fun h => nomatch h), trivial⟩, J, J, J, ?_⟩
  refine e_seq (c_ret (e_ret ?_))
  refine r_endt J J (kc rm0 (kd kr)) ?_
  obtain rfl := si h
  exact hk

theorem c_cursor_Move {g : Gw} (X : HP) (p0 : Vspace_Space) (b0 : Nat) (s0 : SV) (p1 : Int) (p2 : Int) (r : Vspace_Space) (h : m_cursor_Move p0 p1 p2 = some r) : Tri env g 89 (A [(F b0 0), (I p1), (I p2)]) [X, blk b0 (.cells (A [(I p0.model), (O p0.alternate), (I p0.size.Rows), (I p0.size.Cols), (V s0), (I p0.cursor), (I p0.attrs)]) 122 (0, 0)), slO s0 26 en_Vapi_Cell p0.cells] (fun K R => K (.tuple (A [])) (X :: blk b0 (.cells (A [(I r.model), (O r.alternate), (I r.size.Rows), (I r.size.Cols), (V s0), (I r.cursor), (I r.attrs)]) 122 (0, 0)) :: slO s0 26 en_Vapi_Cell r.cells :: R)) := by
 refine tri_of (fn := Tryz.f89) (N := 15) Tryz.func89 J J J ?_
 intro R K hk
 unfold m_cursor_Move at h
 change GC _ none _ [] [(0, (F b0 0)), (1, (I p1)), (2, (I p2))] (X :: blk b0 (.cells (A [(I p0.model), (O p0.alternate), (I p0.size.Rows), (I p0.size.Cols), (V s0), (I p0.cursor), (I p0.attrs)]) 122 (0, 0)) :: slO s0 26 en_Vapi_Cell p0.cells :: R) g _ _
 refine c_region (op J J (op J J ?_))
 replace h := bsome h
 obtain ⟨d1, h1, h⟩ := h
 refine o1 J (o_call has121 J (c_space_Space_Size X p0 b0 s0 _ h1) (pc rm0 (pc rm0 (pc rm0 pn))) ?_)
 refine op J J ?_
 replace h := bsome h
 obtain ⟨d2, h2, h⟩ := h
 refine o1 J (o_call has24 J (c_space_Space_Cursor X p0 b0 s0 _ h2) (pc rm0 (pc rm0 (pc rm0 pn))) ?_)
 refine op J J (op J J ?_)
 replace h := bsome h
 obtain ⟨d3, h3, h⟩ := h
 refine o1 J (o_call has128 J (c_addr_Size_Move X (⟨d1.Rows, d1.Cols⟩ : Vaddr_Size) d2 p1 p2 _ h3) (pc rm0 pn) ?_)
 replace h := bsome h
 obtain ⟨d4, h4, h⟩ := h
 refine o1 J (o_call has43 J (c_space_Space_Place X (⟨p0.model, p0.alternate, p0.size, p0.cells, p0.cursor, p0.attrs⟩ : Vspace_Space) b0 s0 d3 _ h4) (pc rm0 (pc rm0 (pc rm0 pn))) ?_)
 refine o_end (e_fall ?_)
 refine r_endt J J (kc rm0 (kc rm0 (kc rm0 kr))) ?_
 obtain rfl := si h
 exact hk

theorem c_keys_Board_move {g : Gw} (X : HP) (p0 : Vkeys_Board) (b0 : Nat) (p1 : Vspace_Space) (b1 : Nat) (s0 : SV) (p2 : Vpage_Page) (b2 : Nat) (p3 : Int) (r : Vspace_Space × Vpage_Page × Vkeys_Board × Bool) (h : m_keys_Board_move p0 p1 p2 p3 = some r) : Tri env g 51 (A [(F b0 0), (I p3)]) [X, blk b0 (.cells (A [(F b1 0), (F b2 0), (I p0.lock), (O p0.inserts), (U p0.aid)]) 115 (0, 0)), blk b1 (.cells (A [(I p1.model), (O p1.alternate), (I p1.size.Rows), (I p1.size.Cols), (V s0), (I p1.cursor), (I p1.attrs)]) 122 (0, 0)), slO s0 26 en_Vapi_Cell p1.cells, pgO b2 p2.number] (fun K R => K (O r.2.2.2) (X :: blk b1 (.cells (A [(I r.1.model), (O r.1.alternate), (I r.1.size.Rows), (I r.1.size.Cols), (V s0), (I r.1.cursor), (I r.1.attrs)]) 122 (0, 0)) :: slO s0 26 en_Vapi_Cell r.1.cells :: pgO b2 r.2.1.number :: blk b0 (.cells (A [(F b1 0), (F b2 0), (I r.2.2.1.lock), (O r.2.2.1.inserts), (U r.2.2.1.aid)]) 115 (0, 0)) :: R)) := by
 refine tri_of (fn := Tryz.f51) (N := 62) Tryz.func51 J J J ?_
 intro R K hk
 unfold m_keys_Board_move at h
 change GC _ none _ [] [(0, (F b0 0)), (1, (I p3))] (X :: blk b0 (.cells (A [(F b1 0), (F b2 0), (I p0.lock), (O p0.inserts), (U p0.aid)]) 115 (0, 0)) :: blk b1 (.cells (A [(I p1.model), (O p1.alternate), (I p1.size.Rows), (I p1.size.Cols), (V s0), (I p1.cursor), (I p1.attrs)]) 122 (0, 0)) :: slO s0 26 en_Vapi_Cell p1.cells :: pgO b2 p2.number :: R) g _ _
 refine cr (op J J (oe (c_seq ?_)))
 refine cr (op J J (oe (c_block ?_)))
 refine cr ?_
 refine o1 J (o_p (v := (O (p3 == 5))) J ?_)
 refine op J J (oe ?_)
 replace h := jn_some h
 obtain ⟨y2, h, hk2⟩ := h
 refine cj (D := Int × Bool × Int × Int × (List Vapi_Cell) × Int × Int) (ι := Unit) (fun d2 i2 => y2 = Sum.inl d2) (fun d2 i2 => []) (fun d2 i2 => X :: blk b1 (.cells (A [(I d2.1), (O d2.2.1), (I d2.2.2.1), (I d2.2.2.2.1), (V s0), (I d2.2.2.2.2.2.1), (I d2.2.2.2.2.2.2)]) 122 (0, 0)) :: pgO b2 p2.number :: blk b0 (.cells (A [(F b1 0), (F b2 0), (I p0.lock), (O p0.inserts), (U p0.aid)]) 115 (0, 0)) :: slO s0 26 en_Vapi_Cell d2.2.2.2.2.1 :: R) ?_ ?_
 ·refine c_cond (b := (p3 == 5)) J (fun hb370 => ?_) (fun hb370 => ?_)
  ·replace h := cond_t hb370 h
   refine c_region (op J J (op J J ?_))
   refine o1 J (o_fa (fd := ⟨ "s", 31, 0, false, "", "vitrine/keys", 0⟩) J J J J J ?_)
   refine o1 J (o_ld (b := b0) (off := 0) (v := (F b1 0)) J rm1 J J ?_)
   replace h := bsome h
   obtain ⟨d3, h3, h⟩ := h
   refine o1 J (o_call has85 J (c_cursor_Tab X p1 b1 s0 _ h3) (pc rm0 (pc rm1 (pc rm1 pn))) ?_)
   refine o_end ?_
   obtain rfl := si h
   exact ej (d3.model, d3.alternate, d3.size.Rows, d3.size.Cols, d3.cells, d3.cursor, d3.attrs) () J sn (kc rm0 (kc rm0 (kc rm2 (kc rm1 (kc rm0 kr)))))
  ·replace h := cond_f hb370 h
   refine cr ?_
   refine o1 J (o_p (v := (O (p3 == 6))) J ?_)
   refine op J J (oe ?_)
   refine c_cond (b := (p3 == 6)) J (fun hb386 => ?_) (fun hb386 => ?_)
   ·replace h := cond_t hb386 h
    refine c_region (op J J (op J J ?_))
    refine o1 J (o_fa (fd := ⟨ "s", 31, 0, false, "", "vitrine/keys", 0⟩) J J J J J ?_)
    refine o1 J (o_ld (b := b0) (off := 0) (v := (F b1 0)) J rm1 J J ?_)
    replace h := bsome h
    obtain ⟨d4, h4, h⟩ := h
    refine o1 J (o_call has86 J (c_cursor_BackTab X p1 b1 s0 _ h4) (pc rm0 (pc rm1 (pc rm1 pn))) ?_)
    refine o_end ?_
    obtain rfl := si h
    exact ej (d4.model, d4.alternate, d4.size.Rows, d4.size.Cols, d4.cells, d4.cursor, d4.attrs) () J sn (kc rm0 (kc rm0 (kc rm2 (kc rm1 (kc rm0 kr)))))
   ·replace h := cond_f hb386 h
    refine cr ?_
    refine o1 J (o_p (v := (O (p3 == 7))) J ?_)
    refine op J J (oe ?_)
    refine c_cond (b := (p3 == 7)) J (fun hb390 => ?_) (fun hb390 => ?_)
    ·replace h := cond_t hb390 h
     refine c_region (op J J (op J J ?_))
     refine o1 J (o_fa (fd := ⟨ "s", 31, 0, false, "", "vitrine/keys", 0⟩) J J J J J ?_)
     refine o1 J (o_ld (b := b0) (off := 0) (v := (F b1 0)) J rm1 J J ?_)
     replace h := bsome h
     obtain ⟨d5, h5, h⟩ := h
     refine o1 J (o_call has87 J (c_cursor_NewLine X p1 b1 s0 _ h5) (pc rm0 (pc rm1 (pc rm1 pn))) ?_)
     refine o_end ?_
     obtain rfl := si h
     exact ej (d5.model, d5.alternate, d5.size.Rows, d5.size.Cols, d5.cells, d5.cursor, d5.attrs) () J sn (kc rm0 (kc rm0 (kc rm2 (kc rm1 (kc rm0 kr)))))
    ·replace h := cond_f hb390 h
     refine cr ?_
     refine o1 J (o_p (v := (O (p3 == 8))) J ?_)
     refine op J J (oe ?_)
     refine c_cond (b := (p3 == 8)) J (fun hb408 => ?_) (fun hb408 => ?_)
     ·replace h := cond_t hb408 h
      refine c_region (op J J (op J J ?_))
      refine o1 J (o_fa (fd := ⟨ "s", 31, 0, false, "", "vitrine/keys", 0⟩) J J J J J ?_)
      refine o1 J (o_ld (b := b0) (off := 0) (v := (F b1 0)) J rm1 J J ?_)
      replace h := bsome h
      obtain ⟨d6, h6, h⟩ := h
      refine o1 J (o_call has88 J (c_cursor_Home X p1 b1 s0 _ h6) (pc rm0 (pc rm1 (pc rm1 pn))) ?_)
      refine o_end ?_
      obtain rfl := si h
      exact ej (d6.model, d6.alternate, d6.size.Rows, d6.size.Cols, d6.cells, d6.cursor, d6.attrs) () J sn (kc rm0 (kc rm0 (kc rm2 (kc rm1 (kc rm0 kr)))))
     ·replace h := cond_f hb408 h
      refine cr ?_
      refine o1 J (o_p (v := (O (p3 == 9))) J ?_)
      refine op J J (oe ?_)
      refine c_cond (b := (p3 == 9)) J (fun hb412 => ?_) (fun hb412 => ?_)
      ·replace h := cond_t hb412 h
       refine c_region (op J J (op J J ?_))
       refine o1 J (o_fa (fd := ⟨ "s", 31, 0, false, "", "vitrine/keys", 0⟩) J J J J J ?_)
       refine o1 J (o_ld (b := b0) (off := 0) (v := (F b1 0)) J rm1 J J ?_)
       replace h := bsome h
       obtain ⟨d7, h7, h⟩ := h
       refine o1 J (o_call has89 J (c_cursor_Move X p1 b1 s0 (-1) 0 _ h7) (pc rm0 (pc rm1 (pc rm1 pn))) ?_)
       refine o_end ?_
       obtain rfl := si h
       exact ej (d7.model, d7.alternate, d7.size.Rows, d7.size.Cols, d7.cells, d7.cursor, d7.attrs) () J sn (kc rm0 (kc rm0 (kc rm2 (kc rm1 (kc rm0 kr)))))
      ·replace h := cond_f hb412 h
       refine cr ?_
       refine o1 J (o_p (v := (O (p3 == 10))) J ?_)
       refine op J J (oe ?_)
       refine c_cond (b := (p3 == 10)) J (fun hb423 => ?_) (fun hb423 => ?_)
       ·replace h := cond_t hb423 h
        refine c_region (op J J (op J J ?_))
        refine o1 J (o_fa (fd := ⟨ "s", 31, 0, false, "", "vitrine/keys", 0⟩) J J J J J ?_)
        refine o1 J (o_ld (b := b0) (off := 0) (v := (F b1 0)) J rm1 J J ?_)
        replace h := bsome h
        obtain ⟨d8, h8, h⟩ := h
        refine o1 J (o_call has89 J (c_cursor_Move X p1 b1 s0 1 0 _ h8) (pc rm0 (pc rm1 (pc rm1 pn))) ?_)
        refine o_end ?_
        obtain rfl := si h
        exact ej (d8.model, d8.alternate, d8.size.Rows, d8.size.Cols, d8.cells, d8.cursor, d8.attrs) () J sn (kc rm0 (kc rm0 (kc rm2 (kc rm1 (kc rm0 kr)))))
       ·replace h := cond_f hb423 h
        refine cr ?_
        refine o1 J (o_p (v := (O (p3 == 11))) J ?_)
        refine op J J (oe ?_)
        refine c_cond (b := (p3 == 11)) J (fun hb425 => ?_) (fun hb425 => ?_)
        ·replace h := cond_t hb425 h
         refine c_region (op J J (op J J ?_))
         refine o1 J (o_fa (fd := ⟨ "s", 31, 0, false, "", "vitrine/keys", 0⟩) J J J J J ?_)
         refine o1 J (o_ld (b := b0) (off := 0) (v := (F b1 0)) J rm1 J J ?_)
         replace h := bsome h
         obtain ⟨d9, h9, h⟩ := h
         refine o1 J (o_call has89 J (c_cursor_Move X p1 b1 s0 0 (-1) _ h9) (pc rm0 (pc rm1 (pc rm1 pn))) ?_)
         refine o_end ?_
         obtain rfl := si h
         exact ej (d9.model, d9.alternate, d9.size.Rows, d9.size.Cols, d9.cells, d9.cursor, d9.attrs) () J sn (kc rm0 (kc rm0 (kc rm2 (kc rm1 (kc rm0 kr)))))
        ·replace h := cond_f hb425 h
         refine cr ?_
         refine o1 J (o_p (v := (O (p3 == 12))) J ?_)
         refine op J J (oe ?_)
         refine c_cond (b := (p3 == 12)) J (fun hb427 => ?_) (fun hb427 => ?_)
         ·replace h := cond_t hb427 h
          refine c_region (op J J (op J J ?_))
          refine o1 J (o_fa (fd := ⟨ "s", 31, 0, false, "", "vitrine/keys", 0⟩) J J J J J ?_)
          refine o1 J (o_ld (b := b0) (off := 0) (v := (F b1 0)) J rm1 J J ?_)
          replace h := bsome h
          obtain ⟨d10, h10, h⟩ := h
          refine o1 J (o_call has89 J (c_cursor_Move X p1 b1 s0 0 1 _ h10) (pc rm0 (pc rm1 (pc rm1 pn))) ?_)
          refine o_end ?_
          obtain rfl := si h
          exact ej (d10.model, d10.alternate, d10.size.Rows, d10.size.Cols, d10.cells, d10.cursor, d10.attrs) () J sn (kc rm0 (kc rm0 (kc rm2 (kc rm1 (kc rm0 kr)))))
         ·replace h := cond_f hb427 h
          refine cr (op J J (oe (c_ret ?_)))
          refine ej_ret ?_
          replace h := esc_some h
          obtain ⟨z2, h, rfl⟩ := h
          obtain rfl := (hk2 : z2 = _)
          refine e_blk_ret (e_then_ret (e_ret ?_))
          refine r_endt J J (kc rm0 (kc rm1 (kc rm1 (kc rm1 (kc rm0 kr))))) ?_
          obtain rfl := si h
          exact hk
 ·rintro d2 i2 rfl
  replace h := JK_inl hk2
  clear hk2
  refine e_blk (e_seq (cr (op J J (o_end ?_))))
  refine e_seq (c_ret (e_ret ?_))
  refine r_endt J J (kc rm0 (kc rm0 (kc rm2 (kc rm0 (kc rm0 kr))))) ?_
  obtain rfl := si h
  exact hk

theorem c_class_Data {g : Gw} (X : HP) (p0 : Int) (r : Bool) (h : m_class_Data p0 = some r) : Tri env g 55 (A [(U p0)]) [X] (fun K R => K (O r) (X :: R)) := by
 refine tri_of (fn := Tryz.f55) (N := 9) Tryz.func55 J J J ?_
 intro R K hk
 unfold m_class_Data at h
 change GC _ none _ [] [(0, (U p0))] (X :: R) g _ _
 refine cr (op J J (oe (c_seq ?_)))
 replace h := bsome h
 obtain ⟨d1, h, hk1⟩ := h
 refine cj (D := Unit) (ι := Unit) (fun _ i1 => True) (fun _ i1 => [(2, (O d1))]) (fun _ i1 => X :: R) ?_ ?_
 ·refine c_region (op J J ?_)
  refine o1 J (o_p (v := (O (decide (p0 ≥ 64)))) J ?_)
  refine op J J ?_
  rcases bool_or ((decide (p0 ≥ 64))) with hb437 | hb437
  ·replace h := cond_t hb437 h
   refine oy J J J hb437 (o_p J ?_)
   refine oy J J J hb437 (o_p (v := (O (decide (p0 < 255)))) J ?_)
   refine o1 J (o_pick_t J hb437 J ?_)
   refine op J J (o_end ?_)
   obtain rfl := si h
   exact ej () () trivial (sc J sn) (kc rm0 kr)
  ·replace h := cond_f hb437 h
   refine on J J J hb437 ?_
   refine on J J J hb437 ?_
   refine o1 J (o_pick_f J hb437 J ?_)
   refine op J J (o_end ?_)
   obtain rfl := si h
   exact ej () () trivial (sc J sn) (kc rm0 kr)
 ·rintro _ i1 _
  replace h := hk1
  clear hk1
  refine e_seq (c_ret (e_ret ?_))
  refine r_endt J J (kc rm0 kr) ?_
  obtain rfl := si h
  exact hk

theorem c_class_Numeric {g : Gw} (X : HP) (p0 : Vpage_Page) (b0 : Nat) (p1 : Int) (r : Bool) (h : m_class_Numeric p0 p1 = some r) : Tri env g 14 (A [(F b0 0), (U p1)]) [X, pgO b0 p0.number] (fun K R => K (O r) (X :: pgO b0 p0.number :: R)) := by
 refine tri_of (fn := Tryz.f14) (N := 29) Tryz.func14 J J J ?_
 intro R K hk
 unfold m_class_Numeric at h
 change GC _ none _ [] [(0, (F b0 0)), (1, (U p1))] (X :: pgO b0 p0.number :: R) g _ _
 refine cr (op J J (oe (c_seq ?_)))
 refine cr (op J J ?_)
 refine o1 J (o_p (v := (O (p1 == 28))) J ?_)
 refine oe ?_
 refine c_cond (b := (p1 == 28)) J (fun hb444 => ?_) (fun hb444 => ?_)
 ·replace h := cond_t hb444 h
  refine cr (op J J (oe (c_ret ?_)))
  refine e_then_ret (e_ret ?_)
  refine r_endt J J (kc rm0 (kc rm0 kr)) ?_
  obtain rfl := si h
  exact hk
 ·replace h := cond_f hb444 h
  refine c_skip (e_seq (cr (op J J (op J J ?_))))
  replace h := bsome h
  obtain ⟨d2, h2, h⟩ := h
  refine o1 J (o_call has54 J (c_class_sign X p0 b0 p1 _ h2) (pc rm0 (pc rm0 pn)) ?_)
  refine op J J (oe (c_seq ?_))
  replace h := bsome h
  obtain ⟨d3, h, hk3⟩ := h
  refine cj (D := Unit) (ι := Unit) (fun _ i3 => True) (fun _ i3 => [(4, (O d3))]) (fun _ i3 => X :: pgO b0 p0.number :: R) ?_ ?_
  ·refine c_region (op J J ?_)
   replace h := bsome h
   obtain ⟨d4, h4, h⟩ := h
   refine o1 J (o_call has55 J (c_class_Data X p1 _ h4) (pc rm0 pn) ?_)
   refine op J J ?_
   rcases bool_or (d4) with hb445 | hb445
   ·replace h := cond_t hb445 h
    refine oy J J J hb445 (o_p J ?_)
    refine oy J J J hb445 (o_p (v := (O (decide (d2 ≥ 48)))) J ?_)
    refine oy J J J hb445 (o_p J ?_)
    rcases bool_or ((decide (d2 ≥ 48))) with hb446 | hb446
    ·replace h := cond_t hb446 h
     refine oy J J J hb446 (o_p J ?_)
     refine oy J J J hb446 (o_p (v := (O (decide (d2 ≤ 57)))) J ?_)
     refine oy J J J hb445 (o_pick_t J hb446 J ?_)
     refine oy J J J hb445 (o_p J ?_)
     rcases bool_or ((decide (d2 ≤ 57))) with hb447 | hb447
     ·replace h := cond_t hb447 h
      refine on J J J hb447 ?_
      refine on J J J hb447 ?_
      refine oy J J J hb445 (o_pick_t J hb447 J ?_)
      refine oy J J J hb445 (o_p J ?_)
      refine on J J J J ?_
      refine on J J J J ?_
      refine oy J J J hb445 (o_pick_t J J J ?_)
      refine o1 J (o_pick_t J hb445 J ?_)
      refine op J J (o_end ?_)
      obtain rfl := si h
      exact ej () () trivial (sc J sn) (kc rm0 (kc rm0 kr))
     ·replace h := cond_f hb447 h
      refine oy J J J hb447 (o_p J ?_)
      refine oy J J J hb447 (o_p (v := (O (d2 == 46))) J ?_)
      refine oy J J J hb445 (o_pick_f J hb447 J ?_)
      refine oy J J J hb445 (o_p J ?_)
      rcases bool_or ((d2 == 46)) with hb448 | hb448
      ·replace h := cond_t hb448 h
       refine on J J J hb448 ?_
       refine on J J J hb448 ?_
       refine oy J J J hb445 (o_pick_t J hb448 J ?_)
       refine o1 J (o_pick_t J hb445 J ?_)
       refine op J J (o_end ?_)
       obtain rfl := si h
       exact ej () () trivial (sc J sn) (kc rm0 (kc rm0 kr))
      ·replace h := cond_f hb448 h
       refine oy J J J hb448 (o_p J ?_)
       refine oy J J J hb448 (o_p (v := (O (d2 == 45))) J ?_)
       refine oy J J J hb445 (o_pick_f J hb448 J ?_)
       refine o1 J (o_pick_t J hb445 J ?_)
       refine op J J (o_end ?_)
       obtain rfl := si h
       exact ej () () trivial (sc J sn) (kc rm0 (kc rm0 kr))
    ·replace h := cond_f hb446 h
     refine on J J J hb446 ?_
     refine on J J J hb446 ?_
     refine oy J J J hb445 (o_pick_f J hb446 J ?_)
     refine oy J J J hb445 (o_p J ?_)
     refine oy J J J J (o_p J ?_)
     refine oy J J J J (o_p (v := (O (d2 == 46))) J ?_)
     refine oy J J J hb445 (o_pick_f J J J ?_)
     refine oy J J J hb445 (o_p J ?_)
     rcases bool_or ((d2 == 46)) with hb449 | hb449
     ·replace h := cond_t hb449 h
      refine on J J J hb449 ?_
      refine on J J J hb449 ?_
      refine oy J J J hb445 (o_pick_t J hb449 J ?_)
      refine o1 J (o_pick_t J hb445 J ?_)
      refine op J J (o_end ?_)
      obtain rfl := si h
      exact ej () () trivial (sc J sn) (kc rm0 (kc rm0 kr))
     ·replace h := cond_f hb449 h
      refine oy J J J hb449 (o_p J ?_)
      refine oy J J J hb449 (o_p (v := (O (d2 == 45))) J ?_)
      refine oy J J J hb445 (o_pick_f J hb449 J ?_)
      refine o1 J (o_pick_t J hb445 J ?_)
      refine op J J (o_end ?_)
      obtain rfl := si h
      exact ej () () trivial (sc J sn) (kc rm0 (kc rm0 kr))
   ·replace h := cond_f hb445 h
    refine on J J J hb445 ?_
    refine on J J J hb445 ?_
    refine on J J J hb445 ?_
    refine ou J J J ?_
    refine ou J J J ?_
    refine on J J J hb445 ?_
    refine on J J J hb445 ?_
    refine ou J J J ?_
    refine ou J J J ?_
    refine on J J J hb445 ?_
    refine on J J J hb445 ?_
    refine ou J J J ?_
    refine ou J J J ?_
    refine on J J J hb445 ?_
    refine o1 J (o_pick_f J hb445 J ?_)
    refine op J J (o_end ?_)
    obtain rfl := si h
    exact ej () () trivial (sc J sn) (kc rm0 (kc rm0 kr))
  ·rintro _ i3 _
   replace h := hk3
   clear hk3
   refine e_seq (c_ret (e_ret ?_))
   refine r_endt J J (kc rm0 (kc rm0 kr)) ?_
   obtain rfl := si h
   exact hk

theorem c_addr_Size_Span {g : Gw} (X : HP) (p0 : Vaddr_Size) (p1 : Int) (p2 : Int) (r : Unit) (h : m_addr_Size_Span p0 p1 p2 = some r) : Tri env g 154 (A [(.agg (A [(I p0.Rows), (I p0.Cols)])), (I p1), (I p2)]) [X] (fun K R => ∀ (i0 : Nat × Nat × Nat), K (.func (.func 162) #[] (A [(F i0.1 0), (F i0.2.1 0), (F i0.2.2 0)])) (X :: blk i0.1 (.cells (A [(I p0.Rows), (I p0.Cols)]) 120 (0, 0)) :: blk i0.2.1 (.cells (A [(I p1)]) 3 (0, 0)) :: blk i0.2.2 (.cells (A [(I p2)]) 3 (0, 0)) :: R)) := by
 refine tri_of (fn := Tryz.f154) (N := 8) Tryz.func154 J J J ?_
 intro R K hk
 unfold m_addr_Size_Span at h
 change GC _ none _ [] [(0, (.agg (A [(I p0.Rows), (I p0.Cols)]))), (1, (I p1)), (2, (I p2))] (X :: R) g _ _
 refine cr ?_
 refine o1 J (o_box (cs := [(I p0.Rows), (I p0.Cols)]) J J (fun b458 => ?_))
 refine o1 J (o_box (cs := [(I p1)]) J J (fun b460 => ?_))
 refine o1 J (o_box (cs := [(I p2)]) J J (fun b462 => ?_))
 refine op J J (oe (cr (op J J ?_)))
 refine op J J (oe (c_ret (e_ret ?_)))
 refine r_endt J J (kc rm3 (kc rm2 (kc rm1 (kc rm0 kr)))) ?_
 obtain rfl := si h
 exact hk (b458, b460, b462)

theorem c_addr_Size_Length {g : Gw} (X : HP) (p0 : Vaddr_Size) (p1 : Int) (p2 : Int) (r : Int) (h : m_addr_Size_Length p0 p1 p2 = some r) : Tri env g 163 (A [(.agg (A [(I p0.Rows), (I p0.Cols)])), (I p1), (I p2)]) [X] (fun K R => K (I r) (X :: R)) := by
 refine tri_of (fn := Tryz.f163) (N := 22) Tryz.func163 J J J ?_
 intro R K hk
 unfold m_addr_Size_Length at h
 change GC _ none _ [] [(0, (.agg (A [(I p0.Rows), (I p0.Cols)]))), (1, (I p1)), (2, (I p2))] (X :: R) g _ _
 refine cr ?_
 refine o1 J (o_box (cs := [(I p0.Rows), (I p0.Cols)]) J J (fun b470 => ?_))
 refine op J J (oe (c_seq (c_seq ?_)))
 refine c_draw (n := 3) (q := [(0, 8, (.agg (A [(I p0.Rows), (I p0.Cols)]))), (1, 9, (.agg (A [(I p0.Rows), (I p0.Cols)]))), (2, 10, (I p2)), (4, 12, (.agg (A [(I p0.Rows), (I p0.Cols)]))), (5, 13, (I p1))]) (pend := [0, 1, 2, 4, 5]) J J J ?_
 replace h := bsome h
 obtain ⟨d2, h2, h⟩ := h
 refine ⟨⟨fun _ => ⟨J, J, J, .inl ⟨J, (o_ld (b := b470) (off := 0) (v := (.agg (A [(I p0.Rows), (I p0.Cols)]))) J rm0 J J ⟨J, J⟩)⟩⟩, fun _ => ⟨J, J, J, .inl ⟨J, (o_ld (b := b470) (off := 0) (v := (.agg (A [(I p0.Rows), (I p0.Cols)]))) J rm0 J J ⟨J, J⟩)⟩⟩, fun _ => ⟨J, J, J, .inl ⟨J, (o_p J ⟨J, J⟩)⟩⟩, fun _ => ⟨J, J, J, .inl ⟨J, (o_ld (b := b470) (off := 0) (v := (.agg (A [(I p0.Rows), (I p0.Cols)]))) J rm0 J J ⟨J, J⟩)⟩⟩, fun _ => ⟨J, J, J, .inl ⟨J, (o_p J ⟨J, J⟩)⟩⟩, trivial⟩, J, .inr ⟨[3], J, J, ⟨J, .inl J, ?_⟩, trivial⟩⟩
 refine (o_call has53 J (c_addr_Size_Wrap X p0 p2 _ h2) (pc rm1 pn) ?_)
 refine ⟨[], [0, 4, 5], J, J, J, J, ?_⟩
 replace h := bsome h
 obtain ⟨d3, h3, h⟩ := h
 refine ⟨⟨fun _ => ⟨J, J, J, .inl ⟨J, (o_ld (b := b470) (off := 0) (v := (.agg (A [(I p0.Rows), (I p0.Cols)]))) J rm1 J J ⟨J, J⟩)⟩⟩, (fun h => nomatch h), (fun h => nomatch h), fun _ => ⟨J, J, J, .inl ⟨J, (o_ld (b := b470) (off := 0) (v := (.agg (A [(I p0.Rows), (I p0.Cols)]))) J rm1 J J ⟨J, J⟩)⟩⟩, fun _ => ⟨J, J, J, .inl ⟨J, (o_p J ⟨J, J⟩)⟩⟩, trivial⟩, J, .inr ⟨[6], J, J, ⟨J, .inl J, ?_⟩, trivial⟩⟩
 refine (o_call has53 J (c_addr_Size_Wrap X p0 p1 _ h3) (pc rm0 pn) ?_)
 refine ⟨[(7, 15, (I (w64 (d2 - d3))))], [0, 7], J, J, J, J, ?_⟩
 replace h := bsome h
 obtain ⟨d4, h4, h⟩ := h
 refine ⟨⟨fun _ => ⟨J, J, J, .inl ⟨J, (o_p (v := (I (w64 (d2 - d3)))) J ⟨J, J⟩)⟩⟩, fun _ => ⟨J, J, J, .inl ⟨J, (o_ld (b := b470) (off := 0) (v := (.agg (A [(I p0.Rows), (I p0.Cols)]))) J rm1 J J ⟨J, J⟩)⟩⟩, (fun h => nomatch h), (fun h => nomatch h), (fun h => nomatch h), (fun h => nomatch h), trivial⟩, J, .inr ⟨[8], J, J, ⟨J, .inl J, ?_⟩, trivial⟩⟩
 refine (o_call has53 J (c_addr_Size_Wrap X p0 (w64 (d2 - d3)) _ h4) (pc rm0 pn) ?_)
 refine ⟨[(9, 7, (I d4))], [9], J, J, J, J, ?_⟩
 refine ⟨⟨fun _ => ⟨J, J, J, .inl ⟨J, (o_p J ⟨J, J⟩)⟩⟩, (fun h => nomatch h), (fun h => nomatch h), (fun h => nomatch h), (fun h => nomatch h), (fun h => nomatch h), (fun h => nomatch h), trivial⟩, J, J, J, ?_⟩
 refine e_seq (cr (op J J ?_))
 refine o1 J (o_p (v := (O (decide (d4 > 0)))) J ?_)
 refine oe ?_
 refine c_cond (b := (decide (d4 > 0))) J (fun hb472 => ?_) (fun hb472 => ?_)
 ·replace h := cond_t hb472 h
  refine cr (op J J (op J J (oe ?_)))
  refine c_ret (e_then_ret (e_ret ?_))
  refine r_endt J J (kc rm0 (kd kr)) ?_
  obtain rfl := si h
  exact hk
 ·replace h := cond_f hb472 h
  refine c_skip (e_seq (cr ?_))
  refine o1 J (o_ld (b := b470) (off := 0) (v := (.agg (A [(I p0.Rows), (I p0.Cols)]))) J rm1 J J ?_)
  replace h := bsome h
  obtain ⟨d6, h6, h⟩ := h
  refine o1 J (o_call has76 J (c_addr_Size_Cells X p0 _ h6) (pc rm0 pn) ?_)
  refine op J J (oe (c_ret (e_ret ?_)))
  refine r_endt J J (kc rm0 (kd kr)) ?_
  obtain rfl := si h
  exact hk

theorem c_slices_AppendSeq {g : Gw} (X : HP) (p0 : List Int) (s0 : SV) (p1 : Vaddr_Size) (b0 : Nat) (p2 : Int) (b1 : Nat) (p3 : Int) (b2 : Nat) (r : Vaddr_Size × Int × Int × (List Int)) (h : m_slices_AppendSeq p0 p1 p2 p3 = some r) : Tri env g 152 (A [(V s0), (.func (.func 162) #[] (A [(F b0 0), (F b1 0), (F b2 0)]))]) [X, slO s0 3 (enI .i64) p0, blk b0 (.cells (A [(I p1.Rows), (I p1.Cols)]) 120 (0, 0)), blk b1 (.cells (A [(I p2)]) 3 (0, 0)), blk b2 (.cells (A [(I p3)]) 3 (0, 0))] (fun K R => ∀ (i0 : SV), K (V i0) (X :: blk b0 (.cells (A [(I r.1.Rows), (I r.1.Cols)]) 120 (0, 0)) :: blk b1 (.cells (A [(I r.2.1)]) 3 (0, 0)) :: blk b2 (.cells (A [(I r.2.2.1)]) 3 (0, 0)) :: slO i0 3 (enI .i64) r.2.2.2 :: R)) := by
 refine tri_of (fn := Tryz.f152) (N := 13) Tryz.func152 J J J ?_
 intro R K hk
 unfold m_slices_AppendSeq at h
 change GC _ none _ [] [(0, (V s0)), (1, (.func (.func 162) #[] (A [(F b0 0), (F b1 0), (F b2 0)])))] (X :: slO s0 3 (enI .i64) p0 :: blk b0 (.cells (A [(I p1.Rows), (I p1.Cols)]) 120 (0, 0)) :: blk b1 (.cells (A [(I p2)]) 3 (0, 0)) :: blk b2 (.cells (A [(I p3)]) 3 (0, 0)) :: R) g _ _
 refine cr ?_
 refine o1 J (o_box (cs := [(V s0)]) J J (fun b468 => ?_))
 refine op J J (oe (c_seq (cr ?_)))
 refine op J J (oe ?_)
 replace h := bsome h
 obtain ⟨d1, h, hk1⟩ := h
 refine cjd (D := Unit) (ι := SV × Nat) (fun _ i1 => [mk i1.2]) (fun _ i1 => True) (fun _ i1 => [(2, (F b468 0))]) (fun _ i1 => X :: blk b468 (.cells (A [(V i1.1)]) 75 (0, 0)) :: blk b0 (.cells (A [(I p1.Rows), (I p1.Cols)]) 120 (0, 0)) :: blk b1 (.cells (A [(I p2)]) 3 (0, 0)) :: blk b2 (.cells (A [(I p3)]) 3 (0, 0)) :: slO i1.1 3 (enI .i64) d1 :: blk i1.2 (.deferred (some [])) :: R) ?_ ?_
 ·refine c_block ?_
  replace h := bsome h
  obtain ⟨d2, h, hk2⟩ := h
  refine cjd (D := Unit) (ι := SV × Nat) (fun _ i2 => [mk i2.2]) (fun _ i2 => True) (fun _ i2 => [(2, (F b468 0))]) (fun _ i2 => X :: blk b468 (.cells (A [(V i2.1)]) 75 (0, 0)) :: blk b0 (.cells (A [(I p1.Rows), (I p1.Cols)]) 120 (0, 0)) :: blk b1 (.cells (A [(I p2)]) 3 (0, 0)) :: blk b2 (.cells (A [(I p3)]) 3 (0, 0)) :: slO i2.1 3 (enI .i64) d2 :: blk i2.2 (.deferred (some [])) :: R) ?_ ?_
  ·refine c_range' (fn := Tryz.f162) (M := 24) J has162 Tryz.func162 J J J (fun l3 D3 a3 fc3 rc3 hrc3 ht3 => ?_)
   change GC _ none _ [] [(0, (.func (.yield l3) #[] #[])), (1, (F b0 0)), (2, (F b1 0)), (3, (F b2 0))] (blk l3 (.loop (rc3 .ready none)) :: blk D3 (.deferred (some [])) :: blk b468 (.cells (A [(V s0)]) 75 (0, 0)) :: X :: slO s0 3 (enI .i64) p0 :: blk b0 (.cells (A [(I p1.Rows), (I p1.Cols)]) 120 (0, 0)) :: blk b1 (.cells (A [(I p2)]) 3 (0, 0)) :: blk b2 (.cells (A [(I p3)]) 3 (0, 0)) :: R) g _ _
   refine cr ?_
   refine o1 J (o_ld (b := b0) (off := 0) (v := (.agg (A [(I p1.Rows), (I p1.Cols)]))) J rm5 J J ?_)
   refine o1 J (o_ld (b := b1) (off := 0) (v := (I p2)) J rm6 J J ?_)
   refine o1 J (o_ld (b := b2) (off := 0) (v := (I p3)) J rm7 J J ?_)
   replace h := bsome h
   obtain ⟨d4, h4, h⟩ := h
   refine o1 J (o_call has163 J (c_addr_Size_Length X p1 p2 p3 _ h4) (pc rm3 pn) ?_)
   refine op J J (oe ?_)
   replace h := bsome h
   obtain ⟨d5, h, hk5⟩ := h
   refine cj (D := Unit) (ι := SV) (fun _ i5 => True) (fun _ i5 => []) (fun _ i5 => X :: blk b0 (.cells (A [(I p1.Rows), (I p1.Cols)]) 120 (0, 0)) :: blk b1 (.cells (A [(I p2)]) 3 (0, 0)) :: blk b2 (.cells (A [(I p3)]) 3 (0, 0)) :: blk b468 (.cells (A [(V i5)]) 75 (0, 0)) :: slO i5 3 (enI .i64) d5 :: blk l3 (.loop (rc3 .ready none)) :: blk D3 (.deferred (some [])) :: R) ?_ ?_
   ·refine c_block ?_
    refine c_loop (l_sub (sc J (sc J (sc J (sc J (sc J sn))))) (l_keep (kc rm0 (kc rm4 (kc rm4 (kc rm4 (kc rm2 (kc rm2 (kc rm0 (kc rm0 kr)))))))) (lf (X := Int × (List Int)) (ι := SV) (fun k x => slices_AppendSeq_l6 p1 p2 d4 k x) _ (fun x6 i6 => True) (fun x6 i6 => [(10, (I x6.1)), (9, (I d4)), (0, (.func (.yield l3) #[] #[])), (1, (F b0 0)), (2, (F b1 0))]) (fun x6 i6 => X :: blk b0 (.cells (A [(I p1.Rows), (I p1.Cols)]) 120 (0, 0)) :: blk b1 (.cells (A [(I p2)]) 3 (0, 0)) :: blk b2 (.cells (A [(I p3)]) 3 (0, 0)) :: blk b468 (.cells (A [(V i6)]) 75 (0, 0)) :: slO i6 3 (enI .i64) x6.2 :: blk l3 (.loop (rc3 .ready none)) :: blk D3 (.deferred (some [])) :: R) (fun _ => J) ?_ fuel (0, p0) s0 trivial h)))
    clear h
    rintro k6 ih6 x6 i6 _ h
    rw [slices_AppendSeq_l6.eq_2] at h
    refine l_round (cr ?_)
    refine o1 J (o_p (v := (O (decide (x6.1 < d4)))) J ?_)
    refine oe (c_seq ?_)
    refine c_cond (b := (decide (x6.1 < d4))) J (fun hb487 => ?_) (fun hb487 => ?_)
    ·replace h := cond_t hb487 h
     refine c_skip (e_seq (c_seq (c_block (cr ?_))))
     refine op J J (op J J (oe (c_seq ?_)))
     refine c_draw (n := 3) (q := [(0, 13, (.func (.yield l3) #[] #[])), (1, 14, (.agg (A [(I p1.Rows), (I p1.Cols)]))), (2, 15, (.agg (A [(I p1.Rows), (I p1.Cols)]))), (3, 16, (I p2)), (5, 18, (I x6.1))]) (pend := [0, 1, 2, 3, 5]) J J J ?_
     replace h := bsome h
     obtain ⟨d10, h10, h⟩ := h
     refine ⟨⟨fun _ => ⟨J, J, J, .inl ⟨J, (o_p J ⟨J, J⟩)⟩⟩, fun _ => ⟨J, J, J, .inl ⟨J, (o_ld (b := b0) (off := 0) (v := (.agg (A [(I p1.Rows), (I p1.Cols)]))) J rm1 J J ⟨J, J⟩)⟩⟩, fun _ => ⟨J, J, J, .inl ⟨J, (o_ld (b := b0) (off := 0) (v := (.agg (A [(I p1.Rows), (I p1.Cols)]))) J rm1 J J ⟨J, J⟩)⟩⟩, fun _ => ⟨J, J, J, .inl ⟨J, (o_ld (b := b1) (off := 0) (v := (I p2)) J rm2 J J ⟨J, J⟩)⟩⟩, fun _ => ⟨J, J, J, .inl ⟨J, (o_p J ⟨J, J⟩)⟩⟩, trivial⟩, J, .inr ⟨[4], J, J, ⟨J, .inl J, ?_⟩, trivial⟩⟩
     refine (o_call has53 J (c_addr_Size_Wrap X p1 p2 _ h10) (pc rm0 pn) ?_)
     refine ⟨[(6, 19, (I (w64 (d10 + x6.1))))], [0, 1, 5, 6], J, J, J, J, ?_⟩
     replace h := bsome h
     obtain ⟨d11, h11, h⟩ := h
     refine ⟨⟨fun _ => ⟨J, J, J, .inl ⟨J, (o_p (v := (I (w64 (d10 + x6.1)))) J ⟨J, J⟩)⟩⟩, fun _ => ⟨J, J, J, .inl ⟨J, (o_p J ⟨J, J⟩)⟩⟩, fun _ => ⟨J, J, J, .inl ⟨J, (o_ld (b := b0) (off := 0) (v := (.agg (A [(I p1.Rows), (I p1.Cols)]))) J rm1 J J ⟨J, J⟩)⟩⟩, (fun h => nomatch h), (fun h => nomatch h), fun _ => ⟨J, J, J, .inl ⟨J, (o_p J ⟨J, J⟩)⟩⟩, trivial⟩, J, .inr ⟨[7], J, J, ⟨J, .inl J, ?_⟩, trivial⟩⟩
     refine (o_call has53 J (c_addr_Size_Wrap X p1 (w64 (d10 + x6.1)) _ h11) (pc rm0 pn) ?_)
     refine ⟨[], [0], J, J, J, J, ?_⟩
     refine ⟨⟨(fun h => nomatch h), fun _ => ⟨J, J, J, .inl ⟨J, (o_p J ⟨J, J⟩)⟩⟩, (fun h => nomatch h), (fun h => nomatch h), (fun h => nomatch h), (fun h => nomatch h), trivial⟩, J, .inr ⟨[8], J, J, ⟨J, .inl J, ?_⟩, trivial⟩⟩
     refine (o_yield' hrc3 ht3 J J J J rm6 ?_)
     refine c_region (op J J (o_end ?_))
     refine e_begin' hrc3 rm0 ?_
     refine c_block (c_region ?_)
     refine o1 J (o_ld (b := b468) (off := 0) (v := (V i6)) J rm5 J J ?_)
     refine op J J ?_
     refine o1 J (o_bs (e := (enI .i64)) (l := [d11]) (zs := [(I 0)]) J J J J J J J J J J (fun s488 => ?_))
     replace h := gsome h
     obtain ⟨hg490, h⟩ := h
     refine o1 J (o_app (s := i6) (r := s488) (e := (enI .i64)) (l := x6.2) (l2 := [d11]) (zs := [(I 0)]) J J J J J J J J J J J rm7 rm0 (rd_own _ _ _ _) hg490 (fun s491 => ?_))
     refine o0 (o_st (b := b468) (off := 0) (vs := [(V s491)]) (cs' := [(V s491)]) J J rp7 J J J J J J ?_)
     refine o_end (e_blk ?_)
     refine e_on' hrc3 rm2 ?_
     refine ⟨[(9, 22, (O false))], [9], J, J, J, J, ?_⟩
     refine ⟨⟨fun _ => ⟨J, J, J, .inl ⟨J, (o_p (v := (O false)) J ⟨J, J⟩)⟩⟩, (fun h => nomatch h), (fun h => nomatch h), (fun h => nomatch h), (fun h => nomatch h), (fun h => nomatch h), (fun h => nomatch h), trivial⟩, J, J, J, ?_⟩
     refine e_seq ?_
     refine c_cond_f J J ?_
     refine c_skip (e_blk (e_seq (c_region ?_)))
     refine o1 J (o_p (v := (I (w64 (x6.1 + 1)))) J ?_)
     refine op J J (o_end ?_)
     exact e_loop (l_sub (sc J (sc J (sc J (sc J (sc J sn))))) (l_keep (kc rm3 (kc rm3 (kc rm3 (kc rm3 (kc rm3 (kc rm1 (kc rm0 (kc rm1 (kd kr))))))))) (ih6 (w64 (x6.1 + 1), (x6.2 ++ [d11])) s491 trivial h)))
    ·replace h := cond_f hb487 h
     refine c_exit (e_then_exit (e_then_exit (e_blk_exit ?_)))
     obtain rfl := si h
     exact ej () i6 trivial sn (kc rm0 (kc rm0 (kc rm0 (kc rm0 (kc rm0 (kc rm0 (kc rm0 (kc rm0 kr))))))))
   ·rintro _ i5 _
    replace h := hk5
    clear hk5
    refine e_fall ?_
    refine r_end (rs := []) (vs := []) J J ?_
    refine ke' hrc3 rm6 (by simp) ?_
    obtain rfl := si h
    exact ejd () (i5, D3) trivial J (sc J sn) (kc rm0 (kc rm3 (kc rm0 (kc rm0 (kc rm0 (kc rm0 (kc rm0 kr)))))))
  ·rintro _ i2 _
   replace h := hk2
   clear hk2
   refine e_blk ?_
   obtain rfl := si h
   exact ejd () (i2.1, i2.2) trivial J (sc J sn) (kc rm0 (kc rm0 (kc rm0 (kc rm0 (kc rm0 (kc rm0 (kc rm0 kr)))))))
 ·rintro _ i1 _
  replace h := hk1
  clear hk1
  refine e_seq (cr ?_)
  refine o1 J (o_ld (b := b468) (off := 0) (v := (V i1.1)) J rm1 J J ?_)
  refine op J J (oe (c_ret (e_ret ?_)))
  refine r_mark rm6 ?_
  refine r_endt J J (kc rm0 (kc rm1 (kc rm1 (kc rm1 (kc rm1 (kd kr)))))) ?_
  obtain rfl := si h
  exact hk i1.1

theorem c_slices_Collect {g : Gw} (X : HP) (p0 : Vaddr_Size) (b0 : Nat) (p1 : Int) (b1 : Nat) (p2 : Int) (b2 : Nat) (r : Vaddr_Size × Int × Int × (List Int)) (h : m_slices_Collect p0 p1 p2 = some r) : Tri env g 132 (A [(.func (.func 162) #[] (A [(F b0 0), (F b1 0), (F b2 0)]))]) [X, blk b0 (.cells (A [(I p0.Rows), (I p0.Cols)]) 120 (0, 0)), blk b1 (.cells (A [(I p1)]) 3 (0, 0)), blk b2 (.cells (A [(I p2)]) 3 (0, 0))] (fun K R => ∀ (i0 : SV), K (V i0) (X :: blk b0 (.cells (A [(I r.1.Rows), (I r.1.Cols)]) 120 (0, 0)) :: blk b1 (.cells (A [(I r.2.1)]) 3 (0, 0)) :: blk b2 (.cells (A [(I r.2.2.1)]) 3 (0, 0)) :: slO i0 3 (enI .i64) r.2.2.2 :: R)) := by
 refine tri_of (fn := Tryz.f132) (N := 5) Tryz.func132 J J J ?_
 intro R K hk
 unfold m_slices_Collect at h
 change GC _ none _ [] [(0, (.func (.func 162) #[] (A [(F b0 0), (F b1 0), (F b2 0)])))] (X :: blk b0 (.cells (A [(I p0.Rows), (I p0.Cols)]) 120 (0, 0)) :: blk b1 (.cells (A [(I p1)]) 3 (0, 0)) :: blk b2 (.cells (A [(I p2)]) 3 (0, 0)) :: R) g _ _
 refine cr (op J J (oe (c_seq ?_)))
 refine c_region (op J J ?_)
 refine o_add (slO SV.nil 3 (enI .i64) []) (slO_nil _ _ _) ?_
 replace h := bsome h
 obtain ⟨d1, h1, h⟩ := h
 refine o1 J (o_call has152 J (c_slices_AppendSeq X ([] : List Int) SV.nil p0 b0 p1 b1 p2 b2 _ h1) (pc rm1 (pc rm0 (pc rm0 (pc rm0 (pc rm0 pn))))) (fun i1 => ?_))
 refine op J J (oe (c_ret (e_ret ?_)))
 refine r_endt J J (kc rm0 (kc rm0 (kc rm0 (kc rm0 (kc rm0 kr))))) ?_
 obtain rfl := si h
 exact hk i1

theorem c_field_Places {g : Gw} (X : HP) (p0 : Vspace_Space) (b0 : Nat) (s0 : SV) (p1 : Int) (r : Unit) (h : m_field_Places p0 p1 = some r) : Tri env g 137 (A [(F b0 0), (I p1)]) [X, blk b0 (.cells (A [(I p0.model), (O p0.alternate), (I p0.size.Rows), (I p0.size.Cols), (V s0), (I p0.cursor), (I p0.attrs)]) 122 (0, 0)), slO s0 26 en_Vapi_Cell p0.cells] (fun K R => ∀ (i0 : Nat × Nat), K (.func (.func 158) #[] (A [(F i0.1 0), (F i0.2 0)])) (X :: blk b0 (.cells (A [(I p0.model), (O p0.alternate), (I p0.size.Rows), (I p0.size.Cols), (V s0), (I p0.cursor), (I p0.attrs)]) 122 (0, 0)) :: slO s0 26 en_Vapi_Cell p0.cells :: blk i0.1 (.cells (A [(F b0 0)]) 31 (0, 0)) :: blk i0.2 (.cells (A [(I p1)]) 3 (0, 0)) :: R)) := by
 refine tri_of (fn := Tryz.f137) (N := 6) Tryz.func137 J J J ?_
 intro R K hk
 unfold m_field_Places at h
 change GC _ none _ [] [(0, (F b0 0)), (1, (I p1))] (X :: blk b0 (.cells (A [(I p0.model), (O p0.alternate), (I p0.size.Rows), (I p0.size.Cols), (V s0), (I p0.cursor), (I p0.attrs)]) 122 (0, 0)) :: slO s0 26 en_Vapi_Cell p0.cells :: R) g _ _
 refine cr ?_
 refine o1 J (o_box (cs := [(F b0 0)]) J J (fun b501 => ?_))
 refine o1 J (o_box (cs := [(I p1)]) J J (fun b503 => ?_))
 refine op J J (oe (cr (op J J ?_)))
 refine op J J (oe (c_ret (e_ret ?_)))
 refine r_endt J J (kc rm2 (kc rm2 (kc rm2 (kc rm1 (kc rm0 kr))))) ?_
 obtain rfl := si h
 exact hk (b501, b503)

end Go.Vt
