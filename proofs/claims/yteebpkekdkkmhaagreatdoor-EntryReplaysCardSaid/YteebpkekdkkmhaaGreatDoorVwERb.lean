/- The walks: each function does what its model says. No conditions. -/
import Derived.Test.YteebpkekdkkmhaaGreatDoorVwERa
set_option linter.unusedVariables false
set_option maxRecDepth 100000
set_option maxHeartbeats 4000000
namespace Go.Vt
open Go.Proofs
theorem c_vitrineref12_New {g : Gw} (hg : GK g) (X : HP) (p0 : Int) (r : (Unit) ⊕ (Vvitrineref12_Space)) (h : m_vitrineref12_New p0 = some r) : Tri env g 19 (A [(I p0)]) [X] (fun K R => match r with | .inl r => K (.pointer none) (X :: R) | .inr r => ∀ (i0 : Nat × SV), K (F i0.1 0) (X :: blk i0.1 (.cells (A [(I r.Model), (O r.Alt), (I r.Size.Rows), (I r.Size.Cols), (V i0.2), (I r.Cursor)]) 40 (0, 0)) :: slO i0.2 49 en_Vapi_Cell r.L :: R)) := by
 refine tri_of (fn := Tryz.f19) (N := 19) Tryz.func19 J J J ?_
 intro R K hk
 unfold m_vitrineref12_New at h
 change GC _ none _ [] [(0, (I p0))] (X :: R) g _ _
 refine cr (op J J (oe (c_seq ?_)))
 refine cr (op J J ?_)
 replace h := bsome h
 obtain ⟨d1, h1, h⟩ := h
 refine o1 J (o_call has44 J (c_vitrineref04_Model hg X p0 _ h1) (pc rm0 pn) ?_)
 refine op J J (op J J (op J J ?_))
 refine o1 J (o_alloc (cs := [(I 0), (I 0)]) J J (fun b420 => ?_))
 refine o0 (o_st (b := b420) (off := 0) (vs := [(I d1.1.Rows), (I d1.1.Cols)]) (cs' := [(I d1.1.Rows), (I d1.1.Cols)]) J J rp0 J J J J J J ?_)
 refine op J J (oe (cr (op J J ?_)))
 refine o1 J (o_p (v := (O (!d1.2))) J ?_)
 refine oe ?_
 refine c_cond (b := (!d1.2)) J (fun hb422 => ?_) (fun hb422 => ?_)
 ·replace h := cond_t hb422 h
  refine cr (op J J (oe (c_ret ?_)))
  refine e_then_ret (e_ret ?_)
  refine r_endt J J (kc rm1 (kd kr)) ?_
  obtain rfl := si h
  exact hk
 ·replace h := cond_f hb422 h
  refine c_skip (e_seq (cr (op J J ?_)))
  refine o1 J (o_build (fs := [⟨ "Model", 3, 0, false, "", "", 0⟩, ⟨ "Alt", 4, 1, false, "", "", 8⟩, ⟨ "Size", 38, 2, false, "", "", 16⟩, ⟨ "L", 33, 4, false, "", "", 32⟩, ⟨ "Cursor", 3, 5, false, "", "", 56⟩]) (ps := [(0, 1), (1, 1), (2, 2), (4, 1), (5, 1)]) (cs := [(I p0), (O false), (I 0), (I 0), (V SV.nil), (I 0)]) J J J J J ?_)
  refine o1 J (o_box (cs := [(I p0), (O false), (I 0), (I 0), (V SV.nil), (I 0)]) J J (fun b423 => ?_))
  refine op J J (oe (cr (op J J ?_)))
  replace h := bsome h
  obtain ⟨d3, h3, h⟩ := h
  refine o1 J (o_call has45 J (c_vitrineref12_Clear hg X (⟨p0, false, (⟨0, 0⟩ : Vvitrineref04_Size), ([] : List Vapi_Cell), 0⟩ : Vvitrineref12_Space) b423 SV.nil (rd_nil _ _ _) false _ h3) (pc rm2 (pc rm0 pn)) (fun i3 => ?_))
  refine oe (cr (op J J (op J J ?_)))
  refine oe (c_ret (e_ret ?_))
  refine r_endt J J (kc rm0 (kc rm0 (kc rm0 (kd kr)))) ?_
  obtain rfl := si h
  exact hk (b423, i3)

theorem c_vitrineref12_Clear_2 {g : Gw} (hg : GK g) (X : HP) (p0 : Vvitrineref12_Space) (b0 : Nat) (s0 : SV) (p1 : Bool) (r : Vvitrineref12_Space) (h : m_vitrineref12_Clear_2 p0 p1 = some r) : Tri env g 45 (A [(F b0 0), (O p1)]) [X, blk b0 (.cells (A [(I p0.Model), (O p0.Alt), (I p0.Size.Rows), (I p0.Size.Cols), (V s0), (I p0.Cursor)]) 40 (0, 0)), slO s0 49 en_Vapi_Cell p0.L] (fun K R => ∀ (i0 : SV), K (.tuple (A [])) (X :: blk b0 (.cells (A [(I r.Model), (O r.Alt), (I r.Size.Rows), (I r.Size.Cols), (V i0), (I r.Cursor)]) 40 (0, 0)) :: slO i0 49 en_Vapi_Cell r.L :: slO s0 49 en_Vapi_Cell p0.L :: R)) := by
 refine tri_of (fn := Tryz.f45) (N := 39) Tryz.func45 J J J ?_
 intro R K hk
 unfold m_vitrineref12_Clear_2 at h
 change GC _ none _ [] [(0, (F b0 0)), (1, (O p1))] (X :: blk b0 (.cells (A [(I p0.Model), (O p0.Alt), (I p0.Size.Rows), (I p0.Size.Cols), (V s0), (I p0.Cursor)]) 40 (0, 0)) :: slO s0 49 en_Vapi_Cell p0.L :: R) g _ _
 refine cr (op J J (op J J (op J J ?_)))
 refine o1 J (o_fa (fd := ⟨ "Alt", 4, 1, false, "", "", 8⟩) J J J J J ?_)
 refine o0 (o_st (b := b0) (off := 1) (vs := [(O p1)]) (cs' := [(I p0.Model), (O p1), (I p0.Size.Rows), (I p0.Size.Cols), (V s0), (I p0.Cursor)]) J J rp1 J J J J J J ?_)
 refine oe (cr (op J J ?_))
 replace h := bsome h
 obtain ⟨d1, h1, h⟩ := h
 refine o1 J (o_call has44 J (c_vitrineref04_Model hg X 2 _ h1) (pc rm0 pn) ?_)
 refine op J J (op J J (op J J (op J J ?_)))
 refine o1 J (o_fa (fd := ⟨ "Size", 38, 2, false, "", "", 16⟩) J J J J J ?_)
 refine o0 (o_st (b := b0) (off := 2) (vs := [(I d1.1.Rows), (I d1.1.Cols)]) (cs' := [(I p0.Model), (O p1), (I d1.1.Rows), (I d1.1.Cols), (V s0), (I p0.Cursor)]) J J rp1 J J J J J J ?_)
 refine oe (c_seq (cr (op J J ?_)))
 refine oe ?_
 replace h := bsome h
 obtain ⟨d2, h, hk2⟩ := h
 refine cj (D := Unit) (ι := Unit) (fun _ i2 => True) (fun _ i2 => [(0, (F b0 0))]) (fun _ i2 => X :: blk b0 (.cells (A [(I p0.Model), (O p1), (I d2.1), (I d2.2), (V s0), (I p0.Cursor)]) 40 (0, 0)) :: slO s0 49 en_Vapi_Cell p0.L :: R) ?_ ?_
 ·refine c_cond (b := p1) J (fun hb455 => ?_) (fun hb455 => ?_)
  ·replace h := cond_t hb455 h
   refine c_region (op J J (op J J (op J J ?_)))
   refine o1 J (o_fa (fd := ⟨ "Model", 3, 0, false, "", "", 0⟩) J J J J J ?_)
   refine o1 J (o_ld (b := b0) (off := 0) (v := (I p0.Model)) J rm1 J J ?_)
   replace h := bsome h
   obtain ⟨d3, h3, h⟩ := h
   refine o1 J (o_call has44 J (c_vitrineref04_Model hg X p0.Model _ h3) (pc rm0 pn) ?_)
   refine op J J (op J J (op J J (op J J ?_)))
   refine o1 J (o_fa (fd := ⟨ "Size", 38, 2, false, "", "", 16⟩) J J J J J ?_)
   refine o0 (o_st (b := b0) (off := 2) (vs := [(I d3.1.Rows), (I d3.1.Cols)]) (cs' := [(I p0.Model), (O p1), (I d3.1.Rows), (I d3.1.Cols), (V s0), (I p0.Cursor)]) J J rp1 J J J J J J ?_)
   refine o_end ?_
   obtain rfl := si h
   exact ej () () trivial (sc J sn) (kc rm0 (kc rm0 (kc rm0 kr)))
  ·replace h := cond_f hb455 h
   refine c_skip ?_
   obtain rfl := si h
   exact ej () () trivial (sc J sn) (kc rm0 (kc rm0 (kc rm0 kr)))
 ·rintro _ i2 _
  replace h := hk2
  clear hk2
  refine e_seq (cr (op J J (op J J (op J J ?_))))
  refine o1 J (o_fa (fd := ⟨ "Size", 38, 2, false, "", "", 16⟩) J J J J J ?_)
  refine o1 J (o_ld (b := b0) (off := 2) (v := (.agg (A [(I d2.1), (I d2.2)]))) J rm1 J J ?_)
  replace h := bsome h
  obtain ⟨d4, h4, h⟩ := h
  refine o1 J (o_call has77 J (c_vitrineref04_Cells hg X (⟨d2.1, d2.2⟩ : Vvitrineref04_Size) _ h4) (pc rm0 pn) ?_)
  replace h := gsome h
  obtain ⟨hg456, h⟩ := h
  refine o1 J (o_mk (e := en_Vapi_Cell) (z := (⟨0, false, 0, 0, 0, 0⟩ : Vapi_Cell)) (zs := [(U 0), (O false), (U 0), (U 0), (U 0), (U 0)]) J J J J J J J J J hg456 (fun s457 => ?_))
  refine op J J ?_
  refine o1 J (o_fa (fd := ⟨ "L", 33, 4, false, "", "", 32⟩) J J J J J ?_)
  refine o0 (o_st (b := b0) (off := 4) (vs := [(V s457)]) (cs' := [(I p0.Model), (O p1), (I d2.1), (I d2.2), (V s457), (I p0.Cursor)]) J J rp2 J J J J J J ?_)
  refine oe (c_region (op J J (op J J ?_)))
  refine o1 J (o_fa (fd := ⟨ "Cursor", 3, 5, false, "", "", 56⟩) J J J J J ?_)
  refine o0 (o_st (b := b0) (off := 5) (vs := [(I 0)]) (cs' := [(I p0.Model), (O p1), (I d2.1), (I d2.2), (V s457), (I 0)]) J J rp2 J J J J J J ?_)
  refine o_end (e_fall ?_)
  refine r_endt J J (kc rm1 (kc rm1 (kc rm0 (kc rm0 kr)))) ?_
  obtain rfl := si h
  exact hk s457

theorem c_vitrineref04_Mod {g : Gw} (hg : GK g) (X : HP) (p0 : Int) (p1 : Int) (r : Int) (h : m_vitrineref04_Mod p0 p1 = some r) : Tri env g 97 (A [(I p0), (I p1)]) [X] (fun K R => K (I r) (X :: R)) := by
 refine tri_of (fn := Tryz.f97) (N := 14) Tryz.func97 J J J ?_
 intro R K hk
 unfold m_vitrineref04_Mod at h
 change GC _ none _ [] [(0, (I p0)), (1, (I p1))] (X :: R) g _ _
 refine cr (op J J (oe (c_seq ?_)))
 refine cr (op J J ?_)
 refine o1 J (o_p (v := (O (decide (p1 < 1)))) J ?_)
 refine oe ?_
 refine c_cond (b := (decide (p1 < 1))) J (fun hb464 => ?_) (fun hb464 => ?_)
 ·replace h := cond_t hb464 h
  refine cr (op J J (oe (c_ret ?_)))
  refine e_then_ret (e_ret ?_)
  refine r_endt J J (kc rm0 kr) ?_
  obtain rfl := si h
  exact hk
 ·replace h := cond_f hb464 h
  refine c_skip (e_seq (cr (op J J (op J J ?_))))
  replace h := gsome h
  obtain ⟨hg465, h⟩ := h
  refine o1 J (o_rem (m := p0) (n := p1) J J hg465 ?_)
  refine op J J ?_
  refine o1 J (o_p (v := (I (w64 ((Int.tmod p0 p1) + p1)))) J ?_)
  refine op J J ?_
  replace h := gsome h
  obtain ⟨hg466, h⟩ := h
  refine o1 J (o_rem (m := w64 ((Int.tmod p0 p1) + p1)) (n := p1) J J hg466 ?_)
  refine op J J (oe (c_ret (e_ret ?_)))
  refine r_endt J J (kc rm0 kr) ?_
  obtain rfl := si h
  exact hk

theorem c_vitrineref04_Wrap {g : Gw} (hg : GK g) (X : HP) (p0 : Vvitrineref04_Size) (p1 : Int) (r : Int) (h : m_vitrineref04_Wrap p0 p1 = some r) : Tri env g 78 (A [(.agg (A [(I p0.Rows), (I p0.Cols)])), (I p1)]) [X] (fun K R => K (I r) (X :: R)) := by
 refine tri_of (fn := Tryz.f78) (N := 9) Tryz.func78 J J J ?_
 intro R K hk
 unfold m_vitrineref04_Wrap at h
 change GC _ none _ [] [(0, (.agg (A [(I p0.Rows), (I p0.Cols)]))), (1, (I p1))] (X :: R) g _ _
 refine cr ?_
 refine o1 J (o_box (cs := [(I p0.Rows), (I p0.Cols)]) J J (fun b462 => ?_))
 refine op J J (oe (cr (op J J ?_)))
 refine o1 J (o_ld (b := b462) (off := 0) (v := (.agg (A [(I p0.Rows), (I p0.Cols)]))) J rm0 J J ?_)
 replace h := bsome h
 obtain ⟨d1, h1, h⟩ := h
 refine o1 J (o_call has77 J (c_vitrineref04_Cells hg X p0 _ h1) (pc rm1 pn) ?_)
 replace h := bsome h
 obtain ⟨d2, h2, h⟩ := h
 refine o1 J (o_call has97 J (c_vitrineref04_Mod hg X p1 d1 _ h2) (pc rm0 pn) ?_)
 refine op J J (oe (c_ret (e_ret ?_)))
 refine r_endt J J (kc rm0 (kd kr)) ?_
 obtain rfl := si h
 exact hk

theorem c_vitrineref12_Wrap {g : Gw} (hg : GK g) (X : HP) (p0 : Vvitrineref12_Space) (b0 : Nat) (s0 : SV) (p1 : Int) (r : Int) (h : m_vitrineref12_Wrap p0 p1 = some r) : Tri env g 46 (A [(F b0 0), (I p1)]) [X, blk b0 (.cells (A [(I p0.Model), (O p0.Alt), (I p0.Size.Rows), (I p0.Size.Cols), (V s0), (I p0.Cursor)]) 40 (0, 0)), slO s0 49 en_Vapi_Cell p0.L] (fun K R => K (I r) (X :: blk b0 (.cells (A [(I p0.Model), (O p0.Alt), (I p0.Size.Rows), (I p0.Size.Cols), (V s0), (I p0.Cursor)]) 40 (0, 0)) :: slO s0 49 en_Vapi_Cell p0.L :: R)) := by
 refine tri_of (fn := Tryz.f46) (N := 11) Tryz.func46 J J J ?_
 intro R K hk
 unfold m_vitrineref12_Wrap at h
 change GC _ none _ [] [(0, (F b0 0)), (1, (I p1))] (X :: blk b0 (.cells (A [(I p0.Model), (O p0.Alt), (I p0.Size.Rows), (I p0.Size.Cols), (V s0), (I p0.Cursor)]) 40 (0, 0)) :: slO s0 49 en_Vapi_Cell p0.L :: R) g _ _
 refine cr (op J J (oe (c_seq ?_)))
 refine c_region (op J J (op J J ?_))
 refine o1 J (o_fa (fd := ⟨ "Size", 38, 2, false, "", "", 16⟩) J J J J J ?_)
 refine o1 J (o_ld (b := b0) (off := 2) (v := (.agg (A [(I p0.Size.Rows), (I p0.Size.Cols)]))) J rm1 J J ?_)
 refine op J J ?_
 replace h := bsome h
 obtain ⟨d1, h1, h⟩ := h
 refine o1 J (o_call has78 J (c_vitrineref04_Wrap hg X p0.Size p1 _ h1) (pc rm0 pn) ?_)
 refine op J J (oe (c_ret (e_ret ?_)))
 refine r_endt J J (kc rm0 (kc rm0 (kc rm0 kr))) ?_
 obtain rfl := si h
 exact hk

theorem c_vitrineref12_At {g : Gw} (hg : GK g) (X : HP) (p0 : Vvitrineref12_Space) (b0 : Nat) (s0 : SV) (p1 : Int) (r : Vapi_Cell) (h : m_vitrineref12_At p0 p1 = some r) : Tri env g 79 (A [(F b0 0), (I p1)]) [X, blk b0 (.cells (A [(I p0.Model), (O p0.Alt), (I p0.Size.Rows), (I p0.Size.Cols), (V s0), (I p0.Cursor)]) 40 (0, 0)), slO s0 49 en_Vapi_Cell p0.L] (fun K R => K (.agg (A [(U r.Char), (O r.Attr), (U r.FA), (U r.High), (U r.Color), (U r.f_Set)])) (X :: blk b0 (.cells (A [(I p0.Model), (O p0.Alt), (I p0.Size.Rows), (I p0.Size.Cols), (V s0), (I p0.Cursor)]) 40 (0, 0)) :: slO s0 49 en_Vapi_Cell p0.L :: R)) := by
 refine tri_of (fn := Tryz.f79) (N := 14) Tryz.func79 J J J ?_
 intro R K hk
 unfold m_vitrineref12_At at h
 change GC _ none _ [] [(0, (F b0 0)), (1, (I p1))] (X :: blk b0 (.cells (A [(I p0.Model), (O p0.Alt), (I p0.Size.Rows), (I p0.Size.Cols), (V s0), (I p0.Cursor)]) 40 (0, 0)) :: slO s0 49 en_Vapi_Cell p0.L :: R) g _ _
 refine cr ?_
 refine o1 J (o_alloc (cs := [(U 0), (O false), (U 0), (U 0), (U 0), (U 0)]) J J (fun b468 => ?_))
 refine oe (c_seq ?_)
 refine c_draw (n := 2) (q := [(0, 5, (F b0 0)), (1, 6, (F b0 0)), (2, 7, (F b0 4)), (3, 8, (V s0)), (4, 9, (F b0 0)), (5, 10, (I p1))]) (pend := [0, 1, 2, 3, 4, 5]) J J J ?_
 replace h := bsome h
 obtain ⟨d2, h2, h⟩ := h
 refine ⟨⟨fun _ => ⟨J, J, J, .inl ⟨J, (o_p J ⟨J, J⟩)⟩⟩, fun _ => ⟨J, J, J, .inl ⟨J, (o_p J ⟨J, J⟩)⟩⟩, fun _ => ⟨J, J, J, .inl ⟨J, (o_fa (fd := ⟨ "L", 33, 4, false, "", "", 32⟩) J J J J J ⟨J, J⟩)⟩⟩, fun _ => ⟨J, J, J, .inl ⟨J, (o_ld (b := b0) (off := 4) (v := (V s0)) J rm2 J J ⟨J, J⟩)⟩⟩, fun _ => ⟨J, J, J, .inl ⟨J, (o_p J ⟨J, J⟩)⟩⟩, fun _ => ⟨J, J, J, .inl ⟨J, (o_p J ⟨J, J⟩)⟩⟩, trivial⟩, J, .inr ⟨[6], J, J, ⟨J, .inl J, ?_⟩, trivial⟩⟩
 refine (o_call has46 J (c_vitrineref12_Wrap hg X p0 b0 s0 p1 _ h2) (pc rm1 (pc rm1 (pc rm1 pn))) ?_)
 replace h := gsome h
 obtain ⟨hg470, h⟩ := h
 refine ⟨[(7, 12, (F (SV.blk s0) (SV.off s0 + Int.toNat d2 * 6))), (8, 13, (.agg (A [(U ((rd p0.L d2).Char)), (O ((rd p0.L d2).Attr)), (U ((rd p0.L d2).FA)), (U ((rd p0.L d2).High)), (U ((rd p0.L d2).Color)), (U ((rd p0.L d2).f_Set))])))], [0, 1, 2, 3, 7, 8], J, J, J, J, ?_⟩
 refine ⟨⟨fun _ => ⟨J, J, J, .inl ⟨J, (o_ix (s := s0) (n := d2) (e := en_Vapi_Cell) J J J J J J rm2 (rd_own _ _ _ _) hg470 ⟨J, J⟩)⟩⟩, fun _ => ⟨J, J, J, .inl ⟨J, (o_ldE (s := s0) (e := en_Vapi_Cell) (n := d2) (f := 0) (v := (.agg (A [(U ((rd p0.L d2).Char)), (O ((rd p0.L d2).Attr)), (U ((rd p0.L d2).FA)), (U ((rd p0.L d2).High)), (U ((rd p0.L d2).Color)), (U ((rd p0.L d2).f_Set))]))) J rm2 (rd_own _ _ _ _) hg470 J J ⟨J, J⟩)⟩⟩, fun _ => ⟨J, J, J, .inl ⟨J, (o_p J ⟨J, J⟩)⟩⟩, fun _ => ⟨J, J, J, .inl ⟨J, (o_p J ⟨J, J⟩)⟩⟩, fun _ => ⟨J, J, J, .inl ⟨J, (o_fa (fd := ⟨ "L", 33, 4, false, "", "", 32⟩) J J J J J ⟨J, J⟩)⟩⟩, fun _ => ⟨J, J, J, .inl ⟨J, (o_ld (b := b0) (off := 4) (v := (V s0)) J rm1 J J ⟨J, J⟩)⟩⟩, (fun h => nomatch h), (fun h => nomatch h), trivial⟩, J, .inr ⟨[9], J, J, ⟨J, .inl J, ?_⟩, trivial⟩⟩
 refine (o_st (b := b468) (off := 0) (vs := [(U ((rd p0.L d2).Char)), (O ((rd p0.L d2).Attr)), (U ((rd p0.L d2).FA)), (U ((rd p0.L d2).High)), (U ((rd p0.L d2).Color)), (U ((rd p0.L d2).f_Set))]) (cs' := [(U ((rd p0.L d2).Char)), (O ((rd p0.L d2).Attr)), (U ((rd p0.L d2).FA)), (U ((rd p0.L d2).High)), (U ((rd p0.L d2).Color)), (U ((rd p0.L d2).f_Set))]) J J rp3 J J J J J J ?_)
 refine ⟨[], [], J, J, ?_⟩
 refine ⟨⟨(fun h => nomatch h), (fun h => nomatch h), (fun h => nomatch h), (fun h => nomatch h), (fun h => nomatch h), (fun h => nomatch h), (fun h => nomatch h), (fun h => nomatch h), trivial⟩, J, J, J, ?_⟩
 refine e_seq (c_ret (e_ret ?_))
 refine r_endc (B := [[(U ((rd p0.L d2).Char)), (O ((rd p0.L d2).Attr)), (U ((rd p0.L d2).FA)), (U ((rd p0.L d2).High)), (U ((rd p0.L d2).Color)), (U ((rd p0.L d2).f_Set))]]) J ⟨⟨_, _, _, _, J, rm3⟩, trivial⟩ J (kc rm0 (kc rm0 (kc rm0 (kd kr)))) ?_
 obtain rfl := si h
 exact hk

theorem c_vitrineref05_Of {g : Gw} (hg : GK g) (X : HP) (p0 : Int) (r : Vvitrineref05_Field) (h : m_vitrineref05_Of p0 = some r) : Tri env g 95 (A [(U p0)]) [X] (fun K R => K (.agg (A [(O r.Protected), (O r.Numeric), (I r.Display), (O r.Modified)])) (X :: R)) := by
 refine tri_of (fn := Tryz.f95) (N := 20) Tryz.func95 J J J ?_
 intro R K hk
 unfold m_vitrineref05_Of at h
 change GC _ none _ [] [(0, (U p0))] (X :: R) g _ _
 refine cr ?_
 refine o1 J (o_alloc (cs := [(O false), (O false), (I 0), (O false)]) J J (fun b481 => ?_))
 refine oe (cr (op J J ?_))
 refine o1 J (o_p (v := (I (w64 (p0)))) J ?_)
 refine o1 rfl (o_rem (m := w64 (p0)) (n := 64) rfl rfl (by decide) ?_)
 refine op J J (oe (cr (op J J ?_)))
 refine o1 J (o_p (v := (O (decide ((Int.tmod (w64 (p0)) 64) ≥ 32)))) J ?_)
 refine op J J ?_
 refine o1 rfl (o_quo (m := Int.tmod (w64 (p0)) 64) (n := 16) rfl rfl (by decide) ?_)
 refine o1 rfl (o_rem (m := w64 (Int.tdiv (Int.tmod (w64 (p0)) 64) 16)) (n := 2) rfl rfl (by decide) ?_)
 refine o1 J (o_p (v := (O ((Int.tmod (w64 (Int.tdiv (Int.tmod (w64 (p0)) 64) 16)) 2) == 1))) J ?_)
 refine op J J ?_
 refine o1 rfl (o_quo (m := Int.tmod (w64 (p0)) 64) (n := 4) rfl rfl (by decide) ?_)
 refine o1 rfl (o_rem (m := w64 (Int.tdiv (Int.tmod (w64 (p0)) 64) 4)) (n := 4) rfl rfl (by decide) ?_)
 refine op J J ?_
 refine o1 rfl (o_rem (m := Int.tmod (w64 (p0)) 64) (n := 2) rfl rfl (by decide) ?_)
 refine o1 J (o_p (v := (O ((Int.tmod (Int.tmod (w64 (p0)) 64) 2) == 1))) J ?_)
 refine o1 J (o_build (fs := [⟨ "Protected", 4, 0, false, "", "", 0⟩, ⟨ "Numeric", 4, 1, false, "", "", 1⟩, ⟨ "Display", 3, 2, false, "", "", 8⟩, ⟨ "Modified", 4, 3, false, "", "", 16⟩]) (ps := [(0, 1), (1, 1), (2, 1), (3, 1)]) (cs := [(O (decide ((Int.tmod (w64 (p0)) 64) ≥ 32))), (O ((Int.tmod (w64 (Int.tdiv (Int.tmod (w64 (p0)) 64) 16)) 2) == 1)), (I (Int.tmod (w64 (Int.tdiv (Int.tmod (w64 (p0)) 64) 4)) 4)), (O ((Int.tmod (Int.tmod (w64 (p0)) 64) 2) == 1))]) J J J J J ?_)
 refine o0 (o_st (b := b481) (off := 0) (vs := [(O (decide ((Int.tmod (w64 (p0)) 64) ≥ 32))), (O ((Int.tmod (w64 (Int.tdiv (Int.tmod (w64 (p0)) 64) 16)) 2) == 1)), (I (Int.tmod (w64 (Int.tdiv (Int.tmod (w64 (p0)) 64) 4)) 4)), (O ((Int.tmod (Int.tmod (w64 (p0)) 64) 2) == 1))]) (cs' := [(O (decide ((Int.tmod (w64 (p0)) 64) ≥ 32))), (O ((Int.tmod (w64 (Int.tdiv (Int.tmod (w64 (p0)) 64) 16)) 2) == 1)), (I (Int.tmod (w64 (Int.tdiv (Int.tmod (w64 (p0)) 64) 4)) 4)), (O ((Int.tmod (Int.tmod (w64 (p0)) 64) 2) == 1))]) J J rp0 J J J J J J ?_)
 refine oe (c_ret (e_ret ?_))
 refine r_endc (B := [[(O (decide ((Int.tmod (w64 (p0)) 64) ≥ 32))), (O ((Int.tmod (w64 (Int.tdiv (Int.tmod (w64 (p0)) 64) 16)) 2) == 1)), (I (Int.tmod (w64 (Int.tdiv (Int.tmod (w64 (p0)) 64) 4)) 4)), (O ((Int.tmod (Int.tmod (w64 (p0)) 64) 2) == 1))]]) J ⟨⟨_, _, _, _, J, rm0⟩, trivial⟩ J (kc rm1 (kd kr)) ?_
 obtain rfl := si h
 exact hk

theorem c_vitrineref05_Bits {g : Gw} (hg : GK g) (X : HP) (p0 : Vvitrineref05_Field) (r : Int × Int) (h : m_vitrineref05_Bits p0 = some r) : Tri env g 94 (A [(.agg (A [(O p0.Protected), (O p0.Numeric), (I p0.Display), (O p0.Modified)]))]) [X] (fun K R => K (.tuple (A [(U r.1), (I r.2)])) (X :: R)) := by
 refine tri_of (fn := Tryz.f94) (N := 30) Tryz.func94 J J J ?_
 intro R K hk
 unfold m_vitrineref05_Bits at h
 change GC _ none _ [] [(0, (.agg (A [(O p0.Protected), (O p0.Numeric), (I p0.Display), (O p0.Modified)])))] (X :: R) g _ _
 refine cr ?_
 refine o1 J (o_box (cs := [(O p0.Protected), (O p0.Numeric), (I p0.Display), (O p0.Modified)]) J J (fun b483 => ?_))
 refine op J J (op J J (oe (c_seq (c_seq ?_))))
 replace h := bsome h
 obtain ⟨d1, h, hk1⟩ := h
 refine cj (D := Unit) (ι := Unit) (fun _ i1 => True) (fun _ i1 => [(12, (O d1)), (1, (F b483 0))]) (fun _ i1 => X :: blk b483 (.cells (A [(O p0.Protected), (O p0.Numeric), (I p0.Display), (O p0.Modified)]) 179 (0, 0)) :: R) ?_ ?_
 ·refine c_region ?_
  refine o1 J (o_fa (fd := ⟨ "Display", 3, 2, false, "", "", 8⟩) J J J J J ?_)
  refine o1 J (o_ld (b := b483) (off := 2) (v := (I p0.Display)) J rm0 J J ?_)
  refine o1 J (o_p (v := (O (decide (p0.Display < 0)))) J ?_)
  refine op J J ?_
  rcases bool_or ((decide (p0.Display < 0))) with hb485 | hb485
  ·replace h := cond_t hb485 h
   refine on J J J hb485 ?_
   refine on J J J hb485 ?_
   refine on J J J hb485 ?_
   refine o1 J (o_pick_t J hb485 J ?_)
   refine o_end ?_
   obtain rfl := si h
   exact ej () () trivial (sc J (sc J sn)) (kc rm1 (kc rm0 kr))
  ·replace h := cond_f hb485 h
   refine oy J J J hb485 (o_fa (fd := ⟨ "Display", 3, 2, false, "", "", 8⟩) J J J J J ?_)
   refine oy J J J hb485 (o_ld (b := b483) (off := 2) (v := (I p0.Display)) J rm0 J J ?_)
   refine oy J J J hb485 (o_p (v := (O (decide (p0.Display > 3)))) J ?_)
   refine o1 J (o_pick_f J hb485 J ?_)
   refine o_end ?_
   obtain rfl := si h
   exact ej () () trivial (sc J (sc J sn)) (kc rm1 (kc rm0 kr))
 ·rintro _ i1 _
  replace h := hk1
  clear hk1
  refine e_seq ?_
  refine c_cond (b := d1) J (fun hb486 => ?_) (fun hb486 => ?_)
  ·replace h := cond_t hb486 h
   refine cr (op J J (op J J (oe ?_)))
   refine c_ret (e_then_ret (e_ret ?_))
   refine r_endt J J (kc rm0 (kd kr)) ?_
   obtain rfl := si h
   exact hk
  ·replace h := cond_f hb486 h
   refine c_skip (e_seq (cr ?_))
   refine o1 J (o_fa (fd := ⟨ "Display", 3, 2, false, "", "", 8⟩) J J J J J ?_)
   refine o1 J (o_ld (b := b483) (off := 2) (v := (I p0.Display)) J rm1 J J ?_)
   refine o1 J (o_p (v := (I (w64 (4 * p0.Display)))) J ?_)
   refine op J J (oe (c_seq (cr ?_)))
   refine o1 J (o_fa (fd := ⟨ "Protected", 4, 0, false, "", "", 0⟩) J J J J J ?_)
   refine o1 J (o_ld (b := b483) (off := 0) (v := (O p0.Protected)) J rm1 J J ?_)
   refine oe ?_
   replace h := bsome h
   obtain ⟨d3, h, hk3⟩ := h
   refine cj (D := Unit) (ι := Unit) (fun _ i3 => True) (fun _ i3 => [(4, (I d3)), (1, (F b483 0))]) (fun _ i3 => X :: blk b483 (.cells (A [(O p0.Protected), (O p0.Numeric), (I p0.Display), (O p0.Modified)]) 179 (0, 0)) :: R) ?_ ?_
   ·refine c_cond (b := p0.Protected) J (fun hb487 => ?_) (fun hb487 => ?_)
    ·replace h := cond_t hb487 h
     refine c_region (op J J ?_)
     refine o1 J (o_p (v := (I (w64 ((w64 (4 * p0.Display)) + 32)))) J ?_)
     refine op J J (o_end ?_)
     obtain rfl := si h
     exact ej () () trivial (sc J (sc J sn)) (kc rm0 (kc rm0 kr))
    ·replace h := cond_f hb487 h
     refine c_skip ?_
     obtain rfl := si h
     exact ej () () trivial (sc J (sc J sn)) (kc rm0 (kc rm0 kr))
   ·rintro _ i3 _
    replace h := hk3
    clear hk3
    refine e_seq (c_seq (cr ?_))
    refine o1 J (o_fa (fd := ⟨ "Numeric", 4, 1, false, "", "", 1⟩) J J J J J ?_)
    refine o1 J (o_ld (b := b483) (off := 1) (v := (O p0.Numeric)) J rm1 J J ?_)
    refine oe ?_
    replace h := bsome h
    obtain ⟨d4, h, hk4⟩ := h
    refine cj (D := Unit) (ι := Unit) (fun _ i4 => True) (fun _ i4 => [(4, (I d4)), (1, (F b483 0))]) (fun _ i4 => X :: blk b483 (.cells (A [(O p0.Protected), (O p0.Numeric), (I p0.Display), (O p0.Modified)]) 179 (0, 0)) :: R) ?_ ?_
    ·refine c_cond (b := p0.Numeric) J (fun hb488 => ?_) (fun hb488 => ?_)
     ·replace h := cond_t hb488 h
      refine c_region (op J J ?_)
      refine o1 J (o_p (v := (I (w64 (d3 + 16)))) J ?_)
      refine op J J (o_end ?_)
      obtain rfl := si h
      exact ej () () trivial (sc J (sc J sn)) (kc rm0 (kc rm0 kr))
     ·replace h := cond_f hb488 h
      refine c_skip ?_
      obtain rfl := si h
      exact ej () () trivial (sc J (sc J sn)) (kc rm0 (kc rm0 kr))
    ·rintro _ i4 _
     replace h := hk4
     clear hk4
     refine e_seq (c_seq (cr ?_))
     refine o1 J (o_fa (fd := ⟨ "Modified", 4, 3, false, "", "", 16⟩) J J J J J ?_)
     refine o1 J (o_ld (b := b483) (off := 3) (v := (O p0.Modified)) J rm1 J J ?_)
     refine oe ?_
     replace h := bsome h
     obtain ⟨d5, h, hk5⟩ := h
     refine cj (D := Unit) (ι := Unit) (fun _ i5 => True) (fun _ i5 => [(4, (I d5))]) (fun _ i5 => X :: R) ?_ ?_
     ·refine c_cond (b := p0.Modified) J (fun hb489 => ?_) (fun hb489 => ?_)
      ·replace h := cond_t hb489 h
       refine c_region (op J J ?_)
       refine o1 J (o_p (v := (I (w64 (d4 + 1)))) J ?_)
       refine op J J (o_end ?_)
       obtain rfl := si h
       exact ej () () trivial (sc J sn) (kc rm0 (kd kr))
      ·replace h := cond_f hb489 h
       refine c_skip ?_
       obtain rfl := si h
       exact ej () () trivial (sc J sn) (kc rm0 (kd kr))
     ·rintro _ i5 _
      replace h := hk5
      clear hk5
      refine e_seq (cr (op J J ?_))
      refine o1 J (o_p (v := (U (IntKind.wrap .u8 (d5)))) J ?_)
      refine op J J (op J J (oe (c_ret (e_ret ?_))))
      refine r_endt J J (kc rm0 kr) ?_
      obtain rfl := si h
      exact hk

theorem c_vitrineref05_Six {g : Gw} (hg : GK g) (X : HP) (p0 : Int) (r : Int) (h : m_vitrineref05_Six p0 = some r) : Tri env g 63 (A [(U p0)]) [X] (fun K R => K (U r) (X :: R)) := by
 refine tri_of (fn := Tryz.f63) (N := 12) Tryz.func63 J J J ?_
 intro R K hk
 unfold m_vitrineref05_Six at h
 change GC _ none _ [] [(0, (U p0))] (X :: R) g _ _
 refine cr (op J J (oe (c_seq ?_)))
 refine c_region (op J J ?_)
 replace h := bsome h
 obtain ⟨d1, h1, h⟩ := h
 refine o1 J (o_call has95 J (c_vitrineref05_Of hg X p0 _ h1) (pc rm0 pn) ?_)
 replace h := bsome h
 obtain ⟨d2, h2, h⟩ := h
 refine o1 J (o_call has94 J (c_vitrineref05_Bits hg X d1 _ h2) (pc rm0 pn) ?_)
 refine op J J (op J J (op J J (op J J (op J J (o_end ?_)))))
 refine e_seq (cr (op J J (op J J (o_end ?_))))
 refine e_seq (c_ret (e_ret ?_))
 refine r_endt J J (kc rm0 kr) ?_
 obtain rfl := si h
 exact hk

theorem c_vitrineref12_Fit {g : Gw} (hg : GK g) (X : HP) (p0 : Vapi_Cell) (r : Vapi_Cell) (h : m_vitrineref12_Fit p0 = some r) : Tri env g 80 (A [(.agg (A [(U p0.Char), (O p0.Attr), (U p0.FA), (U p0.High), (U p0.Color), (U p0.f_Set)]))]) [X] (fun K R => K (.agg (A [(U r.Char), (O r.Attr), (U r.FA), (U r.High), (U r.Color), (U r.f_Set)])) (X :: R)) := by
 refine tri_of (fn := Tryz.f80) (N := 12) Tryz.func80 J J J ?_
 intro R K hk
 unfold m_vitrineref12_Fit at h
 change GC _ none _ [] [(0, (.agg (A [(U p0.Char), (O p0.Attr), (U p0.FA), (U p0.High), (U p0.Color), (U p0.f_Set)])))] (X :: R) g _ _
 refine cr ?_
 refine o1 J (o_box (cs := [(U p0.Char), (O p0.Attr), (U p0.FA), (U p0.High), (U p0.Color), (U p0.f_Set)]) J J (fun b476 => ?_))
 refine o1 J (o_alloc (cs := [(U 0), (O false), (U 0), (U 0), (U 0), (U 0)]) J J (fun b478 => ?_))
 refine oe (c_seq (cr ?_))
 refine o1 J (o_fa (fd := ⟨ "Attr", 4, 1, false, "", "", 1⟩) J J J J J ?_)
 refine o1 J (o_ld (b := b476) (off := 1) (v := (O p0.Attr)) J rm1 J J ?_)
 refine oe ?_
 replace h := bsome h
 obtain ⟨d1, h, hk1⟩ := h
 refine cj (D := Unit) (ι := Unit) (fun _ i1 => True) (fun _ i1 => [(2, (F b478 0)), (1, (F b476 0))]) (fun _ i1 => X :: blk b478 (.cells (A [(U 0), (O false), (U 0), (U 0), (U 0), (U 0)]) 49 (0, 0)) :: blk b476 (.cells (A [(U d1.1), (O p0.Attr), (U d1.2), (U p0.High), (U p0.Color), (U p0.f_Set)]) 49 (0, 0)) :: R) ?_ ?_
 ·refine c_cond (b := p0.Attr) J (fun hb480 => ?_) (fun hb480 => ?_)
  ·replace h := cond_t hb480 h
   refine c_region ?_
   refine o1 J (o_fa (fd := ⟨ "FA", 5, 2, false, "", "", 2⟩) J J J J J ?_)
   refine o1 J (o_ld (b := b476) (off := 2) (v := (U p0.FA)) J rm1 J J ?_)
   replace h := bsome h
   obtain ⟨d2, h2, h⟩ := h
   refine o1 J (o_call has63 J (c_vitrineref05_Six hg X p0.FA _ h2) (pc rm2 pn) ?_)
   refine o1 J (o_fa (fd := ⟨ "Char", 5, 0, false, "", "", 0⟩) J J J J J ?_)
   refine o0 (o_st (b := b476) (off := 0) (vs := [(U 0)]) (cs' := [(U 0), (O p0.Attr), (U p0.FA), (U p0.High), (U p0.Color), (U p0.f_Set)]) J J rp2 J J J J J J ?_)
   refine o1 J (o_fa (fd := ⟨ "FA", 5, 2, false, "", "", 2⟩) J J J J J ?_)
   refine o0 (o_st (b := b476) (off := 2) (vs := [(U d2)]) (cs' := [(U 0), (O p0.Attr), (U d2), (U p0.High), (U p0.Color), (U p0.f_Set)]) J J rp2 J J J J J J ?_)
   refine o_end ?_
   obtain rfl := si h
   exact ej () () trivial (sc J (sc J sn)) (kc rm0 (kc rm0 (kc rm0 kr)))
  ·replace h := cond_f hb480 h
   refine c_region ?_
   refine o1 J (o_fa (fd := ⟨ "FA", 5, 2, false, "", "", 2⟩) J J J J J ?_)
   refine o0 (o_st (b := b476) (off := 2) (vs := [(U 0)]) (cs' := [(U p0.Char), (O p0.Attr), (U 0), (U p0.High), (U p0.Color), (U p0.f_Set)]) J J rp1 J J J J J J ?_)
   refine o_end ?_
   obtain rfl := si h
   exact ej () () trivial (sc J (sc J sn)) (kc rm2 (kc rm0 (kc rm0 kr)))
 ·rintro _ i1 _
  replace h := hk1
  clear hk1
  refine e_seq (cr ?_)
  refine o1 J (o_ld (b := b476) (off := 0) (v := (.agg (A [(U d1.1), (O p0.Attr), (U d1.2), (U p0.High), (U p0.Color), (U p0.f_Set)]))) J rm2 J J ?_)
  refine o0 (o_st (b := b478) (off := 0) (vs := [(U d1.1), (O p0.Attr), (U d1.2), (U p0.High), (U p0.Color), (U p0.f_Set)]) (cs' := [(U d1.1), (O p0.Attr), (U d1.2), (U p0.High), (U p0.Color), (U p0.f_Set)]) J J rp1 J J J J J J ?_)
  refine oe (c_ret (e_ret ?_))
  refine r_endc (B := [[(U d1.1), (O p0.Attr), (U d1.2), (U p0.High), (U p0.Color), (U p0.f_Set)]]) J ⟨⟨_, _, _, _, J, rm1⟩, trivial⟩ J (kc rm0 (kd (kd kr))) ?_
  obtain rfl := si h
  exact hk

theorem c_vitrineref12_Set {g : Gw} (hg : GK g) (X : HP) (p0 : Vvitrineref12_Space) (b0 : Nat) (s0 : SV) (p1 : Int) (p2 : Vapi_Cell) (r : Vvitrineref12_Space) (h : m_vitrineref12_Set p0 p1 p2 = some r) : Tri env g 48 (A [(F b0 0), (I p1), (.agg (A [(U p2.Char), (O p2.Attr), (U p2.FA), (U p2.High), (U p2.Color), (U p2.f_Set)]))]) [X, blk b0 (.cells (A [(I p0.Model), (O p0.Alt), (I p0.Size.Rows), (I p0.Size.Cols), (V s0), (I p0.Cursor)]) 40 (0, 0)), slO s0 49 en_Vapi_Cell p0.L] (fun K R => K (.tuple (A [])) (X :: blk b0 (.cells (A [(I r.Model), (O r.Alt), (I r.Size.Rows), (I r.Size.Cols), (V s0), (I r.Cursor)]) 40 (0, 0)) :: slO s0 49 en_Vapi_Cell r.L :: R)) := by
 refine tri_of (fn := Tryz.f48) (N := 16) Tryz.func48 J J J ?_
 intro R K hk
 unfold m_vitrineref12_Set at h
 change GC _ none _ [] [(0, (F b0 0)), (1, (I p1)), (2, (.agg (A [(U p2.Char), (O p2.Attr), (U p2.FA), (U p2.High), (U p2.Color), (U p2.f_Set)])))] (X :: blk b0 (.cells (A [(I p0.Model), (O p0.Alt), (I p0.Size.Rows), (I p0.Size.Cols), (V s0), (I p0.Cursor)]) 40 (0, 0)) :: slO s0 49 en_Vapi_Cell p0.L :: R) g _ _
 refine cr ?_
 refine o1 J (o_box (cs := [(U p2.Char), (O p2.Attr), (U p2.FA), (U p2.High), (U p2.Color), (U p2.f_Set)]) J J (fun b474 => ?_))
 refine oe ?_
 refine c_draw (n := 3) (q := [(0, 6, (F b0 0)), (1, 7, (F b0 0)), (2, 8, (F b0 4)), (3, 9, (V s0)), (4, 10, (F b0 0)), (5, 11, (I p1)), (7, 13, (.agg (A [(U p2.Char), (O p2.Attr), (U p2.FA), (U p2.High), (U p2.Color), (U p2.f_Set)])))]) (pend := [0, 1, 2, 3, 4, 5, 7]) J J J ?_
 replace h := bsome h
 obtain ⟨d1, h1, h⟩ := h
 refine ⟨⟨fun _ => ⟨J, J, J, .inl ⟨J, (o_p J ⟨J, J⟩)⟩⟩, fun _ => ⟨J, J, J, .inl ⟨J, (o_p J ⟨J, J⟩)⟩⟩, fun _ => ⟨J, J, J, .inl ⟨J, (o_fa (fd := ⟨ "L", 33, 4, false, "", "", 32⟩) J J J J J ⟨J, J⟩)⟩⟩, fun _ => ⟨J, J, J, .inl ⟨J, (o_ld (b := b0) (off := 4) (v := (V s0)) J rm2 J J ⟨J, J⟩)⟩⟩, fun _ => ⟨J, J, J, .inl ⟨J, (o_p J ⟨J, J⟩)⟩⟩, fun _ => ⟨J, J, J, .inl ⟨J, (o_p J ⟨J, J⟩)⟩⟩, fun _ => ⟨J, J, J, .inl ⟨J, (o_ld (b := b474) (off := 0) (v := (.agg (A [(U p2.Char), (O p2.Attr), (U p2.FA), (U p2.High), (U p2.Color), (U p2.f_Set)]))) J rm0 J J ⟨J, J⟩)⟩⟩, trivial⟩, J, .inr ⟨[6], J, J, ⟨J, .inl J, ?_⟩, trivial⟩⟩
 refine (o_call has46 J (c_vitrineref12_Wrap hg X p0 b0 s0 p1 _ h1) (pc rm1 (pc rm1 (pc rm1 pn))) ?_)
 refine ⟨[], [0, 1, 2, 3, 7], J, J, J, J, ?_⟩
 replace h := bsome h
 obtain ⟨d2, h2, h⟩ := h
 refine ⟨⟨fun _ => ⟨J, J, J, .inl ⟨J, (o_p J ⟨J, J⟩)⟩⟩, fun _ => ⟨J, J, J, .inl ⟨J, (o_p J ⟨J, J⟩)⟩⟩, fun _ => ⟨J, J, J, .inl ⟨J, (o_fa (fd := ⟨ "L", 33, 4, false, "", "", 32⟩) J J J J J ⟨J, J⟩)⟩⟩, fun _ => ⟨J, J, J, .inl ⟨J, (o_ld (b := b0) (off := 4) (v := (V s0)) J rm1 J J ⟨J, J⟩)⟩⟩, (fun h => nomatch h), (fun h => nomatch h), fun _ => ⟨J, J, J, .inl ⟨J, (o_ld (b := b474) (off := 0) (v := (.agg (A [(U p2.Char), (O p2.Attr), (U p2.FA), (U p2.High), (U p2.Color), (U p2.f_Set)]))) J rm3 J J ⟨J, J⟩)⟩⟩, trivial⟩, J, .inr ⟨[8], J, J, ⟨J, .inl J, ?_⟩, trivial⟩⟩
 refine (o_call has80 J (c_vitrineref12_Fit hg X p2 _ h2) (pc rm0 pn) ?_)
 replace h := gsome h
 obtain ⟨hg490, h⟩ := h
 refine ⟨[(9, 15, (F (SV.blk s0) (SV.off s0 + Int.toNat d1 * 6)))], [0, 1, 2, 3, 9], J, J, J, J, ?_⟩
 refine ⟨⟨fun _ => ⟨J, J, J, .inl ⟨J, (o_ix (s := s0) (n := d1) (e := en_Vapi_Cell) J J J J J J rm2 (rd_own _ _ _ _) hg490 ⟨J, J⟩)⟩⟩, fun _ => ⟨J, J, J, .inl ⟨J, (o_p J ⟨J, J⟩)⟩⟩, fun _ => ⟨J, J, J, .inl ⟨J, (o_p J ⟨J, J⟩)⟩⟩, fun _ => ⟨J, J, J, .inl ⟨J, (o_fa (fd := ⟨ "L", 33, 4, false, "", "", 32⟩) J J J J J ⟨J, J⟩)⟩⟩, fun _ => ⟨J, J, J, .inl ⟨J, (o_ld (b := b0) (off := 4) (v := (V s0)) J rm1 J J ⟨J, J⟩)⟩⟩, (fun h => nomatch h), (fun h => nomatch h), (fun h => nomatch h), trivial⟩, J, .inr ⟨[10], J, J, ⟨J, .inl J, ?_⟩, trivial⟩⟩
 refine (o_stE (s := s0) (e := en_Vapi_Cell) (n := d1) (f := 0) (vs := [(U d2.Char), (O d2.Attr), (U d2.FA), (U d2.High), (U d2.Color), (U d2.f_Set)]) (u := d2) J J rp2 hg490 J J J J J J ?_)
 refine ⟨[], [], J, J, ?_⟩
 refine ⟨⟨(fun h => nomatch h), (fun h => nomatch h), (fun h => nomatch h), (fun h => nomatch h), (fun h => nomatch h), (fun h => nomatch h), (fun h => nomatch h), (fun h => nomatch h), trivial⟩, J, J, J, ?_⟩
 refine e_fall ?_
 refine r_endt J J (kc rm0 (kc rm0 (kc rm0 (kd kr)))) ?_
 obtain rfl := si h
 exact hk

theorem c_vitrineref12_Put {g : Gw} (hg : GK g) (X : HP) (p0 : Vvitrineref12_Space) (b0 : Nat) (s0 : SV) (p1 : Int) (p2 : Int) (r : Vvitrineref12_Space) (h : m_vitrineref12_Put p0 p1 p2 = some r) : Tri env g 47 (A [(F b0 0), (I p1), (U p2)]) [X, blk b0 (.cells (A [(I p0.Model), (O p0.Alt), (I p0.Size.Rows), (I p0.Size.Cols), (V s0), (I p0.Cursor)]) 40 (0, 0)), slO s0 49 en_Vapi_Cell p0.L] (fun K R => K (.tuple (A [])) (X :: blk b0 (.cells (A [(I r.Model), (O r.Alt), (I r.Size.Rows), (I r.Size.Cols), (V s0), (I r.Cursor)]) 40 (0, 0)) :: slO s0 49 en_Vapi_Cell r.L :: R)) := by
 refine tri_of (fn := Tryz.f47) (N := 19) Tryz.func47 J J J ?_
 intro R K hk
 unfold m_vitrineref12_Put at h
 change GC _ none _ [] [(0, (F b0 0)), (1, (I p1)), (2, (U p2))] (X :: blk b0 (.cells (A [(I p0.Model), (O p0.Alt), (I p0.Size.Rows), (I p0.Size.Cols), (V s0), (I p0.Cursor)]) 40 (0, 0)) :: slO s0 49 en_Vapi_Cell p0.L :: R) g _ _
 refine cr (op J J (op J J ?_))
 replace h := bsome h
 obtain ⟨d1, h1, h⟩ := h
 refine o1 J (o_call has79 J (c_vitrineref12_At hg X p0 b0 s0 p1 _ h1) (pc rm0 (pc rm0 (pc rm0 pn))) ?_)
 refine o1 J (o_alloc (cs := [(U 0), (O false), (U 0), (U 0), (U 0), (U 0)]) J J (fun b471 => ?_))
 refine o0 (o_st (b := b471) (off := 0) (vs := [(U d1.Char), (O d1.Attr), (U d1.FA), (U d1.High), (U d1.Color), (U d1.f_Set)]) (cs' := [(U d1.Char), (O d1.Attr), (U d1.FA), (U d1.High), (U d1.Color), (U d1.f_Set)]) J J rp0 J J J J J J ?_)
 refine oe (cr ?_)
 refine o1 J (o_fa (fd := ⟨ "Attr", 4, 1, false, "", "", 1⟩) J J J J J ?_)
 refine o1 J (o_ld (b := b471) (off := 1) (v := (O d1.Attr)) J rm0 J J ?_)
 refine o1 J (o_p (v := (O (!d1.Attr))) J ?_)
 refine oe ?_
 refine c_cond (b := (!d1.Attr)) J (fun hb473 => ?_) (fun hb473 => ?_)
 ·replace h := cond_t hb473 h
  refine cr (op J J ?_)
  refine o1 J (o_fa (fd := ⟨ "Char", 5, 0, false, "", "", 0⟩) J J J J J ?_)
  refine o0 (o_st (b := b471) (off := 0) (vs := [(U p2)]) (cs' := [(U p2), (O d1.Attr), (U d1.FA), (U d1.High), (U d1.Color), (U d1.f_Set)]) J J rp0 J J J J J J ?_)
  refine oe (c_region (op J J (op J J ?_)))
  refine o1 J (o_ld (b := b471) (off := 0) (v := (.agg (A [(U p2), (O d1.Attr), (U d1.FA), (U d1.High), (U d1.Color), (U d1.f_Set)]))) J rm0 J J ?_)
  replace h := bsome h
  obtain ⟨d2, h2, h⟩ := h
  refine o1 J (o_call has48 J (c_vitrineref12_Set hg X (⟨p0.Model, p0.Alt, p0.Size, p0.L, p0.Cursor⟩ : Vvitrineref12_Space) b0 s0 p1 (⟨p2, d1.Attr, d1.FA, d1.High, d1.Color, d1.f_Set⟩ : Vapi_Cell) _ h2) (pc rm1 (pc rm1 (pc rm1 pn))) ?_)
  refine o_end (e_fall ?_)
  refine r_endt J J (kc rm0 (kc rm0 (kc rm0 (kd kr)))) ?_
  obtain rfl := si h
  exact hk
 ·replace h := cond_f hb473 h
  refine c_skip (e_fall ?_)
  refine r_endt J J (kc rm1 (kc rm1 (kc rm1 (kd kr)))) ?_
  obtain rfl := si h
  exact hk

theorem c_vitrineref12_Do {g : Gw} (hg : GK g) (X : HP) (p0 : Vvitrineref12_Space) (b0 : Nat) (s0 : SV) (p1 : Vvitrineref12_Act) (s1 : SV) (q0 : Rd X s1 5 (enI .u8) p1.Text) (r : Vvitrineref12_Space) (h : m_vitrineref12_Do p0 p1 = some r) : Tri env g 20 (A [(F b0 0), (.agg (A [(U p1.Do), (I p1.N), (O p1.On), (U p1.Code), (U p1.C.Char), (O p1.C.Attr), (U p1.C.FA), (U p1.C.High), (U p1.C.Color), (U p1.C.f_Set), (V s1)]))]) [X, blk b0 (.cells (A [(I p0.Model), (O p0.Alt), (I p0.Size.Rows), (I p0.Size.Cols), (V s0), (I p0.Cursor)]) 40 (0, 0)), slO s0 49 en_Vapi_Cell p0.L] (fun K R => ∀ (i0 : SV), K (.tuple (A [])) (X :: blk b0 (.cells (A [(I r.Model), (O r.Alt), (I r.Size.Rows), (I r.Size.Cols), (V i0), (I r.Cursor)]) 40 (0, 0)) :: slO i0 49 en_Vapi_Cell r.L :: R)) := by
 refine tri_of (fn := Tryz.f20) (N := 69) Tryz.func20 J J J ?_
 intro R K hk
 unfold m_vitrineref12_Do at h
 change GC _ none _ [] [(0, (F b0 0)), (1, (.agg (A [(U p1.Do), (I p1.N), (O p1.On), (U p1.Code), (U p1.C.Char), (O p1.C.Attr), (U p1.C.FA), (U p1.C.High), (U p1.C.Color), (U p1.C.f_Set), (V s1)])))] (X :: blk b0 (.cells (A [(I p0.Model), (O p0.Alt), (I p0.Size.Rows), (I p0.Size.Cols), (V s0), (I p0.Cursor)]) 40 (0, 0)) :: slO s0 49 en_Vapi_Cell p0.L :: R) g _ _
 refine cr ?_
 refine o1 J (o_box (cs := [(U p1.Do), (I p1.N), (O p1.On), (U p1.Code), (U p1.C.Char), (O p1.C.Attr), (U p1.C.FA), (U p1.C.High), (U p1.C.Color), (U p1.C.f_Set), (V s1)]) J J (fun b452 => ?_))
 refine oe (cr ?_)
 refine o1 J (o_fa (fd := ⟨ "Do", 5, 0, false, "", "", 0⟩) J J J J J ?_)
 refine o1 J (o_ld (b := b452) (off := 0) (v := (U p1.Do)) J rm0 J J ?_)
 refine o1 rfl (o_rem (m := p1.Do) (n := 6) rfl rfl (by decide) ?_)
 refine oe ?_
 replace h := bsome h
 obtain ⟨d1, h, hk1⟩ := h
 refine cj (D := Unit) (ι := SV) (fun _ i1 => True) (fun _ i1 => []) (fun _ i1 => X :: blk b0 (.cells (A [(I d1.1), (O d1.2.1), (I d1.2.2.1), (I d1.2.2.2.1), (V i1), (I d1.2.2.2.2.2)]) 40 (0, 0)) :: slO i1 49 en_Vapi_Cell d1.2.2.2.2.1 :: R) ?_ ?_
 ·refine c_block (cr ?_)
  refine o1 J (o_p (v := (O ((Int.tmod p1.Do 6) == 0))) J ?_)
  refine op J J (oe ?_)
  replace h := bsome h
  obtain ⟨d2, h, hk2⟩ := h
  refine cj (D := Unit) (ι := SV) (fun _ i2 => True) (fun _ i2 => []) (fun _ i2 => X :: blk b0 (.cells (A [(I d2.1), (O d2.2.1), (I d2.2.2.1), (I d2.2.2.2.1), (V i2), (I d2.2.2.2.2.2)]) 40 (0, 0)) :: slO i2 49 en_Vapi_Cell d2.2.2.2.2.1 :: R) ?_ ?_
  ·refine c_cond (b := ((Int.tmod p1.Do 6) == 0)) J (fun hb454 => ?_) (fun hb454 => ?_)
   ·replace h := cond_t hb454 h
    refine c_region (op J J ?_)
    refine o1 J (o_fa (fd := ⟨ "On", 4, 2, false, "", "", 16⟩) J J J J J ?_)
    refine o1 J (o_ld (b := b452) (off := 2) (v := (O p1.On)) J rm0 J J ?_)
    replace h := bsome h
    obtain ⟨d3, h3, h⟩ := h
    refine o1 J (o_call has45 J (c_vitrineref12_Clear_2 hg X p0 b0 s0 p1.On _ h3) (pc rm1 (pc rm1 (pc rm1 pn))) (fun i3 => ?_))
    refine o_end ?_
    obtain rfl := si h
    exact ej () i3 trivial sn (kc rm0 (kc rm0 (kc rm0 (kd (kd kr)))))
   ·replace h := cond_f hb454 h
    refine cr ?_
    refine o1 J (o_p (v := (O ((Int.tmod p1.Do 6) == 1))) J ?_)
    refine op J J (oe ?_)
    refine c_cond (b := ((Int.tmod p1.Do 6) == 1)) J (fun hb461 => ?_) (fun hb461 => ?_)
    ·replace h := cond_t hb461 h
     refine c_region (op J J (op J J ?_))
     refine o1 J (o_fa (fd := ⟨ "N", 3, 1, false, "", "", 8⟩) J J J J J ?_)
     refine o1 J (o_ld (b := b452) (off := 1) (v := (I p1.N)) J rm0 J J ?_)
     replace h := bsome h
     obtain ⟨d4, h4, h⟩ := h
     refine o1 J (o_call has46 J (c_vitrineref12_Wrap hg X (⟨p0.Model, p0.Alt, p0.Size, p0.L, p0.Cursor⟩ : Vvitrineref12_Space) b0 s0 p1.N _ h4) (pc rm1 (pc rm1 (pc rm1 pn))) ?_)
     refine op J J ?_
     refine o1 J (o_fa (fd := ⟨ "Cursor", 3, 5, false, "", "", 56⟩) J J J J J ?_)
     refine o0 (o_st (b := b0) (off := 5) (vs := [(I d4)]) (cs' := [(I p0.Model), (O p0.Alt), (I p0.Size.Rows), (I p0.Size.Cols), (V s0), (I d4)]) J J rp1 J J J J J J ?_)
     refine o_end ?_
     obtain rfl := si h
     exact ej () s0 trivial sn (kc rm0 (kc rm0 (kc rm0 (kd kr))))
    ·replace h := cond_f hb461 h
     refine cr ?_
     refine o1 J (o_p (v := (O ((Int.tmod p1.Do 6) == 2))) J ?_)
     refine op J J (oe ?_)
     refine c_cond (b := ((Int.tmod p1.Do 6) == 2)) J (fun hb467 => ?_) (fun hb467 => ?_)
     ·replace h := cond_t hb467 h
      refine c_region (op J J ?_)
      refine o1 J (o_fa (fd := ⟨ "N", 3, 1, false, "", "", 8⟩) J J J J J ?_)
      refine o1 J (o_ld (b := b452) (off := 1) (v := (I p1.N)) J rm0 J J ?_)
      refine o1 J (o_fa (fd := ⟨ "Code", 5, 3, false, "", "", 17⟩) J J J J J ?_)
      refine o1 J (o_ld (b := b452) (off := 3) (v := (U p1.Code)) J rm0 J J ?_)
      replace h := bsome h
      obtain ⟨d5, h5, h⟩ := h
      refine o1 J (o_call has47 J (c_vitrineref12_Put hg X (⟨p0.Model, p0.Alt, p0.Size, p0.L, p0.Cursor⟩ : Vvitrineref12_Space) b0 s0 p1.N p1.Code _ h5) (pc rm1 (pc rm1 (pc rm1 pn))) ?_)
      refine o_end ?_
      obtain rfl := si h
      exact ej () s0 trivial sn (kc rm0 (kc rm0 (kc rm0 (kd kr))))
     ·replace h := cond_f hb467 h
      refine cr ?_
      refine o1 J (o_p (v := (O ((Int.tmod p1.Do 6) == 3))) J ?_)
      refine op J J (oe ?_)
      refine c_cond (b := ((Int.tmod p1.Do 6) == 3)) J (fun hb495 => ?_) (fun hb495 => ?_)
      ·replace h := cond_t hb495 h
       refine c_region (op J J ?_)
       refine o1 J (o_fa (fd := ⟨ "N", 3, 1, false, "", "", 8⟩) J J J J J ?_)
       refine o1 J (o_ld (b := b452) (off := 1) (v := (I p1.N)) J rm0 J J ?_)
       refine o1 J (o_fa (fd := ⟨ "Code", 5, 3, false, "", "", 17⟩) J J J J J ?_)
       refine o1 J (o_ld (b := b452) (off := 3) (v := (U p1.Code)) J rm0 J J ?_)
       refine o1 J (o_build (fs := f_1) (ps := [(0, 1), (1, 1), (2, 1), (3, 1), (4, 1), (5, 1)]) (cs := [(U 0), (O true), (U p1.Code), (U 0), (U 0), (U 0)]) J J J J J ?_)
       replace h := bsome h
       obtain ⟨d6, h6, h⟩ := h
       refine o1 J (o_call has48 J (c_vitrineref12_Set hg X (⟨p0.Model, p0.Alt, p0.Size, p0.L, p0.Cursor⟩ : Vvitrineref12_Space) b0 s0 p1.N (⟨0, true, p1.Code, 0, 0, 0⟩ : Vapi_Cell) _ h6) (pc rm1 (pc rm1 (pc rm1 pn))) ?_)
       refine o_end ?_
       obtain rfl := si h
       exact ej () s0 trivial sn (kc rm0 (kc rm0 (kc rm0 (kd kr))))
      ·replace h := cond_f hb495 h
       refine cr ?_
       refine o1 J (o_p (v := (O ((Int.tmod p1.Do 6) == 4))) J ?_)
       refine op J J (oe ?_)
       refine c_cond (b := ((Int.tmod p1.Do 6) == 4)) J (fun hb497 => ?_) (fun hb497 => ?_)
       ·replace h := cond_t hb497 h
        refine c_region (op J J ?_)
        refine o1 J (o_fa (fd := ⟨ "N", 3, 1, false, "", "", 8⟩) J J J J J ?_)
        refine o1 J (o_ld (b := b452) (off := 1) (v := (I p1.N)) J rm0 J J ?_)
        refine o1 J (o_fa (fd := ⟨ "C", 49, 4, false, "", "", 18⟩) J J J J J ?_)
        refine o1 J (o_ld (b := b452) (off := 4) (v := (.agg (A [(U p1.C.Char), (O p1.C.Attr), (U p1.C.FA), (U p1.C.High), (U p1.C.Color), (U p1.C.f_Set)]))) J rm0 J J ?_)
        replace h := bsome h
        obtain ⟨d7, h7, h⟩ := h
        refine o1 J (o_call has48 J (c_vitrineref12_Set hg X (⟨p0.Model, p0.Alt, p0.Size, p0.L, p0.Cursor⟩ : Vvitrineref12_Space) b0 s0 p1.N p1.C _ h7) (pc rm1 (pc rm1 (pc rm1 pn))) ?_)
        refine o_end ?_
        obtain rfl := si h
        exact ej () s0 trivial sn (kc rm0 (kc rm0 (kc rm0 (kd kr))))
       ·replace h := cond_f hb497 h
        refine cr ?_
        refine o1 J (o_fa (fd := ⟨ "Text", 28, 10, false, "", "", 24⟩) J J J J J ?_)
        refine o1 J (o_ld (b := b452) (off := 10) (v := (V s1)) J rm0 J J ?_)
        refine o1 J (o_len (s := s1) J J J rm1 q0 ?_)
        refine op J J (oe ?_)
        replace h := bsome h
        obtain ⟨d8, h, hk8⟩ := h
        refine cj (D := Unit) (ι := Unit) (fun _ i8 => True) (fun _ i8 => []) (fun _ i8 => X :: blk b0 (.cells (A [(I d8.1), (O d8.2.1), (I d8.2.2.1), (I d8.2.2.2.1), (V s0), (I d8.2.2.2.2.2)]) 40 (0, 0)) :: slO s0 49 en_Vapi_Cell d8.2.2.2.2.1 :: R) ?_ ?_
        ·refine c_block ?_
         refine c_loop (l_sub (sc J (sc J (sc J (sc J (sc J sn))))) (l_keep (kc rm1 (kc rm0 (kc rm0 (kc rm0 kr)))) (lf (X := Int × Int × Bool × Int × Int × (List Vapi_Cell) × Int) (ι := Unit) (fun k x => vitrineref12_Do_l9 p1 k x) _ (fun x9 i9 => True) (fun x9 i9 => [(12, (I x9.1)), (11, (I (p1.Text.length : Int))), (10, (V s1)), (3, (F b452 0)), (0, (F b0 0))]) (fun x9 i9 => X :: blk b452 (.cells (A [(U p1.Do), (I p1.N), (O p1.On), (U p1.Code), (U p1.C.Char), (O p1.C.Attr), (U p1.C.FA), (U p1.C.High), (U p1.C.Color), (U p1.C.f_Set), (V s1)]) 65 (0, 0)) :: blk b0 (.cells (A [(I x9.2.1), (O x9.2.2.1), (I x9.2.2.2.1), (I x9.2.2.2.2.1), (V s0), (I x9.2.2.2.2.2.2)]) 40 (0, 0)) :: slO s0 49 en_Vapi_Cell x9.2.2.2.2.2.1 :: R) (fun _ => J) ?_ fuel (0, p0.Model, p0.Alt, p0.Size.Rows, p0.Size.Cols, p0.L, p0.Cursor) () trivial h)))
         clear h
         rintro k9 ih9 x9 i9 _ h
         rw [vitrineref12_Do_l9.eq_2] at h
         refine l_round (cr ?_)
         refine o1 J (o_p (v := (O (decide (x9.1 < (p1.Text.length : Int))))) J ?_)
         refine oe (c_seq ?_)
         refine c_cond (b := (decide (x9.1 < (p1.Text.length : Int)))) J (fun hb509 => ?_) (fun hb509 => ?_)
         ·replace h := cond_t hb509 h
          refine c_skip (e_seq (c_seq (c_block (cr ?_))))
          refine op J J ?_
          replace h := gsome h
          obtain ⟨hg510, h⟩ := h
          refine o1 J (o_ix (s := s1) (n := x9.1) (e := (enI .u8)) J J J J J J rm0 q0 hg510 ?_)
          refine o1 J (o_ldE (s := s1) (e := (enI .u8)) (n := x9.1) (f := 0) (v := (U (rd p1.Text x9.1))) J rm0 q0 hg510 J J ?_)
          refine op J J (op J J (oe (cr ?_)))
          refine op J J ?_
          refine o1 J (o_p (v := (O (decide (x9.1 < 200)))) J ?_)
          refine oe ?_
          replace h := bsome h
          obtain ⟨d12, h, hk12⟩ := h
          refine cj (D := Unit) (ι := Unit) (fun _ i12 => True) (fun _ i12 => [(12, (I x9.1)), (11, (I (p1.Text.length : Int))), (10, (V s1)), (3, (F b452 0)), (0, (F b0 0))]) (fun _ i12 => X :: blk b452 (.cells (A [(U p1.Do), (I p1.N), (O p1.On), (U p1.Code), (U p1.C.Char), (O p1.C.Attr), (U p1.C.FA), (U p1.C.High), (U p1.C.Color), (U p1.C.f_Set), (V s1)]) 65 (0, 0)) :: blk b0 (.cells (A [(I d12.1), (O d12.2.1), (I d12.2.2.1), (I d12.2.2.2.1), (V s0), (I d12.2.2.2.2.2)]) 40 (0, 0)) :: slO s0 49 en_Vapi_Cell d12.2.2.2.2.1 :: R) ?_ ?_
          ·refine c_cond (b := (decide (x9.1 < 200))) J (fun hb511 => ?_) (fun hb511 => ?_)
           ·replace h := cond_t hb511 h
            refine c_region (op J J (op J J ?_))
            refine o1 J (o_fa (fd := ⟨ "N", 3, 1, false, "", "", 8⟩) J J J J J ?_)
            refine o1 J (o_ld (b := b452) (off := 1) (v := (I p1.N)) J rm1 J J ?_)
            replace h := bsome h
            obtain ⟨d13, h13, h⟩ := h
            refine o1 J (o_call has46 J (c_vitrineref12_Wrap hg X (⟨x9.2.1, x9.2.2.1, (⟨x9.2.2.2.1, x9.2.2.2.2.1⟩ : Vvitrineref04_Size), x9.2.2.2.2.2.1, x9.2.2.2.2.2.2⟩ : Vvitrineref12_Space) b0 s0 p1.N _ h13) (pc rm0 (pc rm1 (pc rm1 pn))) ?_)
            refine op J J ?_
            refine o1 J (o_p (v := (I (w64 (d13 + x9.1)))) J ?_)
            refine op J J ?_
            replace h := bsome h
            obtain ⟨d14, h14, h⟩ := h
            refine o1 J (o_call has47 J (c_vitrineref12_Put hg X (⟨x9.2.1, x9.2.2.1, (⟨x9.2.2.2.1, x9.2.2.2.2.1⟩ : Vvitrineref04_Size), x9.2.2.2.2.2.1, x9.2.2.2.2.2.2⟩ : Vvitrineref12_Space) b0 s0 (w64 (d13 + x9.1)) (rd p1.Text x9.1) _ h14) (pc rm0 (pc rm0 (pc rm0 pn))) ?_)
            refine o_end ?_
            obtain rfl := si h
            exact ej () () trivial (sc J (sc J (sc J (sc J (sc J sn))))) (kc rm0 (kc rm2 (kc rm0 (kc rm0 kr))))
           ·replace h := cond_f hb511 h
            refine c_skip ?_
            obtain rfl := si h
            exact ej () () trivial (sc J (sc J (sc J (sc J (sc J sn))))) (kc rm0 (kc rm0 (kc rm0 (kc rm0 kr))))
          ·rintro _ i12 _
           replace h := hk12
           clear hk12
           refine e_blk (e_seq (c_region ?_))
           refine o1 J (o_p (v := (I (w64 (x9.1 + 1)))) J ?_)
           refine op J J (o_end ?_)
           exact e_loop (l_sub (sc J (sc J (sc J (sc J (sc J sn))))) (l_keep (kc rm0 (kc rm0 (kc rm0 (kc rm0 kr)))) (ih9 (w64 (x9.1 + 1), d12.1, d12.2.1, d12.2.2.1, d12.2.2.2.1, d12.2.2.2.2.1, d12.2.2.2.2.2) () trivial h)))
         ·replace h := cond_f hb509 h
          refine c_exit (e_then_exit (e_then_exit (e_blk_exit ?_)))
          obtain rfl := si h
          exact ej () () trivial sn (kc rm0 (kc rm1 (kc rm1 (kd kr))))
        ·rintro _ i8 _
         replace h := hk8
         clear hk8
         obtain rfl := si h
         exact ej () s0 trivial sn (kc rm0 (kc rm0 (kc rm0 kr)))
  ·rintro _ i2 _
   replace h := hk2
   clear hk2
   refine e_blk ?_
   obtain rfl := si h
   exact ej () i2 trivial sn (kc rm0 (kc rm0 (kc rm0 kr)))
 ·rintro _ i1 _
  replace h := hk1
  clear hk1
  refine e_fall ?_
  refine r_endt J J (kc rm0 (kc rm0 (kc rm0 kr))) ?_
  obtain rfl := si h
  exact hk i1

theorem c_space_Space_Clear_2 {g : Gw} (hg : GK g) (X : HP) (p0 : Vspace_Space) (b0 : Nat) (s0 : SV) (p1 : Bool) (r : Vspace_Space) (h : m_space_Space_Clear_2 p0 p1 = some r) : Tri env g 21 (A [(F b0 0), (O p1)]) [X, blk b0 (.cells (A [(I p0.model), (O p0.alternate), (I p0.size.Rows), (I p0.size.Cols), (V s0), (I p0.cursor), (I p0.attrs)]) 105 (0, 0)), slO s0 49 en_Vapi_Cell p0.cells] (fun K R => ∀ (i0 : SV), K (.tuple (A [])) (X :: blk b0 (.cells (A [(I r.model), (O r.alternate), (I r.size.Rows), (I r.size.Cols), (V i0), (I r.cursor), (I r.attrs)]) 105 (0, 0)) :: slO i0 49 en_Vapi_Cell r.cells :: slO s0 49 en_Vapi_Cell p0.cells :: R)) := by
 refine tri_of (fn := Tryz.f21) (N := 39) Tryz.func21 J J J ?_
 intro R K hk
 unfold m_space_Space_Clear_2 at h
 change GC _ none _ [] [(0, (F b0 0)), (1, (O p1))] (X :: blk b0 (.cells (A [(I p0.model), (O p0.alternate), (I p0.size.Rows), (I p0.size.Cols), (V s0), (I p0.cursor), (I p0.attrs)]) 105 (0, 0)) :: slO s0 49 en_Vapi_Cell p0.cells :: R) g _ _
 refine c_seq (cr (op J J ?_))
 refine o1 J (o_p (v := (O false)) J ?_)
 refine oe ?_
 refine c_cond_f J J ?_
 refine c_skip (e_seq (cr (op J J (o_end ?_))))
 refine e_seq (c_seq (cr (op J J (o_end ?_))))
 refine e_seq ?_
 replace h := bsome h
 obtain ⟨d1, h, hk1⟩ := h
 refine cj (D := Unit) (ι := Unit) (fun _ i1 => True) (fun _ i1 => [(4, (I d1)), (0, (F b0 0)), (1, (O p1))]) (fun _ i1 => X :: blk b0 (.cells (A [(I p0.model), (O p0.alternate), (I p0.size.Rows), (I p0.size.Cols), (V s0), (I p0.cursor), (I p0.attrs)]) 105 (0, 0)) :: slO s0 49 en_Vapi_Cell p0.cells :: R) ?_ ?_
 ·refine c_cond (b := p1) J (fun hb547 => ?_) (fun hb547 => ?_)
  ·replace h := cond_t hb547 h
   refine c_region (op J J (op J J ?_))
   refine o1 J (o_fa (fd := ⟨ "model", 3, 0, false, "", "vitrine/space", 0⟩) J J J J J ?_)
   refine o1 J (o_ld (b := b0) (off := 0) (v := (I p0.model)) J rm1 J J ?_)
   refine op J J (o_end ?_)
   obtain rfl := si h
   exact ej () () trivial (sc J (sc J (sc J sn))) (kc rm0 (kc rm0 (kc rm0 kr)))
  ·replace h := cond_f hb547 h
   refine c_skip ?_
   obtain rfl := si h
   exact ej () () trivial (sc J (sc J (sc J sn))) (kc rm0 (kc rm0 (kc rm0 kr)))
 ·rintro _ i1 _
  replace h := hk1
  clear hk1
  refine e_seq (cr (op J J (op J J (op J J ?_))))
  refine o1 J (o_fa (fd := ⟨ "alternate", 4, 1, false, "", "vitrine/space", 8⟩) J J J J J ?_)
  refine o0 (o_st (b := b0) (off := 1) (vs := [(O p1)]) (cs' := [(I p0.model), (O p1), (I p0.size.Rows), (I p0.size.Cols), (V s0), (I p0.cursor), (I p0.attrs)]) J J rp1 J J J J J J ?_)
  refine oe (cr (op J J (op J J ?_)))
  replace h := bsome h
  obtain ⟨d2, h2, h⟩ := h
  refine o1 J (o_call has43 J (c_addr_Model hg X d1 _ h2) (pc rm0 pn) ?_)
  refine op J J (op J J (op J J (op J J ?_)))
  refine o1 J (o_fa (fd := ⟨ "size", 103, 2, false, "", "vitrine/space", 16⟩) J J J J J ?_)
  refine o0 (o_st (b := b0) (off := 2) (vs := [(I d2.1.Rows), (I d2.1.Cols)]) (cs' := [(I p0.model), (O p1), (I d2.1.Rows), (I d2.1.Cols), (V s0), (I p0.cursor), (I p0.attrs)]) J J rp1 J J J J J J ?_)
  refine oe (cr (op J J (op J J ?_)))
  refine op J J ?_
  refine o1 J (o_fa (fd := ⟨ "size", 103, 2, false, "", "vitrine/space", 16⟩) J J J J J ?_)
  refine o1 J (o_ld (b := b0) (off := 2) (v := (.agg (A [(I d2.1.Rows), (I d2.1.Cols)]))) J rm1 J J ?_)
  replace h := bsome h
  obtain ⟨d3, h3, h⟩ := h
  refine o1 J (o_call has49 J (c_addr_Size_Cells hg X (⟨d2.1.Rows, d2.1.Cols⟩ : Vaddr_Size) _ h3) (pc rm0 pn) ?_)
  replace h := gsome h
  obtain ⟨hg548, h⟩ := h
  refine o1 J (o_mk (e := en_Vapi_Cell) (z := (⟨0, false, 0, 0, 0, 0⟩ : Vapi_Cell)) (zs := [(U 0), (O false), (U 0), (U 0), (U 0), (U 0)]) J J J J J J J J J hg548 (fun s549 => ?_))
  refine op J J ?_
  refine o1 J (o_fa (fd := ⟨ "cells", 33, 4, false, "", "vitrine/space", 32⟩) J J J J J ?_)
  refine o0 (o_st (b := b0) (off := 4) (vs := [(V s549)]) (cs' := [(I p0.model), (O p1), (I d2.1.Rows), (I d2.1.Cols), (V s549), (I p0.cursor), (I p0.attrs)]) J J rp2 J J J J J J ?_)
  refine oe (c_region (op J J (op J J (op J J ?_))))
  refine o1 J (o_fa (fd := ⟨ "cursor", 3, 5, false, "", "vitrine/space", 56⟩) J J J J J ?_)
  refine o0 (o_st (b := b0) (off := 5) (vs := [(I 0)]) (cs' := [(I p0.model), (O p1), (I d2.1.Rows), (I d2.1.Cols), (V s549), (I 0), (I p0.attrs)]) J J rp2 J J J J J J ?_)
  refine op J J ?_
  refine o1 J (o_fa (fd := ⟨ "attrs", 3, 6, false, "", "vitrine/space", 64⟩) J J J J J ?_)
  refine o0 (o_st (b := b0) (off := 6) (vs := [(I 0)]) (cs' := [(I p0.model), (O p1), (I d2.1.Rows), (I d2.1.Cols), (V s549), (I 0), (I 0)]) J J rp2 J J J J J J ?_)
  refine o_end (e_fall ?_)
  refine r_endt J J (kc rm1 (kc rm1 (kc rm0 (kc rm0 kr)))) ?_
  obtain rfl := si h
  exact hk s549

theorem c_addr_rest {g : Gw} (hg : GK g) (X : HP) (p0 : Int) (p1 : Int) (r : Int) (h : m_addr_rest p0 p1 = some r) : Tri env g 75 (A [(I p0), (I p1)]) [X] (fun K R => K (I r) (X :: R)) := by
 refine tri_of (fn := Tryz.f75) (N := 14) Tryz.func75 J J J ?_
 intro R K hk
 unfold m_addr_rest at h
 change GC _ none _ [] [(0, (I p0)), (1, (I p1))] (X :: R) g _ _
 refine cr (op J J (oe (c_seq ?_)))
 refine c_region (op J J (op J J ?_))
 replace h := gsome h
 obtain ⟨hg565, h⟩ := h
 refine o1 J (o_rem (m := p0) (n := p1) J J hg565 ?_)
 refine op J J (oe (c_seq (cr ?_)))
 refine op J J ?_
 refine o1 J (o_p (v := (O (decide ((Int.tmod p0 p1) < 0)))) J ?_)
 refine oe ?_
 replace h := bsome h
 obtain ⟨d1, h, hk1⟩ := h
 refine cj (D := Unit) (ι := Unit) (fun _ i1 => True) (fun _ i1 => [(0, (I d1))]) (fun _ i1 => X :: R) ?_ ?_
 ·refine c_cond (b := (decide ((Int.tmod p0 p1) < 0))) J (fun hb566 => ?_) (fun hb566 => ?_)
  ·replace h := cond_t hb566 h
   refine c_region (op J J (op J J ?_))
   refine o1 J (o_p (v := (I (w64 ((Int.tmod p0 p1) + p1)))) J ?_)
   refine op J J (o_end ?_)
   obtain rfl := si h
   exact ej () () trivial (sc J sn) (kc rm0 kr)
  ·replace h := cond_f hb566 h
   refine c_skip ?_
   obtain rfl := si h
   exact ej () () trivial (sc J sn) (kc rm0 kr)
 ·rintro _ i1 _
  replace h := hk1
  clear hk1
  refine e_seq (cr (op J J (op J J (o_end ?_))))
  refine e_seq (c_ret (e_ret ?_))
  refine r_endt J J (kc rm0 kr) ?_
  obtain rfl := si h
  exact hk

theorem c_addr_Size_Wrap {g : Gw} (hg : GK g) (X : HP) (p0 : Vaddr_Size) (p1 : Int) (r : Int) (h : m_addr_Size_Wrap p0 p1 = some r) : Tri env g 40 (A [(.agg (A [(I p0.Rows), (I p0.Cols)])), (I p1)]) [X] (fun K R => K (I r) (X :: R)) := by
 refine tri_of (fn := Tryz.f40) (N := 12) Tryz.func40 J J J ?_
 intro R K hk
 unfold m_addr_Size_Wrap at h
 change GC _ none _ [] [(0, (.agg (A [(I p0.Rows), (I p0.Cols)]))), (1, (I p1))] (X :: R) g _ _
 refine cr ?_
 refine o1 J (o_box (cs := [(I p0.Rows), (I p0.Cols)]) J J (fun b562 => ?_))
 refine op J J (oe (c_seq (cr ?_)))
 refine o1 J (o_ld (b := b562) (off := 0) (v := (.agg (A [(I p0.Rows), (I p0.Cols)]))) J rm0 J J ?_)
 replace h := bsome h
 obtain ⟨d1, h1, h⟩ := h
 refine o1 J (o_call has74 J (c_addr_Size_Valid hg X p0 _ h1) (pc rm1 pn) ?_)
 refine o1 J (o_p (v := (O (!d1))) J ?_)
 refine oe ?_
 refine c_cond (b := (!d1)) J (fun hb564 => ?_) (fun hb564 => ?_)
 ·replace h := cond_t hb564 h
  refine cr (op J J (oe (c_ret ?_)))
  refine e_then_ret (e_ret ?_)
  refine r_endt J J (kc rm0 (kd kr)) ?_
  obtain rfl := si h
  exact hk
 ·replace h := cond_f hb564 h
  refine c_skip (e_seq (cr (op J J ?_)))
  refine o1 J (o_ld (b := b562) (off := 0) (v := (.agg (A [(I p0.Rows), (I p0.Cols)]))) J rm1 J J ?_)
  replace h := bsome h
  obtain ⟨d3, h3, h⟩ := h
  refine o1 J (o_call has49 J (c_addr_Size_Cells hg X p0 _ h3) (pc rm0 pn) ?_)
  replace h := bsome h
  obtain ⟨d4, h4, h⟩ := h
  refine o1 J (o_call has75 J (c_addr_rest hg X p1 d3 _ h4) (pc rm0 pn) ?_)
  refine op J J (oe (c_ret (e_ret ?_)))
  refine r_endt J J (kc rm0 (kd kr)) ?_
  obtain rfl := si h
  exact hk

theorem c_space_count {g : Gw} (hg : GK g) (X : HP) (p0 : Vapi_Cell) (r : Int) (h : m_space_count p0 = some r) : Tri env g 50 (A [(.agg (A [(U p0.Char), (O p0.Attr), (U p0.FA), (U p0.High), (U p0.Color), (U p0.f_Set)]))]) [X] (fun K R => K (I r) (X :: R)) := by
 refine tri_of (fn := Tryz.f50) (N := 5) Tryz.func50 J J J ?_
 intro R K hk
 unfold m_space_count at h
 change GC _ none _ [] [(0, (.agg (A [(U p0.Char), (O p0.Attr), (U p0.FA), (U p0.High), (U p0.Color), (U p0.f_Set)])))] (X :: R) g _ _
 refine cr ?_
 refine o1 J (o_box (cs := [(U p0.Char), (O p0.Attr), (U p0.FA), (U p0.High), (U p0.Color), (U p0.f_Set)]) J J (fun b568 => ?_))
 refine op J J (oe (c_seq (cr ?_)))
 refine o1 J (o_fa (fd := ⟨ "Attr", 4, 1, false, "", "", 1⟩) J J J J J ?_)
 refine o1 J (o_ld (b := b568) (off := 1) (v := (O p0.Attr)) J rm0 J J ?_)
 refine oe ?_
 refine c_cond (b := p0.Attr) J (fun hb570 => ?_) (fun hb570 => ?_)
 ·replace h := cond_t hb570 h
  refine cr (op J J (oe (c_ret ?_)))
  refine e_then_ret (e_ret ?_)
  refine r_endt J J (kc rm1 (kd kr)) ?_
  obtain rfl := si h
  exact hk
 ·replace h := cond_f hb570 h
  refine c_skip (e_seq (cr (op J J (o_end ?_))))
  refine e_seq (c_ret (e_ret ?_))
  refine r_endt J J (kc rm1 (kd kr)) ?_
  obtain rfl := si h
  exact hk

theorem c_space_Space_Set {g : Gw} (hg : GK g) (X : HP) (p0 : Vspace_Space) (b0 : Nat) (s0 : SV) (p1 : Int) (p2 : Vapi_Cell) (r : Vspace_Space) (h : m_space_Space_Set p0 p1 p2 = some r) : Tri env g 22 (A [(F b0 0), (I p1), (.agg (A [(U p2.Char), (O p2.Attr), (U p2.FA), (U p2.High), (U p2.Color), (U p2.f_Set)]))]) [X, blk b0 (.cells (A [(I p0.model), (O p0.alternate), (I p0.size.Rows), (I p0.size.Cols), (V s0), (I p0.cursor), (I p0.attrs)]) 105 (0, 0)), slO s0 49 en_Vapi_Cell p0.cells] (fun K R => K (.tuple (A [])) (X :: blk b0 (.cells (A [(I r.model), (O r.alternate), (I r.size.Rows), (I r.size.Cols), (V s0), (I r.cursor), (I r.attrs)]) 105 (0, 0)) :: slO s0 49 en_Vapi_Cell r.cells :: R)) := by
 refine tri_of (fn := Tryz.f22) (N := 47) Tryz.func22 J J J ?_
 intro R K hk
 unfold m_space_Space_Set at h
 change GC _ none _ [] [(0, (F b0 0)), (1, (I p1)), (2, (.agg (A [(U p2.Char), (O p2.Attr), (U p2.FA), (U p2.High), (U p2.Color), (U p2.f_Set)])))] (X :: blk b0 (.cells (A [(I p0.model), (O p0.alternate), (I p0.size.Rows), (I p0.size.Cols), (V s0), (I p0.cursor), (I p0.attrs)]) 105 (0, 0)) :: slO s0 49 en_Vapi_Cell p0.cells :: R) g _ _
 refine cr ?_
 refine o1 J (o_box (cs := [(U p2.Char), (O p2.Attr), (U p2.FA), (U p2.High), (U p2.Color), (U p2.f_Set)]) J J (fun b559 => ?_))
 refine oe (c_seq (cr (op J J ?_)))
 refine o1 J (o_p (v := (O false)) J ?_)
 refine oe ?_
 refine c_cond_f J J ?_
 refine c_skip (e_seq (c_seq (cr ?_)))
 refine o1 J (o_fa (fd := ⟨ "Attr", 4, 1, false, "", "", 1⟩) J J J J J ?_)
 refine o1 J (o_ld (b := b559) (off := 1) (v := (O p2.Attr)) J rm0 J J ?_)
 refine oe ?_
 replace h := bsome h
 obtain ⟨d1, h, hk1⟩ := h
 refine cj (D := Unit) (ι := Unit) (fun _ i1 => True) (fun _ i1 => [(5, (F b559 0)), (0, (F b0 0)), (1, (I p1))]) (fun _ i1 => X :: blk b559 (.cells (A [(U d1.1), (O p2.Attr), (U d1.2), (U p2.High), (U p2.Color), (U p2.f_Set)]) 49 (0, 0)) :: blk b0 (.cells (A [(I p0.model), (O p0.alternate), (I p0.size.Rows), (I p0.size.Cols), (V s0), (I p0.cursor), (I p0.attrs)]) 105 (0, 0)) :: slO s0 49 en_Vapi_Cell p0.cells :: R) ?_ ?_
 ·refine c_cond (b := p2.Attr) J (fun hb561 => ?_) (fun hb561 => ?_)
  ·replace h := cond_t hb561 h
   refine c_region ?_
   refine o1 J (o_fa (fd := ⟨ "FA", 5, 2, false, "", "", 2⟩) J J J J J ?_)
   refine o1 J (o_ld (b := b559) (off := 2) (v := (U p2.FA)) J rm0 J J ?_)
   refine o1 J (o_p (v := (U (iband .u8 p2.FA 61))) J ?_)
   refine o1 J (o_fa (fd := ⟨ "Char", 5, 0, false, "", "", 0⟩) J J J J J ?_)
   refine o0 (o_st (b := b559) (off := 0) (vs := [(U 0)]) (cs' := [(U 0), (O p2.Attr), (U p2.FA), (U p2.High), (U p2.Color), (U p2.f_Set)]) J J rp0 J J J J J J ?_)
   refine o1 J (o_fa (fd := ⟨ "FA", 5, 2, false, "", "", 2⟩) J J J J J ?_)
   refine o0 (o_st (b := b559) (off := 2) (vs := [(U (iband .u8 p2.FA 61))]) (cs' := [(U 0), (O p2.Attr), (U (iband .u8 p2.FA 61)), (U p2.High), (U p2.Color), (U p2.f_Set)]) J J rp0 J J J J J J ?_)
   refine o_end ?_
   obtain rfl := si h
   exact ej () () trivial (sc J (sc J (sc J sn))) (kc rm1 (kc rm0 (kc rm0 (kc rm0 kr))))
  ·replace h := cond_f hb561 h
   refine c_region ?_
   refine o1 J (o_fa (fd := ⟨ "FA", 5, 2, false, "", "", 2⟩) J J J J J ?_)
   refine o0 (o_st (b := b559) (off := 2) (vs := [(U 0)]) (cs' := [(U p2.Char), (O p2.Attr), (U 0), (U p2.High), (U p2.Color), (U p2.f_Set)]) J J rp0 J J J J J J ?_)
   refine o_end ?_
   obtain rfl := si h
   exact ej () () trivial (sc J (sc J (sc J sn))) (kc rm1 (kc rm0 (kc rm0 (kc rm0 kr))))
 ·rintro _ i1 _
  replace h := hk1
  clear hk1
  refine e_seq (cr (op J J (op J J ?_)))
  refine o1 J (o_fa (fd := ⟨ "size", 103, 2, false, "", "vitrine/space", 16⟩) J J J J J ?_)
  refine o1 J (o_ld (b := b0) (off := 2) (v := (.agg (A [(I p0.size.Rows), (I p0.size.Cols)]))) J rm2 J J ?_)
  refine op J J ?_
  replace h := bsome h
  obtain ⟨d2, h2, h⟩ := h
  refine o1 J (o_call has40 J (c_addr_Size_Wrap hg X p0.size p1 _ h2) (pc rm0 pn) ?_)
  refine op J J (oe (c_seq ?_))
  replace h := gsome h
  obtain ⟨hg567, h⟩ := h
  refine c_draw (n := 3) (q := [(0, 22, (F b0 0)), (1, 23, (F b0 0)), (2, 24, (F b0 6)), (3, 25, (I p0.attrs)), (4, 26, (.agg (A [(U d1.1), (O p2.Attr), (U d1.2), (U p2.High), (U p2.Color), (U p2.f_Set)]))), (6, 28, (F b0 0)), (7, 29, (F b0 0)), (8, 30, (F b0 4)), (9, 31, (V s0)), (10, 32, (I d2)), (11, 33, (F (SV.blk s0) (SV.off s0 + Int.toNat d2 * 6))), (12, 34, (.agg (A [(U ((rd p0.cells d2).Char)), (O ((rd p0.cells d2).Attr)), (U ((rd p0.cells d2).FA)), (U ((rd p0.cells d2).High)), (U ((rd p0.cells d2).Color)), (U ((rd p0.cells d2).f_Set))])))]) (pend := [0, 1, 2, 3, 4, 6, 7, 8, 9, 10, 11, 12]) J J J ?_
  replace h := bsome h
  obtain ⟨d4, h4, h⟩ := h
  refine ⟨⟨fun _ => ⟨J, J, J, .inl ⟨J, (o_p J ⟨J, J⟩)⟩⟩, fun _ => ⟨J, J, J, .inl ⟨J, (o_p J ⟨J, J⟩)⟩⟩, fun _ => ⟨J, J, J, .inl ⟨J, (o_fa (fd := ⟨ "attrs", 3, 6, false, "", "vitrine/space", 64⟩) J J J J J ⟨J, J⟩)⟩⟩, fun _ => ⟨J, J, J, .inl ⟨J, (o_ld (b := b0) (off := 6) (v := (I p0.attrs)) J rm2 J J ⟨J, J⟩)⟩⟩, fun _ => ⟨J, J, J, .inl ⟨J, (o_ld (b := b559) (off := 0) (v := (.agg (A [(U d1.1), (O p2.Attr), (U d1.2), (U p2.High), (U p2.Color), (U p2.f_Set)]))) J rm1 J J ⟨J, J⟩)⟩⟩, fun _ => ⟨J, J, J, .inl ⟨J, (o_p J ⟨J, J⟩)⟩⟩, fun _ => ⟨J, J, J, .inl ⟨J, (o_p J ⟨J, J⟩)⟩⟩, fun _ => ⟨J, J, J, .inl ⟨J, (o_fa (fd := ⟨ "cells", 33, 4, false, "", "vitrine/space", 32⟩) J J J J J ⟨J, J⟩)⟩⟩, fun _ => ⟨J, J, J, .inl ⟨J, (o_ld (b := b0) (off := 4) (v := (V s0)) J rm2 J J ⟨J, J⟩)⟩⟩, fun _ => ⟨J, J, J, .inl ⟨J, (o_p J ⟨J, J⟩)⟩⟩, fun _ => ⟨J, J, J, .inl ⟨J, (o_ix (s := s0) (n := d2) (e := en_Vapi_Cell) J J J J J J rm3 (rd_own _ _ _ _) hg567 ⟨J, J⟩)⟩⟩, fun _ => ⟨J, J, J, .inl ⟨J, (o_ldE (s := s0) (e := en_Vapi_Cell) (n := d2) (f := 0) (v := (.agg (A [(U ((rd p0.cells d2).Char)), (O ((rd p0.cells d2).Attr)), (U ((rd p0.cells d2).FA)), (U ((rd p0.cells d2).High)), (U ((rd p0.cells d2).Color)), (U ((rd p0.cells d2).f_Set))]))) J rm3 (rd_own _ _ _ _) hg567 J J ⟨J, J⟩)⟩⟩, trivial⟩, J, .inr ⟨[5], J, J, ⟨J, .inl J, ?_⟩, trivial⟩⟩
  refine (o_call has50 J (c_space_count hg X { p2 with Char := d1.1, FA := d1.2 } _ h4) (pc rm0 pn) ?_)
  refine ⟨[], [0, 1, 2, 3, 6, 7, 8, 9, 10, 11, 12], J, J, J, J, ?_⟩
  replace h := bsome h
  obtain ⟨d5, h5, h⟩ := h
  refine ⟨⟨fun _ => ⟨J, J, J, .inl ⟨J, (o_p J ⟨J, J⟩)⟩⟩, fun _ => ⟨J, J, J, .inl ⟨J, (o_p J ⟨J, J⟩)⟩⟩, fun _ => ⟨J, J, J, .inl ⟨J, (o_fa (fd := ⟨ "attrs", 3, 6, false, "", "vitrine/space", 64⟩) J J J J J ⟨J, J⟩)⟩⟩, fun _ => ⟨J, J, J, .inl ⟨J, (o_ld (b := b0) (off := 6) (v := (I p0.attrs)) J rm2 J J ⟨J, J⟩)⟩⟩, (fun h => nomatch h), fun _ => ⟨J, J, J, .inl ⟨J, (o_p J ⟨J, J⟩)⟩⟩, fun _ => ⟨J, J, J, .inl ⟨J, (o_p J ⟨J, J⟩)⟩⟩, fun _ => ⟨J, J, J, .inl ⟨J, (o_fa (fd := ⟨ "cells", 33, 4, false, "", "vitrine/space", 32⟩) J J J J J ⟨J, J⟩)⟩⟩, fun _ => ⟨J, J, J, .inl ⟨J, (o_ld (b := b0) (off := 4) (v := (V s0)) J rm2 J J ⟨J, J⟩)⟩⟩, fun _ => ⟨J, J, J, .inl ⟨J, (o_p J ⟨J, J⟩)⟩⟩, fun _ => ⟨J, J, J, .inl ⟨J, (o_ix (s := s0) (n := d2) (e := en_Vapi_Cell) J J J J J J rm3 (rd_own _ _ _ _) hg567 ⟨J, J⟩)⟩⟩, fun _ => ⟨J, J, J, .inl ⟨J, (o_ldE (s := s0) (e := en_Vapi_Cell) (n := d2) (f := 0) (v := (.agg (A [(U ((rd p0.cells d2).Char)), (O ((rd p0.cells d2).Attr)), (U ((rd p0.cells d2).FA)), (U ((rd p0.cells d2).High)), (U ((rd p0.cells d2).Color)), (U ((rd p0.cells d2).f_Set))]))) J rm3 (rd_own _ _ _ _) hg567 J J ⟨J, J⟩)⟩⟩, trivial⟩, J, .inr ⟨[13], J, J, ⟨J, .inl J, ?_⟩, trivial⟩⟩
  refine (o_call has50 J (c_space_count hg X (rd p0.cells d2) _ h5) (pc rm0 pn) ?_)
  refine ⟨[(14, 36, (I (w64 (d4 - d5)))), (15, 37, (I (w64 (p0.attrs + (w64 (d4 - d5)))))), (16, 38, (F b0 0)), (17, 39, (F b0 6))], [0, 1, 2, 3, 14, 15, 16, 17], J, J, J, J, ?_⟩
  refine ⟨⟨fun _ => ⟨J, J, J, .inl ⟨J, (o_p (v := (I (w64 (d4 - d5)))) J ⟨J, J⟩)⟩⟩, fun _ => ⟨J, J, J, .inl ⟨J, (o_p (v := (I (w64 (p0.attrs + (w64 (d4 - d5)))))) J ⟨J, J⟩)⟩⟩, fun _ => ⟨J, J, J, .inl ⟨J, (o_p J ⟨J, J⟩)⟩⟩, fun _ => ⟨J, J, J, .inl ⟨J, (o_fa (fd := ⟨ "attrs", 3, 6, false, "", "vitrine/space", 64⟩) J J J J J ⟨J, J⟩)⟩⟩, fun _ => ⟨J, J, J, .inl ⟨J, (o_p J ⟨J, J⟩)⟩⟩, fun _ => ⟨J, J, J, .inl ⟨J, (o_p J ⟨J, J⟩)⟩⟩, fun _ => ⟨J, J, J, .inl ⟨J, (o_fa (fd := ⟨ "attrs", 3, 6, false, "", "vitrine/space", 64⟩) J J J J J ⟨J, J⟩)⟩⟩, fun _ => ⟨J, J, J, .inl ⟨J, (o_ld (b := b0) (off := 6) (v := (I p0.attrs)) J rm2 J J ⟨J, J⟩)⟩⟩, (fun h => nomatch h), (fun h => nomatch h), (fun h => nomatch h), (fun h => nomatch h), (fun h => nomatch h), (fun h => nomatch h), (fun h => nomatch h), (fun h => nomatch h), trivial⟩, J, .inr ⟨[18], J, J, ⟨J, .inl J, ?_⟩, trivial⟩⟩
  refine (o_st (b := b0) (off := 6) (vs := [(I (w64 (p0.attrs + (w64 (d4 - d5)))))]) (cs' := [(I p0.model), (O p0.alternate), (I p0.size.Rows), (I p0.size.Cols), (V s0), (I p0.cursor), (I (w64 (p0.attrs + (w64 (d4 - d5)))))]) J J rp2 J J J J J J ?_)
  refine ⟨[], [], J, J, ?_⟩
  refine ⟨⟨(fun h => nomatch h), (fun h => nomatch h), (fun h => nomatch h), (fun h => nomatch h), (fun h => nomatch h), (fun h => nomatch h), (fun h => nomatch h), (fun h => nomatch h), (fun h => nomatch h), (fun h => nomatch h), (fun h => nomatch h), (fun h => nomatch h), (fun h => nomatch h), (fun h => nomatch h), (fun h => nomatch h), (fun h => nomatch h), trivial⟩, J, J, J, ?_⟩
  refine e_seq ?_
  replace h := gsome h
  obtain ⟨hg571, h⟩ := h
  refine c_draw (n := 1) (q := [(0, 40, (F b0 0)), (1, 41, (F b0 0)), (2, 42, (F b0 4)), (3, 43, (V s0)), (4, 44, (I d2)), (5, 45, (.agg (A [(U d1.1), (O p2.Attr), (U d1.2), (U p2.High), (U p2.Color), (U p2.f_Set)]))), (6, 46, (F (SV.blk s0) (SV.off s0 + Int.toNat d2 * 6)))]) (pend := [0, 1, 2, 3, 4, 5, 6]) J J J ?_
  refine ⟨⟨fun _ => ⟨J, J, J, .inl ⟨J, (o_p J ⟨J, J⟩)⟩⟩, fun _ => ⟨J, J, J, .inl ⟨J, (o_p J ⟨J, J⟩)⟩⟩, fun _ => ⟨J, J, J, .inl ⟨J, (o_fa (fd := ⟨ "cells", 33, 4, false, "", "vitrine/space", 32⟩) J J J J J ⟨J, J⟩)⟩⟩, fun _ => ⟨J, J, J, .inl ⟨J, (o_ld (b := b0) (off := 4) (v := (V s0)) J rm2 J J ⟨J, J⟩)⟩⟩, fun _ => ⟨J, J, J, .inl ⟨J, (o_p J ⟨J, J⟩)⟩⟩, fun _ => ⟨J, J, J, .inl ⟨J, (o_ld (b := b559) (off := 0) (v := (.agg (A [(U d1.1), (O p2.Attr), (U d1.2), (U p2.High), (U p2.Color), (U p2.f_Set)]))) J rm1 J J ⟨J, J⟩)⟩⟩, fun _ => ⟨J, J, J, .inl ⟨J, (o_ix (s := s0) (n := d2) (e := en_Vapi_Cell) J J J J J J rm3 (rd_own _ _ _ _) hg571 ⟨J, J⟩)⟩⟩, trivial⟩, J, .inr ⟨[7], J, J, ⟨J, .inl J, ?_⟩, trivial⟩⟩
  refine (o_stE (s := s0) (e := en_Vapi_Cell) (n := d2) (f := 0) (vs := [(U d1.1), (O p2.Attr), (U d1.2), (U p2.High), (U p2.Color), (U p2.f_Set)]) (u := { p2 with Char := d1.1, FA := d1.2 }) J J rp3 hg571 J J J J J J ?_)
  refine ⟨[], [], J, J, ?_⟩
  refine ⟨⟨(fun h => nomatch h), (fun h => nomatch h), (fun h => nomatch h), (fun h => nomatch h), (fun h => nomatch h), (fun h => nomatch h), (fun h => nomatch h), trivial⟩, J, J, J, ?_⟩
  refine e_fall ?_
  refine r_endt J J (kc rm0 (kc rm1 (kc rm1 (kd kr)))) ?_
  obtain rfl := si h
  exact hk

theorem c_space_Space_Place {g : Gw} (hg : GK g) (X : HP) (p0 : Vspace_Space) (b0 : Nat) (s0 : SV) (p1 : Int) (r : Vspace_Space) (h : m_space_Space_Place p0 p1 = some r) : Tri env g 23 (A [(F b0 0), (I p1)]) [X, blk b0 (.cells (A [(I p0.model), (O p0.alternate), (I p0.size.Rows), (I p0.size.Cols), (V s0), (I p0.cursor), (I p0.attrs)]) 105 (0, 0)), slO s0 49 en_Vapi_Cell p0.cells] (fun K R => K (.tuple (A [])) (X :: blk b0 (.cells (A [(I r.model), (O r.alternate), (I r.size.Rows), (I r.size.Cols), (V s0), (I r.cursor), (I r.attrs)]) 105 (0, 0)) :: slO s0 49 en_Vapi_Cell r.cells :: R)) := by
 refine tri_of (fn := Tryz.f23) (N := 15) Tryz.func23 J J J ?_
 intro R K hk
 unfold m_space_Space_Place at h
 change GC _ none _ [] [(0, (F b0 0)), (1, (I p1))] (X :: blk b0 (.cells (A [(I p0.model), (O p0.alternate), (I p0.size.Rows), (I p0.size.Cols), (V s0), (I p0.cursor), (I p0.attrs)]) 105 (0, 0)) :: slO s0 49 en_Vapi_Cell p0.cells :: R) g _ _
 refine cr (op J J ?_)
 refine o1 J (o_p (v := (O true)) J ?_)
 refine oe ?_
 refine c_cond_t J J ?_
 refine c_region (op J J (op J J (op J J ?_)))
 refine o1 J (o_fa (fd := ⟨ "size", 103, 2, false, "", "vitrine/space", 16⟩) J J J J J ?_)
 refine o1 J (o_ld (b := b0) (off := 2) (v := (.agg (A [(I p0.size.Rows), (I p0.size.Cols)]))) J rm1 J J ?_)
 refine op J J ?_
 replace h := bsome h
 obtain ⟨d1, h1, h⟩ := h
 refine o1 J (o_call has40 J (c_addr_Size_Wrap hg X p0.size p1 _ h1) (pc rm0 pn) ?_)
 refine op J J ?_
 refine o1 J (o_fa (fd := ⟨ "cursor", 3, 5, false, "", "vitrine/space", 56⟩) J J J J J ?_)
 refine o0 (o_st (b := b0) (off := 5) (vs := [(I d1)]) (cs' := [(I p0.model), (O p0.alternate), (I p0.size.Rows), (I p0.size.Cols), (V s0), (I d1), (I p0.attrs)]) J J rp1 J J J J J J ?_)
 refine o_end (e_fall ?_)
 refine r_endt J J (kc rm0 (kc rm0 (kc rm0 kr))) ?_
 obtain rfl := si h
 exact hk

theorem c_vitrinelaw20_lay {g : Gw} (hg : GK g) (X : HP) (p0 : Int) (p1 : List Vvitrineref12_Act) (s0 : SV) (q0r : RdN X s0 65 en_Vvitrineref12_Act D_Vvitrineref12_Act p1) (r : Vspace_Space × Vvitrineref12_Space) (h : m_vitrinelaw20_lay p0 p1 = some r) : Tri env g 5 (A [(U p0), (V s0)]) [X] (fun K R => ∀ (i0 : Nat × SV × Nat × SV), K (.tuple (A [(F i0.1 0), (F i0.2.2.1 0)])) (X :: blk i0.1 (.cells (A [(I r.1.model), (O r.1.alternate), (I r.1.size.Rows), (I r.1.size.Cols), (V i0.2.1), (I r.1.cursor), (I r.1.attrs)]) 105 (0, 0)) :: slO i0.2.1 49 en_Vapi_Cell r.1.cells :: blk i0.2.2.1 (.cells (A [(I r.2.Model), (O r.2.Alt), (I r.2.Size.Rows), (I r.2.Size.Cols), (V i0.2.2.2), (I r.2.Cursor)]) 40 (0, 0)) :: slO i0.2.2.2 49 en_Vapi_Cell r.2.L :: R)) := by
 refine tri_of (fn := Tryz.f5) (N := 70) Tryz.func5 J J J ?_
 intro R K hk
 obtain ⟨L_q0, q0, n_q0⟩ := q0r
 unfold m_vitrinelaw20_lay at h
 change GC _ none _ [] [(0, (U p0)), (1, (V s0))] (X :: R) g _ _
 refine cr (op J J (op J J (oe ?_)))
 refine cr (op J J ?_)
 refine o1 rfl (o_rem (m := p0) (n := 4) rfl rfl (by decide) ?_)
 refine o1 J (o_p (v := (I (w64 (Int.tmod p0 4)))) J ?_)
 refine o1 J (o_p (v := (I (w64 (2 + (w64 (Int.tmod p0 4)))))) J ?_)
 refine op J J (oe (cr (op J J ?_)))
 replace h := bsome h
 obtain ⟨d2, h2, h⟩ := h
 rcases d2 with d2 | d2
 ·cases h
 ·refine o1 J (o_call has18 J (c_space_New hg X (w64 (2 + (w64 (Int.tmod p0 4)))) _ h2) (pc rm0 pn) (fun i2 => ?_))
  refine op J J (op J J (op J J (op J J (op J J (o_end ?_)))))
  refine e_seq (cr (op J J ?_))
  replace h := bsome h
  obtain ⟨d4, h4, h⟩ := h
  rcases d4 with d4 | d4
  ·cases h
  ·refine o1 J (o_call has19 J (c_vitrineref12_New hg X (w64 (2 + (w64 (Int.tmod p0 4)))) _ h4) (pc rm0 pn) (fun i4 => ?_))
   refine op J J (oe (c_seq (cr ?_)))
   refine op J J ?_
   refine o1 J (o_lenN (s := s0) J J J rm0 q0 n_q0 ?_)
   refine op J J (oe ?_)
   replace h := bsome h
   obtain ⟨d5, h, hk5⟩ := h
   refine cj (D := Unit) (ι := SV) (fun _ i5 => True) (fun _ i5 => [(9, (F i4.1 0)), (7, (F i2.1 0))]) (fun _ i5 => X :: blk i4.1 (.cells (A [(I d5.1), (O d5.2.1), (I d5.2.2.1), (I d5.2.2.2.1), (V i5), (I d5.2.2.2.2.2.1)]) 40 (0, 0)) :: blk i2.1 (.cells (A [(I d5.2.2.2.2.2.2.1), (O d5.2.2.2.2.2.2.2.1), (I d5.2.2.2.2.2.2.2.2.1), (I d5.2.2.2.2.2.2.2.2.2.1), (V i2.2), (I d5.2.2.2.2.2.2.2.2.2.2.2.1), (I d5.2.2.2.2.2.2.2.2.2.2.2.2)]) 105 (0, 0)) :: slO i5 49 en_Vapi_Cell d5.2.2.2.2.1 :: slO i2.2 49 en_Vapi_Cell d5.2.2.2.2.2.2.2.2.2.2.1 :: R) ?_ ?_
   ·refine c_block ?_
    refine c_loop (l_sub (sc J (sc J (sc J (sc J (sc J sn))))) (l_keep (kc rm0 (kc rm0 (kc rm1 (kc rm0 (kc rm0 kr))))) (lf (X := Int × Int × Bool × Int × Int × (List Vapi_Cell) × Int × Int × Bool × Int × Int × (List Vapi_Cell) × Int × Int) (ι := SV) (fun k x => vitrinelaw20_lay_l6 p1 k x) _ (fun x6 i6 => True) (fun x6 i6 => [(27, (I x6.1)), (26, (I (p1.length : Int))), (25, (V s0)), (9, (F i4.1 0)), (7, (F i2.1 0))]) (fun x6 i6 => X :: blk i4.1 (.cells (A [(I x6.2.1), (O x6.2.2.1), (I x6.2.2.2.1), (I x6.2.2.2.2.1), (V i6), (I x6.2.2.2.2.2.2.1)]) 40 (0, 0)) :: blk i2.1 (.cells (A [(I x6.2.2.2.2.2.2.2.1), (O x6.2.2.2.2.2.2.2.2.1), (I x6.2.2.2.2.2.2.2.2.2.1), (I x6.2.2.2.2.2.2.2.2.2.2.1), (V i2.2), (I x6.2.2.2.2.2.2.2.2.2.2.2.2.1), (I x6.2.2.2.2.2.2.2.2.2.2.2.2.2)]) 105 (0, 0)) :: slO i6 49 en_Vapi_Cell x6.2.2.2.2.2.1 :: slO i2.2 49 en_Vapi_Cell x6.2.2.2.2.2.2.2.2.2.2.2.1 :: R) (fun _ => J) ?_ fuel (0, d4.Model, d4.Alt, d4.Size.Rows, d4.Size.Cols, d4.L, d4.Cursor, d2.1.model, d2.1.alternate, d2.1.size.Rows, d2.1.size.Cols, d2.1.cells, d2.1.cursor, d2.1.attrs) i4.2 trivial h)))
    clear h
    rintro k6 ih6 x6 i6 _ h
    rw [vitrinelaw20_lay_l6.eq_2] at h
    refine l_round (cr ?_)
    refine o1 J (o_p (v := (O (decide (x6.1 < (p1.length : Int))))) J ?_)
    refine oe (c_seq ?_)
    refine c_cond (b := (decide (x6.1 < (p1.length : Int)))) J (fun hb533 => ?_) (fun hb533 => ?_)
    ·replace h := cond_t hb533 h
     refine c_skip (e_seq (c_seq (c_block (cr ?_))))
     refine op J J ?_
     replace h := gsome h
     obtain ⟨hg534, h⟩ := h
     refine o1 J (o_ix (s := s0) (n := x6.1) (e := en_Vvitrineref12_Act) J J J J J J rm0 q0 (NL.lt n_q0 hg534) ?_)
     obtain ⟨sv535, he_sv535, hd_sv535⟩ := NL.rd n_q0 hg534
     have hr536 : Rd X sv535 5 (enI .u8) ((rd p1 x6.1).Text) := hd_sv535
     refine o1 rfl (o_ldE (s := s0) (e := en_Vvitrineref12_Act) (n := x6.1) (f := 0) (v := (.agg (A [(U ((rd p1 x6.1).Do)), (I ((rd p1 x6.1).N)), (O ((rd p1 x6.1).On)), (U ((rd p1 x6.1).Code)), (U (((rd p1 x6.1).C).Char)), (O (((rd p1 x6.1).C).Attr)), (U (((rd p1 x6.1).C).FA)), (U (((rd p1 x6.1).C).High)), (U (((rd p1 x6.1).C).Color)), (U (((rd p1 x6.1).C).f_Set)), (V sv535)]))) rfl rm0 q0 (NL.lt n_q0 hg534) rfl (by rw [he_sv535]; rfl) ?_)
     refine o1 J (o_alloc (cs := [(U 0), (I 0), (O false), (U 0), (U 0), (O false), (U 0), (U 0), (U 0), (U 0), (V SV.nil)]) J J (fun b537 => ?_))
     refine op J J ?_
     refine o0 (o_st (b := b537) (off := 0) (vs := [(U ((rd p1 x6.1).Do)), (I ((rd p1 x6.1).N)), (O ((rd p1 x6.1).On)), (U ((rd p1 x6.1).Code)), (U (((rd p1 x6.1).C).Char)), (O (((rd p1 x6.1).C).Attr)), (U (((rd p1 x6.1).C).FA)), (U (((rd p1 x6.1).C).High)), (U (((rd p1 x6.1).C).Color)), (U (((rd p1 x6.1).C).f_Set)), (V sv535)]) (cs' := [(U ((rd p1 x6.1).Do)), (I ((rd p1 x6.1).N)), (O ((rd p1 x6.1).On)), (U ((rd p1 x6.1).Code)), (U (((rd p1 x6.1).C).Char)), (O (((rd p1 x6.1).C).Attr)), (U (((rd p1 x6.1).C).FA)), (U (((rd p1 x6.1).C).High)), (U (((rd p1 x6.1).C).Color)), (U (((rd p1 x6.1).C).f_Set)), (V sv535)]) J J rp0 J J J J J J ?_)
     refine oe (cr (op J J ?_))
     refine o1 J (o_p (v := (O (decide (x6.1 < 30)))) J ?_)
     refine oe ?_
     replace h := bsome h
     obtain ⟨d9, h, hk9⟩ := h
     refine cj (D := Unit) (ι := SV) (fun _ i9 => True) (fun _ i9 => [(27, (I x6.1)), (26, (I (p1.length : Int))), (25, (V s0)), (9, (F i4.1 0)), (7, (F i2.1 0))]) (fun _ i9 => X :: blk i4.1 (.cells (A [(I d9.1), (O d9.2.1), (I d9.2.2.1), (I d9.2.2.2.1), (V i9), (I d9.2.2.2.2.2)]) 40 (0, 0)) :: blk i2.1 (.cells (A [(I x6.2.2.2.2.2.2.2.1), (O x6.2.2.2.2.2.2.2.2.1), (I x6.2.2.2.2.2.2.2.2.2.1), (I x6.2.2.2.2.2.2.2.2.2.2.1), (V i2.2), (I x6.2.2.2.2.2.2.2.2.2.2.2.2.1), (I x6.2.2.2.2.2.2.2.2.2.2.2.2.2)]) 105 (0, 0)) :: slO i9 49 en_Vapi_Cell d9.2.2.2.2.1 :: slO i2.2 49 en_Vapi_Cell x6.2.2.2.2.2.2.2.2.2.2.2.1 :: R) ?_ ?_
     ·refine c_cond (b := (decide (x6.1 < 30))) J (fun hb539 => ?_) (fun hb539 => ?_)
      ·replace h := cond_t hb539 h
       refine c_region (op J J ?_)
       refine o1 J (o_ld (b := b537) (off := 0) (v := (.agg (A [(U ((rd p1 x6.1).Do)), (I ((rd p1 x6.1).N)), (O ((rd p1 x6.1).On)), (U ((rd p1 x6.1).Code)), (U (((rd p1 x6.1).C).Char)), (O (((rd p1 x6.1).C).Attr)), (U (((rd p1 x6.1).C).FA)), (U (((rd p1 x6.1).C).High)), (U (((rd p1 x6.1).C).Color)), (U (((rd p1 x6.1).C).f_Set)), (V sv535)]))) J rm0 J J ?_)
       replace h := bsome h
       obtain ⟨d10, h10, h⟩ := h
       refine o1 J (o_call has20 J (c_vitrineref12_Do hg X (⟨x6.2.1, x6.2.2.1, (⟨x6.2.2.2.1, x6.2.2.2.2.1⟩ : Vvitrineref04_Size), x6.2.2.2.2.2.1, x6.2.2.2.2.2.2.1⟩ : Vvitrineref12_Space) i4.1 i6 { (rd p1 x6.1) with C := ((rd p1 x6.1).C) } sv535 hr536 _ h10) (pc rm1 (pc rm1 (pc rm2 pn))) (fun i10 => ?_))
       refine o_end ?_
       obtain rfl := si h
       exact ej () i10 trivial (sc J (sc J (sc J (sc J (sc J sn))))) (kc rm0 (kc rm0 (kc rm2 (kc rm0 (kc rm1 (kd kr))))))
      ·replace h := cond_f hb539 h
       refine c_skip ?_
       obtain rfl := si h
       exact ej () i6 trivial (sc J (sc J (sc J (sc J (sc J sn))))) (kc rm1 (kc rm1 (kc rm1 (kc rm1 (kc rm1 (kd kr))))))
     ·rintro _ i9 _
      replace h := hk9
      clear hk9
      refine e_blk (e_seq (c_region ?_))
      refine o1 J (o_p (v := (I (w64 (x6.1 + 1)))) J ?_)
      refine op J J (o_end ?_)
      exact e_loop (l_sub (sc J (sc J (sc J (sc J (sc J sn))))) (l_keep (kc rm0 (kc rm0 (kc rm0 (kc rm0 (kc rm0 kr))))) (ih6 (w64 (x6.1 + 1), d9.1, d9.2.1, d9.2.2.1, d9.2.2.2.1, d9.2.2.2.2.1, d9.2.2.2.2.2, x6.2.2.2.2.2.2.2.1, x6.2.2.2.2.2.2.2.2.1, x6.2.2.2.2.2.2.2.2.2.1, x6.2.2.2.2.2.2.2.2.2.2.1, x6.2.2.2.2.2.2.2.2.2.2.2.1, x6.2.2.2.2.2.2.2.2.2.2.2.2.1, x6.2.2.2.2.2.2.2.2.2.2.2.2.2) i9 trivial h)))
    ·replace h := cond_f hb533 h
     refine c_exit (e_then_exit (e_then_exit (e_blk_exit ?_)))
     obtain rfl := si h
     exact ej () i6 trivial (sc J (sc J sn)) (kc rm0 (kc rm0 (kc rm0 (kc rm0 (kc rm0 kr)))))
   ·rintro _ i5 _
    replace h := hk5
    clear hk5
    refine e_seq (c_seq (cr (op J J (op J J ?_))))
    refine o1 J (o_fa (fd := ⟨ "Alt", 4, 1, false, "", "", 8⟩) J J J J J ?_)
    refine o1 J (o_ld (b := i4.1) (off := 1) (v := (O d5.2.1)) J rm1 J J ?_)
    refine oe ?_
    replace h := bsome h
    obtain ⟨d11, h, hk11⟩ := h
    refine cj (D := Unit) (ι := SV) (fun _ i11 => True) (fun _ i11 => [(9, (F i4.1 0)), (7, (F i2.1 0))]) (fun _ i11 => X :: blk i4.1 (.cells (A [(I d5.1), (O d5.2.1), (I d5.2.2.1), (I d5.2.2.2.1), (V i5), (I d5.2.2.2.2.2.1)]) 40 (0, 0)) :: blk i2.1 (.cells (A [(I d11.1), (O d11.2.1), (I d11.2.2.1), (I d11.2.2.2.1), (V i11), (I d11.2.2.2.2.2.1), (I d11.2.2.2.2.2.2)]) 105 (0, 0)) :: slO i5 49 en_Vapi_Cell d5.2.2.2.2.1 :: slO i11 49 en_Vapi_Cell d11.2.2.2.2.1 :: R) ?_ ?_
    ·refine c_cond (b := d5.2.1) J (fun hb546 => ?_) (fun hb546 => ?_)
     ·replace h := cond_t hb546 h
      refine c_region (op J J ?_)
      replace h := bsome h
      obtain ⟨d12, h12, h⟩ := h
      refine o1 J (o_call has21 J (c_space_Space_Clear_2 hg X (⟨d5.2.2.2.2.2.2.1, d5.2.2.2.2.2.2.2.1, (⟨d5.2.2.2.2.2.2.2.2.1, d5.2.2.2.2.2.2.2.2.2.1⟩ : Vaddr_Size), d5.2.2.2.2.2.2.2.2.2.2.1, d5.2.2.2.2.2.2.2.2.2.2.2.1, d5.2.2.2.2.2.2.2.2.2.2.2.2⟩ : Vspace_Space) i2.1 i2.2 true _ h12) (pc rm0 (pc rm1 (pc rm2 pn))) (fun i12 => ?_))
      refine o_end ?_
      obtain rfl := si h
      exact ej () i12 trivial (sc J (sc J sn)) (kc rm0 (kc rm3 (kc rm0 (kc rm2 (kc rm0 (kd kr))))))
     ·replace h := cond_f hb546 h
      refine c_skip ?_
      obtain rfl := si h
      exact ej () i2.2 trivial (sc J (sc J sn)) (kc rm0 (kc rm0 (kc rm0 (kc rm0 (kc rm0 kr)))))
    ·rintro _ i11 _
     replace h := hk11
     clear hk11
     refine e_seq (c_seq (cr (op J J (op J J ?_))))
     refine o1 J (o_fa (fd := ⟨ "L", 33, 4, false, "", "", 32⟩) J J J J J ?_)
     refine o1 J (o_ld (b := i4.1) (off := 4) (v := (V i5)) J rm1 J J ?_)
     refine o1 J (o_len (s := i5) J J J rm3 (rd_own _ _ _ _) ?_)
     refine op J J (oe ?_)
     replace h := bsome h
     obtain ⟨d13, h, hk13⟩ := h
     refine cj (D := Unit) (ι := Unit) (fun _ i13 => True) (fun _ i13 => [(9, (F i4.1 0)), (7, (F i2.1 0))]) (fun _ i13 => X :: blk i4.1 (.cells (A [(I d5.1), (O d5.2.1), (I d5.2.2.1), (I d5.2.2.2.1), (V i5), (I d5.2.2.2.2.2.1)]) 40 (0, 0)) :: blk i2.1 (.cells (A [(I d13.1), (O d13.2.1), (I d13.2.2.1), (I d13.2.2.2.1), (V i11), (I d13.2.2.2.2.2.1), (I d13.2.2.2.2.2.2)]) 105 (0, 0)) :: slO i5 49 en_Vapi_Cell d5.2.2.2.2.1 :: slO i11 49 en_Vapi_Cell d13.2.2.2.2.1 :: R) ?_ ?_
     ·refine c_block ?_
      refine c_loop (l_sub (sc J (sc J (sc J (sc J (sc J sn))))) (l_keep (kc rm0 (kc rm2 (kc rm0 (kc rm0 (kc rm0 kr))))) (lf (X := Int × Int × Bool × Int × Int × (List Vapi_Cell) × Int × Int) (ι := Unit) (fun k x => vitrinelaw20_lay_l14 d5 k x) _ (fun x14 i14 => True) (fun x14 i14 => [(49, (I x14.1)), (48, (I (d5.2.2.2.2.1.length : Int))), (47, (V i5)), (9, (F i4.1 0)), (7, (F i2.1 0))]) (fun x14 i14 => X :: slO i5 49 en_Vapi_Cell d5.2.2.2.2.1 :: blk i4.1 (.cells (A [(I d5.1), (O d5.2.1), (I d5.2.2.1), (I d5.2.2.2.1), (V i5), (I d5.2.2.2.2.2.1)]) 40 (0, 0)) :: blk i2.1 (.cells (A [(I x14.2.1), (O x14.2.2.1), (I x14.2.2.2.1), (I x14.2.2.2.2.1), (V i11), (I x14.2.2.2.2.2.2.1), (I x14.2.2.2.2.2.2.2)]) 105 (0, 0)) :: slO i11 49 en_Vapi_Cell x14.2.2.2.2.2.1 :: R) (fun _ => J) ?_ fuel (0, d11.1, d11.2.1, d11.2.2.1, d11.2.2.2.1, d11.2.2.2.2.1, d11.2.2.2.2.2.1, d11.2.2.2.2.2.2) () trivial h)))
      clear h
      rintro k14 ih14 x14 i14 _ h
      rw [vitrinelaw20_lay_l14.eq_2] at h
      refine l_round (cr ?_)
      refine o1 J (o_p (v := (O (decide (x14.1 < (d5.2.2.2.2.1.length : Int))))) J ?_)
      refine oe (c_seq ?_)
      refine c_cond (b := (decide (x14.1 < (d5.2.2.2.2.1.length : Int)))) J (fun hb584 => ?_) (fun hb584 => ?_)
      ·replace h := cond_t hb584 h
       refine c_skip (e_seq (c_seq (c_block (cr ?_))))
       refine op J J ?_
       replace h := gsome h
       obtain ⟨hg585, h⟩ := h
       refine o1 J (o_ix (s := i5) (n := x14.1) (e := en_Vapi_Cell) J J J J J J rm1 (rd_own _ _ _ _) hg585 ?_)
       refine o1 J (o_ldE (s := i5) (e := en_Vapi_Cell) (n := x14.1) (f := 0) (v := (.agg (A [(U ((rd d5.2.2.2.2.1 x14.1).Char)), (O ((rd d5.2.2.2.2.1 x14.1).Attr)), (U ((rd d5.2.2.2.2.1 x14.1).FA)), (U ((rd d5.2.2.2.2.1 x14.1).High)), (U ((rd d5.2.2.2.2.1 x14.1).Color)), (U ((rd d5.2.2.2.2.1 x14.1).f_Set))]))) J rm1 (rd_own _ _ _ _) hg585 J J ?_)
       refine o1 J (o_alloc (cs := [(U 0), (O false), (U 0), (U 0), (U 0), (U 0)]) J J (fun b586 => ?_))
       refine op J J ?_
       refine o0 (o_st (b := b586) (off := 0) (vs := [(U ((rd d5.2.2.2.2.1 x14.1).Char)), (O ((rd d5.2.2.2.2.1 x14.1).Attr)), (U ((rd d5.2.2.2.2.1 x14.1).FA)), (U ((rd d5.2.2.2.2.1 x14.1).High)), (U ((rd d5.2.2.2.2.1 x14.1).Color)), (U ((rd d5.2.2.2.2.1 x14.1).f_Set))]) (cs' := [(U ((rd d5.2.2.2.2.1 x14.1).Char)), (O ((rd d5.2.2.2.2.1 x14.1).Attr)), (U ((rd d5.2.2.2.2.1 x14.1).FA)), (U ((rd d5.2.2.2.2.1 x14.1).High)), (U ((rd d5.2.2.2.2.1 x14.1).Color)), (U ((rd d5.2.2.2.2.1 x14.1).f_Set))]) J J rp0 J J J J J J ?_)
       refine oe (cr ?_)
       refine o1 J (o_ld (b := b586) (off := 0) (v := (.agg (A [(U ((rd d5.2.2.2.2.1 x14.1).Char)), (O ((rd d5.2.2.2.2.1 x14.1).Attr)), (U ((rd d5.2.2.2.2.1 x14.1).FA)), (U ((rd d5.2.2.2.2.1 x14.1).High)), (U ((rd d5.2.2.2.2.1 x14.1).Color)), (U ((rd d5.2.2.2.2.1 x14.1).f_Set))]))) J rm0 J J ?_)
       refine o1 J (o_build (fs := f_1) (ps := [(0, 1), (1, 1), (2, 1), (3, 1), (4, 1), (5, 1)]) (cs := [(U 0), (O false), (U 0), (U 0), (U 0), (U 0)]) J J J J J ?_)
       refine o1 rfl (o_neT (b := ((((rd d5.2.2.2.2.1 x14.1).Char) == 0) && ((((rd d5.2.2.2.2.1 x14.1).Attr) == false) && ((((rd d5.2.2.2.2.1 x14.1).FA) == 0) && ((((rd d5.2.2.2.2.1 x14.1).High) == 0) && ((((rd d5.2.2.2.2.1 x14.1).Color) == 0) && ((((rd d5.2.2.2.2.1 x14.1).f_Set) == 0) && true))))))) (xs := [(U ((rd d5.2.2.2.2.1 x14.1).Char)), (O ((rd d5.2.2.2.2.1 x14.1).Attr)), (U ((rd d5.2.2.2.2.1 x14.1).FA)), (U ((rd d5.2.2.2.2.1 x14.1).High)), (U ((rd d5.2.2.2.2.1 x14.1).Color)), (U ((rd d5.2.2.2.2.1 x14.1).f_Set))]) (ys := [(U 0), (O false), (U 0), (U 0), (U 0), (U 0)]) rfl rfl (by kernel_rfl) stood rfl ?_)
       refine oe ?_
       replace h := bsome h
       obtain ⟨d17, h, hk17⟩ := h
       refine cj (D := Unit) (ι := Unit) (fun _ i17 => True) (fun _ i17 => [(49, (I x14.1)), (48, (I (d5.2.2.2.2.1.length : Int))), (47, (V i5)), (9, (F i4.1 0)), (7, (F i2.1 0))]) (fun _ i17 => X :: slO i5 49 en_Vapi_Cell d5.2.2.2.2.1 :: blk i4.1 (.cells (A [(I d5.1), (O d5.2.1), (I d5.2.2.1), (I d5.2.2.2.1), (V i5), (I d5.2.2.2.2.2.1)]) 40 (0, 0)) :: blk i2.1 (.cells (A [(I d17.1), (O d17.2.1), (I d17.2.2.1), (I d17.2.2.2.1), (V i11), (I d17.2.2.2.2.2.1), (I d17.2.2.2.2.2.2)]) 105 (0, 0)) :: slO i11 49 en_Vapi_Cell d17.2.2.2.2.1 :: R) ?_ ?_
       ·refine c_cond (b := (!((((rd d5.2.2.2.2.1 x14.1).Char) == 0) && ((((rd d5.2.2.2.2.1 x14.1).Attr) == false) && ((((rd d5.2.2.2.2.1 x14.1).FA) == 0) && ((((rd d5.2.2.2.2.1 x14.1).High) == 0) && ((((rd d5.2.2.2.2.1 x14.1).Color) == 0) && ((((rd d5.2.2.2.2.1 x14.1).f_Set) == 0) && true)))))))) J (fun hb588 => ?_) (fun hb588 => ?_)
        ·replace h := cond_t hb588 h
         refine c_region (op J J (op J J ?_))
         refine o1 J (o_ld (b := b586) (off := 0) (v := (.agg (A [(U ((rd d5.2.2.2.2.1 x14.1).Char)), (O ((rd d5.2.2.2.2.1 x14.1).Attr)), (U ((rd d5.2.2.2.2.1 x14.1).FA)), (U ((rd d5.2.2.2.2.1 x14.1).High)), (U ((rd d5.2.2.2.2.1 x14.1).Color)), (U ((rd d5.2.2.2.2.1 x14.1).f_Set))]))) J rm0 J J ?_)
         replace h := bsome h
         obtain ⟨d18, h18, h⟩ := h
         refine o1 J (o_call has22 J (c_space_Space_Set hg X (⟨x14.2.1, x14.2.2.1, (⟨x14.2.2.2.1, x14.2.2.2.2.1⟩ : Vaddr_Size), x14.2.2.2.2.2.1, x14.2.2.2.2.2.2.1, x14.2.2.2.2.2.2.2⟩ : Vspace_Space) i2.1 i11 x14.1 (rd d5.2.2.2.2.1 x14.1) _ h18) (pc rm1 (pc rm3 (pc rm3 pn))) ?_)
         refine o_end ?_
         obtain rfl := si h
         exact ej () () trivial (sc J (sc J (sc J (sc J (sc J sn))))) (kc rm0 (kc rm3 (kc rm3 (kc rm0 (kc rm0 (kd kr))))))
        ·replace h := cond_f hb588 h
         refine c_skip ?_
         obtain rfl := si h
         exact ej () () trivial (sc J (sc J (sc J (sc J (sc J sn))))) (kc rm1 (kc rm1 (kc rm1 (kc rm1 (kc rm1 (kd kr))))))
       ·rintro _ i17 _
        replace h := hk17
        clear hk17
        refine e_blk (e_seq (c_region ?_))
        refine o1 J (o_p (v := (I (w64 (x14.1 + 1)))) J ?_)
        refine op J J (o_end ?_)
        exact e_loop (l_sub (sc J (sc J (sc J (sc J (sc J sn))))) (l_keep (kc rm0 (kc rm0 (kc rm0 (kc rm0 (kc rm0 kr))))) (ih14 (w64 (x14.1 + 1), d17.1, d17.2.1, d17.2.2.1, d17.2.2.2.1, d17.2.2.2.2.1, d17.2.2.2.2.2.1, d17.2.2.2.2.2.2) () trivial h)))
      ·replace h := cond_f hb584 h
       refine c_exit (e_then_exit (e_then_exit (e_blk_exit ?_)))
       obtain rfl := si h
       exact ej () () trivial (sc J (sc J sn)) (kc rm0 (kc rm1 (kc rm1 (kc rm0 (kc rm0 kr)))))
     ·rintro _ i13 _
      replace h := hk13
      clear hk13
      refine e_seq (cr (op J J (op J J (op J J ?_))))
      refine o1 J (o_fa (fd := ⟨ "Cursor", 3, 5, false, "", "", 56⟩) J J J J J ?_)
      refine o1 J (o_ld (b := i4.1) (off := 5) (v := (I d5.2.2.2.2.2.1)) J rm1 J J ?_)
      replace h := bsome h
      obtain ⟨d19, h19, h⟩ := h
      refine o1 J (o_call has23 J (c_space_Space_Place hg X (⟨d13.1, d13.2.1, (⟨d13.2.2.1, d13.2.2.2.1⟩ : Vaddr_Size), d13.2.2.2.2.1, d13.2.2.2.2.2.1, d13.2.2.2.2.2.2⟩ : Vspace_Space) i2.1 i11 d5.2.2.2.2.2.1 _ h19) (pc rm0 (pc rm1 (pc rm2 pn))) ?_)
      refine oe (cr (op J J (op J J ?_)))
      refine op J J (op J J (oe (c_ret (e_ret ?_))))
      refine r_endt J J (kc rm0 (kc rm0 (kc rm0 (kc rm0 (kc rm0 kr))))) ?_
      obtain rfl := si h
      exact hk (i2.1, i11, i4.1, i5)

theorem c_space_Space_Cursor {g : Gw} (hg : GK g) (X : HP) (p0 : Vspace_Space) (b0 : Nat) (s0 : SV) (r : Int) (h : m_space_Space_Cursor p0 = some r) : Tri env g 15 (A [(F b0 0)]) [X, blk b0 (.cells (A [(I p0.model), (O p0.alternate), (I p0.size.Rows), (I p0.size.Cols), (V s0), (I p0.cursor), (I p0.attrs)]) 105 (0, 0)), slO s0 49 en_Vapi_Cell p0.cells] (fun K R => K (I r) (X :: blk b0 (.cells (A [(I p0.model), (O p0.alternate), (I p0.size.Rows), (I p0.size.Cols), (V s0), (I p0.cursor), (I p0.attrs)]) 105 (0, 0)) :: slO s0 49 en_Vapi_Cell p0.cells :: R)) := by
 refine tri_of (fn := Tryz.f15) (N := 9) Tryz.func15 J J J ?_
 intro R K hk
 unfold m_space_Space_Cursor at h
 change GC _ none _ [] [(0, (F b0 0))] (X :: blk b0 (.cells (A [(I p0.model), (O p0.alternate), (I p0.size.Rows), (I p0.size.Cols), (V s0), (I p0.cursor), (I p0.attrs)]) 105 (0, 0)) :: slO s0 49 en_Vapi_Cell p0.cells :: R) g _ _
 refine cr (op J J (oe (c_seq ?_)))
 refine cr (op J J ?_)
 refine o1 J (o_p (v := (O false)) J ?_)
 refine oe ?_
 refine c_cond_f J J ?_
 refine c_skip (e_seq (cr (op J J (op J J ?_))))
 refine o1 J (o_fa (fd := ⟨ "cursor", 3, 5, false, "", "vitrine/space", 56⟩) J J J J J ?_)
 refine o1 J (o_ld (b := b0) (off := 5) (v := (I p0.cursor)) J rm1 J J ?_)
 refine op J J (oe (c_ret (e_ret ?_)))
 refine r_endt J J (kc rm0 (kc rm0 (kc rm0 kr))) ?_
 obtain rfl := si h
 exact hk

theorem c_addr_Encode {g : Gw} (hg : GK g) (X : HP) (p0 : Int) (p1 : Int) (r : (List Int) × Int) (h : m_addr_Encode p0 p1 = some r) : Tri env g 33 (A [(I p0), (I p1)]) [X] (fun K R => ∀ (i0 : SV), K (.tuple (A [(V i0), (I r.2)])) (X :: slO i0 5 (enI .u8) r.1 :: R)) := by
 refine tri_of (fn := Tryz.f33) (N := 41) Tryz.func33 J J J ?_
 intro R K hk
 unfold m_addr_Encode at h
 change GC _ none _ [] [(0, (I p0)), (1, (I p1))] (X :: R) g _ _
 refine cr (op J J (op J J (oe ?_)))
 refine c_seq (c_block (c_seq ?_))
 replace h := bsome h
 obtain ⟨d2, h, hk2⟩ := h
 refine cj (D := Unit) (ι := Unit) (fun _ i2 => True) (fun _ i2 => [(6, (O d2)), (0, (I p0)), (1, (I p1))]) (fun _ i2 => X :: R) ?_ ?_
 ·refine c_region (op J J ?_)
  refine o1 J (o_p (v := (O (p0 != 12))) J ?_)
  refine op J J ?_
  rcases bool_or ((p0 != 12)) with hb610 | hb610
  ·replace h := cond_t hb610 h
   refine oy J J J hb610 (o_p J ?_)
   refine oy J J J hb610 (o_p (v := (O (p0 != 14))) J ?_)
   refine o1 J (o_pick_t J hb610 J ?_)
   refine op J J ?_
   rcases bool_or ((p0 != 14)) with hb611 | hb611
   ·replace h := cond_t hb611 h
    refine oy J J J hb611 (o_p J ?_)
    refine oy J J J hb611 (o_p (v := (O (p0 != 16))) J ?_)
    refine o1 J (o_pick_t J hb611 J ?_)
    refine op J J (o_end ?_)
    obtain rfl := si h
    exact ej () () trivial (sc J (sc J (sc J sn))) (kc rm0 kr)
   ·replace h := cond_f hb611 h
    refine on J J J hb611 ?_
    refine on J J J hb611 ?_
    refine o1 J (o_pick_f J hb611 J ?_)
    refine op J J (o_end ?_)
    obtain rfl := si h
    exact ej () () trivial (sc J (sc J (sc J sn))) (kc rm0 kr)
  ·replace h := cond_f hb610 h
   refine on J J J hb610 ?_
   refine on J J J hb610 ?_
   refine o1 J (o_pick_f J hb610 J ?_)
   refine op J J ?_
   refine on J J J J ?_
   refine on J J J J ?_
   refine o1 J (o_pick_f J J J ?_)
   refine op J J (o_end ?_)
   obtain rfl := si h
   exact ej () () trivial (sc J (sc J (sc J sn))) (kc rm0 kr)
 ·rintro _ i2 _
  replace h := hk2
  clear hk2
  refine e_seq ?_
  refine c_cond (b := d2) J (fun hb612 => ?_) (fun hb612 => ?_)
  ·replace h := cond_t hb612 h
   refine cr (op J J (op J J (oe ?_)))
   refine c_ret (e_blk_ret (e_then_ret (e_ret ?_)))
   refine r_add (slO SV.nil 5 (enI .u8) []) (slO_nil _ _ _) ?_
   refine r_endt J J (kc rm1 (kc rm0 kr)) ?_
   obtain rfl := si h
   exact hk SV.nil
  ·replace h := cond_f hb612 h
   refine c_seq ?_
   replace h := bsome h
   obtain ⟨d4, h, hk4⟩ := h
   refine cj (D := Unit) (ι := Unit) (fun _ i4 => True) (fun _ i4 => [(17, (O d4)), (0, (I p0)), (1, (I p1))]) (fun _ i4 => X :: R) ?_ ?_
   ·refine c_region (op J J ?_)
    refine o1 J (o_p (v := (O (decide (p1 < 0)))) J ?_)
    refine op J J ?_
    rcases bool_or ((decide (p1 < 0))) with hb613 | hb613
    ·replace h := cond_t hb613 h
     refine on J J J hb613 ?_
     refine on J J J hb613 ?_
     refine on J J J hb613 ?_
     refine on J J J hb613 ?_
     refine o1 J (o_pick_t J hb613 J ?_)
     refine op J J (o_end ?_)
     obtain rfl := si h
     exact ej () () trivial (sc J (sc J (sc J sn))) (kc rm0 kr)
    ·replace h := cond_f hb613 h
     refine oy J J J hb613 (o_p J ?_)
     refine oy J J J hb613 (o_p J ?_)
     replace h := gsome h
     obtain ⟨hg614, h⟩ := h
     refine oy J J J hb613 (o_shl (m := 1) (n := p0) J J hg614 ?_)
     refine oy J J J hb613 (o_p (v := (O (decide (p1 ≥ (ishl .i64 1 p0))))) J ?_)
     refine o1 J (o_pick_f J hb613 J ?_)
     refine op J J (o_end ?_)
     obtain rfl := si h
     exact ej () () trivial (sc J (sc J (sc J sn))) (kc rm0 kr)
   ·rintro _ i4 _
    replace h := hk4
    clear hk4
    refine e_seq ?_
    refine c_cond (b := d4) J (fun hb615 => ?_) (fun hb615 => ?_)
    ·replace h := cond_t hb615 h
     refine cr (op J J (op J J (oe ?_)))
     refine c_ret (e_blk_ret (e_then_ret (e_ret ?_)))
     refine r_add (slO SV.nil 5 (enI .u8) []) (slO_nil _ _ _) ?_
     refine r_endt J J (kc rm1 (kc rm0 kr)) ?_
     obtain rfl := si h
     exact hk SV.nil
    ·replace h := cond_f hb615 h
     refine cr (op J J ?_)
     refine o1 J (o_p (v := (O (p0 == 12))) J ?_)
     refine op J J (oe ?_)
     refine c_cond (b := (p0 == 12)) J (fun hb616 => ?_) (fun hb616 => ?_)
     ·replace h := cond_t hb616 h
      refine cr (op J J ?_)
      refine o1 rfl (o_shr (m := p1) (n := 6) rfl rfl (by decide) ?_)
      replace h := bsome h
      obtain ⟨d5, h5, h⟩ := h
      refine o1 J (o_call has54 J (c_addr_Six hg X (ishr .i64 p1 6) _ h5) (pc rm0 pn) ?_)
      refine op J J ?_
      replace h := bsome h
      obtain ⟨d6, h6, h⟩ := h
      refine o1 J (o_call has54 J (c_addr_Six hg X p1 _ h6) (pc rm0 pn) ?_)
      refine o1 J (o_bs (e := (enI .u8)) (l := [d5, d6]) (zs := [(U 0)]) J J J J J J J J J J (fun s617 => ?_))
      refine op J J (op J J (oe (c_ret (e_blk_ret ?_))))
      refine e_then_ret (e_ret ?_)
      refine r_endt J J (kc rm1 (kc rm0 kr)) ?_
      obtain rfl := si h
      exact hk s617
     ·replace h := cond_f hb616 h
      refine c_skip (e_blk (e_seq (cr (op J J ?_))))
      refine o1 rfl (o_shr (m := p1) (n := 8) rfl rfl (by decide) ?_)
      refine o1 J (o_p (v := (U (IntKind.wrap .u8 (ishr .i64 p1 8)))) J ?_)
      refine op J J ?_
      refine o1 J (o_p (v := (U (IntKind.wrap .u8 (p1)))) J ?_)
      refine o1 J (o_bs (e := (enI .u8)) (l := [IntKind.wrap .u8 (ishr .i64 p1 8), IntKind.wrap .u8 (p1)]) (zs := [(U 0)]) J J J J J J J J J J (fun s619 => ?_))
      refine op J J (op J J (oe (c_ret (e_ret ?_))))
      refine r_endt J J (kc rm1 (kc rm0 kr)) ?_
      obtain rfl := si h
      exact hk s619

theorem c_read_sender_addr {g : Gw} (hg : GK g) (X : HP) (p0 : Vread_sender) (b0 : Nat) (s0 : SV) (p1 : Int) (r : Vread_sender) (h : m_read_sender_addr p0 p1 = some r) : Tri env g 51 (A [(F b0 0), (I p1)]) [X, blk b0 (.cells (A [(V s0), (U p0.last.Char), (O p0.last.Attr), (U p0.last.FA), (U p0.last.High), (U p0.last.Color), (U p0.last.f_Set), (I p0.mode)]) 78 (0, 0)), slO s0 5 (enI .u8) p0.out] (fun K R => ∀ (i0 : SV), K (.tuple (A [])) (X :: blk b0 (.cells (A [(V i0), (U r.last.Char), (O r.last.Attr), (U r.last.FA), (U r.last.High), (U r.last.Color), (U r.last.f_Set), (I r.mode)]) 78 (0, 0)) :: slO i0 5 (enI .u8) r.out :: R)) := by
 refine tri_of (fn := Tryz.f51) (N := 22) Tryz.func51 J J J ?_
 intro R K hk
 unfold m_read_sender_addr at h
 change GC _ none _ [] [(0, (F b0 0)), (1, (I p1))] (X :: blk b0 (.cells (A [(V s0), (U p0.last.Char), (O p0.last.Attr), (U p0.last.FA), (U p0.last.High), (U p0.last.Color), (U p0.last.f_Set), (I p0.mode)]) 78 (0, 0)) :: slO s0 5 (enI .u8) p0.out :: R) g _ _
 refine cr (op J J ?_)
 replace h := bsome h
 obtain ⟨d1, h1, h⟩ := h
 refine o1 J (o_call has33 J (c_addr_Encode hg X 12 p1 _ h1) (pc rm0 pn) (fun i1 => ?_))
 refine op J J (op J J (op J J (op J J (op J J (o_end ?_)))))
 refine e_seq (cr (op J J ?_))
 refine o1 J (o_p (v := (O (d1.2 == 0))) J ?_)
 refine oe ?_
 refine c_cond (b := (d1.2 == 0)) J (fun hb625 => ?_) (fun hb625 => ?_)
 ·replace h := cond_t hb625 h
  refine c_region (op J J (op J J (op J J ?_)))
  refine o1 J (o_fa (fd := ⟨ "out", 28, 0, false, "", "vitrine/read", 0⟩) J J J J J ?_)
  refine o1 J (o_ld (b := b0) (off := 0) (v := (V s0)) J rm2 J J ?_)
  refine op J J ?_
  replace h := gsome h
  obtain ⟨hg626, h⟩ := h
  refine o1 J (o_app (s := s0) (r := i1) (e := (enI .u8)) (l := p0.out) (l2 := d1.1) (zs := [(U 0)]) J J J J J J J J J J J rm3 rm1 (rd_own _ _ _ _) hg626 (fun s627 => ?_))
  refine op J J ?_
  refine o1 J (o_fa (fd := ⟨ "out", 28, 0, false, "", "vitrine/read", 0⟩) J J J J J ?_)
  refine o0 (o_st (b := b0) (off := 0) (vs := [(V s627)]) (cs' := [(V s627), (U p0.last.Char), (O p0.last.Attr), (U p0.last.FA), (U p0.last.High), (U p0.last.Color), (U p0.last.f_Set), (I p0.mode)]) J J rp3 J J J J J J ?_)
  refine o_end (e_fall ?_)
  refine r_endt J J (kc rm1 (kc rm2 (kc rm0 (kd kr)))) ?_
  obtain rfl := si h
  exact hk s627
 ·replace h := cond_f hb625 h
  refine c_skip (e_fall ?_)
  refine r_endt J J (kc rm0 (kc rm1 (kc rm1 (kd kr)))) ?_
  obtain rfl := si h
  exact hk s0

theorem c_read_begin {g : Gw} (hg : GK g) (X : HP) (p0 : Vspace_Space) (b0 : Nat) (s0 : SV) (p1 : Int) (p2 : Int) (p3 : Bool) (r : (Int) ⊕ (Vread_sender × Int)) (h : m_read_begin p0 p1 p2 p3 = some r) : Tri env g 24 (A [(F b0 0), (U p1), (I p2), (O p3)]) [X, blk b0 (.cells (A [(I p0.model), (O p0.alternate), (I p0.size.Rows), (I p0.size.Cols), (V s0), (I p0.cursor), (I p0.attrs)]) 105 (0, 0)), slO s0 49 en_Vapi_Cell p0.cells] (fun K R => match r with | .inl r => K (.tuple (A [(.pointer none), (I r)])) (X :: blk b0 (.cells (A [(I p0.model), (O p0.alternate), (I p0.size.Rows), (I p0.size.Cols), (V s0), (I p0.cursor), (I p0.attrs)]) 105 (0, 0)) :: slO s0 49 en_Vapi_Cell p0.cells :: R) | .inr r => ∀ (i0 : Nat × SV), K (.tuple (A [(F i0.1 0), (I r.2)])) (X :: blk b0 (.cells (A [(I p0.model), (O p0.alternate), (I p0.size.Rows), (I p0.size.Cols), (V s0), (I p0.cursor), (I p0.attrs)]) 105 (0, 0)) :: slO s0 49 en_Vapi_Cell p0.cells :: blk i0.1 (.cells (A [(V i0.2), (U r.1.last.Char), (O r.1.last.Attr), (U r.1.last.FA), (U r.1.last.High), (U r.1.last.Color), (U r.1.last.f_Set), (I r.1.mode)]) 78 (0, 0)) :: slO i0.2 5 (enI .u8) r.1.out :: R)) := by
 refine tri_of (fn := Tryz.f24) (N := 33) Tryz.func24 J J J ?_
 intro R K hk
 unfold m_read_begin at h
 change GC _ none _ [] [(0, (F b0 0)), (1, (U p1)), (2, (I p2)), (3, (O p3))] (X :: blk b0 (.cells (A [(I p0.model), (O p0.alternate), (I p0.size.Rows), (I p0.size.Cols), (V s0), (I p0.cursor), (I p0.attrs)]) 105 (0, 0)) :: slO s0 49 en_Vapi_Cell p0.cells :: R) g _ _
 refine cr (op J J (op J J (oe ?_)))
 refine c_seq (c_block (cr (op J J ?_)))
 refine o1 J (o_p (v := (O false)) J ?_)
 refine op J J (oe ?_)
 refine c_cond_f J J ?_
 refine c_seq ?_
 replace h := bsome h
 obtain ⟨d2, h, hk2⟩ := h
 refine cj (D := Unit) (ι := Unit) (fun _ i2 => True) (fun _ i2 => [(14, (O d2)), (0, (F b0 0)), (1, (U p1)), (2, (I p2)), (3, (O p3))]) (fun _ i2 => X :: blk b0 (.cells (A [(I p0.model), (O p0.alternate), (I p0.size.Rows), (I p0.size.Cols), (V s0), (I p0.cursor), (I p0.attrs)]) 105 (0, 0)) :: slO s0 49 en_Vapi_Cell p0.cells :: R) ?_ ?_
 ·refine c_region (op J J ?_)
  refine o1 J (o_p (v := (O (decide (p2 < 0)))) J ?_)
  refine op J J ?_
  rcases bool_or ((decide (p2 < 0))) with hb603 | hb603
  ·replace h := cond_t hb603 h
   refine on J J J hb603 ?_
   refine on J J J hb603 ?_
   refine o1 J (o_pick_t J hb603 J ?_)
   refine op J J (o_end ?_)
   obtain rfl := si h
   exact ej () () trivial (sc J (sc J (sc J (sc J (sc J sn))))) (kc rm0 (kc rm0 (kc rm0 kr)))
  ·replace h := cond_f hb603 h
   refine oy J J J hb603 (o_p J ?_)
   refine oy J J J hb603 (o_p (v := (O (decide (p2 > 2)))) J ?_)
   refine o1 J (o_pick_f J hb603 J ?_)
   refine op J J (o_end ?_)
   obtain rfl := si h
   exact ej () () trivial (sc J (sc J (sc J (sc J (sc J sn))))) (kc rm0 (kc rm0 (kc rm0 kr)))
 ·rintro _ i2 _
  replace h := hk2
  clear hk2
  refine e_seq ?_
  refine c_cond (b := d2) J (fun hb604 => ?_) (fun hb604 => ?_)
  ·replace h := cond_t hb604 h
   refine cr (op J J (op J J (oe ?_)))
   refine c_ret (e_blk_ret (e_then_ret (e_ret ?_)))
   refine r_endt J J (kc rm0 (kc rm0 (kc rm0 kr))) ?_
   obtain rfl := si h
   exact hk
  ·replace h := cond_f hb604 h
   refine c_skip (e_blk (e_seq (cr (op J J ?_))))
   refine o1 J (o_bs (e := (enI .u8)) (l := [p1]) (zs := [(U 0)]) J J J J J J J J J J (fun s605 => ?_))
   refine op J J ?_
   refine o1 J (o_build (fs := [⟨ "out", 28, 0, false, "", "vitrine/read", 0⟩, ⟨ "last", 49, 1, false, "", "vitrine/read", 24⟩, ⟨ "mode", 3, 7, false, "", "vitrine/read", 32⟩]) (ps := [(0, 1), (1, 6), (7, 1)]) (cs := [(V s605), (U 0), (O false), (U 0), (U 0), (U 0), (U 0), (I p2)]) J J J J J ?_)
   refine o1 J (o_box (cs := [(V s605), (U 0), (O false), (U 0), (U 0), (U 0), (U 0), (I p2)]) J J (fun b607 => ?_))
   refine op J J (oe (c_seq (cr ?_)))
   refine op J J ?_
   refine o1 J (o_p (v := (O (!p3))) J ?_)
   refine oe ?_
   replace h := bsome h
   obtain ⟨d4, h, hk4⟩ := h
   refine cj (D := Unit) (ι := SV) (fun _ i4 => True) (fun _ i4 => [(10, (F b607 0))]) (fun _ i4 => X :: blk b607 (.cells (A [(V i4), (U d4.2.1), (O d4.2.2.1), (U d4.2.2.2.1), (U d4.2.2.2.2.1), (U d4.2.2.2.2.2.1), (U d4.2.2.2.2.2.2.1), (I d4.2.2.2.2.2.2.2)]) 78 (0, 0)) :: blk b0 (.cells (A [(I p0.model), (O p0.alternate), (I p0.size.Rows), (I p0.size.Cols), (V s0), (I p0.cursor), (I p0.attrs)]) 105 (0, 0)) :: slO i4 5 (enI .u8) d4.1 :: slO s0 49 en_Vapi_Cell p0.cells :: R) ?_ ?_
   ·refine c_cond (b := (!p3)) J (fun hb609 => ?_) (fun hb609 => ?_)
    ·replace h := cond_t hb609 h
     refine c_region (op J J (op J J ?_))
     replace h := bsome h
     obtain ⟨d5, h5, h⟩ := h
     refine o1 J (o_call has15 J (c_space_Space_Cursor hg X p0 b0 s0 _ h5) (pc rm2 (pc rm2 (pc rm2 pn))) ?_)
     replace h := bsome h
     obtain ⟨d6, h6, h⟩ := h
     refine o1 J (o_call has51 J (c_read_sender_addr hg X (⟨[p1], (⟨0, false, 0, 0, 0, 0⟩ : Vapi_Cell), p2⟩ : Vread_sender) b607 s605 d5 _ h6) (pc rm0 (pc rm2 (pc rm2 pn))) (fun i6 => ?_))
     refine o_end ?_
     obtain rfl := si h
     exact ej () i6 trivial (sc J sn) (kc rm0 (kc rm0 (kc rm1 (kc rm0 (kc rm0 kr)))))
    ·replace h := cond_f hb609 h
     refine c_skip ?_
     obtain rfl := si h
     exact ej () s605 trivial (sc J sn) (kc rm2 (kc rm0 (kc rm1 (kc rm0 (kc rm0 kr)))))
   ·rintro _ i4 _
    replace h := hk4
    clear hk4
    refine e_seq (cr (op J J (op J J (op J J ?_))))
    refine oe (c_ret (e_ret ?_))
    refine r_endt J J (kc rm0 (kc rm1 (kc rm2 (kc rm0 (kc rm0 kr))))) ?_
    obtain rfl := si h
    exact hk (b607, i4)

theorem c_space_Space_All {g : Gw} (hg : GK g) (X : HP) (p0 : Vspace_Space) (b0 : Nat) (s0 : SV) (r : Unit) (h : m_space_Space_All p0 = some r) : Tri env g 25 (A [(F b0 0)]) [X, blk b0 (.cells (A [(I p0.model), (O p0.alternate), (I p0.size.Rows), (I p0.size.Cols), (V s0), (I p0.cursor), (I p0.attrs)]) 105 (0, 0)), slO s0 49 en_Vapi_Cell p0.cells] (fun K R => ∀ (i0 : Nat), K (.func (.func 52) #[] (A [(F i0 0)])) (X :: blk b0 (.cells (A [(I p0.model), (O p0.alternate), (I p0.size.Rows), (I p0.size.Cols), (V s0), (I p0.cursor), (I p0.attrs)]) 105 (0, 0)) :: slO s0 49 en_Vapi_Cell p0.cells :: blk i0 (.cells (A [(F b0 0)]) 24 (0, 0)) :: R)) := by
 refine tri_of (fn := Tryz.f25) (N := 4) Tryz.func25 J J J ?_
 intro R K hk
 unfold m_space_Space_All at h
 change GC _ none _ [] [(0, (F b0 0))] (X :: blk b0 (.cells (A [(I p0.model), (O p0.alternate), (I p0.size.Rows), (I p0.size.Cols), (V s0), (I p0.cursor), (I p0.attrs)]) 105 (0, 0)) :: slO s0 49 en_Vapi_Cell p0.cells :: R) g _ _
 refine cr ?_
 refine o1 J (o_box (cs := [(F b0 0)]) J J (fun b639 => ?_))
 refine op J J (oe (cr (op J J ?_)))
 refine op J J (oe (c_ret (e_ret ?_)))
 refine r_endt J J (kc rm1 (kc rm1 (kc rm1 (kc rm0 kr)))) ?_
 obtain rfl := si h
 exact hk b639

theorem c_space_Space_Size {g : Gw} (hg : GK g) (X : HP) (p0 : Vspace_Space) (b0 : Nat) (s0 : SV) (r : Vaddr_Size) (h : m_space_Space_Size p0 = some r) : Tri env g 53 (A [(F b0 0)]) [X, blk b0 (.cells (A [(I p0.model), (O p0.alternate), (I p0.size.Rows), (I p0.size.Cols), (V s0), (I p0.cursor), (I p0.attrs)]) 105 (0, 0)), slO s0 49 en_Vapi_Cell p0.cells] (fun K R => K (.agg (A [(I r.Rows), (I r.Cols)])) (X :: blk b0 (.cells (A [(I p0.model), (O p0.alternate), (I p0.size.Rows), (I p0.size.Cols), (V s0), (I p0.cursor), (I p0.attrs)]) 105 (0, 0)) :: slO s0 49 en_Vapi_Cell p0.cells :: R)) := by
 refine tri_of (fn := Tryz.f53) (N := 10) Tryz.func53 J J J ?_
 intro R K hk
 unfold m_space_Space_Size at h
 change GC _ none _ [] [(0, (F b0 0))] (X :: blk b0 (.cells (A [(I p0.model), (O p0.alternate), (I p0.size.Rows), (I p0.size.Cols), (V s0), (I p0.cursor), (I p0.attrs)]) 105 (0, 0)) :: slO s0 49 en_Vapi_Cell p0.cells :: R) g _ _
 refine cr ?_
 refine o1 J (o_alloc (cs := [(I 0), (I 0)]) J J (fun b642 => ?_))
 refine oe (c_seq (cr (op J J ?_)))
 refine o1 J (o_p (v := (O false)) J ?_)
 refine oe ?_
 refine c_cond_f J J ?_
 refine c_skip (e_seq (cr (op J J (op J J ?_))))
 refine o1 J (o_fa (fd := ⟨ "size", 103, 2, false, "", "vitrine/space", 16⟩) J J J J J ?_)
 refine o1 J (o_ld (b := b0) (off := 2) (v := (.agg (A [(I p0.size.Rows), (I p0.size.Cols)]))) J rm2 J J ?_)
 refine o0 (o_st (b := b642) (off := 0) (vs := [(I p0.size.Rows), (I p0.size.Cols)]) (cs' := [(I p0.size.Rows), (I p0.size.Cols)]) J J rp0 J J J J J J ?_)
 refine oe (c_ret (e_ret ?_))
 refine r_endc (B := [[(I p0.size.Rows), (I p0.size.Cols)]]) J ⟨⟨_, _, _, _, J, rm0⟩, trivial⟩ J (kc rm1 (kc rm1 (kc rm1 (kd kr)))) ?_
 obtain rfl := si h
 exact hk

theorem c_space_Space_At {g : Gw} (hg : GK g) (X : HP) (p0 : Vspace_Space) (b0 : Nat) (s0 : SV) (p1 : Int) (r : Vapi_Cell) (h : m_space_Space_At p0 p1 = some r) : Tri env g 13 (A [(F b0 0), (I p1)]) [X, blk b0 (.cells (A [(I p0.model), (O p0.alternate), (I p0.size.Rows), (I p0.size.Cols), (V s0), (I p0.cursor), (I p0.attrs)]) 105 (0, 0)), slO s0 49 en_Vapi_Cell p0.cells] (fun K R => K (.agg (A [(U r.Char), (O r.Attr), (U r.FA), (U r.High), (U r.Color), (U r.f_Set)])) (X :: blk b0 (.cells (A [(I p0.model), (O p0.alternate), (I p0.size.Rows), (I p0.size.Cols), (V s0), (I p0.cursor), (I p0.attrs)]) 105 (0, 0)) :: slO s0 49 en_Vapi_Cell p0.cells :: R)) := by
 refine tri_of (fn := Tryz.f13) (N := 20) Tryz.func13 J J J ?_
 intro R K hk
 unfold m_space_Space_At at h
 change GC _ none _ [] [(0, (F b0 0)), (1, (I p1))] (X :: blk b0 (.cells (A [(I p0.model), (O p0.alternate), (I p0.size.Rows), (I p0.size.Cols), (V s0), (I p0.cursor), (I p0.attrs)]) 105 (0, 0)) :: slO s0 49 en_Vapi_Cell p0.cells :: R) g _ _
 refine cr ?_
 refine o1 J (o_alloc (cs := [(U 0), (O false), (U 0), (U 0), (U 0), (U 0)]) J J (fun b645 => ?_))
 refine oe (c_seq (cr (op J J ?_)))
 refine o1 J (o_p (v := (O false)) J ?_)
 refine oe ?_
 refine c_cond_f J J ?_
 refine c_skip (e_seq (c_seq ?_))
 refine c_draw (n := 2) (q := [(0, 8, (F b0 0)), (1, 9, (F b0 0)), (2, 10, (F b0 4)), (3, 11, (V s0)), (4, 12, (F b0 0)), (5, 13, (F b0 0)), (6, 14, (F b0 2)), (7, 15, (.agg (A [(I p0.size.Rows), (I p0.size.Cols)]))), (8, 16, (I p1))]) (pend := [0, 1, 2, 3, 4, 5, 6, 7, 8]) J J J ?_
 replace h := bsome h
 obtain ⟨d2, h2, h⟩ := h
 refine ⟨⟨fun _ => ⟨J, J, J, .inl ⟨J, (o_p J ⟨J, J⟩)⟩⟩, fun _ => ⟨J, J, J, .inl ⟨J, (o_p J ⟨J, J⟩)⟩⟩, fun _ => ⟨J, J, J, .inl ⟨J, (o_fa (fd := ⟨ "cells", 33, 4, false, "", "vitrine/space", 32⟩) J J J J J ⟨J, J⟩)⟩⟩, fun _ => ⟨J, J, J, .inl ⟨J, (o_ld (b := b0) (off := 4) (v := (V s0)) J rm2 J J ⟨J, J⟩)⟩⟩, fun _ => ⟨J, J, J, .inl ⟨J, (o_p J ⟨J, J⟩)⟩⟩, fun _ => ⟨J, J, J, .inl ⟨J, (o_p J ⟨J, J⟩)⟩⟩, fun _ => ⟨J, J, J, .inl ⟨J, (o_fa (fd := ⟨ "size", 103, 2, false, "", "vitrine/space", 16⟩) J J J J J ⟨J, J⟩)⟩⟩, fun _ => ⟨J, J, J, .inl ⟨J, (o_ld (b := b0) (off := 2) (v := (.agg (A [(I p0.size.Rows), (I p0.size.Cols)]))) J rm2 J J ⟨J, J⟩)⟩⟩, fun _ => ⟨J, J, J, .inl ⟨J, (o_p J ⟨J, J⟩)⟩⟩, trivial⟩, J, .inr ⟨[9], J, J, ⟨J, .inl J, ?_⟩, trivial⟩⟩
 refine (o_call has40 J (c_addr_Size_Wrap hg X p0.size p1 _ h2) (pc rm1 pn) ?_)
 replace h := gsome h
 obtain ⟨hg647, h⟩ := h
 refine ⟨[(10, 18, (F (SV.blk s0) (SV.off s0 + Int.toNat d2 * 6))), (11, 19, (.agg (A [(U ((rd p0.cells d2).Char)), (O ((rd p0.cells d2).Attr)), (U ((rd p0.cells d2).FA)), (U ((rd p0.cells d2).High)), (U ((rd p0.cells d2).Color)), (U ((rd p0.cells d2).f_Set))])))], [0, 1, 2, 3, 10, 11], J, J, J, J, ?_⟩
 refine ⟨⟨fun _ => ⟨J, J, J, .inl ⟨J, (o_ix (s := s0) (n := d2) (e := en_Vapi_Cell) J J J J J J rm3 (rd_own _ _ _ _) hg647 ⟨J, J⟩)⟩⟩, fun _ => ⟨J, J, J, .inl ⟨J, (o_ldE (s := s0) (e := en_Vapi_Cell) (n := d2) (f := 0) (v := (.agg (A [(U ((rd p0.cells d2).Char)), (O ((rd p0.cells d2).Attr)), (U ((rd p0.cells d2).FA)), (U ((rd p0.cells d2).High)), (U ((rd p0.cells d2).Color)), (U ((rd p0.cells d2).f_Set))]))) J rm3 (rd_own _ _ _ _) hg647 J J ⟨J, J⟩)⟩⟩, fun _ => ⟨J, J, J, .inl ⟨J, (o_p J ⟨J, J⟩)⟩⟩, fun _ => ⟨J, J, J, .inl ⟨J, (o_p J ⟨J, J⟩)⟩⟩, fun _ => ⟨J, J, J, .inl ⟨J, (o_fa (fd := ⟨ "cells", 33, 4, false, "", "vitrine/space", 32⟩) J J J J J ⟨J, J⟩)⟩⟩, fun _ => ⟨J, J, J, .inl ⟨J, (o_ld (b := b0) (off := 4) (v := (V s0)) J rm2 J J ⟨J, J⟩)⟩⟩, (fun h => nomatch h), (fun h => nomatch h), (fun h => nomatch h), (fun h => nomatch h), (fun h => nomatch h), trivial⟩, J, .inr ⟨[12], J, J, ⟨J, .inl J, ?_⟩, trivial⟩⟩
 refine (o_st (b := b645) (off := 0) (vs := [(U ((rd p0.cells d2).Char)), (O ((rd p0.cells d2).Attr)), (U ((rd p0.cells d2).FA)), (U ((rd p0.cells d2).High)), (U ((rd p0.cells d2).Color)), (U ((rd p0.cells d2).f_Set))]) (cs' := [(U ((rd p0.cells d2).Char)), (O ((rd p0.cells d2).Attr)), (U ((rd p0.cells d2).FA)), (U ((rd p0.cells d2).High)), (U ((rd p0.cells d2).Color)), (U ((rd p0.cells d2).f_Set))]) J J rp1 J J J J J J ?_)
 refine ⟨[], [], J, J, ?_⟩
 refine ⟨⟨(fun h => nomatch h), (fun h => nomatch h), (fun h => nomatch h), (fun h => nomatch h), (fun h => nomatch h), (fun h => nomatch h), (fun h => nomatch h), (fun h => nomatch h), (fun h => nomatch h), (fun h => nomatch h), (fun h => nomatch h), trivial⟩, J, J, J, ?_⟩
 refine e_seq (c_ret (e_ret ?_))
 refine r_endc (B := [[(U ((rd p0.cells d2).Char)), (O ((rd p0.cells d2).Attr)), (U ((rd p0.cells d2).FA)), (U ((rd p0.cells d2).High)), (U ((rd p0.cells d2).Color)), (U ((rd p0.cells d2).f_Set))]]) J ⟨⟨_, _, _, _, J, rm1⟩, trivial⟩ J (kc rm0 (kc rm1 (kc rm1 (kd kr)))) ?_
 obtain rfl := si h
 exact hk

theorem c_attr_looks {g : Gw} (hg : GK g) (X : HP) (p0 : Vapi_Cell) (r : (Vattr_Pair × Vattr_Pair × Vattr_Pair)) (h : m_attr_looks p0 = some r) : Tri env g 83 (A [(.agg (A [(U p0.Char), (O p0.Attr), (U p0.FA), (U p0.High), (U p0.Color), (U p0.f_Set)]))]) [X] (fun K R => K (.agg (A [(U r.1.f_Type), (U r.1.Value), (U r.2.1.f_Type), (U r.2.1.Value), (U r.2.2.f_Type), (U r.2.2.Value)])) (X :: R)) := by
 refine tri_of (fn := Tryz.f83) (N := 13) Tryz.func83 J J J ?_
 intro R K hk
 unfold m_attr_looks at h
 change GC _ none _ [] [(0, (.agg (A [(U p0.Char), (O p0.Attr), (U p0.FA), (U p0.High), (U p0.Color), (U p0.f_Set)])))] (X :: R) g _ _
 refine cr ?_
 refine o1 J (o_box (cs := [(U p0.Char), (O p0.Attr), (U p0.FA), (U p0.High), (U p0.Color), (U p0.f_Set)]) J J (fun b669 => ?_))
 refine o1 J (o_alloc (cs := [(U 0), (U 0), (U 0), (U 0), (U 0), (U 0)]) J J (fun b671 => ?_))
 refine oe (cr ?_)
 refine o1 J (o_fa (fd := ⟨ "High", 5, 3, false, "", "", 3⟩) J J J J J ?_)
 refine o1 J (o_ld (b := b669) (off := 3) (v := (U p0.High)) J rm1 J J ?_)
 refine o1 J (o_build (fs := f_0) (ps := [(0, 1), (1, 1)]) (cs := [(U 65), (U p0.High)]) J J J J J ?_)
 refine o1 J (o_fa (fd := ⟨ "Color", 5, 4, false, "", "", 4⟩) J J J J J ?_)
 refine o1 J (o_ld (b := b669) (off := 4) (v := (U p0.Color)) J rm1 J J ?_)
 refine o1 J (o_build (fs := f_0) (ps := [(0, 1), (1, 1)]) (cs := [(U 66), (U p0.Color)]) J J J J J ?_)
 refine o1 J (o_fa (fd := ⟨ "Set", 5, 5, false, "", "", 5⟩) J J J J J ?_)
 refine o1 J (o_ld (b := b669) (off := 5) (v := (U p0.f_Set)) J rm1 J J ?_)
 refine o1 J (o_build (fs := f_0) (ps := [(0, 1), (1, 1)]) (cs := [(U 67), (U p0.f_Set)]) J J J J J ?_)
 refine o1 J (o_buildA (cs := [(U 65), (U p0.High), (U 66), (U p0.Color), (U 67), (U p0.f_Set)]) J J J J J ?_)
 refine o0 (o_st (b := b671) (off := 0) (vs := [(U 65), (U p0.High), (U 66), (U p0.Color), (U 67), (U p0.f_Set)]) (cs' := [(U 65), (U p0.High), (U 66), (U p0.Color), (U 67), (U p0.f_Set)]) J J rp0 J J J J J J ?_)
 refine oe (c_ret (e_ret ?_))
 refine r_endc (B := [[(U 65), (U p0.High), (U 66), (U p0.Color), (U 67), (U p0.f_Set)]]) J ⟨⟨_, _, _, _, J, rm0⟩, trivial⟩ J (kc rm2 (kd (kd kr))) ?_
 obtain rfl := si h
 exact hk

theorem c_attr_Pairs {g : Gw} (hg : GK g) (X : HP) (p0 : Vapi_Cell) (r : (List Vattr_Pair)) (h : m_attr_Pairs p0 = some r) : Tri env g 56 (A [(.agg (A [(U p0.Char), (O p0.Attr), (U p0.FA), (U p0.High), (U p0.Color), (U p0.f_Set)]))]) [X] (fun K R => ∀ (i0 : SV), K (V i0) (X :: slO i0 93 en_Vattr_Pair r :: R)) := by
 refine tri_of (fn := Tryz.f56) (N := 31) Tryz.func56 J J J ?_
 intro R K hk
 unfold m_attr_Pairs at h
 change GC _ none _ [] [(0, (.agg (A [(U p0.Char), (O p0.Attr), (U p0.FA), (U p0.High), (U p0.Color), (U p0.f_Set)])))] (X :: R) g _ _
 refine cr ?_
 refine o1 J (o_box (cs := [(U p0.Char), (O p0.Attr), (U p0.FA), (U p0.High), (U p0.Color), (U p0.f_Set)]) J J (fun b659 => ?_))
 refine op J J (oe (cr (op J J ?_)))
 refine oe (c_seq (cr ?_))
 refine o1 J (o_fa (fd := ⟨ "Attr", 4, 1, false, "", "", 1⟩) J J J J J ?_)
 refine o1 J (o_ld (b := b659) (off := 1) (v := (O p0.Attr)) J rm0 J J ?_)
 refine oe ?_
 replace h := bsome h
 obtain ⟨d1, h, hk1⟩ := h
 refine cj (D := Unit) (ι := SV) (fun _ i1 => True) (fun _ i1 => [(3, (V i1)), (1, (F b659 0))]) (fun _ i1 => X :: slO i1 93 en_Vattr_Pair d1 :: blk b659 (.cells (A [(U p0.Char), (O p0.Attr), (U p0.FA), (U p0.High), (U p0.Color), (U p0.f_Set)]) 49 (0, 0)) :: R) ?_ ?_
 ·refine c_cond (b := p0.Attr) J (fun hb661 => ?_) (fun hb661 => ?_)
  ·replace h := cond_t hb661 h
   refine c_region (op J J ?_)
   refine o1 J (o_fa (fd := ⟨ "FA", 5, 2, false, "", "", 2⟩) J J J J J ?_)
   refine o1 J (o_ld (b := b659) (off := 2) (v := (U p0.FA)) J rm0 J J ?_)
   refine o1 J (o_p (v := (U (iband .u8 p0.FA 61))) J ?_)
   refine o1 J (o_p (v := (I (w64 (iband .u8 p0.FA 61)))) J ?_)
   replace h := bsome h
   obtain ⟨d2, h2, h⟩ := h
   refine o1 J (o_call has54 J (c_addr_Six hg X (w64 (iband .u8 p0.FA 61)) _ h2) (pc rm1 pn) ?_)
   refine o1 J (o_build (fs := f_0) (ps := [(0, 1), (1, 1)]) (cs := [(U 192), (U d2)]) J J J J J ?_)
   refine o1 J (o_bs (e := en_Vattr_Pair) (l := [(⟨192, d2⟩ : Vattr_Pair)]) (zs := [(U 0), (U 0)]) J J J J J J J J J J (fun s662 => ?_))
   refine o_add (slO SV.nil 93 en_Vattr_Pair []) (slO_nil _ _ _) ?_
   replace h := gsome h
   obtain ⟨hg665, h⟩ := h
   refine o1 J (o_app (s := SV.nil) (r := s662) (e := en_Vattr_Pair) (l := ([] : List Vattr_Pair)) (l2 := [(⟨192, d2⟩ : Vattr_Pair)]) (zs := [(U 0), (U 0)]) J J J J J J J J J J J rm0 rm0 (rd_own _ _ _ _) hg665 (fun s666 => ?_))
   refine op J J (o_end ?_)
   obtain rfl := si h
   exact ej () s666 trivial (sc J (sc J sn)) (kc rm2 (kc rm0 (kc rm1 (kd kr))))
  ·replace h := cond_f hb661 h
   refine c_skip ?_
   refine e_add (slO SV.nil 93 en_Vattr_Pair []) (slO_nil _ _ _) ?_
   obtain rfl := si h
   exact ej () SV.nil trivial (sc J (sc J sn)) (kc rm2 (kc rm0 (kc rm0 kr)))
 ·rintro _ i1 _
  replace h := hk1
  clear hk1
  refine e_seq (c_seq (cr ?_))
  refine o1 J (o_ld (b := b659) (off := 0) (v := (.agg (A [(U p0.Char), (O p0.Attr), (U p0.FA), (U p0.High), (U p0.Color), (U p0.f_Set)]))) J rm2 J J ?_)
  replace h := bsome h
  obtain ⟨d3, h3, h⟩ := h
  refine o1 J (o_call has83 J (c_attr_looks hg X p0 _ h3) (pc rm0 pn) ?_)
  refine op J J (oe ?_)
  replace h := bsome h
  obtain ⟨d4, h, hk4⟩ := h
  refine cj (D := Unit) (ι := SV) (fun _ i4 => True) (fun _ i4 => [(3, (V i4))]) (fun _ i4 => X :: slO i4 93 en_Vattr_Pair d4 :: R) ?_ ?_
  ·refine c_block ?_
   refine c_loop (l_sub (sc J (sc J (sc J sn))) (l_keep (kc rm0 (kc rm0 (kd kr))) (lf (X := Int × (List Vattr_Pair)) (ι := SV) (fun k x => attr_Pairs_l5 d3 k x) _ (fun x5 i5 => True) (fun x5 i5 => [(19, (I x5.1)), (18, (.agg (A [(U d3.1.f_Type), (U d3.1.Value), (U d3.2.1.f_Type), (U d3.2.1.Value), (U d3.2.2.f_Type), (U d3.2.2.Value)]))), (3, (V i5))]) (fun x5 i5 => X :: slO i5 93 en_Vattr_Pair x5.2 :: R) (fun _ => J) ?_ fuel (0, d1) i1 trivial h)))
   clear h
   rintro k5 ih5 x5 i5 _ h
   rw [attr_Pairs_l5.eq_2] at h
   refine l_round (cr ?_)
   refine o1 J (o_p (v := (O (decide (x5.1 < 3)))) J ?_)
   refine oe (c_seq ?_)
   refine c_cond (b := (decide (x5.1 < 3))) J (fun hb695 => ?_) (fun hb695 => ?_)
   ·replace h := cond_t hb695 h
    refine c_skip (e_seq (c_seq (c_block (cr ?_))))
    replace h := gsome h
    obtain ⟨hg696, h⟩ := h
    refine o1 J (o_aidx (e := en_Vattr_Pair) (l := [d3.1, d3.2.1, d3.2.2]) (n := x5.1) (v := (.agg (A [(U ((rd [d3.1, d3.2.1, d3.2.2] x5.1).f_Type)), (U ((rd [d3.1, d3.2.1, d3.2.2] x5.1).Value))]))) J J J J J J J J hg696 J ?_)
    refine o1 J (o_alloc (cs := [(U 0), (U 0)]) J J (fun b697 => ?_))
    refine o0 (o_st (b := b697) (off := 0) (vs := [(U ((rd [d3.1, d3.2.1, d3.2.2] x5.1).f_Type)), (U ((rd [d3.1, d3.2.1, d3.2.2] x5.1).Value))]) (cs' := [(U ((rd [d3.1, d3.2.1, d3.2.2] x5.1).f_Type)), (U ((rd [d3.1, d3.2.1, d3.2.2] x5.1).Value))]) J J rp0 J J J J J J ?_)
    refine oe (cr ?_)
    refine o1 J (o_fa (fd := ⟨ "Value", 5, 1, false, "", "", 1⟩) J J J J J ?_)
    refine o1 J (o_ld (b := b697) (off := 1) (v := (U ((rd [d3.1, d3.2.1, d3.2.2] x5.1).Value))) J rm0 J J ?_)
    refine o1 J (o_p (v := (O (((rd [d3.1, d3.2.1, d3.2.2] x5.1).Value) != 0))) J ?_)
    refine oe ?_
    replace h := bsome h
    obtain ⟨d8, h, hk8⟩ := h
    refine cj (D := Unit) (ι := SV) (fun _ i8 => True) (fun _ i8 => [(3, (V i8)), (19, (I x5.1)), (18, (.agg (A [(U d3.1.f_Type), (U d3.1.Value), (U d3.2.1.f_Type), (U d3.2.1.Value), (U d3.2.2.f_Type), (U d3.2.2.Value)])))]) (fun _ i8 => X :: slO i8 93 en_Vattr_Pair d8 :: R) ?_ ?_
    ·refine c_cond (b := (((rd [d3.1, d3.2.1, d3.2.2] x5.1).Value) != 0)) J (fun hb699 => ?_) (fun hb699 => ?_)
     ·replace h := cond_t hb699 h
      refine c_region (op J J ?_)
      refine o1 J (o_ld (b := b697) (off := 0) (v := (.agg (A [(U ((rd [d3.1, d3.2.1, d3.2.2] x5.1).f_Type)), (U ((rd [d3.1, d3.2.1, d3.2.2] x5.1).Value))]))) J rm0 J J ?_)
      refine o1 J (o_bs (e := en_Vattr_Pair) (l := [(rd [d3.1, d3.2.1, d3.2.2] x5.1)]) (zs := [(U 0), (U 0)]) J J J J J J J J J J (fun s700 => ?_))
      replace h := gsome h
      obtain ⟨hg702, h⟩ := h
      refine o1 J (o_app (s := i5) (r := s700) (e := en_Vattr_Pair) (l := x5.2) (l2 := [(rd [d3.1, d3.2.1, d3.2.2] x5.1)]) (zs := [(U 0), (U 0)]) J J J J J J J J J J J rm3 rm0 (rd_own _ _ _ _) hg702 (fun s703 => ?_))
      refine op J J (o_end ?_)
      obtain rfl := si h
      exact ej () s703 trivial (sc J (sc J (sc J sn))) (kc rm3 (kc rm0 (kd (kd kr))))
     ·replace h := cond_f hb699 h
      refine c_skip ?_
      obtain rfl := si h
      exact ej () i5 trivial (sc J (sc J (sc J sn))) (kc rm1 (kc rm1 (kd kr)))
    ·rintro _ i8 _
     replace h := hk8
     clear hk8
     refine e_blk (e_seq (c_region ?_))
     refine o1 J (o_p (v := (I (w64 (x5.1 + 1)))) J ?_)
     refine op J J (o_end ?_)
     exact e_loop (l_sub (sc J (sc J (sc J sn))) (l_keep (kc rm0 (kc rm0 kr)) (ih5 (w64 (x5.1 + 1), d8) i8 trivial h)))
   ·replace h := cond_f hb695 h
    refine c_exit (e_then_exit (e_then_exit (e_blk_exit ?_)))
    obtain rfl := si h
    exact ej () i5 trivial (sc J sn) (kc rm0 (kc rm0 kr))
  ·rintro _ i4 _
   replace h := hk4
   clear hk4
   refine e_seq (cr (op J J (op J J (o_end ?_))))
   refine e_seq (c_ret (e_ret ?_))
   refine r_endt J J (kc rm0 (kc rm0 kr)) ?_
   obtain rfl := si h
   exact hk i4

theorem c_attr_Bytes {g : Gw} (hg : GK g) (X : HP) (p0 : List Vattr_Pair) (s0 : SV) (q0 : Rd X s0 93 en_Vattr_Pair p0) (r : (List Int) × Int) (h : m_attr_Bytes p0 = some r) : Tri env g 55 (A [(V s0)]) [X] (fun K R => ∀ (i0 : SV), K (.tuple (A [(V i0), (I r.2)])) (X :: slO i0 5 (enI .u8) r.1 :: R)) := by
 refine tri_of (fn := Tryz.f55) (N := 35) Tryz.func55 J J J ?_
 intro R K hk
 unfold m_attr_Bytes at h
 change GC _ none _ [] [(0, (V s0))] (X :: R) g _ _
 refine cr (op J J (op J J (oe ?_)))
 refine c_seq (cr (op J J ?_))
 refine o1 J (o_len (s := s0) J J J rm0 q0 ?_)
 refine o1 J (o_p (v := (O (decide ((p0.length : Int) > 255)))) J ?_)
 refine oe ?_
 refine c_cond (b := (decide ((p0.length : Int) > 255))) J (fun hb714 => ?_) (fun hb714 => ?_)
 ·replace h := cond_t hb714 h
  refine cr (op J J (op J J (oe ?_)))
  refine c_ret (e_then_ret (e_ret ?_))
  refine r_add (slO SV.nil 5 (enI .u8) []) (slO_nil _ _ _) ?_
  refine r_endt J J (kc rm1 (kc rm0 kr)) ?_
  obtain rfl := si h
  exact hk SV.nil
 ·replace h := cond_f hb714 h
  refine c_skip (e_seq (cr (op J J ?_)))
  refine o1 J (o_len (s := s0) J J J rm0 q0 ?_)
  refine o1 J (o_p (v := (U (IntKind.wrap .u8 ((p0.length : Int))))) J ?_)
  refine o1 J (o_bs (e := (enI .u8)) (l := [IntKind.wrap .u8 ((p0.length : Int))]) (zs := [(U 0)]) J J J J J J J J J J (fun s715 => ?_))
  refine op J J (oe (c_seq (cr ?_)))
  refine op J J ?_
  refine o1 J (o_len (s := s0) J J J rm1 q0 ?_)
  refine op J J (oe ?_)
  replace h := jn_some h
  obtain ⟨y2, h, hk2⟩ := h
  refine cj (D := (List Int)) (ι := SV) (fun d2 i2 => y2 = Sum.inl d2) (fun d2 i2 => [(4, (V i2))]) (fun d2 i2 => X :: slO i2 5 (enI .u8) d2 :: R) ?_ ?_
  ·refine c_block ?_
   refine c_loop (l_sub (sc J (sc J (sc J (sc J sn)))) (l_keep (kc rm1 (kc rm0 kr)) (lf (X := Int × (List Int)) (ι := SV) (fun k x => attr_Bytes_l3 p0 k x) _ (fun x3 i3 => True) (fun x3 i3 => [(17, (I x3.1)), (16, (I (p0.length : Int))), (15, (V s0)), (4, (V i3))]) (fun x3 i3 => X :: slO i3 5 (enI .u8) x3.2 :: R) (fun _ => J) ?_ fuel (0, [IntKind.wrap .u8 ((p0.length : Int))]) s715 trivial h)))
   clear h
   rintro k3 ih3 x3 i3 _ h
   rw [attr_Bytes_l3.eq_2] at h
   refine l_round (cr ?_)
   refine o1 J (o_p (v := (O (decide (x3.1 < (p0.length : Int))))) J ?_)
   refine oe (c_seq ?_)
   refine c_cond (b := (decide (x3.1 < (p0.length : Int)))) J (fun hb739 => ?_) (fun hb739 => ?_)
   ·replace h := cond_t hb739 h
    refine c_skip (e_seq (c_seq (c_block (cr ?_))))
    replace h := gsome h
    obtain ⟨hg740, h⟩ := h
    refine o1 J (o_ix (s := s0) (n := x3.1) (e := en_Vattr_Pair) J J J J J J rm0 q0 hg740 ?_)
    refine o1 J (o_ldE (s := s0) (e := en_Vattr_Pair) (n := x3.1) (f := 0) (v := (.agg (A [(U ((rd p0 x3.1).f_Type)), (U ((rd p0 x3.1).Value))]))) J rm0 q0 hg740 J J ?_)
    refine o1 J (o_alloc (cs := [(U 0), (U 0)]) J J (fun b741 => ?_))
    refine o0 (o_st (b := b741) (off := 0) (vs := [(U ((rd p0 x3.1).f_Type)), (U ((rd p0 x3.1).Value))]) (cs' := [(U ((rd p0 x3.1).f_Type)), (U ((rd p0 x3.1).Value))]) J J rp0 J J J J J J ?_)
    refine oe (c_seq (cr ?_))
    refine o1 J (o_ld (b := b741) (off := 0) (v := (.agg (A [(U ((rd p0 x3.1).f_Type)), (U ((rd p0 x3.1).Value))]))) J rm0 J J ?_)
    replace h := bsome h
    obtain ⟨d6, h6, h⟩ := h
    refine o1 J (o_call has82 J (c_attr_Pair_Check hg X (rd p0 x3.1) _ h6) (pc rm1 pn) ?_)
    refine op J J (oe (cr (op J J ?_)))
    refine o1 J (o_p (v := (O (d6 != 0))) J ?_)
    refine oe ?_
    refine c_cond (b := (d6 != 0)) J (fun hb743 => ?_) (fun hb743 => ?_)
    ·replace h := cond_t hb743 h
     refine cr (op J J (op J J (op J J (o_end ?_))))
     refine e_seq (c_ret (e_then_ret (e_blk_ret (e_then_ret (e_then_ret ?_)))))
     refine e_blk_ret (ej_ret ?_)
     replace h := esc_some h
     obtain ⟨z2, h, rfl⟩ := h
     obtain rfl := (hk2 : z2 = _)
     refine e_then_ret (e_ret ?_)
     refine r_add (slO SV.nil 5 (enI .u8) []) (slO_nil _ _ _) ?_
     refine r_endt J J (kc rm1 (kc rm0 (kd (kd kr)))) ?_
     obtain rfl := si h
     exact hk SV.nil
    ·replace h := cond_f hb743 h
     refine c_skip (e_seq (c_region (op J J ?_)))
     refine o1 J (o_fa (fd := ⟨ "Type", 5, 0, false, "", "", 0⟩) J J J J J ?_)
     refine o1 J (o_ld (b := b741) (off := 0) (v := (U ((rd p0 x3.1).f_Type))) J rm1 J J ?_)
     refine o1 J (o_fa (fd := ⟨ "Value", 5, 1, false, "", "", 1⟩) J J J J J ?_)
     refine o1 J (o_ld (b := b741) (off := 1) (v := (U ((rd p0 x3.1).Value))) J rm1 J J ?_)
     refine o1 J (o_bs (e := (enI .u8)) (l := [(rd p0 x3.1).f_Type, (rd p0 x3.1).Value]) (zs := [(U 0)]) J J J J J J J J J J (fun s744 => ?_))
     replace h := gsome h
     obtain ⟨hg746, h⟩ := h
     refine o1 J (o_app (s := i3) (r := s744) (e := (enI .u8)) (l := x3.2) (l2 := [(rd p0 x3.1).f_Type, (rd p0 x3.1).Value]) (zs := [(U 0)]) J J J J J J J J J J J rm3 rm0 (rd_own _ _ _ _) hg746 (fun s747 => ?_))
     refine op J J (o_end (e_blk (e_seq (c_region ?_))))
     refine o1 J (o_p (v := (I (w64 (x3.1 + 1)))) J ?_)
     refine op J J (o_end ?_)
     exact e_loop (l_sub (sc J (sc J (sc J (sc J sn)))) (l_keep (kc rm2 (kc rm0 (kd (kd kr)))) (ih3 (w64 (x3.1 + 1), (x3.2 ++ [(rd p0 x3.1).f_Type, (rd p0 x3.1).Value])) s747 trivial h)))
   ·replace h := cond_f hb739 h
    refine c_exit (e_then_exit (e_then_exit (e_blk_exit ?_)))
    obtain rfl := si h
    exact ej x3.2 i3 J (sc J sn) (kc rm0 (kc rm0 kr))
  ·rintro d2 i2 rfl
   replace h := JK_inl hk2
   clear hk2
   refine e_seq (cr (op J J (op J J (op J J ?_))))
   refine oe (c_ret (e_ret ?_))
   refine r_endt J J (kc rm0 (kc rm0 kr)) ?_
   obtain rfl := si h
   exact hk i2

theorem c_read_sender_attribute {g : Gw} (hg : GK g) (X : HP) (p0 : Vread_sender) (b0 : Nat) (s0 : SV) (p1 : Vapi_Cell) (r : Vread_sender) (h : m_read_sender_attribute p0 p1 = some r) : Tri env g 26 (A [(F b0 0), (.agg (A [(U p1.Char), (O p1.Attr), (U p1.FA), (U p1.High), (U p1.Color), (U p1.f_Set)]))]) [X, blk b0 (.cells (A [(V s0), (U p0.last.Char), (O p0.last.Attr), (U p0.last.FA), (U p0.last.High), (U p0.last.Color), (U p0.last.f_Set), (I p0.mode)]) 78 (0, 0)), slO s0 5 (enI .u8) p0.out] (fun K R => ∀ (i0 : HP × SV), (Ext X i0.1) → K (.tuple (A [])) (i0.1 :: blk b0 (.cells (A [(V i0.2), (U r.last.Char), (O r.last.Attr), (U r.last.FA), (U r.last.High), (U r.last.Color), (U r.last.f_Set), (I r.mode)]) 78 (0, 0)) :: slO i0.2 5 (enI .u8) r.out :: R)) := by
 refine tri_of (fn := Tryz.f26) (N := 43) Tryz.func26 J J J ?_
 intro R K hk
 unfold m_read_sender_attribute at h
 change GC _ none _ [] [(0, (F b0 0)), (1, (.agg (A [(U p1.Char), (O p1.Attr), (U p1.FA), (U p1.High), (U p1.Color), (U p1.f_Set)])))] (X :: blk b0 (.cells (A [(V s0), (U p0.last.Char), (O p0.last.Attr), (U p0.last.FA), (U p0.last.High), (U p0.last.Color), (U p0.last.f_Set), (I p0.mode)]) 78 (0, 0)) :: slO s0 5 (enI .u8) p0.out :: R) g _ _
 refine cr ?_
 refine o1 J (o_box (cs := [(U p1.Char), (O p1.Attr), (U p1.FA), (U p1.High), (U p1.Color), (U p1.f_Set)]) J J (fun b651 => ?_))
 refine oe (c_seq (cr (op J J ?_)))
 refine op J J ?_
 refine o1 J (o_fa (fd := ⟨ "mode", 3, 7, false, "", "vitrine/read", 32⟩) J J J J J ?_)
 refine o1 J (o_ld (b := b0) (off := 7) (v := (I p0.mode)) J rm2 J J ?_)
 refine o1 J (o_p (v := (O (p0.mode == 0))) J ?_)
 refine oe ?_
 refine c_cond (b := (p0.mode == 0)) J (fun hb653 => ?_) (fun hb653 => ?_)
 ·replace h := cond_t hb653 h
  refine c_seq ?_
  refine c_draw (n := 4) (q := [(0, 11, (F b0 0)), (1, 12, (F b0 0)), (2, 13, (F b0 0)), (3, 14, (F b0 0)), (4, 15, (V s0)), (5, 16, (F b651 2)), (6, 17, (U p1.FA)), (7, 18, (I (w64 (p1.FA))))]) (pend := [0, 1, 2, 3, 4, 5, 6, 7]) J J J ?_
  replace h := bsome h
  obtain ⟨d3, h3, h⟩ := h
  refine ⟨⟨fun _ => ⟨J, J, J, .inl ⟨J, (o_p J ⟨J, J⟩)⟩⟩, fun _ => ⟨J, J, J, .inl ⟨J, (o_p J ⟨J, J⟩)⟩⟩, fun _ => ⟨J, J, J, .inl ⟨J, (o_p J ⟨J, J⟩)⟩⟩, fun _ => ⟨J, J, J, .inl ⟨J, (o_fa (fd := ⟨ "out", 28, 0, false, "", "vitrine/read", 0⟩) J J J J J ⟨J, J⟩)⟩⟩, fun _ => ⟨J, J, J, .inl ⟨J, (o_ld (b := b0) (off := 0) (v := (V s0)) J rm2 J J ⟨J, J⟩)⟩⟩, fun _ => ⟨J, J, J, .inl ⟨J, (o_fa (fd := ⟨ "FA", 5, 2, false, "", "", 2⟩) J J J J J ⟨J, J⟩)⟩⟩, fun _ => ⟨J, J, J, .inl ⟨J, (o_ld (b := b651) (off := 2) (v := (U p1.FA)) J rm0 J J ⟨J, J⟩)⟩⟩, fun _ => ⟨J, J, J, .inl ⟨J, (o_p (v := (I (w64 (p1.FA)))) J ⟨J, J⟩)⟩⟩, trivial⟩, J, .inr ⟨[8], J, J, ⟨J, .inl J, ?_⟩, trivial⟩⟩
  refine (o_call has54 J (c_addr_Six hg X (w64 (p1.FA)) _ h3) (pc rm1 pn) ?_)
  refine ⟨[], [0, 1, 2, 3, 4], J, J, J, J, ?_⟩
  refine ⟨⟨fun _ => ⟨J, J, J, .inl ⟨J, (o_p J ⟨J, J⟩)⟩⟩, fun _ => ⟨J, J, J, .inl ⟨J, (o_p J ⟨J, J⟩)⟩⟩, fun _ => ⟨J, J, J, .inl ⟨J, (o_p J ⟨J, J⟩)⟩⟩, fun _ => ⟨J, J, J, .inl ⟨J, (o_fa (fd := ⟨ "out", 28, 0, false, "", "vitrine/read", 0⟩) J J J J J ⟨J, J⟩)⟩⟩, fun _ => ⟨J, J, J, .inl ⟨J, (o_ld (b := b0) (off := 0) (v := (V s0)) J rm2 J J ⟨J, J⟩)⟩⟩, (fun h => nomatch h), (fun h => nomatch h), (fun h => nomatch h), trivial⟩, J, .inr ⟨[9], J, J, ⟨J, .inl J, ?_⟩, trivial⟩⟩
  refine (o_bs (e := (enI .u8)) (l := [29, d3]) (zs := [(U 0)]) J J J J J J J J J J (fun s654 => ?_))
  refine ⟨[], [0, 1, 2, 3, 4], J, J, J, J, ?_⟩
  replace h := gsome h
  obtain ⟨hg656, h⟩ := h
  refine ⟨⟨fun _ => ⟨J, J, J, .inl ⟨J, (o_p J ⟨J, J⟩)⟩⟩, fun _ => ⟨J, J, J, .inl ⟨J, (o_p J ⟨J, J⟩)⟩⟩, fun _ => ⟨J, J, J, .inl ⟨J, (o_p J ⟨J, J⟩)⟩⟩, fun _ => ⟨J, J, J, .inl ⟨J, (o_fa (fd := ⟨ "out", 28, 0, false, "", "vitrine/read", 0⟩) J J J J J ⟨J, J⟩)⟩⟩, fun _ => ⟨J, J, J, .inl ⟨J, (o_ld (b := b0) (off := 0) (v := (V s0)) J rm3 J J ⟨J, J⟩)⟩⟩, (fun h => nomatch h), (fun h => nomatch h), (fun h => nomatch h), trivial⟩, J, .inr ⟨[10], J, J, ⟨J, .inl J, ?_⟩, trivial⟩⟩
  refine (o_app (s := s0) (r := s654) (e := (enI .u8)) (l := p0.out) (l2 := [29, d3]) (zs := [(U 0)]) J J J J J J J J J J J rm4 rm0 (rd_own _ _ _ _) hg656 (fun s657 => ?_))
  refine ⟨[(11, 22, (F b0 0)), (12, 23, (F b0 0))], [0, 11, 12], J, J, J, J, ?_⟩
  refine ⟨⟨fun _ => ⟨J, J, J, .inl ⟨J, (o_p J ⟨J, J⟩)⟩⟩, fun _ => ⟨J, J, J, .inl ⟨J, (o_fa (fd := ⟨ "out", 28, 0, false, "", "vitrine/read", 0⟩) J J J J J ⟨J, J⟩)⟩⟩, fun _ => ⟨J, J, J, .inl ⟨J, (o_p J ⟨J, J⟩)⟩⟩, (fun h => nomatch h), (fun h => nomatch h), (fun h => nomatch h), (fun h => nomatch h), (fun h => nomatch h), (fun h => nomatch h), (fun h => nomatch h), trivial⟩, J, .inr ⟨[13], J, J, ⟨J, .inl J, ?_⟩, trivial⟩⟩
  refine (o_st (b := b0) (off := 0) (vs := [(V s657)]) (cs' := [(V s657), (U p0.last.Char), (O p0.last.Attr), (U p0.last.FA), (U p0.last.High), (U p0.last.Color), (U p0.last.f_Set), (I p0.mode)]) J J rp4 J J J J J J ?_)
  refine ⟨[], [], J, J, ?_⟩
  refine ⟨⟨(fun h => nomatch h), (fun h => nomatch h), (fun h => nomatch h), (fun h => nomatch h), (fun h => nomatch h), (fun h => nomatch h), (fun h => nomatch h), (fun h => nomatch h), (fun h => nomatch h), (fun h => nomatch h), trivial⟩, J, J, J, ?_⟩
  refine e_seq (c_ret (e_then_ret (e_ret ?_)))
  refine r_endt J J (kc rm2 (kc rm3 (kc rm0 (kd (kd kr))))) ?_
  obtain rfl := si h
  exact hk (X, s657) (Ext.refl _)
 ·replace h := cond_f hb653 h
  refine c_skip (e_seq (cr ?_))
  refine o1 J (o_ld (b := b651) (off := 0) (v := (.agg (A [(U p1.Char), (O p1.Attr), (U p1.FA), (U p1.High), (U p1.Color), (U p1.f_Set)]))) J rm0 J J ?_)
  replace h := bsome h
  obtain ⟨d4, h4, h⟩ := h
  refine o1 J (o_call has56 J (c_attr_Pairs hg X p1 _ h4) (pc rm1 pn) (fun i4 => ?_))
  refine o_fz rm1 rm0 (fun X711 hx712 hs713 => ?_)
  replace h := bsome h
  obtain ⟨d5, h5, h⟩ := h
  refine o1 J (o_call has55 J (c_attr_Bytes hg X711 d4 i4 hs713 _ h5) (pc rm0 pn) (fun i5 => ?_))
  refine op J J (op J J (op J J (op J J (op J J (o_end ?_)))))
  refine e_seq (cr (op J J ?_))
  refine o1 J (o_p (v := (O (d5.2 == 0))) J ?_)
  refine oe ?_
  refine c_cond (b := (d5.2 == 0)) J (fun hb755 => ?_) (fun hb755 => ?_)
  ·replace h := cond_t hb755 h
   refine c_region (op J J (op J J (op J J ?_)))
   refine o1 J (o_fa (fd := ⟨ "out", 28, 0, false, "", "vitrine/read", 0⟩) J J J J J ?_)
   refine o1 J (o_ld (b := b0) (off := 0) (v := (V s0)) J rm3 J J ?_)
   refine o1 J (o_bs (e := (enI .u8)) (l := [41]) (zs := [(U 0)]) J J J J J J J J J J (fun s756 => ?_))
   replace h := gsome h
   obtain ⟨hg758, h⟩ := h
   refine o1 J (o_app (s := s0) (r := s756) (e := (enI .u8)) (l := p0.out) (l2 := [41]) (zs := [(U 0)]) J J J J J J J J J J J rm5 rm0 (rd_own _ _ _ _) hg758 (fun s759 => ?_))
   refine op J J ?_
   replace h := gsome h
   obtain ⟨hg761, h⟩ := h
   refine o1 J (o_app (s := s759) (r := i5) (e := (enI .u8)) (l := (p0.out ++ [41])) (l2 := d5.1) (zs := [(U 0)]) J J J J J J J J J J J rm0 rm2 (rd_own _ _ _ _) hg761 (fun s762 => ?_))
   refine op J J ?_
   refine o1 J (o_fa (fd := ⟨ "out", 28, 0, false, "", "vitrine/read", 0⟩) J J J J J ?_)
   refine o0 (o_st (b := b0) (off := 0) (vs := [(V s762)]) (cs' := [(V s762), (U p0.last.Char), (O p0.last.Attr), (U p0.last.FA), (U p0.last.High), (U p0.last.Color), (U p0.last.f_Set), (I p0.mode)]) J J rp5 J J J J J J ?_)
   refine o_end (e_fall ?_)
   refine r_endt J J (kc rm2 (kc rm4 (kc rm0 (kd (kd (kd kr)))))) ?_
   obtain rfl := si h
   exact hk (X711, s762) hx712
  ·replace h := cond_f hb755 h
   refine c_skip (e_fall ?_)
   refine r_endt J J (kc rm0 (kc rm2 (kc rm2 (kd (kd kr))))) ?_
   obtain rfl := si h
   exact hk (X711, s0) hx712

theorem c_attr_Diff {g : Gw} (hg : GK g) (X : HP) (p0 : Vapi_Cell) (p1 : Vapi_Cell) (r : (List Vattr_Pair)) (h : m_attr_Diff p0 p1 = some r) : Tri env g 57 (A [(.agg (A [(U p0.Char), (O p0.Attr), (U p0.FA), (U p0.High), (U p0.Color), (U p0.f_Set)])), (.agg (A [(U p1.Char), (O p1.Attr), (U p1.FA), (U p1.High), (U p1.Color), (U p1.f_Set)]))]) [X] (fun K R => ∀ (i0 : SV), K (V i0) (X :: slO i0 93 en_Vattr_Pair r :: R)) := by
 refine tri_of (fn := Tryz.f57) (N := 33) Tryz.func57 J J J ?_
 intro R K hk
 unfold m_attr_Diff at h
 change GC _ none _ [] [(0, (.agg (A [(U p0.Char), (O p0.Attr), (U p0.FA), (U p0.High), (U p0.Color), (U p0.f_Set)]))), (1, (.agg (A [(U p1.Char), (O p1.Attr), (U p1.FA), (U p1.High), (U p1.Color), (U p1.f_Set)])))] (X :: R) g _ _
 refine cr ?_
 refine o1 J (o_box (cs := [(U p0.Char), (O p0.Attr), (U p0.FA), (U p0.High), (U p0.Color), (U p0.f_Set)]) J J (fun b769 => ?_))
 refine o1 J (o_box (cs := [(U p1.Char), (O p1.Attr), (U p1.FA), (U p1.High), (U p1.Color), (U p1.f_Set)]) J J (fun b771 => ?_))
 refine op J J (oe (cr (op J J ?_)))
 refine oe (c_seq ?_)
 replace h := bsome h
 obtain ⟨d1, h, hk1⟩ := h
 refine cj (D := Unit) (ι := Nat × Nat) (fun _ i1 => True) (fun _ i1 => [(7, (F i1.1 0)), (6, (F i1.2 0)), (5, (V SV.nil))]) (fun _ i1 => X :: blk i1.1 (.cells (A [(U d1.1), (U d1.2.1), (U d1.2.2.1), (U d1.2.2.2.1), (U d1.2.2.2.2.1), (U d1.2.2.2.2.2.1)]) 166 (0, 0)) :: blk i1.2 (.cells (A [(U d1.2.2.2.2.2.2.1), (U d1.2.2.2.2.2.2.2.1), (U d1.2.2.2.2.2.2.2.2.1), (U d1.2.2.2.2.2.2.2.2.2.1), (U d1.2.2.2.2.2.2.2.2.2.2.1), (U d1.2.2.2.2.2.2.2.2.2.2.2)]) 166 (0, 0)) :: R) ?_ ?_
 ·replace h := bsome h
  obtain ⟨d2, h2, h⟩ := h
  replace h := bsome h
  obtain ⟨d3, h3, h⟩ := h
  refine c_draw (n := 6) (q := [(0, 10, (.agg (A [(U p0.Char), (O p0.Attr), (U p0.FA), (U p0.High), (U p0.Color), (U p0.f_Set)]))), (2, 12, (.agg (A [(U p1.Char), (O p1.Attr), (U p1.FA), (U p1.High), (U p1.Color), (U p1.f_Set)])))]) (pend := [0, 2]) J J J ?_
  refine ⟨⟨fun _ => ⟨J, J, J, .inl ⟨J, (o_ld (b := b769) (off := 0) (v := (.agg (A [(U p0.Char), (O p0.Attr), (U p0.FA), (U p0.High), (U p0.Color), (U p0.f_Set)]))) J rm1 J J ⟨J, J⟩)⟩⟩, fun _ => ⟨J, J, J, .inl ⟨J, (o_ld (b := b771) (off := 0) (v := (.agg (A [(U p1.Char), (O p1.Attr), (U p1.FA), (U p1.High), (U p1.Color), (U p1.f_Set)]))) J rm0 J J ⟨J, J⟩)⟩⟩, trivial⟩, J, .inr ⟨[1, 4, 5], J, J, ⟨J, .inl J, ?_⟩, ⟨J, .inl J, ?_⟩, ⟨J, .inl J, ?_⟩, trivial⟩⟩
  ·refine (o_call has83 J (c_attr_looks hg X p0 _ h2) (pc rm2 pn) ?_)
   refine ⟨[], [2], J, J, J, J, ?_⟩
   refine ⟨⟨(fun h => nomatch h), fun _ => ⟨J, J, J, .inl ⟨J, (o_ld (b := b771) (off := 0) (v := (.agg (A [(U p1.Char), (O p1.Attr), (U p1.FA), (U p1.High), (U p1.Color), (U p1.f_Set)]))) J rm1 J J ⟨J, J⟩)⟩⟩, trivial⟩, J, .inr ⟨[3, 4, 5], J, J, ⟨J, .inl J, ?_⟩, ⟨J, .inl J, ?_⟩, ⟨J, .inl J, ?_⟩, trivial⟩⟩
   ·refine (o_call has83 J (c_attr_looks hg X p1 _ h3) (pc rm0 pn) ?_)
    refine ⟨[], [], J, J, J, J, ?_⟩
    refine ⟨⟨(fun h => nomatch h), (fun h => nomatch h), trivial⟩, J, .inr ⟨[4, 5], J, J, ⟨J, .inl J, ?_⟩, ⟨J, .inl J, ?_⟩, trivial⟩⟩
    ·refine (o_alloc (cs := [(U 0), (U 0), (U 0), (U 0), (U 0), (U 0)]) J J (fun b773 => ?_))
     refine ⟨[], [], J, J, J, J, ?_⟩
     refine ⟨⟨(fun h => nomatch h), (fun h => nomatch h), trivial⟩, J, .inr ⟨[5], J, J, ⟨J, .inl J, ?_⟩, trivial⟩⟩
     refine (o_alloc (cs := [(U 0), (U 0), (U 0), (U 0), (U 0), (U 0)]) J J (fun b775 => ?_))
     refine ⟨[], [], J, J, J, J, ?_⟩
     refine ⟨⟨(fun h => nomatch h), (fun h => nomatch h), trivial⟩, J, .inr ⟨[6], J, J, ⟨J, .inl J, ?_⟩, trivial⟩⟩
     refine (o_st (b := b773) (off := 0) (vs := [(U d2.1.f_Type), (U d2.1.Value), (U d2.2.1.f_Type), (U d2.2.1.Value), (U d2.2.2.f_Type), (U d2.2.2.Value)]) (cs' := [(U d2.1.f_Type), (U d2.1.Value), (U d2.2.1.f_Type), (U d2.2.1.Value), (U d2.2.2.f_Type), (U d2.2.2.Value)]) J J rp1 J J J J J J ?_)
     refine ⟨[], [], J, J, ?_⟩
     refine ⟨⟨(fun h => nomatch h), (fun h => nomatch h), trivial⟩, J, .inr ⟨[7], J, J, ⟨J, .inl J, ?_⟩, trivial⟩⟩
     refine (o_st (b := b775) (off := 0) (vs := [(U d3.1.f_Type), (U d3.1.Value), (U d3.2.1.f_Type), (U d3.2.1.Value), (U d3.2.2.f_Type), (U d3.2.2.Value)]) (cs' := [(U d3.1.f_Type), (U d3.1.Value), (U d3.2.1.f_Type), (U d3.2.1.Value), (U d3.2.2.f_Type), (U d3.2.2.Value)]) J J rp0 J J J J J J ?_)
     refine ⟨[], [], J, J, ?_⟩
     refine ⟨⟨(fun h => nomatch h), (fun h => nomatch h), trivial⟩, J, J, J, ?_⟩
     obtain rfl := si h
     exact ej () (b775, b773) trivial (sc J (sc J (sc J sn))) (kc rm2 (kc rm0 (kc rm0 (kd (kd kr)))))
    ·refine (o_alloc (cs := [(U 0), (U 0), (U 0), (U 0), (U 0), (U 0)]) J J (fun b775 => ?_))
     refine ⟨[], [], J, J, J, J, ?_⟩
     refine ⟨⟨(fun h => nomatch h), (fun h => nomatch h), trivial⟩, J, .inr ⟨[4], J, J, ⟨J, .inl J, ?_⟩, trivial⟩⟩
     refine (o_alloc (cs := [(U 0), (U 0), (U 0), (U 0), (U 0), (U 0)]) J J (fun b773 => ?_))
     refine ⟨[], [], J, J, J, J, ?_⟩
     refine ⟨⟨(fun h => nomatch h), (fun h => nomatch h), trivial⟩, J, .inr ⟨[6], J, J, ⟨J, .inl J, ?_⟩, trivial⟩⟩
     refine (o_st (b := b773) (off := 0) (vs := [(U d2.1.f_Type), (U d2.1.Value), (U d2.2.1.f_Type), (U d2.2.1.Value), (U d2.2.2.f_Type), (U d2.2.2.Value)]) (cs' := [(U d2.1.f_Type), (U d2.1.Value), (U d2.2.1.f_Type), (U d2.2.1.Value), (U d2.2.2.f_Type), (U d2.2.2.Value)]) J J rp0 J J J J J J ?_)
     refine ⟨[], [], J, J, ?_⟩
     refine ⟨⟨(fun h => nomatch h), (fun h => nomatch h), trivial⟩, J, .inr ⟨[7], J, J, ⟨J, .inl J, ?_⟩, trivial⟩⟩
     refine (o_st (b := b775) (off := 0) (vs := [(U d3.1.f_Type), (U d3.1.Value), (U d3.2.1.f_Type), (U d3.2.1.Value), (U d3.2.2.f_Type), (U d3.2.2.Value)]) (cs' := [(U d3.1.f_Type), (U d3.1.Value), (U d3.2.1.f_Type), (U d3.2.1.Value), (U d3.2.2.f_Type), (U d3.2.2.Value)]) J J rp1 J J J J J J ?_)
     refine ⟨[], [], J, J, ?_⟩
     refine ⟨⟨(fun h => nomatch h), (fun h => nomatch h), trivial⟩, J, J, J, ?_⟩
     obtain rfl := si h
     exact ej () (b775, b773) trivial (sc J (sc J (sc J sn))) (kc rm2 (kc rm1 (kc rm0 (kd (kd kr)))))
   ·refine (o_alloc (cs := [(U 0), (U 0), (U 0), (U 0), (U 0), (U 0)]) J J (fun b773 => ?_))
    refine ⟨[], [2], J, J, J, J, ?_⟩
    refine ⟨⟨(fun h => nomatch h), fun _ => ⟨J, J, J, .inl ⟨J, (o_ld (b := b771) (off := 0) (v := (.agg (A [(U p1.Char), (O p1.Attr), (U p1.FA), (U p1.High), (U p1.Color), (U p1.f_Set)]))) J rm2 J J ⟨J, J⟩)⟩⟩, trivial⟩, J, .inr ⟨[3, 5], J, J, ⟨J, .inl J, ?_⟩, ⟨J, .inl J, ?_⟩, trivial⟩⟩
    ·refine (o_call has83 J (c_attr_looks hg X p1 _ h3) (pc rm1 pn) ?_)
     refine ⟨[], [], J, J, J, J, ?_⟩
     refine ⟨⟨(fun h => nomatch h), (fun h => nomatch h), trivial⟩, J, .inr ⟨[5], J, J, ⟨J, .inl J, ?_⟩, trivial⟩⟩
     refine (o_alloc (cs := [(U 0), (U 0), (U 0), (U 0), (U 0), (U 0)]) J J (fun b775 => ?_))
     refine ⟨[], [], J, J, J, J, ?_⟩
     refine ⟨⟨(fun h => nomatch h), (fun h => nomatch h), trivial⟩, J, .inr ⟨[6], J, J, ⟨J, .inl J, ?_⟩, trivial⟩⟩
     refine (o_st (b := b773) (off := 0) (vs := [(U d2.1.f_Type), (U d2.1.Value), (U d2.2.1.f_Type), (U d2.2.1.Value), (U d2.2.2.f_Type), (U d2.2.2.Value)]) (cs' := [(U d2.1.f_Type), (U d2.1.Value), (U d2.2.1.f_Type), (U d2.2.1.Value), (U d2.2.2.f_Type), (U d2.2.2.Value)]) J J rp2 J J J J J J ?_)
     refine ⟨[], [], J, J, ?_⟩
     refine ⟨⟨(fun h => nomatch h), (fun h => nomatch h), trivial⟩, J, .inr ⟨[7], J, J, ⟨J, .inl J, ?_⟩, trivial⟩⟩
     refine (o_st (b := b775) (off := 0) (vs := [(U d3.1.f_Type), (U d3.1.Value), (U d3.2.1.f_Type), (U d3.2.1.Value), (U d3.2.2.f_Type), (U d3.2.2.Value)]) (cs' := [(U d3.1.f_Type), (U d3.1.Value), (U d3.2.1.f_Type), (U d3.2.1.Value), (U d3.2.2.f_Type), (U d3.2.2.Value)]) J J rp0 J J J J J J ?_)
     refine ⟨[], [], J, J, ?_⟩
     refine ⟨⟨(fun h => nomatch h), (fun h => nomatch h), trivial⟩, J, J, J, ?_⟩
     obtain rfl := si h
     exact ej () (b775, b773) trivial (sc J (sc J (sc J sn))) (kc rm1 (kc rm0 (kc rm0 (kd (kd kr)))))
    ·refine (o_alloc (cs := [(U 0), (U 0), (U 0), (U 0), (U 0), (U 0)]) J J (fun b775 => ?_))
     refine ⟨[], [2], J, J, J, J, ?_⟩
     refine ⟨⟨(fun h => nomatch h), fun _ => ⟨J, J, J, .inl ⟨J, (o_ld (b := b771) (off := 0) (v := (.agg (A [(U p1.Char), (O p1.Attr), (U p1.FA), (U p1.High), (U p1.Color), (U p1.f_Set)]))) J rm3 J J ⟨J, J⟩)⟩⟩, trivial⟩, J, .inr ⟨[3], J, J, ⟨J, .inl J, ?_⟩, trivial⟩⟩
     refine (o_call has83 J (c_attr_looks hg X p1 _ h3) (pc rm2 pn) ?_)
     refine ⟨[], [], J, J, J, J, ?_⟩
     refine ⟨⟨(fun h => nomatch h), (fun h => nomatch h), trivial⟩, J, .inr ⟨[6], J, J, ⟨J, .inl J, ?_⟩, trivial⟩⟩
     refine (o_st (b := b773) (off := 0) (vs := [(U d2.1.f_Type), (U d2.1.Value), (U d2.2.1.f_Type), (U d2.2.1.Value), (U d2.2.2.f_Type), (U d2.2.2.Value)]) (cs' := [(U d2.1.f_Type), (U d2.1.Value), (U d2.2.1.f_Type), (U d2.2.1.Value), (U d2.2.2.f_Type), (U d2.2.2.Value)]) J J rp2 J J J J J J ?_)
     refine ⟨[], [], J, J, ?_⟩
     refine ⟨⟨(fun h => nomatch h), (fun h => nomatch h), trivial⟩, J, .inr ⟨[7], J, J, ⟨J, .inl J, ?_⟩, trivial⟩⟩
     refine (o_st (b := b775) (off := 0) (vs := [(U d3.1.f_Type), (U d3.1.Value), (U d3.2.1.f_Type), (U d3.2.1.Value), (U d3.2.2.f_Type), (U d3.2.2.Value)]) (cs' := [(U d3.1.f_Type), (U d3.1.Value), (U d3.2.1.f_Type), (U d3.2.1.Value), (U d3.2.2.f_Type), (U d3.2.2.Value)]) J J rp1 J J J J J J ?_)
     refine ⟨[], [], J, J, ?_⟩
     refine ⟨⟨(fun h => nomatch h), (fun h => nomatch h), trivial⟩, J, J, J, ?_⟩
     obtain rfl := si h
     exact ej () (b775, b773) trivial (sc J (sc J (sc J sn))) (kc rm0 (kc rm0 (kc rm0 (kd (kd kr)))))
   ·refine (o_alloc (cs := [(U 0), (U 0), (U 0), (U 0), (U 0), (U 0)]) J J (fun b775 => ?_))
    refine ⟨[], [2], J, J, J, J, ?_⟩
    refine ⟨⟨(fun h => nomatch h), fun _ => ⟨J, J, J, .inl ⟨J, (o_ld (b := b771) (off := 0) (v := (.agg (A [(U p1.Char), (O p1.Attr), (U p1.FA), (U p1.High), (U p1.Color), (U p1.f_Set)]))) J rm2 J J ⟨J, J⟩)⟩⟩, trivial⟩, J, .inr ⟨[3, 4], J, J, ⟨J, .inl J, ?_⟩, ⟨J, .inl J, ?_⟩, trivial⟩⟩
    ·refine (o_call has83 J (c_attr_looks hg X p1 _ h3) (pc rm1 pn) ?_)
     refine ⟨[], [], J, J, J, J, ?_⟩
     refine ⟨⟨(fun h => nomatch h), (fun h => nomatch h), trivial⟩, J, .inr ⟨[4], J, J, ⟨J, .inl J, ?_⟩, trivial⟩⟩
     refine (o_alloc (cs := [(U 0), (U 0), (U 0), (U 0), (U 0), (U 0)]) J J (fun b773 => ?_))
     refine ⟨[], [], J, J, J, J, ?_⟩
     refine ⟨⟨(fun h => nomatch h), (fun h => nomatch h), trivial⟩, J, .inr ⟨[6], J, J, ⟨J, .inl J, ?_⟩, trivial⟩⟩
     refine (o_st (b := b773) (off := 0) (vs := [(U d2.1.f_Type), (U d2.1.Value), (U d2.2.1.f_Type), (U d2.2.1.Value), (U d2.2.2.f_Type), (U d2.2.2.Value)]) (cs' := [(U d2.1.f_Type), (U d2.1.Value), (U d2.2.1.f_Type), (U d2.2.1.Value), (U d2.2.2.f_Type), (U d2.2.2.Value)]) J J rp0 J J J J J J ?_)
     refine ⟨[], [], J, J, ?_⟩
     refine ⟨⟨(fun h => nomatch h), (fun h => nomatch h), trivial⟩, J, .inr ⟨[7], J, J, ⟨J, .inl J, ?_⟩, trivial⟩⟩
     refine (o_st (b := b775) (off := 0) (vs := [(U d3.1.f_Type), (U d3.1.Value), (U d3.2.1.f_Type), (U d3.2.1.Value), (U d3.2.2.f_Type), (U d3.2.2.Value)]) (cs' := [(U d3.1.f_Type), (U d3.1.Value), (U d3.2.1.f_Type), (U d3.2.1.Value), (U d3.2.2.f_Type), (U d3.2.2.Value)]) J J rp2 J J J J J J ?_)
     refine ⟨[], [], J, J, ?_⟩
     refine ⟨⟨(fun h => nomatch h), (fun h => nomatch h), trivial⟩, J, J, J, ?_⟩
     obtain rfl := si h
     exact ej () (b775, b773) trivial (sc J (sc J (sc J sn))) (kc rm1 (kc rm1 (kc rm0 (kd (kd kr)))))
    ·refine (o_alloc (cs := [(U 0), (U 0), (U 0), (U 0), (U 0), (U 0)]) J J (fun b773 => ?_))
     refine ⟨[], [2], J, J, J, J, ?_⟩
     refine ⟨⟨(fun h => nomatch h), fun _ => ⟨J, J, J, .inl ⟨J, (o_ld (b := b771) (off := 0) (v := (.agg (A [(U p1.Char), (O p1.Attr), (U p1.FA), (U p1.High), (U p1.Color), (U p1.f_Set)]))) J rm3 J J ⟨J, J⟩)⟩⟩, trivial⟩, J, .inr ⟨[3], J, J, ⟨J, .inl J, ?_⟩, trivial⟩⟩
     refine (o_call has83 J (c_attr_looks hg X p1 _ h3) (pc rm2 pn) ?_)
     refine ⟨[], [], J, J, J, J, ?_⟩
     refine ⟨⟨(fun h => nomatch h), (fun h => nomatch h), trivial⟩, J, .inr ⟨[6], J, J, ⟨J, .inl J, ?_⟩, trivial⟩⟩
     refine (o_st (b := b773) (off := 0) (vs := [(U d2.1.f_Type), (U d2.1.Value), (U d2.2.1.f_Type), (U d2.2.1.Value), (U d2.2.2.f_Type), (U d2.2.2.Value)]) (cs' := [(U d2.1.f_Type), (U d2.1.Value), (U d2.2.1.f_Type), (U d2.2.1.Value), (U d2.2.2.f_Type), (U d2.2.2.Value)]) J J rp1 J J J J J J ?_)
     refine ⟨[], [], J, J, ?_⟩
     refine ⟨⟨(fun h => nomatch h), (fun h => nomatch h), trivial⟩, J, .inr ⟨[7], J, J, ⟨J, .inl J, ?_⟩, trivial⟩⟩
     refine (o_st (b := b775) (off := 0) (vs := [(U d3.1.f_Type), (U d3.1.Value), (U d3.2.1.f_Type), (U d3.2.1.Value), (U d3.2.2.f_Type), (U d3.2.2.Value)]) (cs' := [(U d3.1.f_Type), (U d3.1.Value), (U d3.2.1.f_Type), (U d3.2.1.Value), (U d3.2.2.f_Type), (U d3.2.2.Value)]) J J rp2 J J J J J J ?_)
     refine ⟨[], [], J, J, ?_⟩
     refine ⟨⟨(fun h => nomatch h), (fun h => nomatch h), trivial⟩, J, J, J, ?_⟩
     obtain rfl := si h
     exact ej () (b775, b773) trivial (sc J (sc J (sc J sn))) (kc rm0 (kc rm1 (kc rm0 (kd (kd kr)))))
  ·refine (o_alloc (cs := [(U 0), (U 0), (U 0), (U 0), (U 0), (U 0)]) J J (fun b773 => ?_))
   refine ⟨[], [0, 2], J, J, J, J, ?_⟩
   refine ⟨⟨fun _ => ⟨J, J, J, .inl ⟨J, (o_ld (b := b769) (off := 0) (v := (.agg (A [(U p0.Char), (O p0.Attr), (U p0.FA), (U p0.High), (U p0.Color), (U p0.f_Set)]))) J rm2 J J ⟨J, J⟩)⟩⟩, fun _ => ⟨J, J, J, .inl ⟨J, (o_ld (b := b771) (off := 0) (v := (.agg (A [(U p1.Char), (O p1.Attr), (U p1.FA), (U p1.High), (U p1.Color), (U p1.f_Set)]))) J rm1 J J ⟨J, J⟩)⟩⟩, trivial⟩, J, .inr ⟨[1, 5], J, J, ⟨J, .inl J, ?_⟩, ⟨J, .inl J, ?_⟩, trivial⟩⟩
   ·refine (o_call has83 J (c_attr_looks hg X p0 _ h2) (pc rm3 pn) ?_)
    refine ⟨[], [2], J, J, J, J, ?_⟩
    refine ⟨⟨(fun h => nomatch h), fun _ => ⟨J, J, J, .inl ⟨J, (o_ld (b := b771) (off := 0) (v := (.agg (A [(U p1.Char), (O p1.Attr), (U p1.FA), (U p1.High), (U p1.Color), (U p1.f_Set)]))) J rm2 J J ⟨J, J⟩)⟩⟩, trivial⟩, J, .inr ⟨[3, 5], J, J, ⟨J, .inl J, ?_⟩, ⟨J, .inl J, ?_⟩, trivial⟩⟩
    ·refine (o_call has83 J (c_attr_looks hg X p1 _ h3) (pc rm0 pn) ?_)
     refine ⟨[], [], J, J, J, J, ?_⟩
     refine ⟨⟨(fun h => nomatch h), (fun h => nomatch h), trivial⟩, J, .inr ⟨[5], J, J, ⟨J, .inl J, ?_⟩, trivial⟩⟩
     refine (o_alloc (cs := [(U 0), (U 0), (U 0), (U 0), (U 0), (U 0)]) J J (fun b775 => ?_))
     refine ⟨[], [], J, J, J, J, ?_⟩
     refine ⟨⟨(fun h => nomatch h), (fun h => nomatch h), trivial⟩, J, .inr ⟨[6], J, J, ⟨J, .inl J, ?_⟩, trivial⟩⟩
     refine (o_st (b := b773) (off := 0) (vs := [(U d2.1.f_Type), (U d2.1.Value), (U d2.2.1.f_Type), (U d2.2.1.Value), (U d2.2.2.f_Type), (U d2.2.2.Value)]) (cs' := [(U d2.1.f_Type), (U d2.1.Value), (U d2.2.1.f_Type), (U d2.2.1.Value), (U d2.2.2.f_Type), (U d2.2.2.Value)]) J J rp2 J J J J J J ?_)
     refine ⟨[], [], J, J, ?_⟩
     refine ⟨⟨(fun h => nomatch h), (fun h => nomatch h), trivial⟩, J, .inr ⟨[7], J, J, ⟨J, .inl J, ?_⟩, trivial⟩⟩
     refine (o_st (b := b775) (off := 0) (vs := [(U d3.1.f_Type), (U d3.1.Value), (U d3.2.1.f_Type), (U d3.2.1.Value), (U d3.2.2.f_Type), (U d3.2.2.Value)]) (cs' := [(U d3.1.f_Type), (U d3.1.Value), (U d3.2.1.f_Type), (U d3.2.1.Value), (U d3.2.2.f_Type), (U d3.2.2.Value)]) J J rp0 J J J J J J ?_)
     refine ⟨[], [], J, J, ?_⟩
     refine ⟨⟨(fun h => nomatch h), (fun h => nomatch h), trivial⟩, J, J, J, ?_⟩
     obtain rfl := si h
     exact ej () (b775, b773) trivial (sc J (sc J (sc J sn))) (kc rm1 (kc rm0 (kc rm0 (kd (kd kr)))))
    ·refine (o_alloc (cs := [(U 0), (U 0), (U 0), (U 0), (U 0), (U 0)]) J J (fun b775 => ?_))
     refine ⟨[], [2], J, J, J, J, ?_⟩
     refine ⟨⟨(fun h => nomatch h), fun _ => ⟨J, J, J, .inl ⟨J, (o_ld (b := b771) (off := 0) (v := (.agg (A [(U p1.Char), (O p1.Attr), (U p1.FA), (U p1.High), (U p1.Color), (U p1.f_Set)]))) J rm3 J J ⟨J, J⟩)⟩⟩, trivial⟩, J, .inr ⟨[3], J, J, ⟨J, .inl J, ?_⟩, trivial⟩⟩
     refine (o_call has83 J (c_attr_looks hg X p1 _ h3) (pc rm1 pn) ?_)
     refine ⟨[], [], J, J, J, J, ?_⟩
     refine ⟨⟨(fun h => nomatch h), (fun h => nomatch h), trivial⟩, J, .inr ⟨[6], J, J, ⟨J, .inl J, ?_⟩, trivial⟩⟩
     refine (o_st (b := b773) (off := 0) (vs := [(U d2.1.f_Type), (U d2.1.Value), (U d2.2.1.f_Type), (U d2.2.1.Value), (U d2.2.2.f_Type), (U d2.2.2.Value)]) (cs' := [(U d2.1.f_Type), (U d2.1.Value), (U d2.2.1.f_Type), (U d2.2.1.Value), (U d2.2.2.f_Type), (U d2.2.2.Value)]) J J rp2 J J J J J J ?_)
     refine ⟨[], [], J, J, ?_⟩
     refine ⟨⟨(fun h => nomatch h), (fun h => nomatch h), trivial⟩, J, .inr ⟨[7], J, J, ⟨J, .inl J, ?_⟩, trivial⟩⟩
     refine (o_st (b := b775) (off := 0) (vs := [(U d3.1.f_Type), (U d3.1.Value), (U d3.2.1.f_Type), (U d3.2.1.Value), (U d3.2.2.f_Type), (U d3.2.2.Value)]) (cs' := [(U d3.1.f_Type), (U d3.1.Value), (U d3.2.1.f_Type), (U d3.2.1.Value), (U d3.2.2.f_Type), (U d3.2.2.Value)]) J J rp1 J J J J J J ?_)
     refine ⟨[], [], J, J, ?_⟩
     refine ⟨⟨(fun h => nomatch h), (fun h => nomatch h), trivial⟩, J, J, J, ?_⟩
     obtain rfl := si h
     exact ej () (b775, b773) trivial (sc J (sc J (sc J sn))) (kc rm0 (kc rm0 (kc rm0 (kd (kd kr)))))
   ·refine (o_alloc (cs := [(U 0), (U 0), (U 0), (U 0), (U 0), (U 0)]) J J (fun b775 => ?_))
    refine ⟨[], [0, 2], J, J, J, J, ?_⟩
    refine ⟨⟨fun _ => ⟨J, J, J, .inl ⟨J, (o_ld (b := b769) (off := 0) (v := (.agg (A [(U p0.Char), (O p0.Attr), (U p0.FA), (U p0.High), (U p0.Color), (U p0.f_Set)]))) J rm3 J J ⟨J, J⟩)⟩⟩, fun _ => ⟨J, J, J, .inl ⟨J, (o_ld (b := b771) (off := 0) (v := (.agg (A [(U p1.Char), (O p1.Attr), (U p1.FA), (U p1.High), (U p1.Color), (U p1.f_Set)]))) J rm2 J J ⟨J, J⟩)⟩⟩, trivial⟩, J, .inr ⟨[1], J, J, ⟨J, .inl J, ?_⟩, trivial⟩⟩
    refine (o_call has83 J (c_attr_looks hg X p0 _ h2) (pc rm4 pn) ?_)
    refine ⟨[], [2], J, J, J, J, ?_⟩
    refine ⟨⟨(fun h => nomatch h), fun _ => ⟨J, J, J, .inl ⟨J, (o_ld (b := b771) (off := 0) (v := (.agg (A [(U p1.Char), (O p1.Attr), (U p1.FA), (U p1.High), (U p1.Color), (U p1.f_Set)]))) J rm3 J J ⟨J, J⟩)⟩⟩, trivial⟩, J, .inr ⟨[3], J, J, ⟨J, .inl J, ?_⟩, trivial⟩⟩
    refine (o_call has83 J (c_attr_looks hg X p1 _ h3) (pc rm0 pn) ?_)
    refine ⟨[], [], J, J, J, J, ?_⟩
    refine ⟨⟨(fun h => nomatch h), (fun h => nomatch h), trivial⟩, J, .inr ⟨[6], J, J, ⟨J, .inl J, ?_⟩, trivial⟩⟩
    refine (o_st (b := b773) (off := 0) (vs := [(U d2.1.f_Type), (U d2.1.Value), (U d2.2.1.f_Type), (U d2.2.1.Value), (U d2.2.2.f_Type), (U d2.2.2.Value)]) (cs' := [(U d2.1.f_Type), (U d2.1.Value), (U d2.2.1.f_Type), (U d2.2.1.Value), (U d2.2.2.f_Type), (U d2.2.2.Value)]) J J rp2 J J J J J J ?_)
    refine ⟨[], [], J, J, ?_⟩
    refine ⟨⟨(fun h => nomatch h), (fun h => nomatch h), trivial⟩, J, .inr ⟨[7], J, J, ⟨J, .inl J, ?_⟩, trivial⟩⟩
    refine (o_st (b := b775) (off := 0) (vs := [(U d3.1.f_Type), (U d3.1.Value), (U d3.2.1.f_Type), (U d3.2.1.Value), (U d3.2.2.f_Type), (U d3.2.2.Value)]) (cs' := [(U d3.1.f_Type), (U d3.1.Value), (U d3.2.1.f_Type), (U d3.2.1.Value), (U d3.2.2.f_Type), (U d3.2.2.Value)]) J J rp1 J J J J J J ?_)
    refine ⟨[], [], J, J, ?_⟩
    refine ⟨⟨(fun h => nomatch h), (fun h => nomatch h), trivial⟩, J, J, J, ?_⟩
    obtain rfl := si h
    exact ej () (b775, b773) trivial (sc J (sc J (sc J sn))) (kc rm0 (kc rm0 (kc rm0 (kd (kd kr)))))
  ·refine (o_alloc (cs := [(U 0), (U 0), (U 0), (U 0), (U 0), (U 0)]) J J (fun b775 => ?_))
   refine ⟨[], [0, 2], J, J, J, J, ?_⟩
   refine ⟨⟨fun _ => ⟨J, J, J, .inl ⟨J, (o_ld (b := b769) (off := 0) (v := (.agg (A [(U p0.Char), (O p0.Attr), (U p0.FA), (U p0.High), (U p0.Color), (U p0.f_Set)]))) J rm2 J J ⟨J, J⟩)⟩⟩, fun _ => ⟨J, J, J, .inl ⟨J, (o_ld (b := b771) (off := 0) (v := (.agg (A [(U p1.Char), (O p1.Attr), (U p1.FA), (U p1.High), (U p1.Color), (U p1.f_Set)]))) J rm1 J J ⟨J, J⟩)⟩⟩, trivial⟩, J, .inr ⟨[1, 4], J, J, ⟨J, .inl J, ?_⟩, ⟨J, .inl J, ?_⟩, trivial⟩⟩
   ·refine (o_call has83 J (c_attr_looks hg X p0 _ h2) (pc rm3 pn) ?_)
    refine ⟨[], [2], J, J, J, J, ?_⟩
    refine ⟨⟨(fun h => nomatch h), fun _ => ⟨J, J, J, .inl ⟨J, (o_ld (b := b771) (off := 0) (v := (.agg (A [(U p1.Char), (O p1.Attr), (U p1.FA), (U p1.High), (U p1.Color), (U p1.f_Set)]))) J rm2 J J ⟨J, J⟩)⟩⟩, trivial⟩, J, .inr ⟨[3, 4], J, J, ⟨J, .inl J, ?_⟩, ⟨J, .inl J, ?_⟩, trivial⟩⟩
    ·refine (o_call has83 J (c_attr_looks hg X p1 _ h3) (pc rm0 pn) ?_)
     refine ⟨[], [], J, J, J, J, ?_⟩
     refine ⟨⟨(fun h => nomatch h), (fun h => nomatch h), trivial⟩, J, .inr ⟨[4], J, J, ⟨J, .inl J, ?_⟩, trivial⟩⟩
     refine (o_alloc (cs := [(U 0), (U 0), (U 0), (U 0), (U 0), (U 0)]) J J (fun b773 => ?_))
     refine ⟨[], [], J, J, J, J, ?_⟩
     refine ⟨⟨(fun h => nomatch h), (fun h => nomatch h), trivial⟩, J, .inr ⟨[6], J, J, ⟨J, .inl J, ?_⟩, trivial⟩⟩
     refine (o_st (b := b773) (off := 0) (vs := [(U d2.1.f_Type), (U d2.1.Value), (U d2.2.1.f_Type), (U d2.2.1.Value), (U d2.2.2.f_Type), (U d2.2.2.Value)]) (cs' := [(U d2.1.f_Type), (U d2.1.Value), (U d2.2.1.f_Type), (U d2.2.1.Value), (U d2.2.2.f_Type), (U d2.2.2.Value)]) J J rp0 J J J J J J ?_)
     refine ⟨[], [], J, J, ?_⟩
     refine ⟨⟨(fun h => nomatch h), (fun h => nomatch h), trivial⟩, J, .inr ⟨[7], J, J, ⟨J, .inl J, ?_⟩, trivial⟩⟩
     refine (o_st (b := b775) (off := 0) (vs := [(U d3.1.f_Type), (U d3.1.Value), (U d3.2.1.f_Type), (U d3.2.1.Value), (U d3.2.2.f_Type), (U d3.2.2.Value)]) (cs' := [(U d3.1.f_Type), (U d3.1.Value), (U d3.2.1.f_Type), (U d3.2.1.Value), (U d3.2.2.f_Type), (U d3.2.2.Value)]) J J rp2 J J J J J J ?_)
     refine ⟨[], [], J, J, ?_⟩
     refine ⟨⟨(fun h => nomatch h), (fun h => nomatch h), trivial⟩, J, J, J, ?_⟩
     obtain rfl := si h
     exact ej () (b775, b773) trivial (sc J (sc J (sc J sn))) (kc rm1 (kc rm1 (kc rm0 (kd (kd kr)))))
    ·refine (o_alloc (cs := [(U 0), (U 0), (U 0), (U 0), (U 0), (U 0)]) J J (fun b773 => ?_))
     refine ⟨[], [2], J, J, J, J, ?_⟩
     refine ⟨⟨(fun h => nomatch h), fun _ => ⟨J, J, J, .inl ⟨J, (o_ld (b := b771) (off := 0) (v := (.agg (A [(U p1.Char), (O p1.Attr), (U p1.FA), (U p1.High), (U p1.Color), (U p1.f_Set)]))) J rm3 J J ⟨J, J⟩)⟩⟩, trivial⟩, J, .inr ⟨[3], J, J, ⟨J, .inl J, ?_⟩, trivial⟩⟩
     refine (o_call has83 J (c_attr_looks hg X p1 _ h3) (pc rm1 pn) ?_)
     refine ⟨[], [], J, J, J, J, ?_⟩
     refine ⟨⟨(fun h => nomatch h), (fun h => nomatch h), trivial⟩, J, .inr ⟨[6], J, J, ⟨J, .inl J, ?_⟩, trivial⟩⟩
     refine (o_st (b := b773) (off := 0) (vs := [(U d2.1.f_Type), (U d2.1.Value), (U d2.2.1.f_Type), (U d2.2.1.Value), (U d2.2.2.f_Type), (U d2.2.2.Value)]) (cs' := [(U d2.1.f_Type), (U d2.1.Value), (U d2.2.1.f_Type), (U d2.2.1.Value), (U d2.2.2.f_Type), (U d2.2.2.Value)]) J J rp1 J J J J J J ?_)
     refine ⟨[], [], J, J, ?_⟩
     refine ⟨⟨(fun h => nomatch h), (fun h => nomatch h), trivial⟩, J, .inr ⟨[7], J, J, ⟨J, .inl J, ?_⟩, trivial⟩⟩
     refine (o_st (b := b775) (off := 0) (vs := [(U d3.1.f_Type), (U d3.1.Value), (U d3.2.1.f_Type), (U d3.2.1.Value), (U d3.2.2.f_Type), (U d3.2.2.Value)]) (cs' := [(U d3.1.f_Type), (U d3.1.Value), (U d3.2.1.f_Type), (U d3.2.1.Value), (U d3.2.2.f_Type), (U d3.2.2.Value)]) J J rp2 J J J J J J ?_)
     refine ⟨[], [], J, J, ?_⟩
     refine ⟨⟨(fun h => nomatch h), (fun h => nomatch h), trivial⟩, J, J, J, ?_⟩
     obtain rfl := si h
     exact ej () (b775, b773) trivial (sc J (sc J (sc J sn))) (kc rm0 (kc rm1 (kc rm0 (kd (kd kr)))))
   ·refine (o_alloc (cs := [(U 0), (U 0), (U 0), (U 0), (U 0), (U 0)]) J J (fun b773 => ?_))
    refine ⟨[], [0, 2], J, J, J, J, ?_⟩
    refine ⟨⟨fun _ => ⟨J, J, J, .inl ⟨J, (o_ld (b := b769) (off := 0) (v := (.agg (A [(U p0.Char), (O p0.Attr), (U p0.FA), (U p0.High), (U p0.Color), (U p0.f_Set)]))) J rm3 J J ⟨J, J⟩)⟩⟩, fun _ => ⟨J, J, J, .inl ⟨J, (o_ld (b := b771) (off := 0) (v := (.agg (A [(U p1.Char), (O p1.Attr), (U p1.FA), (U p1.High), (U p1.Color), (U p1.f_Set)]))) J rm2 J J ⟨J, J⟩)⟩⟩, trivial⟩, J, .inr ⟨[1], J, J, ⟨J, .inl J, ?_⟩, trivial⟩⟩
    refine (o_call has83 J (c_attr_looks hg X p0 _ h2) (pc rm4 pn) ?_)
    refine ⟨[], [2], J, J, J, J, ?_⟩
    refine ⟨⟨(fun h => nomatch h), fun _ => ⟨J, J, J, .inl ⟨J, (o_ld (b := b771) (off := 0) (v := (.agg (A [(U p1.Char), (O p1.Attr), (U p1.FA), (U p1.High), (U p1.Color), (U p1.f_Set)]))) J rm3 J J ⟨J, J⟩)⟩⟩, trivial⟩, J, .inr ⟨[3], J, J, ⟨J, .inl J, ?_⟩, trivial⟩⟩
    refine (o_call has83 J (c_attr_looks hg X p1 _ h3) (pc rm0 pn) ?_)
    refine ⟨[], [], J, J, J, J, ?_⟩
    refine ⟨⟨(fun h => nomatch h), (fun h => nomatch h), trivial⟩, J, .inr ⟨[6], J, J, ⟨J, .inl J, ?_⟩, trivial⟩⟩
    refine (o_st (b := b773) (off := 0) (vs := [(U d2.1.f_Type), (U d2.1.Value), (U d2.2.1.f_Type), (U d2.2.1.Value), (U d2.2.2.f_Type), (U d2.2.2.Value)]) (cs' := [(U d2.1.f_Type), (U d2.1.Value), (U d2.2.1.f_Type), (U d2.2.1.Value), (U d2.2.2.f_Type), (U d2.2.2.Value)]) J J rp1 J J J J J J ?_)
    refine ⟨[], [], J, J, ?_⟩
    refine ⟨⟨(fun h => nomatch h), (fun h => nomatch h), trivial⟩, J, .inr ⟨[7], J, J, ⟨J, .inl J, ?_⟩, trivial⟩⟩
    refine (o_st (b := b775) (off := 0) (vs := [(U d3.1.f_Type), (U d3.1.Value), (U d3.2.1.f_Type), (U d3.2.1.Value), (U d3.2.2.f_Type), (U d3.2.2.Value)]) (cs' := [(U d3.1.f_Type), (U d3.1.Value), (U d3.2.1.f_Type), (U d3.2.1.Value), (U d3.2.2.f_Type), (U d3.2.2.Value)]) J J rp2 J J J J J J ?_)
    refine ⟨[], [], J, J, ?_⟩
    refine ⟨⟨(fun h => nomatch h), (fun h => nomatch h), trivial⟩, J, J, J, ?_⟩
    obtain rfl := si h
    exact ej () (b775, b773) trivial (sc J (sc J (sc J sn))) (kc rm0 (kc rm1 (kc rm0 (kd (kd kr)))))
 ·rintro _ i1 _
  replace h := hk1
  clear hk1
  refine e_seq (c_seq (cr ?_))
  refine o1 J (o_ld (b := i1.2) (off := 0) (v := (.agg (A [(U d1.2.2.2.2.2.2.1), (U d1.2.2.2.2.2.2.2.1), (U d1.2.2.2.2.2.2.2.2.1), (U d1.2.2.2.2.2.2.2.2.2.1), (U d1.2.2.2.2.2.2.2.2.2.2.1), (U d1.2.2.2.2.2.2.2.2.2.2.2)]))) J rm2 J J ?_)
  refine o1 J (o_ld (b := i1.1) (off := 0) (v := (.agg (A [(U d1.1), (U d1.2.1), (U d1.2.2.1), (U d1.2.2.2.1), (U d1.2.2.2.2.1), (U d1.2.2.2.2.2.1)]))) J rm1 J J ?_)
  refine o1 rfl (o_eqT (b := (((d1.2.2.2.2.2.2.1 == d1.1) && ((d1.2.2.2.2.2.2.2.1 == d1.2.1) && true)) && (((d1.2.2.2.2.2.2.2.2.1 == d1.2.2.1) && ((d1.2.2.2.2.2.2.2.2.2.1 == d1.2.2.2.1) && true)) && (((d1.2.2.2.2.2.2.2.2.2.2.1 == d1.2.2.2.2.1) && ((d1.2.2.2.2.2.2.2.2.2.2.2 == d1.2.2.2.2.2.1) && true)) && true)))) (xs := [(U d1.2.2.2.2.2.2.1), (U d1.2.2.2.2.2.2.2.1), (U d1.2.2.2.2.2.2.2.2.1), (U d1.2.2.2.2.2.2.2.2.2.1), (U d1.2.2.2.2.2.2.2.2.2.2.1), (U d1.2.2.2.2.2.2.2.2.2.2.2)]) (ys := [(U d1.1), (U d1.2.1), (U d1.2.2.1), (U d1.2.2.2.1), (U d1.2.2.2.2.1), (U d1.2.2.2.2.2.1)]) rfl rfl (by kernel_rfl) stood rfl ?_)
  refine oe ?_
  refine c_cond (b := (((d1.2.2.2.2.2.2.1 == d1.1) && ((d1.2.2.2.2.2.2.2.1 == d1.2.1) && true)) && (((d1.2.2.2.2.2.2.2.2.1 == d1.2.2.1) && ((d1.2.2.2.2.2.2.2.2.2.1 == d1.2.2.2.1) && true)) && (((d1.2.2.2.2.2.2.2.2.2.2.1 == d1.2.2.2.2.1) && ((d1.2.2.2.2.2.2.2.2.2.2.2 == d1.2.2.2.2.2.1) && true)) && true)))) J (fun hb797 => ?_) (fun hb797 => ?_)
  ·replace h := cond_t hb797 h
   refine cr (op J J (oe (c_ret ?_)))
   refine e_then_ret (e_ret ?_)
   refine r_add (slO SV.nil 93 en_Vattr_Pair []) (slO_nil _ _ _) ?_
   refine r_endt J J (kc rm1 (kc rm0 (kd (kd kr)))) ?_
   obtain rfl := si h
   exact hk SV.nil
  ·replace h := cond_f hb797 h
   refine c_skip (e_seq (c_seq (cr ?_)))
   refine o1 J (o_ld (b := i1.1) (off := 0) (v := (.agg (A [(U d1.1), (U d1.2.1), (U d1.2.2.1), (U d1.2.2.2.1), (U d1.2.2.2.2.1), (U d1.2.2.2.2.2.1)]))) J rm1 J J ?_)
   refine op J J (oe ?_)
   replace h := bsome h
   obtain ⟨d5, h, hk5⟩ := h
   refine cj (D := Unit) (ι := SV) (fun _ i5 => True) (fun _ i5 => [(5, (V i5))]) (fun _ i5 => X :: slO i5 93 en_Vattr_Pair d5 :: R) ?_ ?_
   ·refine c_block ?_
    refine c_add (slO SV.nil 93 en_Vattr_Pair []) (slO_nil _ _ _) ?_
    refine c_loop (l_sub (sc J (sc J (sc J (sc J sn)))) (l_keep (kc rm1 (kc rm2 (kc rm0 (kd kr)))) (lf (X := Int × (List Vattr_Pair)) (ι := SV) (fun k x => attr_Diff_l6 d1 k x) _ (fun x6 i6 => True) (fun x6 i6 => [(18, (I x6.1)), (17, (.agg (A [(U d1.1), (U d1.2.1), (U d1.2.2.1), (U d1.2.2.2.1), (U d1.2.2.2.2.1), (U d1.2.2.2.2.2.1)]))), (6, (F i1.2 0)), (5, (V i6))]) (fun x6 i6 => X :: blk i1.2 (.cells (A [(U d1.2.2.2.2.2.2.1), (U d1.2.2.2.2.2.2.2.1), (U d1.2.2.2.2.2.2.2.2.1), (U d1.2.2.2.2.2.2.2.2.2.1), (U d1.2.2.2.2.2.2.2.2.2.2.1), (U d1.2.2.2.2.2.2.2.2.2.2.2)]) 166 (0, 0)) :: slO i6 93 en_Vattr_Pair x6.2 :: R) (fun _ => J) ?_ fuel (0, ([] : List Vattr_Pair)) SV.nil trivial h)))
    clear h
    rintro k6 ih6 x6 i6 _ h
    rw [attr_Diff_l6.eq_2] at h
    refine l_round (cr ?_)
    refine o1 J (o_p (v := (O (decide (x6.1 < 3)))) J ?_)
    refine oe (c_seq ?_)
    refine c_cond (b := (decide (x6.1 < 3))) J (fun hb823 => ?_) (fun hb823 => ?_)
    ·replace h := cond_t hb823 h
     refine c_skip (e_seq (c_seq (c_block (cr ?_))))
     refine op J J ?_
     replace h := gsome h
     obtain ⟨hg824, h⟩ := h
     refine o1 J (o_aidx (e := en_Vattr_Pair) (l := [(⟨d1.1, d1.2.1⟩ : Vattr_Pair), (⟨d1.2.2.1, d1.2.2.2.1⟩ : Vattr_Pair), (⟨d1.2.2.2.2.1, d1.2.2.2.2.2.1⟩ : Vattr_Pair)]) (n := x6.1) (v := (.agg (A [(U ((rd [(⟨d1.1, d1.2.1⟩ : Vattr_Pair), (⟨d1.2.2.1, d1.2.2.2.1⟩ : Vattr_Pair), (⟨d1.2.2.2.2.1, d1.2.2.2.2.2.1⟩ : Vattr_Pair)] x6.1).f_Type)), (U ((rd [(⟨d1.1, d1.2.1⟩ : Vattr_Pair), (⟨d1.2.2.1, d1.2.2.2.1⟩ : Vattr_Pair), (⟨d1.2.2.2.2.1, d1.2.2.2.2.2.1⟩ : Vattr_Pair)] x6.1).Value))]))) J J J J J J J J hg824 J ?_)
     refine o1 J (o_alloc (cs := [(U 0), (U 0)]) J J (fun b825 => ?_))
     refine op J J ?_
     refine o0 (o_st (b := b825) (off := 0) (vs := [(U ((rd [(⟨d1.1, d1.2.1⟩ : Vattr_Pair), (⟨d1.2.2.1, d1.2.2.2.1⟩ : Vattr_Pair), (⟨d1.2.2.2.2.1, d1.2.2.2.2.2.1⟩ : Vattr_Pair)] x6.1).f_Type)), (U ((rd [(⟨d1.1, d1.2.1⟩ : Vattr_Pair), (⟨d1.2.2.1, d1.2.2.2.1⟩ : Vattr_Pair), (⟨d1.2.2.2.2.1, d1.2.2.2.2.2.1⟩ : Vattr_Pair)] x6.1).Value))]) (cs' := [(U ((rd [(⟨d1.1, d1.2.1⟩ : Vattr_Pair), (⟨d1.2.2.1, d1.2.2.2.1⟩ : Vattr_Pair), (⟨d1.2.2.2.2.1, d1.2.2.2.2.2.1⟩ : Vattr_Pair)] x6.1).f_Type)), (U ((rd [(⟨d1.1, d1.2.1⟩ : Vattr_Pair), (⟨d1.2.2.1, d1.2.2.2.1⟩ : Vattr_Pair), (⟨d1.2.2.2.2.1, d1.2.2.2.2.2.1⟩ : Vattr_Pair)] x6.1).Value))]) J J rp0 J J J J J J ?_)
     refine oe (c_seq ?_)
     replace h := gsome h
     obtain ⟨hg827, h⟩ := h
     refine c_draw (n := 0) (q := [(0, 22, (I x6.1)), (1, 23, (F i1.2 (0 + Int.toNat x6.1 * 2))), (2, 24, (.agg (A [(U ((rd [(⟨d1.2.2.2.2.2.2.1, d1.2.2.2.2.2.2.2.1⟩ : Vattr_Pair), (⟨d1.2.2.2.2.2.2.2.2.1, d1.2.2.2.2.2.2.2.2.2.1⟩ : Vattr_Pair), (⟨d1.2.2.2.2.2.2.2.2.2.2.1, d1.2.2.2.2.2.2.2.2.2.2.2⟩ : Vattr_Pair)] x6.1).f_Type)), (U ((rd [(⟨d1.2.2.2.2.2.2.1, d1.2.2.2.2.2.2.2.1⟩ : Vattr_Pair), (⟨d1.2.2.2.2.2.2.2.2.1, d1.2.2.2.2.2.2.2.2.2.1⟩ : Vattr_Pair), (⟨d1.2.2.2.2.2.2.2.2.2.2.1, d1.2.2.2.2.2.2.2.2.2.2.2⟩ : Vattr_Pair)] x6.1).Value))]))), (3, 25, (.agg (A [(U ((rd [(⟨d1.1, d1.2.1⟩ : Vattr_Pair), (⟨d1.2.2.1, d1.2.2.2.1⟩ : Vattr_Pair), (⟨d1.2.2.2.2.1, d1.2.2.2.2.2.1⟩ : Vattr_Pair)] x6.1).f_Type)), (U ((rd [(⟨d1.1, d1.2.1⟩ : Vattr_Pair), (⟨d1.2.2.1, d1.2.2.2.1⟩ : Vattr_Pair), (⟨d1.2.2.2.2.1, d1.2.2.2.2.2.1⟩ : Vattr_Pair)] x6.1).Value))]))), (4, 26, (O (!((((rd [(⟨d1.2.2.2.2.2.2.1, d1.2.2.2.2.2.2.2.1⟩ : Vattr_Pair), (⟨d1.2.2.2.2.2.2.2.2.1, d1.2.2.2.2.2.2.2.2.2.1⟩ : Vattr_Pair), (⟨d1.2.2.2.2.2.2.2.2.2.2.1, d1.2.2.2.2.2.2.2.2.2.2.2⟩ : Vattr_Pair)] x6.1).f_Type) == ((rd [(⟨d1.1, d1.2.1⟩ : Vattr_Pair), (⟨d1.2.2.1, d1.2.2.2.1⟩ : Vattr_Pair), (⟨d1.2.2.2.2.1, d1.2.2.2.2.2.1⟩ : Vattr_Pair)] x6.1).f_Type)) && ((((rd [(⟨d1.2.2.2.2.2.2.1, d1.2.2.2.2.2.2.2.1⟩ : Vattr_Pair), (⟨d1.2.2.2.2.2.2.2.2.1, d1.2.2.2.2.2.2.2.2.2.1⟩ : Vattr_Pair), (⟨d1.2.2.2.2.2.2.2.2.2.2.1, d1.2.2.2.2.2.2.2.2.2.2.2⟩ : Vattr_Pair)] x6.1).Value) == ((rd [(⟨d1.1, d1.2.1⟩ : Vattr_Pair), (⟨d1.2.2.1, d1.2.2.2.1⟩ : Vattr_Pair), (⟨d1.2.2.2.2.1, d1.2.2.2.2.2.1⟩ : Vattr_Pair)] x6.1).Value)) && true)))))]) (pend := [0, 1, 2, 3, 4]) J J J ?_
     refine ⟨⟨fun _ => ⟨rfl, rfl, rfl, .inl ⟨rfl, (o_p rfl ⟨rfl, rfl⟩)⟩⟩, fun _ => ⟨rfl, rfl, rfl, .inl ⟨rfl, (o_ixA (n := x6.1) (e := en_Vattr_Pair) rfl rfl rfl rfl rfl rfl hg827 ⟨rfl, rfl⟩)⟩⟩, fun _ => ⟨rfl, rfl, rfl, .inl ⟨rfl, (o_ldA (e := en_Vattr_Pair) (l := [(⟨d1.2.2.2.2.2.2.1, d1.2.2.2.2.2.2.2.1⟩ : Vattr_Pair), (⟨d1.2.2.2.2.2.2.2.2.1, d1.2.2.2.2.2.2.2.2.2.1⟩ : Vattr_Pair), (⟨d1.2.2.2.2.2.2.2.2.2.2.1, d1.2.2.2.2.2.2.2.2.2.2.2⟩ : Vattr_Pair)]) (n := x6.1) (f := 0) (off := 0) (b := i1.2) (c1 := []) (c2 := []) (v := (.agg (A [(U ((rd [(⟨d1.2.2.2.2.2.2.1, d1.2.2.2.2.2.2.2.1⟩ : Vattr_Pair), (⟨d1.2.2.2.2.2.2.2.2.1, d1.2.2.2.2.2.2.2.2.2.1⟩ : Vattr_Pair), (⟨d1.2.2.2.2.2.2.2.2.2.2.1, d1.2.2.2.2.2.2.2.2.2.2.2⟩ : Vattr_Pair)] x6.1).f_Type)), (U ((rd [(⟨d1.2.2.2.2.2.2.1, d1.2.2.2.2.2.2.2.1⟩ : Vattr_Pair), (⟨d1.2.2.2.2.2.2.2.2.1, d1.2.2.2.2.2.2.2.2.2.1⟩ : Vattr_Pair), (⟨d1.2.2.2.2.2.2.2.2.2.2.1, d1.2.2.2.2.2.2.2.2.2.2.2⟩ : Vattr_Pair)] x6.1).Value))]))) rfl rfl rm2 hg827 rfl rfl ⟨rfl, rfl⟩)⟩⟩, fun _ => ⟨rfl, rfl, rfl, .inl ⟨rfl, (o_ld (b := b825) (off := 0) (v := (.agg (A [(U ((rd [(⟨d1.1, d1.2.1⟩ : Vattr_Pair), (⟨d1.2.2.1, d1.2.2.2.1⟩ : Vattr_Pair), (⟨d1.2.2.2.2.1, d1.2.2.2.2.2.1⟩ : Vattr_Pair)] x6.1).f_Type)), (U ((rd [(⟨d1.1, d1.2.1⟩ : Vattr_Pair), (⟨d1.2.2.1, d1.2.2.2.1⟩ : Vattr_Pair), (⟨d1.2.2.2.2.1, d1.2.2.2.2.2.1⟩ : Vattr_Pair)] x6.1).Value))]))) rfl rm0 rfl rfl ⟨rfl, rfl⟩)⟩⟩, fun _ => ⟨rfl, rfl, rfl, .inl ⟨rfl, (o_neT (b := ((((rd [(⟨d1.2.2.2.2.2.2.1, d1.2.2.2.2.2.2.2.1⟩ : Vattr_Pair), (⟨d1.2.2.2.2.2.2.2.2.1, d1.2.2.2.2.2.2.2.2.2.1⟩ : Vattr_Pair), (⟨d1.2.2.2.2.2.2.2.2.2.2.1, d1.2.2.2.2.2.2.2.2.2.2.2⟩ : Vattr_Pair)] x6.1).f_Type) == ((rd [(⟨d1.1, d1.2.1⟩ : Vattr_Pair), (⟨d1.2.2.1, d1.2.2.2.1⟩ : Vattr_Pair), (⟨d1.2.2.2.2.1, d1.2.2.2.2.2.1⟩ : Vattr_Pair)] x6.1).f_Type)) && ((((rd [(⟨d1.2.2.2.2.2.2.1, d1.2.2.2.2.2.2.2.1⟩ : Vattr_Pair), (⟨d1.2.2.2.2.2.2.2.2.1, d1.2.2.2.2.2.2.2.2.2.1⟩ : Vattr_Pair), (⟨d1.2.2.2.2.2.2.2.2.2.2.1, d1.2.2.2.2.2.2.2.2.2.2.2⟩ : Vattr_Pair)] x6.1).Value) == ((rd [(⟨d1.1, d1.2.1⟩ : Vattr_Pair), (⟨d1.2.2.1, d1.2.2.2.1⟩ : Vattr_Pair), (⟨d1.2.2.2.2.1, d1.2.2.2.2.2.1⟩ : Vattr_Pair)] x6.1).Value)) && true))) (xs := [(U ((rd [(⟨d1.2.2.2.2.2.2.1, d1.2.2.2.2.2.2.2.1⟩ : Vattr_Pair), (⟨d1.2.2.2.2.2.2.2.2.1, d1.2.2.2.2.2.2.2.2.2.1⟩ : Vattr_Pair), (⟨d1.2.2.2.2.2.2.2.2.2.2.1, d1.2.2.2.2.2.2.2.2.2.2.2⟩ : Vattr_Pair)] x6.1).f_Type)), (U ((rd [(⟨d1.2.2.2.2.2.2.1, d1.2.2.2.2.2.2.2.1⟩ : Vattr_Pair), (⟨d1.2.2.2.2.2.2.2.2.1, d1.2.2.2.2.2.2.2.2.2.1⟩ : Vattr_Pair), (⟨d1.2.2.2.2.2.2.2.2.2.2.1, d1.2.2.2.2.2.2.2.2.2.2.2⟩ : Vattr_Pair)] x6.1).Value))]) (ys := [(U ((rd [(⟨d1.1, d1.2.1⟩ : Vattr_Pair), (⟨d1.2.2.1, d1.2.2.2.1⟩ : Vattr_Pair), (⟨d1.2.2.2.2.1, d1.2.2.2.2.2.1⟩ : Vattr_Pair)] x6.1).f_Type)), (U ((rd [(⟨d1.1, d1.2.1⟩ : Vattr_Pair), (⟨d1.2.2.1, d1.2.2.2.1⟩ : Vattr_Pair), (⟨d1.2.2.2.2.1, d1.2.2.2.2.2.1⟩ : Vattr_Pair)] x6.1).Value))]) rfl rfl (by kernel_rfl) stood rfl ⟨rfl, rfl⟩)⟩⟩, trivial⟩, rfl, rfl, rfl, ?_⟩
     refine e_seq ?_
     replace h := bsome h
     obtain ⟨d10, h, hk10⟩ := h
     refine cj (D := Unit) (ι := SV) (fun _ i10 => True) (fun _ i10 => [(5, (V i10)), (18, (I x6.1)), (17, (.agg (A [(U d1.1), (U d1.2.1), (U d1.2.2.1), (U d1.2.2.2.1), (U d1.2.2.2.2.1), (U d1.2.2.2.2.2.1)]))), (6, (F i1.2 0))]) (fun _ i10 => X :: slO i10 93 en_Vattr_Pair d10 :: blk i1.2 (.cells (A [(U d1.2.2.2.2.2.2.1), (U d1.2.2.2.2.2.2.2.1), (U d1.2.2.2.2.2.2.2.2.1), (U d1.2.2.2.2.2.2.2.2.2.1), (U d1.2.2.2.2.2.2.2.2.2.2.1), (U d1.2.2.2.2.2.2.2.2.2.2.2)]) 166 (0, 0)) :: R) ?_ ?_
     ·refine c_cond (b := (!((((rd [(⟨d1.2.2.2.2.2.2.1, d1.2.2.2.2.2.2.2.1⟩ : Vattr_Pair), (⟨d1.2.2.2.2.2.2.2.2.1, d1.2.2.2.2.2.2.2.2.2.1⟩ : Vattr_Pair), (⟨d1.2.2.2.2.2.2.2.2.2.2.1, d1.2.2.2.2.2.2.2.2.2.2.2⟩ : Vattr_Pair)] x6.1).f_Type) == ((rd [(⟨d1.1, d1.2.1⟩ : Vattr_Pair), (⟨d1.2.2.1, d1.2.2.2.1⟩ : Vattr_Pair), (⟨d1.2.2.2.2.1, d1.2.2.2.2.2.1⟩ : Vattr_Pair)] x6.1).f_Type)) && ((((rd [(⟨d1.2.2.2.2.2.2.1, d1.2.2.2.2.2.2.2.1⟩ : Vattr_Pair), (⟨d1.2.2.2.2.2.2.2.2.1, d1.2.2.2.2.2.2.2.2.2.1⟩ : Vattr_Pair), (⟨d1.2.2.2.2.2.2.2.2.2.2.1, d1.2.2.2.2.2.2.2.2.2.2.2⟩ : Vattr_Pair)] x6.1).Value) == ((rd [(⟨d1.1, d1.2.1⟩ : Vattr_Pair), (⟨d1.2.2.1, d1.2.2.2.1⟩ : Vattr_Pair), (⟨d1.2.2.2.2.1, d1.2.2.2.2.2.1⟩ : Vattr_Pair)] x6.1).Value)) && true)))) J (fun hb828 => ?_) (fun hb828 => ?_)
      ·replace h := cond_t hb828 h
       refine c_region (op J J ?_)
       refine o1 J (o_ld (b := b825) (off := 0) (v := (.agg (A [(U ((rd [(⟨d1.1, d1.2.1⟩ : Vattr_Pair), (⟨d1.2.2.1, d1.2.2.2.1⟩ : Vattr_Pair), (⟨d1.2.2.2.2.1, d1.2.2.2.2.2.1⟩ : Vattr_Pair)] x6.1).f_Type)), (U ((rd [(⟨d1.1, d1.2.1⟩ : Vattr_Pair), (⟨d1.2.2.1, d1.2.2.2.1⟩ : Vattr_Pair), (⟨d1.2.2.2.2.1, d1.2.2.2.2.2.1⟩ : Vattr_Pair)] x6.1).Value))]))) J rm0 J J ?_)
       refine o1 J (o_bs (e := en_Vattr_Pair) (l := [(rd [(⟨d1.1, d1.2.1⟩ : Vattr_Pair), (⟨d1.2.2.1, d1.2.2.2.1⟩ : Vattr_Pair), (⟨d1.2.2.2.2.1, d1.2.2.2.2.2.1⟩ : Vattr_Pair)] x6.1)]) (zs := [(U 0), (U 0)]) J J J J J J J J J J (fun s829 => ?_))
       replace h := gsome h
       obtain ⟨hg831, h⟩ := h
       refine o1 J (o_app (s := i6) (r := s829) (e := en_Vattr_Pair) (l := x6.2) (l2 := [(rd [(⟨d1.1, d1.2.1⟩ : Vattr_Pair), (⟨d1.2.2.1, d1.2.2.2.1⟩ : Vattr_Pair), (⟨d1.2.2.2.2.1, d1.2.2.2.2.2.1⟩ : Vattr_Pair)] x6.1)]) (zs := [(U 0), (U 0)]) J J J J J J J J J J J rm4 rm0 (rd_own _ _ _ _) hg831 (fun s832 => ?_))
       refine op J J (o_end ?_)
       obtain rfl := si h
       exact ej () s832 trivial (sc J (sc J (sc J (sc J sn)))) (kc rm3 (kc rm0 (kc rm2 (kd (kd kr)))))
      ·replace h := cond_f hb828 h
       refine c_skip ?_
       obtain rfl := si h
       exact ej () i6 trivial (sc J (sc J (sc J (sc J sn)))) (kc rm1 (kc rm2 (kc rm1 (kd kr))))
     ·rintro _ i10 _
      replace h := hk10
      clear hk10
      refine e_blk (e_seq (c_region ?_))
      refine o1 J (o_p (v := (I (w64 (x6.1 + 1)))) J ?_)
      refine op J J (o_end ?_)
      exact e_loop (l_sub (sc J (sc J (sc J (sc J sn)))) (l_keep (kc rm0 (kc rm1 (kc rm0 kr))) (ih6 (w64 (x6.1 + 1), d10) i10 trivial h)))
    ·replace h := cond_f hb823 h
     refine c_exit (e_then_exit (e_then_exit (e_blk_exit ?_)))
     obtain rfl := si h
     exact ej () i6 trivial (sc J sn) (kc rm0 (kc rm1 (kd kr)))
   ·rintro _ i5 _
    replace h := hk5
    clear hk5
    refine e_seq (cr (op J J (op J J (o_end ?_))))
    refine e_seq (c_ret (e_ret ?_))
    refine r_endt J J (kc rm0 (kc rm0 kr)) ?_
    obtain rfl := si h
    exact hk i5

theorem c_read_sender_character {g : Gw} (hg : GK g) (X : HP) (p0 : Vread_sender) (b0 : Nat) (s0 : SV) (p1 : Vapi_Cell) (r : Vread_sender) (h : m_read_sender_character p0 p1 = some r) : Tri env g 27 (A [(F b0 0), (.agg (A [(U p1.Char), (O p1.Attr), (U p1.FA), (U p1.High), (U p1.Color), (U p1.f_Set)]))]) [X, blk b0 (.cells (A [(V s0), (U p0.last.Char), (O p0.last.Attr), (U p0.last.FA), (U p0.last.High), (U p0.last.Color), (U p0.last.f_Set), (I p0.mode)]) 78 (0, 0)), slO s0 5 (enI .u8) p0.out] (fun K R => ∀ (i0 : SV), K (.tuple (A [])) (X :: blk b0 (.cells (A [(V i0), (U r.last.Char), (O r.last.Attr), (U r.last.FA), (U r.last.High), (U r.last.Color), (U r.last.f_Set), (I r.mode)]) 78 (0, 0)) :: slO i0 5 (enI .u8) r.out :: R)) := by
 refine tri_of (fn := Tryz.f27) (N := 69) Tryz.func27 J J J ?_
 intro R K hk
 unfold m_read_sender_character at h
 change GC _ none _ [] [(0, (F b0 0)), (1, (.agg (A [(U p1.Char), (O p1.Attr), (U p1.FA), (U p1.High), (U p1.Color), (U p1.f_Set)])))] (X :: blk b0 (.cells (A [(V s0), (U p0.last.Char), (O p0.last.Attr), (U p0.last.FA), (U p0.last.High), (U p0.last.Color), (U p0.last.f_Set), (I p0.mode)]) 78 (0, 0)) :: slO s0 5 (enI .u8) p0.out :: R) g _ _
 refine cr ?_
 refine o1 J (o_box (cs := [(U p1.Char), (O p1.Attr), (U p1.FA), (U p1.High), (U p1.Color), (U p1.f_Set)]) J J (fun b766 => ?_))
 refine oe (c_seq ?_)
 replace h := bsome h
 obtain ⟨d1, h, hk1⟩ := h
 refine cj (D := Unit) (ι := SV) (fun _ i1 => True) (fun _ i1 => [(3, (F b766 0)), (0, (F b0 0))]) (fun _ i1 => X :: blk b766 (.cells (A [(U p1.Char), (O p1.Attr), (U p1.FA), (U p1.High), (U p1.Color), (U p1.f_Set)]) 49 (0, 0)) :: blk b0 (.cells (A [(V i1), (U d1.2.1), (O d1.2.2.1), (U d1.2.2.2.1), (U d1.2.2.2.2.1), (U d1.2.2.2.2.2.1), (U d1.2.2.2.2.2.2), (I p0.mode)]) 78 (0, 0)) :: slO i1 5 (enI .u8) d1.1 :: R) ?_ ?_
 ·refine c_block (cr (op J J (op J J ?_)))
  refine o1 J (o_fa (fd := ⟨ "mode", 3, 7, false, "", "vitrine/read", 32⟩) J J J J J ?_)
  refine o1 J (o_ld (b := b0) (off := 7) (v := (I p0.mode)) J rm2 J J ?_)
  refine o1 J (o_p (v := (O (p0.mode == 2))) J ?_)
  refine op J J (oe ?_)
  replace h := bsome h
  obtain ⟨d2, h, hk2⟩ := h
  refine cj (D := Unit) (ι := SV) (fun _ i2 => True) (fun _ i2 => [(3, (F b766 0)), (0, (F b0 0))]) (fun _ i2 => X :: blk b766 (.cells (A [(U p1.Char), (O p1.Attr), (U p1.FA), (U p1.High), (U p1.Color), (U p1.f_Set)]) 49 (0, 0)) :: blk b0 (.cells (A [(V i2), (U d2.2.1), (O d2.2.2.1), (U d2.2.2.2.1), (U d2.2.2.2.2.1), (U d2.2.2.2.2.2.1), (U d2.2.2.2.2.2.2), (I p0.mode)]) 78 (0, 0)) :: slO i2 5 (enI .u8) d2.1 :: R) ?_ ?_
  ·refine c_cond (b := (p0.mode == 2)) J (fun hb768 => ?_) (fun hb768 => ?_)
   ·replace h := cond_t hb768 h
    refine c_seq (c_seq ?_)
    refine c_draw (n := 1) (q := [(0, 13, (F b0 0)), (1, 14, (F b0 0)), (2, 15, (F b0 1)), (3, 16, (.agg (A [(U p0.last.Char), (O p0.last.Attr), (U p0.last.FA), (U p0.last.High), (U p0.last.Color), (U p0.last.f_Set)]))), (4, 17, (.agg (A [(U p1.Char), (O p1.Attr), (U p1.FA), (U p1.High), (U p1.Color), (U p1.f_Set)]))), (7, 20, (I 0))]) (pend := [0, 1, 2, 3, 4, 7]) J J J ?_
    replace h := bsome h
    obtain ⟨d4, h4, h⟩ := h
    refine ⟨⟨fun _ => ⟨J, J, J, .inl ⟨J, (o_p J ⟨J, J⟩)⟩⟩, fun _ => ⟨J, J, J, .inl ⟨J, (o_p J ⟨J, J⟩)⟩⟩, fun _ => ⟨J, J, J, .inl ⟨J, (o_fa (fd := ⟨ "last", 49, 1, false, "", "vitrine/read", 24⟩) J J J J J ⟨J, J⟩)⟩⟩, fun _ => ⟨J, J, J, .inl ⟨J, (o_ld (b := b0) (off := 1) (v := (.agg (A [(U p0.last.Char), (O p0.last.Attr), (U p0.last.FA), (U p0.last.High), (U p0.last.Color), (U p0.last.f_Set)]))) J rm2 J J ⟨J, J⟩)⟩⟩, fun _ => ⟨J, J, J, .inl ⟨J, (o_ld (b := b766) (off := 0) (v := (.agg (A [(U p1.Char), (O p1.Attr), (U p1.FA), (U p1.High), (U p1.Color), (U p1.f_Set)]))) J rm0 J J ⟨J, J⟩)⟩⟩, fun _ => ⟨J, J, J, .inl ⟨J, (o_p J ⟨J, J⟩)⟩⟩, trivial⟩, J, .inr ⟨[5], J, J, ⟨J, .inl J, ?_⟩, trivial⟩⟩
    refine (o_call has57 J (c_attr_Diff hg X p0.last p1 _ h4) (pc rm1 pn) (fun i4 => ?_))
    refine ⟨[(6, 19, (I (d4.length : Int)))], [7, 6], J, J, J, J, ?_⟩
    refine ⟨⟨fun _ => ⟨J, J, J, .inl ⟨J, (o_len (s := i4) J J J rm1 (rd_own _ _ _ _) ⟨J, J⟩)⟩⟩, (fun h => nomatch h), (fun h => nomatch h), (fun h => nomatch h), (fun h => nomatch h), (fun h => nomatch h), fun _ => ⟨J, J, J, .inl ⟨J, (o_p J ⟨J, J⟩)⟩⟩, trivial⟩, J, J, J, ?_⟩
    refine e_seq ?_
    replace h := bsome h
    obtain ⟨d5, h, hk5⟩ := h
    refine cj (D := Unit) (ι := SV) (fun _ i5 => True) (fun _ i5 => [(3, (F b766 0)), (0, (F b0 0))]) (fun _ i5 => X :: blk b766 (.cells (A [(U p1.Char), (O p1.Attr), (U p1.FA), (U p1.High), (U p1.Color), (U p1.f_Set)]) 49 (0, 0)) :: blk b0 (.cells (A [(V i5), (U p0.last.Char), (O p0.last.Attr), (U p0.last.FA), (U p0.last.High), (U p0.last.Color), (U p0.last.f_Set), (I p0.mode)]) 78 (0, 0)) :: slO i5 5 (enI .u8) d5 :: R) ?_ ?_
    ·refine c_block ?_
     refine c_loop (l_sub (sc J (sc J (sc J (sc J (sc J sn))))) (l_keep (kc rm0 (kc rm0 (kc rm0 (kc rm0 (kc rm0 kr))))) (lf (X := Int × (List Int)) (ι := SV) (fun k x => read_sender_character_l6 d4 k x) _ (fun x6 i6 => True) (fun x6 i6 => [(19, (I (d4.length : Int))), (18, (V i4)), (20, (I x6.1)), (3, (F b766 0)), (0, (F b0 0))]) (fun x6 i6 => X :: slO i4 93 en_Vattr_Pair d4 :: blk b766 (.cells (A [(U p1.Char), (O p1.Attr), (U p1.FA), (U p1.High), (U p1.Color), (U p1.f_Set)]) 49 (0, 0)) :: blk b0 (.cells (A [(V i6), (U p0.last.Char), (O p0.last.Attr), (U p0.last.FA), (U p0.last.High), (U p0.last.Color), (U p0.last.f_Set), (I p0.mode)]) 78 (0, 0)) :: slO i6 5 (enI .u8) x6.2 :: R) (fun _ => J) ?_ fuel (0, p0.out) s0 trivial h)))
     clear h
     rintro k6 ih6 x6 i6 _ h
     rw [read_sender_character_l6.eq_2] at h
     refine l_round (cr ?_)
     refine o1 J (o_p (v := (O (decide (x6.1 < (d4.length : Int))))) J ?_)
     refine oe (c_seq ?_)
     refine c_cond (b := (decide (x6.1 < (d4.length : Int)))) J (fun hb861 => ?_) (fun hb861 => ?_)
     ·replace h := cond_t hb861 h
      refine c_skip (e_seq (c_seq (c_block (cr ?_))))
      replace h := gsome h
      obtain ⟨hg862, h⟩ := h
      refine o1 J (o_ix (s := i4) (n := x6.1) (e := en_Vattr_Pair) J J J J J J rm1 (rd_own _ _ _ _) hg862 ?_)
      refine o1 J (o_ldE (s := i4) (e := en_Vattr_Pair) (n := x6.1) (f := 0) (v := (.agg (A [(U ((rd d4 x6.1).f_Type)), (U ((rd d4 x6.1).Value))]))) J rm1 (rd_own _ _ _ _) hg862 J J ?_)
      refine o1 J (o_alloc (cs := [(U 0), (U 0)]) J J (fun b863 => ?_))
      refine o0 (o_st (b := b863) (off := 0) (vs := [(U ((rd d4 x6.1).f_Type)), (U ((rd d4 x6.1).Value))]) (cs' := [(U ((rd d4 x6.1).f_Type)), (U ((rd d4 x6.1).Value))]) J J rp0 J J J J J J ?_)
      refine oe ?_
      refine c_draw (n := 3) (q := [(0, 24, (F b0 0)), (1, 25, (F b0 0)), (2, 26, (F b0 0)), (3, 27, (F b0 0)), (4, 28, (V i6)), (5, 29, (F b863 0)), (6, 30, (U ((rd d4 x6.1).f_Type))), (7, 31, (F b863 1)), (8, 32, (U ((rd d4 x6.1).Value)))]) (pend := [0, 1, 2, 3, 4, 5, 6, 7, 8]) J J J ?_
      refine ⟨⟨fun _ => ⟨J, J, J, .inl ⟨J, (o_p J ⟨J, J⟩)⟩⟩, fun _ => ⟨J, J, J, .inl ⟨J, (o_p J ⟨J, J⟩)⟩⟩, fun _ => ⟨J, J, J, .inl ⟨J, (o_p J ⟨J, J⟩)⟩⟩, fun _ => ⟨J, J, J, .inl ⟨J, (o_fa (fd := ⟨ "out", 28, 0, false, "", "vitrine/read", 0⟩) J J J J J ⟨J, J⟩)⟩⟩, fun _ => ⟨J, J, J, .inl ⟨J, (o_ld (b := b0) (off := 0) (v := (V i6)) J rm4 J J ⟨J, J⟩)⟩⟩, fun _ => ⟨J, J, J, .inl ⟨J, (o_fa (fd := ⟨ "Type", 5, 0, false, "", "", 0⟩) J J J J J ⟨J, J⟩)⟩⟩, fun _ => ⟨J, J, J, .inl ⟨J, (o_ld (b := b863) (off := 0) (v := (U ((rd d4 x6.1).f_Type))) J rm0 J J ⟨J, J⟩)⟩⟩, fun _ => ⟨J, J, J, .inl ⟨J, (o_fa (fd := ⟨ "Value", 5, 1, false, "", "", 1⟩) J J J J J ⟨J, J⟩)⟩⟩, fun _ => ⟨J, J, J, .inl ⟨J, (o_ld (b := b863) (off := 1) (v := (U ((rd d4 x6.1).Value))) J rm0 J J ⟨J, J⟩)⟩⟩, trivial⟩, J, .inr ⟨[9], J, J, ⟨J, .inl J, ?_⟩, trivial⟩⟩
      refine (o_bs (e := (enI .u8)) (l := [40, (rd d4 x6.1).f_Type, (rd d4 x6.1).Value]) (zs := [(U 0)]) J J J J J J J J J J (fun s865 => ?_))
      refine ⟨[], [0, 1, 2, 3, 4], J, J, J, J, ?_⟩
      replace h := gsome h
      obtain ⟨hg867, h⟩ := h
      refine ⟨⟨fun _ => ⟨J, J, J, .inl ⟨J, (o_p J ⟨J, J⟩)⟩⟩, fun _ => ⟨J, J, J, .inl ⟨J, (o_p J ⟨J, J⟩)⟩⟩, fun _ => ⟨J, J, J, .inl ⟨J, (o_p J ⟨J, J⟩)⟩⟩, fun _ => ⟨J, J, J, .inl ⟨J, (o_fa (fd := ⟨ "out", 28, 0, false, "", "vitrine/read", 0⟩) J J J J J ⟨J, J⟩)⟩⟩, fun _ => ⟨J, J, J, .inl ⟨J, (o_ld (b := b0) (off := 0) (v := (V i6)) J rm5 J J ⟨J, J⟩)⟩⟩, (fun h => nomatch h), (fun h => nomatch h), (fun h => nomatch h), (fun h => nomatch h), trivial⟩, J, .inr ⟨[10], J, J, ⟨J, .inl J, ?_⟩, trivial⟩⟩
      refine (o_app (s := i6) (r := s865) (e := (enI .u8)) (l := x6.2) (l2 := [40, (rd d4 x6.1).f_Type, (rd d4 x6.1).Value]) (zs := [(U 0)]) J J J J J J J J J J J rm6 rm0 (rd_own _ _ _ _) hg867 (fun s868 => ?_))
      refine ⟨[(11, 35, (F b0 0)), (12, 36, (F b0 0))], [0, 11, 12], J, J, J, J, ?_⟩
      refine ⟨⟨fun _ => ⟨J, J, J, .inl ⟨J, (o_p J ⟨J, J⟩)⟩⟩, fun _ => ⟨J, J, J, .inl ⟨J, (o_fa (fd := ⟨ "out", 28, 0, false, "", "vitrine/read", 0⟩) J J J J J ⟨J, J⟩)⟩⟩, fun _ => ⟨J, J, J, .inl ⟨J, (o_p J ⟨J, J⟩)⟩⟩, (fun h => nomatch h), (fun h => nomatch h), (fun h => nomatch h), (fun h => nomatch h), (fun h => nomatch h), (fun h => nomatch h), (fun h => nomatch h), (fun h => nomatch h), trivial⟩, J, .inr ⟨[13], J, J, ⟨J, .inl J, ?_⟩, trivial⟩⟩
      refine (o_st (b := b0) (off := 0) (vs := [(V s868)]) (cs' := [(V s868), (U p0.last.Char), (O p0.last.Attr), (U p0.last.FA), (U p0.last.High), (U p0.last.Color), (U p0.last.f_Set), (I p0.mode)]) J J rp6 J J J J J J ?_)
      refine ⟨[], [], J, J, ?_⟩
      refine ⟨⟨(fun h => nomatch h), (fun h => nomatch h), (fun h => nomatch h), (fun h => nomatch h), (fun h => nomatch h), (fun h => nomatch h), (fun h => nomatch h), (fun h => nomatch h), (fun h => nomatch h), (fun h => nomatch h), (fun h => nomatch h), trivial⟩, J, J, J, ?_⟩
      refine e_blk (e_seq (c_region ?_))
      refine o1 J (o_p (v := (I (w64 (x6.1 + 1)))) J ?_)
      refine op J J (o_end ?_)
      exact e_loop (l_sub (sc J (sc J (sc J (sc J (sc J sn))))) (l_keep (kc rm3 (kc rm3 (kc rm3 (kc rm3 (kc rm0 (kd (kd kr))))))) (ih6 (w64 (x6.1 + 1), (x6.2 ++ [40, (rd d4 x6.1).f_Type, (rd d4 x6.1).Value])) s868 trivial h)))
     ·replace h := cond_f hb861 h
      refine c_exit (e_then_exit (e_then_exit (e_blk_exit ?_)))
      obtain rfl := si h
      exact ej () i6 trivial (sc J (sc J sn)) (kc rm0 (kc rm1 (kc rm1 (kc rm1 (kd kr)))))
    ·rintro _ i5 _
     replace h := hk5
     clear hk5
     refine e_seq (c_region (op J J ?_))
     refine o1 J (o_ld (b := b766) (off := 0) (v := (.agg (A [(U p1.Char), (O p1.Attr), (U p1.FA), (U p1.High), (U p1.Color), (U p1.f_Set)]))) J rm1 J J ?_)
     refine op J J ?_
     refine o1 J (o_fa (fd := ⟨ "last", 49, 1, false, "", "vitrine/read", 24⟩) J J J J J ?_)
     refine o0 (o_st (b := b0) (off := 1) (vs := [(U p1.Char), (O p1.Attr), (U p1.FA), (U p1.High), (U p1.Color), (U p1.f_Set)]) (cs' := [(V i5), (U p1.Char), (O p1.Attr), (U p1.FA), (U p1.High), (U p1.Color), (U p1.f_Set), (I p0.mode)]) J J rp2 J J J J J J ?_)
     refine o_end ?_
     obtain rfl := si h
     exact ej () i5 trivial (sc J (sc J sn)) (kc rm0 (kc rm0 (kc rm0 (kc rm0 kr))))
   ·replace h := cond_f hb768 h
    refine cr ?_
    refine o1 J (o_fa (fd := ⟨ "Set", 5, 5, false, "", "", 5⟩) J J J J J ?_)
    refine o1 J (o_ld (b := b766) (off := 5) (v := (U p1.f_Set)) J rm0 J J ?_)
    refine o1 J (o_p (v := (O (p1.f_Set == 241))) J ?_)
    refine op J J (oe ?_)
    refine c_cond (b := (p1.f_Set == 241)) J (fun hb872 => ?_) (fun hb872 => ?_)
    ·replace h := cond_t hb872 h
     refine c_region (op J J (op J J (op J J ?_)))
     refine o1 J (o_fa (fd := ⟨ "out", 28, 0, false, "", "vitrine/read", 0⟩) J J J J J ?_)
     refine o1 J (o_ld (b := b0) (off := 0) (v := (V s0)) J rm2 J J ?_)
     refine o1 J (o_bs (e := (enI .u8)) (l := [8]) (zs := [(U 0)]) J J J J J J J J J J (fun s873 => ?_))
     replace h := gsome h
     obtain ⟨hg875, h⟩ := h
     refine o1 J (o_app (s := s0) (r := s873) (e := (enI .u8)) (l := p0.out) (l2 := [8]) (zs := [(U 0)]) J J J J J J J J J J J rm4 rm0 (rd_own _ _ _ _) hg875 (fun s876 => ?_))
     refine op J J ?_
     refine o1 J (o_fa (fd := ⟨ "out", 28, 0, false, "", "vitrine/read", 0⟩) J J J J J ?_)
     refine o0 (o_st (b := b0) (off := 0) (vs := [(V s876)]) (cs' := [(V s876), (U p0.last.Char), (O p0.last.Attr), (U p0.last.FA), (U p0.last.High), (U p0.last.Color), (U p0.last.f_Set), (I p0.mode)]) J J rp4 J J J J J J ?_)
     refine o_end ?_
     obtain rfl := si h
     exact ej () s876 trivial (sc J (sc J sn)) (kc rm3 (kc rm2 (kc rm2 (kc rm0 (kd kr)))))
    ·replace h := cond_f hb872 h
     refine c_skip ?_
     obtain rfl := si h
     exact ej () s0 trivial (sc J (sc J sn)) (kc rm1 (kc rm0 (kc rm0 (kc rm0 kr))))
  ·rintro _ i2 _
   replace h := hk2
   clear hk2
   refine e_blk ?_
   obtain rfl := si h
   exact ej () i2 trivial (sc J (sc J sn)) (kc rm0 (kc rm0 (kc rm0 (kc rm0 kr))))
 ·rintro _ i1 _
  replace h := hk1
  clear hk1
  refine e_seq (cr ?_)
  refine o1 J (o_fa (fd := ⟨ "Char", 5, 0, false, "", "", 0⟩) J J J J J ?_)
  refine o1 J (o_ld (b := b766) (off := 0) (v := (U p1.Char)) J rm1 J J ?_)
  refine op J J (oe (c_seq (cr ?_)))
  refine op J J ?_
  replace h := bsome h
  obtain ⟨d10, h10, h⟩ := h
  refine o1 J (o_call has58 J (c_order_Is hg X p1.Char _ h10) (pc rm0 pn) ?_)
  refine oe ?_
  replace h := bsome h
  obtain ⟨d11, h, hk11⟩ := h
  refine cj (D := Unit) (ι := Unit) (fun _ i11 => True) (fun _ i11 => [(6, (U d11)), (0, (F b0 0))]) (fun _ i11 => X :: blk b0 (.cells (A [(V i1), (U d1.2.1), (O d1.2.2.1), (U d1.2.2.2.1), (U d1.2.2.2.2.1), (U d1.2.2.2.2.2.1), (U d1.2.2.2.2.2.2), (I p0.mode)]) 78 (0, 0)) :: slO i1 5 (enI .u8) d1.1 :: R) ?_ ?_
  ·refine c_cond (b := d10) J (fun hb880 => ?_) (fun hb880 => ?_)
   ·replace h := cond_t hb880 h
    refine c_region (op J J (o_end ?_))
    obtain rfl := si h
    exact ej () () trivial (sc J (sc J sn)) (kc rm0 (kc rm1 (kc rm1 (kd kr))))
   ·replace h := cond_f hb880 h
    refine c_skip ?_
    obtain rfl := si h
    exact ej () () trivial (sc J (sc J sn)) (kc rm0 (kc rm1 (kc rm1 (kd kr))))
  ·rintro _ i11 _
   replace h := hk11
   clear hk11
   refine e_seq (c_region (op J J (op J J (op J J ?_))))
   refine o1 J (o_fa (fd := ⟨ "out", 28, 0, false, "", "vitrine/read", 0⟩) J J J J J ?_)
   refine o1 J (o_ld (b := b0) (off := 0) (v := (V i1)) J rm1 J J ?_)
   refine op J J ?_
   refine o1 J (o_bs (e := (enI .u8)) (l := [d11]) (zs := [(U 0)]) J J J J J J J J J J (fun s881 => ?_))
   replace h := gsome h
   obtain ⟨hg883, h⟩ := h
   refine o1 J (o_app (s := i1) (r := s881) (e := (enI .u8)) (l := d1.1) (l2 := [d11]) (zs := [(U 0)]) J J J J J J J J J J J rm3 rm0 (rd_own _ _ _ _) hg883 (fun s884 => ?_))
   refine op J J ?_
   refine o1 J (o_fa (fd := ⟨ "out", 28, 0, false, "", "vitrine/read", 0⟩) J J J J J ?_)
   refine o0 (o_st (b := b0) (off := 0) (vs := [(V s884)]) (cs' := [(V s884), (U d1.2.1), (O d1.2.2.1), (U d1.2.2.2.1), (U d1.2.2.2.2.1), (U d1.2.2.2.2.2.1), (U d1.2.2.2.2.2.2), (I p0.mode)]) J J rp3 J J J J J J ?_)
   refine o_end (e_fall ?_)
   refine r_endt J J (kc rm2 (kc rm2 (kc rm0 (kd kr)))) ?_
   obtain rfl := si h
   exact hk s884

end Go.Vt
