/- The walks: each function does what its model says. No conditions. -/
import Derived.Test.YteebpkekdkkmhaaGreatDoorVwERc
set_option linter.unusedVariables false
set_option maxRecDepth 100000
set_option maxHeartbeats 4000000
namespace Go.Vt
open Go.Proofs
theorem c_vitrineref20_applied {g : Gw} (hg : GK g) (X : HP) (p0 : Vapi_Cell) (p1 : List Vvitrineref05_Pair) (s0 : SV) (q0 : Rd X s0 82 en_Vvitrineref05_Pair p1) (r : Vapi_Cell) (h : m_vitrineref20_applied p0 p1 = some r) : Tri env g 64 (A [(.agg (A [(U p0.Char), (O p0.Attr), (U p0.FA), (U p0.High), (U p0.Color), (U p0.f_Set)])), (V s0)]) [X] (fun K R => K (.agg (A [(U r.Char), (O r.Attr), (U r.FA), (U r.High), (U r.Color), (U r.f_Set)])) (X :: R)) := by
 refine tri_of (fn := Tryz.f64) (N := 21) Tryz.func64 J J J ?_
 intro R K hk
 unfold m_vitrineref20_applied at h
 change GC _ none _ [] [(0, (.agg (A [(U p0.Char), (O p0.Attr), (U p0.FA), (U p0.High), (U p0.Color), (U p0.f_Set)]))), (1, (V s0))] (X :: R) g _ _
 refine cr ?_
 refine o1 J (o_box (cs := [(U p0.Char), (O p0.Attr), (U p0.FA), (U p0.High), (U p0.Color), (U p0.f_Set)]) J J (fun b1609 => ?_))
 refine o1 J (o_alloc (cs := [(U 0), (O false), (U 0), (U 0), (U 0), (U 0)]) J J (fun b1611 => ?_))
 refine oe (c_seq (cr (op J J ?_)))
 refine o1 J (o_len (s := s0) J J J rm2 q0 ?_)
 refine op J J (oe ?_)
 replace h := bsome h
 obtain ⟨d1, h, hk1⟩ := h
 refine cj (D := Unit) (ι := Unit) (fun _ i1 => True) (fun _ i1 => [(4, (F b1611 0)), (2, (F b1609 0))]) (fun _ i1 => X :: blk b1611 (.cells (A [(U 0), (O false), (U 0), (U 0), (U 0), (U 0)]) 49 (0, 0)) :: blk b1609 (.cells (A [(U d1.1), (O d1.2.1), (U d1.2.2.1), (U d1.2.2.2.1), (U d1.2.2.2.2.1), (U d1.2.2.2.2.2)]) 49 (0, 0)) :: R) ?_ ?_
 ·refine c_block ?_
  refine c_loop (l_sub (sc J (sc J (sc J (sc J (sc J sn))))) (l_keep (kc rm2 (kc rm0 (kc rm0 kr))) (lf (X := Int × Int × Bool × Int × Int × Int × Int) (ι := Unit) (fun k x => vitrineref20_applied_l2 p1 k x) _ (fun x2 i2 => True) (fun x2 i2 => [(9, (I x2.1)), (8, (I (p1.length : Int))), (7, (V s0)), (4, (F b1611 0)), (2, (F b1609 0))]) (fun x2 i2 => X :: blk b1611 (.cells (A [(U 0), (O false), (U 0), (U 0), (U 0), (U 0)]) 49 (0, 0)) :: blk b1609 (.cells (A [(U x2.2.1), (O x2.2.2.1), (U x2.2.2.2.1), (U x2.2.2.2.2.1), (U x2.2.2.2.2.2.1), (U x2.2.2.2.2.2.2)]) 49 (0, 0)) :: R) (fun _ => J) ?_ fuel (0, p0.Char, p0.Attr, p0.FA, p0.High, p0.Color, p0.f_Set) () trivial h)))
  clear h
  rintro k2 ih2 x2 i2 _ h
  rw [vitrineref20_applied_l2.eq_2] at h
  refine l_round (cr ?_)
  refine o1 J (o_p (v := (O (decide (x2.1 < (p1.length : Int))))) J ?_)
  refine oe (c_seq ?_)
  refine c_cond (b := (decide (x2.1 < (p1.length : Int)))) J (fun hb1638 => ?_) (fun hb1638 => ?_)
  ·replace h := cond_t hb1638 h
   refine c_skip (e_seq (c_seq (c_block (cr ?_))))
   replace h := gsome h
   obtain ⟨hg1639, h⟩ := h
   refine o1 J (o_ix (s := s0) (n := x2.1) (e := en_Vvitrineref05_Pair) J J J J J J rm0 q0 hg1639 ?_)
   refine o1 J (o_ldE (s := s0) (e := en_Vvitrineref05_Pair) (n := x2.1) (f := 0) (v := (.agg (A [(U ((rd p1 x2.1).f_Type)), (U ((rd p1 x2.1).Value))]))) J rm0 q0 hg1639 J J ?_)
   refine o1 J (o_alloc (cs := [(U 0), (U 0)]) J J (fun b1640 => ?_))
   refine o0 (o_st (b := b1640) (off := 0) (vs := [(U ((rd p1 x2.1).f_Type)), (U ((rd p1 x2.1).Value))]) (cs' := [(U ((rd p1 x2.1).f_Type)), (U ((rd p1 x2.1).Value))]) J J rp0 J J J J J J ?_)
   refine oe (c_region ?_)
   refine o1 J (o_ld (b := b1640) (off := 0) (v := (.agg (A [(U ((rd p1 x2.1).f_Type)), (U ((rd p1 x2.1).Value))]))) J rm0 J J ?_)
   refine o1 J (o_ld (b := b1609) (off := 0) (v := (.agg (A [(U x2.2.1), (O x2.2.2.1), (U x2.2.2.2.1), (U x2.2.2.2.2.1), (U x2.2.2.2.2.2.1), (U x2.2.2.2.2.2.2)]))) J rm3 J J ?_)
   replace h := bsome h
   obtain ⟨d5, h5, h⟩ := h
   refine o1 J (o_call has96 J (c_vitrineref05_Apply hg X (rd p1 x2.1) (⟨x2.2.1, x2.2.2.1, x2.2.2.2.1, x2.2.2.2.2.1, x2.2.2.2.2.2.1, x2.2.2.2.2.2.2⟩ : Vapi_Cell) _ h5) (pc rm1 pn) ?_)
   refine op J J (op J J (op J J ?_))
   refine o0 (o_st (b := b1609) (off := 0) (vs := [(U d5.1.Char), (O d5.1.Attr), (U d5.1.FA), (U d5.1.High), (U d5.1.Color), (U d5.1.f_Set)]) (cs' := [(U d5.1.Char), (O d5.1.Attr), (U d5.1.FA), (U d5.1.High), (U d5.1.Color), (U d5.1.f_Set)]) J J rp3 J J J J J J ?_)
   refine o_end (e_blk (e_seq (c_region ?_)))
   refine o1 J (o_p (v := (I (w64 (x2.1 + 1)))) J ?_)
   refine op J J (o_end ?_)
   exact e_loop (l_sub (sc J (sc J (sc J (sc J (sc J sn))))) (l_keep (kc rm0 (kc rm1 (kc rm1 (kd kr)))) (ih2 (w64 (x2.1 + 1), d5.1.Char, d5.1.Attr, d5.1.FA, d5.1.High, d5.1.Color, d5.1.f_Set) () trivial h)))
  ·replace h := cond_f hb1638 h
   refine c_exit (e_then_exit (e_then_exit (e_blk_exit ?_)))
   obtain rfl := si h
   exact ej () () trivial (sc J (sc J sn)) (kc rm0 (kc rm0 (kc rm0 kr)))
 ·rintro _ i1 _
  replace h := hk1
  clear hk1
  refine e_seq (cr ?_)
  refine o1 J (o_ld (b := b1609) (off := 0) (v := (.agg (A [(U d1.1), (O d1.2.1), (U d1.2.2.1), (U d1.2.2.2.1), (U d1.2.2.2.2.1), (U d1.2.2.2.2.2)]))) J rm2 J J ?_)
  refine o0 (o_st (b := b1611) (off := 0) (vs := [(U d1.1), (O d1.2.1), (U d1.2.2.1), (U d1.2.2.2.1), (U d1.2.2.2.2.1), (U d1.2.2.2.2.2)]) (cs' := [(U d1.1), (O d1.2.1), (U d1.2.2.1), (U d1.2.2.2.1), (U d1.2.2.2.2.1), (U d1.2.2.2.2.2)]) J J rp1 J J J J J J ?_)
  refine oe (c_ret (e_ret ?_))
  refine r_endc (B := [[(U d1.1), (O d1.2.1), (U d1.2.2.1), (U d1.2.2.2.1), (U d1.2.2.2.2.1), (U d1.2.2.2.2.2)]]) J ⟨⟨_, _, _, _, J, rm1⟩, trivial⟩ J (kc rm0 (kd (kd kr))) ?_
  obtain rfl := si h
  exact hk

theorem c_vitrineref20_Buffer {g : Gw} (hg : GK g) (X : HP) (p0 : List Int) (s0 : SV) (q0 : Rd X s0 5 (enI .u8) p0) (r : (List Vapi_Cell) × Int × Int) (h : m_vitrineref20_Buffer p0 = some r) : Tri env g 35 (A [(V s0)]) [X] (fun K R => ∀ (i0 : HP × SV), (Ext X i0.1) → K (.tuple (A [(V i0.2), (I r.2.1), (I r.2.2)])) (i0.1 :: slO i0.2 49 en_Vapi_Cell r.1 :: R)) := by
 refine tri_of (fn := Tryz.f35) (N := 87) Tryz.func35 J J J ?_
 intro R K hk
 unfold m_vitrineref20_Buffer at h
 change GC _ none _ [] [(0, (V s0))] (X :: R) g _ _
 refine cr (op J J (op J J (op J J (o_end ?_))))
 refine e_seq (cr (op J J ?_))
 replace h := bsome h
 obtain ⟨d1, h1, h⟩ := h
 refine o1 J (o_call has62 J (c_vitrineref20_pieces hg X p0 s0 q0 _ h1) (pc rm0 pn) (fun i1 f1_0 f1_1 => ?_))
 refine op J J (op J J (op J J (op J J (op J J (op J J ?_)))))
 refine op J J (oe (c_seq (cr ?_)))
 refine op J J ?_
 refine o1 J (o_p (v := (O (d1.2.2 != 0))) J ?_)
 refine oe ?_
 refine c_cond (b := (d1.2.2 != 0)) J (fun hb1554 => ?_) (fun hb1554 => ?_)
 ·replace h := cond_t hb1554 h
  refine cr (op J J (op J J (op J J (op J J ?_))))
  refine oe (c_ret (e_then_ret (e_ret ?_)))
  refine r_add (slO SV.nil 49 en_Vapi_Cell []) (slO_nil _ _ _) ?_
  refine r_endt J J (kc rm1 (kc rm0 (kd kr))) ?_
  obtain rfl := si h
  exact hk (i1.1, SV.nil) f1_1
 ·replace h := cond_f hb1554 h
  refine c_skip (e_seq (cr (op J J (o_end ?_))))
  refine e_seq (cr ?_)
  refine o1 J (o_build (fs := f_1) (ps := [(0, 1), (1, 1), (2, 1), (3, 1), (4, 1), (5, 1)]) (cs := [(U 0), (O false), (U 0), (U 0), (U 0), (U 0)]) J J J J J ?_)
  refine o1 J (o_alloc (cs := [(U 0), (O false), (U 0), (U 0), (U 0), (U 0)]) J J (fun b1555 => ?_))
  refine o0 (o_st (b := b1555) (off := 0) (vs := [(U 0), (O false), (U 0), (U 0), (U 0), (U 0)]) (cs' := [(U 0), (O false), (U 0), (U 0), (U 0), (U 0)]) J J rp0 J J J J J J ?_)
  refine oe (c_seq (cr (op J J ?_)))
  refine o1 J (o_lenN (s := i1.2.1) J J J rm2 (rd_own _ _ _ _) f1_0 ?_)
  refine op J J (oe ?_)
  replace h := jn_some h
  obtain ⟨y3, h, hk3⟩ := h
  refine cj (D := (List Vapi_Cell)) (ι := SV) (fun d3 i3 => y3 = Sum.inl d3) (fun d3 i3 => [(8, (V i3)), (5, (I d1.1))]) (fun d3 i3 => i1.1 :: slO i3 49 en_Vapi_Cell d3 :: R) ?_ ?_
  ·refine c_block ?_
   refine c_add (slO SV.nil 49 en_Vapi_Cell []) (slO_nil _ _ _) ?_
   refine c_loop (l_sub (sc J (sc J (sc J (sc J (sc J (sc J sn)))))) (l_keep (kc rm2 (kc rm2 (kc rm1 (kc rm0 kr)))) (lf (X := Int × (List Vapi_Cell) × Int × Bool × Int × Int × Int × Int) (ι := SV) (fun k x => vitrineref20_Buffer_l4 d1 k x) _ (fun x4 i4 => True) (fun x4 i4 => [(27, (I x4.1)), (26, (I (d1.2.1.length : Int))), (25, (V i1.2.1)), (9, (F b1555 0)), (8, (V i4)), (5, (I d1.1))]) (fun x4 i4 => i1.1 :: slO i1.2.1 137 en_Vvitrineref16_Op i1.2.2 :: blk b1555 (.cells (A [(U x4.2.2.1), (O x4.2.2.2.1), (U x4.2.2.2.2.1), (U x4.2.2.2.2.2.1), (U x4.2.2.2.2.2.2.1), (U x4.2.2.2.2.2.2.2)]) 49 (0, 0)) :: slO i4 49 en_Vapi_Cell x4.2.1 :: R) (fun _ => J) ?_ fuel (0, ([] : List Vapi_Cell), 0, false, 0, 0, 0, 0) SV.nil trivial h)))
   clear h
   rintro k4 ih4 x4 i4 _ h
   rw [vitrineref20_Buffer_l4.eq_2] at h
   refine l_round (cr ?_)
   refine o1 J (o_p (v := (O (decide (x4.1 < (d1.2.1.length : Int))))) J ?_)
   refine oe (c_seq ?_)
   refine c_cond (b := (decide (x4.1 < (d1.2.1.length : Int)))) J (fun hb1712 => ?_) (fun hb1712 => ?_)
   ·replace h := cond_t hb1712 h
    refine c_skip (e_seq (c_seq ?_))
    replace h := jn_some h
    obtain ⟨y6, h, hk6⟩ := h
    refine cj (D := (List Vapi_Cell) × Int × Bool × Int × Int × Int × Int) (ι := SV) (fun d6 i6 => y6 = Sum.inl d6) (fun d6 i6 => [(27, (I x4.1)), (26, (I (d1.2.1.length : Int))), (25, (V i1.2.1)), (9, (F b1555 0)), (8, (V i6)), (5, (I d1.1))]) (fun d6 i6 => i1.1 :: slO i1.2.1 137 en_Vvitrineref16_Op i1.2.2 :: blk b1555 (.cells (A [(U d6.2.1), (O d6.2.2.1), (U d6.2.2.2.1), (U d6.2.2.2.2.1), (U d6.2.2.2.2.2.1), (U d6.2.2.2.2.2.2)]) 49 (0, 0)) :: slO i6 49 en_Vapi_Cell d6.1 :: R) ?_ ?_
    ·refine c_block (cr ?_)
     replace h := gsome h
     obtain ⟨hg1713, h⟩ := h
     refine o1 J (o_ix (s := i1.2.1) (n := x4.1) (e := en_Vvitrineref16_Op) J J J J J J rm1 (rd_own _ _ _ _) (NL.lt f1_0 hg1713) ?_)
     obtain ⟨sv1714, he_sv1714, hd_sv1714⟩ := NL.rd f1_0 hg1713
     have hr1715 : Rd i1.1 sv1714.1 82 en_Vvitrineref05_Pair ((rd d1.2.1 x4.1).Pairs) := hd_sv1714.1
     have hr1716 : Rd i1.1 sv1714.2 5 (enI .u8) ((rd d1.2.1 x4.1).Text) := hd_sv1714.2
     refine o1 rfl (o_ldE (s := i1.2.1) (e := en_Vvitrineref16_Op) (n := x4.1) (f := 0) (v := (.agg (A [(I ((rd d1.2.1 x4.1).Kind)), (I ((rd d1.2.1 x4.1).Addr)), (U ((rd d1.2.1 x4.1).Code)), (O ((rd d1.2.1 x4.1).Graph)), (U ((rd d1.2.1 x4.1).FA)), (V sv1714.1), (V sv1714.2)]))) rfl rm1 (rd_own _ _ _ _) (NL.lt f1_0 hg1713) rfl (by rw [he_sv1714]; rfl) ?_)
     refine o1 J (o_alloc (cs := [(I 0), (I 0), (U 0), (O false), (U 0), (V SV.nil), (V SV.nil)]) J J (fun b1717 => ?_))
     refine o0 (o_st (b := b1717) (off := 0) (vs := [(I ((rd d1.2.1 x4.1).Kind)), (I ((rd d1.2.1 x4.1).Addr)), (U ((rd d1.2.1 x4.1).Code)), (O ((rd d1.2.1 x4.1).Graph)), (U ((rd d1.2.1 x4.1).FA)), (V sv1714.1), (V sv1714.2)]) (cs' := [(I ((rd d1.2.1 x4.1).Kind)), (I ((rd d1.2.1 x4.1).Addr)), (U ((rd d1.2.1 x4.1).Code)), (O ((rd d1.2.1 x4.1).Graph)), (U ((rd d1.2.1 x4.1).FA)), (V sv1714.1), (V sv1714.2)]) J J rp0 J J J J J J ?_)
     refine oe (cr ?_)
     refine o1 J (o_ld (b := b1555) (off := 0) (v := (.agg (A [(U x4.2.2.1), (O x4.2.2.2.1), (U x4.2.2.2.2.1), (U x4.2.2.2.2.2.1), (U x4.2.2.2.2.2.2.1), (U x4.2.2.2.2.2.2.2)]))) J rm3 J J ?_)
     refine o1 J (o_alloc (cs := [(U 0), (O false), (U 0), (U 0), (U 0), (U 0)]) J J (fun b1719 => ?_))
     refine o0 (o_st (b := b1719) (off := 0) (vs := [(U x4.2.2.1), (O x4.2.2.2.1), (U x4.2.2.2.2.1), (U x4.2.2.2.2.2.1), (U x4.2.2.2.2.2.2.1), (U x4.2.2.2.2.2.2.2)]) (cs' := [(U x4.2.2.1), (O x4.2.2.2.1), (U x4.2.2.2.2.1), (U x4.2.2.2.2.2.1), (U x4.2.2.2.2.2.2.1), (U x4.2.2.2.2.2.2.2)]) J J rp0 J J J J J J ?_)
     refine oe (cr ?_)
     refine o1 J (o_fa (fd := ⟨ "Kind", 3, 0, false, "", "", 0⟩) J J J J J ?_)
     refine o1 J (o_ld (b := b1717) (off := 0) (v := (I ((rd d1.2.1 x4.1).Kind))) J rm1 J J ?_)
     refine oe ?_
     replace h := jn_some h
     obtain ⟨y7, h, hk7⟩ := h
     refine cj (D := (List Vapi_Cell) × Int × Bool × Int × Int × Int × Int) (ι := SV) (fun d7 i7 => y7 = Sum.inl d7) (fun d7 i7 => [(27, (I x4.1)), (26, (I (d1.2.1.length : Int))), (25, (V i1.2.1)), (9, (F b1555 0)), (8, (V i7)), (5, (I d1.1))]) (fun d7 i7 => i1.1 :: slO i1.2.1 137 en_Vvitrineref16_Op i1.2.2 :: blk b1555 (.cells (A [(U d7.2.1), (O d7.2.2.1), (U d7.2.2.2.1), (U d7.2.2.2.2.1), (U d7.2.2.2.2.2.1), (U d7.2.2.2.2.2.2)]) 49 (0, 0)) :: slO i7 49 en_Vapi_Cell d7.1 :: R) ?_ ?_
     ·refine c_block (cr ?_)
      refine o1 J (o_p (v := (O (((rd d1.2.1 x4.1).Kind) == 0))) J ?_)
      refine op J J (oe ?_)
      replace h := jn_some h
      obtain ⟨y8, h, hk8⟩ := h
      refine cj (D := (List Vapi_Cell) × Int × Bool × Int × Int × Int × Int) (ι := SV) (fun d8 i8 => y8 = Sum.inl d8) (fun d8 i8 => [(27, (I x4.1)), (26, (I (d1.2.1.length : Int))), (25, (V i1.2.1)), (9, (F b1555 0)), (8, (V i8)), (5, (I d1.1))]) (fun d8 i8 => i1.1 :: slO i1.2.1 137 en_Vvitrineref16_Op i1.2.2 :: blk b1555 (.cells (A [(U d8.2.1), (O d8.2.2.1), (U d8.2.2.2.1), (U d8.2.2.2.2.1), (U d8.2.2.2.2.2.1), (U d8.2.2.2.2.2.2)]) 49 (0, 0)) :: slO i8 49 en_Vapi_Cell d8.1 :: R) ?_ ?_
      ·refine c_cond (b := (((rd d1.2.1 x4.1).Kind) == 0)) J (fun hb1721 => ?_) (fun hb1721 => ?_)
       ·replace h := cond_t hb1721 h
        refine cr ?_
        refine o1 J (o_fa (fd := ⟨ "Text", 28, 6, false, "", "", 48⟩) J J J J J ?_)
        refine o1 J (o_ld (b := b1717) (off := 6) (v := (V sv1714.2)) J rm1 J J ?_)
        refine o1 J (o_len (s := sv1714.2) J J J rm2 hr1716 ?_)
        refine op J J (oe ?_)
        replace h := bsome h
        obtain ⟨d9, h, hk9⟩ := h
        refine cj (D := Unit) (ι := SV) (fun _ i9 => True) (fun _ i9 => [(27, (I x4.1)), (26, (I (d1.2.1.length : Int))), (25, (V i1.2.1)), (9, (F b1555 0)), (8, (V i9)), (5, (I d1.1))]) (fun _ i9 => i1.1 :: slO i1.2.1 137 en_Vvitrineref16_Op i1.2.2 :: blk b1555 (.cells (A [(U x4.2.2.1), (O x4.2.2.2.1), (U x4.2.2.2.2.1), (U x4.2.2.2.2.2.1), (U x4.2.2.2.2.2.2.1), (U x4.2.2.2.2.2.2.2)]) 49 (0, 0)) :: slO i9 49 en_Vapi_Cell d9 :: R) ?_ ?_
        ·refine c_block ?_
         refine c_loop (l_sub (sc J (sc J (sc J (sc J (sc J (sc J (sc J (sc J (sc J (sc J sn)))))))))) (l_keep (kc rm2 (kc rm0 (kc rm1 (kc rm1 (kc rm1 (kd kr)))))) (lf (X := Int × (List Vapi_Cell) × Int) (ι := SV) (fun k x => vitrineref20_Buffer_l10 d1 x4 k x) _ (fun x10 i10 => True) (fun x10 i10 => [(39, (I x10.1)), (38, (I (((rd d1.2.1 x4.1).Text).length : Int))), (37, (V sv1714.2)), (12, (F b1719 0)), (27, (I x4.1)), (26, (I (d1.2.1.length : Int))), (25, (V i1.2.1)), (9, (F b1555 0)), (8, (V i10)), (5, (I d1.1))]) (fun x10 i10 => i1.1 :: blk b1719 (.cells (A [(U x10.2.2), (O x4.2.2.2.1), (U x4.2.2.2.2.1), (U x4.2.2.2.2.2.1), (U x4.2.2.2.2.2.2.1), (U x4.2.2.2.2.2.2.2)]) 49 (0, 0)) :: slO i1.2.1 137 en_Vvitrineref16_Op i1.2.2 :: blk b1555 (.cells (A [(U x4.2.2.1), (O x4.2.2.2.1), (U x4.2.2.2.2.1), (U x4.2.2.2.2.2.1), (U x4.2.2.2.2.2.2.1), (U x4.2.2.2.2.2.2.2)]) 49 (0, 0)) :: slO i10 49 en_Vapi_Cell x10.2.1 :: R) (fun _ => J) ?_ fuel (0, x4.2.1, x4.2.2.1) i4 trivial h)))
         clear h
         rintro k10 ih10 x10 i10 _ h
         rw [vitrineref20_Buffer_l10.eq_2] at h
         refine l_round (cr ?_)
         refine o1 J (o_p (v := (O (decide (x10.1 < (((rd d1.2.1 x4.1).Text).length : Int))))) J ?_)
         refine oe (c_seq ?_)
         refine c_cond (b := (decide (x10.1 < (((rd d1.2.1 x4.1).Text).length : Int)))) J (fun hb1738 => ?_) (fun hb1738 => ?_)
         ·replace h := cond_t hb1738 h
          refine c_skip (e_seq (c_seq (c_block (cr ?_))))
          replace h := gsome h
          obtain ⟨hg1739, h⟩ := h
          refine o1 J (o_ix (s := sv1714.2) (n := x10.1) (e := (enI .u8)) J J J J J J rm0 hr1716 hg1739 ?_)
          refine o1 J (o_ldE (s := sv1714.2) (e := (enI .u8)) (n := x10.1) (f := 0) (v := (U (rd ((rd d1.2.1 x4.1).Text) x10.1))) J rm0 hr1716 hg1739 J J ?_)
          refine op J J (oe (cr (op J J ?_)))
          refine o1 J (o_fa (fd := ⟨ "Char", 5, 0, false, "", "", 0⟩) J J J J J ?_)
          refine o0 (o_st (b := b1719) (off := 0) (vs := [(U (rd ((rd d1.2.1 x4.1).Text) x10.1))]) (cs' := [(U (rd ((rd d1.2.1 x4.1).Text) x10.1)), (O x4.2.2.2.1), (U x4.2.2.2.2.1), (U x4.2.2.2.2.2.1), (U x4.2.2.2.2.2.2.1), (U x4.2.2.2.2.2.2.2)]) J J rp1 J J J J J J ?_)
          refine oe (c_region (op J J ?_))
          refine o1 J (o_ld (b := b1719) (off := 0) (v := (.agg (A [(U (rd ((rd d1.2.1 x4.1).Text) x10.1)), (O x4.2.2.2.1), (U x4.2.2.2.2.1), (U x4.2.2.2.2.2.1), (U x4.2.2.2.2.2.2.1), (U x4.2.2.2.2.2.2.2)]))) J rm1 J J ?_)
          refine o1 J (o_bs (e := en_Vapi_Cell) (l := [(⟨(rd ((rd d1.2.1 x4.1).Text) x10.1), x4.2.2.2.1, x4.2.2.2.2.1, x4.2.2.2.2.2.1, x4.2.2.2.2.2.2.1, x4.2.2.2.2.2.2.2⟩ : Vapi_Cell)]) (zs := [(U 0), (O false), (U 0), (U 0), (U 0), (U 0)]) J J J J J J J J J J (fun s1740 => ?_))
          replace h := gsome h
          obtain ⟨hg1742, h⟩ := h
          refine o1 J (o_app (s := i10) (r := s1740) (e := en_Vapi_Cell) (l := x10.2.1) (l2 := [(⟨(rd ((rd d1.2.1 x4.1).Text) x10.1), x4.2.2.2.1, x4.2.2.2.2.1, x4.2.2.2.2.2.1, x4.2.2.2.2.2.2.1, x4.2.2.2.2.2.2.2⟩ : Vapi_Cell)]) (zs := [(U 0), (O false), (U 0), (U 0), (U 0), (U 0)]) J J J J J J J J J J J rm5 rm0 (rd_own _ _ _ _) hg1742 (fun s1743 => ?_))
          refine op J J (o_end (e_blk (e_seq (c_region ?_))))
          refine o1 J (o_p (v := (I (w64 (x10.1 + 1)))) J ?_)
          refine op J J (o_end ?_)
          exact e_loop (l_sub (sc J (sc J (sc J (sc J (sc J (sc J (sc J (sc J (sc J (sc J sn)))))))))) (l_keep (kc rm2 (kc rm2 (kc rm2 (kc rm2 (kc rm0 (kd kr)))))) (ih10 (w64 (x10.1 + 1), (x10.2.1 ++ [(⟨(rd ((rd d1.2.1 x4.1).Text) x10.1), x4.2.2.2.1, x4.2.2.2.2.1, x4.2.2.2.2.2.1, x4.2.2.2.2.2.2.1, x4.2.2.2.2.2.2.2⟩ : Vapi_Cell)]), (rd ((rd d1.2.1 x4.1).Text) x10.1)) s1743 trivial h)))
         ·replace h := cond_f hb1738 h
          refine c_exit (e_then_exit (e_then_exit (e_blk_exit ?_)))
          obtain rfl := si h
          exact ej () i10 trivial (sc J (sc J (sc J (sc J (sc J (sc J sn)))))) (kc rm0 (kc rm1 (kc rm1 (kc rm1 (kd kr)))))
        ·rintro _ i9 _
         replace h := hk9
         clear hk9
         obtain rfl := si h
         exact ej (d9, x4.2.2.1, x4.2.2.2.1, x4.2.2.2.2.1, x4.2.2.2.2.2.1, x4.2.2.2.2.2.2.1, x4.2.2.2.2.2.2.2) i9 J (sc J (sc J (sc J (sc J (sc J (sc J sn)))))) (kc rm0 (kc rm0 (kc rm0 (kc rm0 kr))))
       ·replace h := cond_f hb1721 h
        refine cr ?_
        refine o1 J (o_p (v := (O (((rd d1.2.1 x4.1).Kind) == 8))) J ?_)
        refine op J J (oe ?_)
        refine c_cond (b := (((rd d1.2.1 x4.1).Kind) == 8)) J (fun hb1747 => ?_) (fun hb1747 => ?_)
        ·replace h := cond_t hb1747 h
         refine cr ?_
         refine o1 J (o_fa (fd := ⟨ "Code", 5, 2, false, "", "", 16⟩) J J J J J ?_)
         refine o1 J (o_ld (b := b1717) (off := 2) (v := (U ((rd d1.2.1 x4.1).Code))) J rm1 J J ?_)
         refine o1 J (o_fa (fd := ⟨ "Char", 5, 0, false, "", "", 0⟩) J J J J J ?_)
         refine o0 (o_st (b := b1719) (off := 0) (vs := [(U ((rd d1.2.1 x4.1).Code))]) (cs' := [(U ((rd d1.2.1 x4.1).Code)), (O x4.2.2.2.1), (U x4.2.2.2.2.1), (U x4.2.2.2.2.2.1), (U x4.2.2.2.2.2.2.1), (U x4.2.2.2.2.2.2.2)]) J J rp0 J J J J J J ?_)
         refine o1 J (o_fa (fd := ⟨ "Set", 5, 5, false, "", "", 5⟩) J J J J J ?_)
         refine o0 (o_st (b := b1719) (off := 5) (vs := [(U 241)]) (cs' := [(U ((rd d1.2.1 x4.1).Code)), (O x4.2.2.2.1), (U x4.2.2.2.2.1), (U x4.2.2.2.2.2.1), (U x4.2.2.2.2.2.2.1), (U 241)]) J J rp0 J J J J J J ?_)
         refine oe (c_region (op J J ?_))
         refine o1 J (o_ld (b := b1719) (off := 0) (v := (.agg (A [(U ((rd d1.2.1 x4.1).Code)), (O x4.2.2.2.1), (U x4.2.2.2.2.1), (U x4.2.2.2.2.2.1), (U x4.2.2.2.2.2.2.1), (U 241)]))) J rm0 J J ?_)
         refine o1 J (o_bs (e := en_Vapi_Cell) (l := [(⟨(rd d1.2.1 x4.1).Code, x4.2.2.2.1, x4.2.2.2.2.1, x4.2.2.2.2.2.1, x4.2.2.2.2.2.2.1, 241⟩ : Vapi_Cell)]) (zs := [(U 0), (O false), (U 0), (U 0), (U 0), (U 0)]) J J J J J J J J J J (fun s1748 => ?_))
         replace h := gsome h
         obtain ⟨hg1750, h⟩ := h
         refine o1 J (o_app (s := i4) (r := s1748) (e := en_Vapi_Cell) (l := x4.2.1) (l2 := [(⟨(rd d1.2.1 x4.1).Code, x4.2.2.2.1, x4.2.2.2.2.1, x4.2.2.2.2.2.1, x4.2.2.2.2.2.2.1, 241⟩ : Vapi_Cell)]) (zs := [(U 0), (O false), (U 0), (U 0), (U 0), (U 0)]) J J J J J J J J J J J rm6 rm0 (rd_own _ _ _ _) hg1750 (fun s1751 => ?_))
         refine op J J (o_end ?_)
         obtain rfl := si h
         exact ej ((x4.2.1 ++ [(⟨(rd d1.2.1 x4.1).Code, x4.2.2.2.1, x4.2.2.2.2.1, x4.2.2.2.2.2.1, x4.2.2.2.2.2.2.1, 241⟩ : Vapi_Cell)]), x4.2.2.1, x4.2.2.2.1, x4.2.2.2.2.1, x4.2.2.2.2.2.1, x4.2.2.2.2.2.2.1, x4.2.2.2.2.2.2.2) s1751 J (sc J (sc J (sc J (sc J (sc J (sc J sn)))))) (kc rm4 (kc rm4 (kc rm4 (kc rm0 (kd (kd (kd kr)))))))
        ·replace h := cond_f hb1747 h
         refine cr ?_
         refine o1 J (o_p (v := (O (((rd d1.2.1 x4.1).Kind) == 29))) J ?_)
         refine op J J (oe ?_)
         refine c_cond (b := (((rd d1.2.1 x4.1).Kind) == 29)) J (fun hb1753 => ?_) (fun hb1753 => ?_)
         ·replace h := cond_t hb1753 h
          refine c_region (op J J ?_)
          refine o1 J (o_fa (fd := ⟨ "FA", 5, 4, false, "", "", 18⟩) J J J J J ?_)
          refine o1 J (o_ld (b := b1717) (off := 4) (v := (U ((rd d1.2.1 x4.1).FA))) J rm1 J J ?_)
          replace h := bsome h
          obtain ⟨d13, h13, h⟩ := h
          refine o1 J (o_call has63 J (c_vitrineref05_Six hg i1.1 ((rd d1.2.1 x4.1).FA) _ h13) (pc rm2 pn) ?_)
          refine o1 J (o_build (fs := f_1) (ps := [(0, 1), (1, 1), (2, 1), (3, 1), (4, 1), (5, 1)]) (cs := [(U 0), (O true), (U d13), (U 0), (U 0), (U 0)]) J J J J J ?_)
          refine o1 J (o_bs (e := en_Vapi_Cell) (l := [(⟨0, true, d13, 0, 0, 0⟩ : Vapi_Cell)]) (zs := [(U 0), (O false), (U 0), (U 0), (U 0), (U 0)]) J J J J J J J J J J (fun s1754 => ?_))
          replace h := gsome h
          obtain ⟨hg1756, h⟩ := h
          refine o1 J (o_app (s := i4) (r := s1754) (e := en_Vapi_Cell) (l := x4.2.1) (l2 := [(⟨0, true, d13, 0, 0, 0⟩ : Vapi_Cell)]) (zs := [(U 0), (O false), (U 0), (U 0), (U 0), (U 0)]) J J J J J J J J J J J rm6 rm0 (rd_own _ _ _ _) hg1756 (fun s1757 => ?_))
          refine op J J (o_end ?_)
          obtain rfl := si h
          exact ej ((x4.2.1 ++ [(⟨0, true, d13, 0, 0, 0⟩ : Vapi_Cell)]), x4.2.2.1, x4.2.2.2.1, x4.2.2.2.2.1, x4.2.2.2.2.2.1, x4.2.2.2.2.2.2.1, x4.2.2.2.2.2.2.2) s1757 J (sc J (sc J (sc J (sc J (sc J (sc J sn)))))) (kc rm2 (kc rm4 (kc rm4 (kc rm0 (kd (kd (kd kr)))))))
         ·replace h := cond_f hb1753 h
          refine cr ?_
          refine o1 J (o_p (v := (O (((rd d1.2.1 x4.1).Kind) == 41))) J ?_)
          refine op J J (oe ?_)
          refine c_cond (b := (((rd d1.2.1 x4.1).Kind) == 41)) J (fun hb1759 => ?_) (fun hb1759 => ?_)
          ·replace h := cond_t hb1759 h
           refine c_region (op J J ?_)
           refine o1 J (o_build (fs := f_1) (ps := [(0, 1), (1, 1), (2, 1), (3, 1), (4, 1), (5, 1)]) (cs := [(U 0), (O true), (U 0), (U 0), (U 0), (U 0)]) J J J J J ?_)
           refine o1 J (o_fa (fd := ⟨ "Pairs", 79, 5, false, "", "", 24⟩) J J J J J ?_)
           refine o1 J (o_ld (b := b1717) (off := 5) (v := (V sv1714.1)) J rm1 J J ?_)
           replace h := bsome h
           obtain ⟨d14, h14, h⟩ := h
           refine o1 J (o_call has64 J (c_vitrineref20_applied hg i1.1 (⟨0, true, 0, 0, 0, 0⟩ : Vapi_Cell) ((rd d1.2.1 x4.1).Pairs) sv1714.1 hr1715 _ h14) (pc rm2 pn) ?_)
           refine o1 J (o_bs (e := en_Vapi_Cell) (l := [d14]) (zs := [(U 0), (O false), (U 0), (U 0), (U 0), (U 0)]) J J J J J J J J J J (fun s1760 => ?_))
           replace h := gsome h
           obtain ⟨hg1762, h⟩ := h
           refine o1 J (o_app (s := i4) (r := s1760) (e := en_Vapi_Cell) (l := x4.2.1) (l2 := [d14]) (zs := [(U 0), (O false), (U 0), (U 0), (U 0), (U 0)]) J J J J J J J J J J J rm6 rm0 (rd_own _ _ _ _) hg1762 (fun s1763 => ?_))
           refine op J J (o_end ?_)
           obtain rfl := si h
           exact ej ((x4.2.1 ++ [d14]), x4.2.2.1, x4.2.2.2.1, x4.2.2.2.2.1, x4.2.2.2.2.2.1, x4.2.2.2.2.2.2.1, x4.2.2.2.2.2.2.2) s1763 J (sc J (sc J (sc J (sc J (sc J (sc J sn)))))) (kc rm2 (kc rm4 (kc rm4 (kc rm0 (kd (kd (kd kr)))))))
          ·replace h := cond_f hb1759 h
           refine cr ?_
           refine o1 J (o_p (v := (O (((rd d1.2.1 x4.1).Kind) == 40))) J ?_)
           refine op J J (oe ?_)
           refine c_cond (b := (((rd d1.2.1 x4.1).Kind) == 40)) J (fun hb1765 => ?_) (fun hb1765 => ?_)
           ·replace h := cond_t hb1765 h
            refine c_region ?_
            refine o1 J (o_ld (b := b1555) (off := 0) (v := (.agg (A [(U x4.2.2.1), (O x4.2.2.2.1), (U x4.2.2.2.2.1), (U x4.2.2.2.2.2.1), (U x4.2.2.2.2.2.2.1), (U x4.2.2.2.2.2.2.2)]))) J rm4 J J ?_)
            refine o1 J (o_fa (fd := ⟨ "Pairs", 79, 5, false, "", "", 24⟩) J J J J J ?_)
            refine o1 J (o_ld (b := b1717) (off := 5) (v := (V sv1714.1)) J rm1 J J ?_)
            replace h := bsome h
            obtain ⟨d15, h15, h⟩ := h
            refine o1 J (o_call has64 J (c_vitrineref20_applied hg i1.1 (⟨x4.2.2.1, x4.2.2.2.1, x4.2.2.2.2.1, x4.2.2.2.2.2.1, x4.2.2.2.2.2.2.1, x4.2.2.2.2.2.2.2⟩ : Vapi_Cell) ((rd d1.2.1 x4.1).Pairs) sv1714.1 hr1715 _ h15) (pc rm2 pn) ?_)
            refine o0 (o_st (b := b1555) (off := 0) (vs := [(U d15.Char), (O d15.Attr), (U d15.FA), (U d15.High), (U d15.Color), (U d15.f_Set)]) (cs' := [(U d15.Char), (O d15.Attr), (U d15.FA), (U d15.High), (U d15.Color), (U d15.f_Set)]) J J rp4 J J J J J J ?_)
            refine o_end ?_
            obtain rfl := si h
            exact ej (x4.2.1, d15.Char, d15.Attr, d15.FA, d15.High, d15.Color, d15.f_Set) i4 J (sc J (sc J (sc J (sc J (sc J (sc J sn)))))) (kc rm0 (kc rm2 (kc rm2 (kc rm2 (kd (kd kr))))))
           ·replace h := cond_f hb1765 h
            refine cr (op J J (op J J (op J J (o_end ?_))))
            refine e_seq (c_ret (ej_ret ?_))
            replace h := esc_some h
            obtain ⟨z8, h, rfl⟩ := h
            obtain rfl := (hk8 : z8 = _)
            refine e_blk_ret (ej_ret ?_)
            replace h := esc_some h
            obtain ⟨z7, h, rfl⟩ := h
            obtain rfl := (hk7 : z7 = _)
            refine e_blk_ret (ej_ret ?_)
            replace h := esc_some h
            obtain ⟨z6, h, rfl⟩ := h
            obtain rfl := (hk6 : z6 = _)
            refine e_then_ret (e_then_ret (e_blk_ret (ej_ret ?_)))
            replace h := esc_some h
            obtain ⟨z3, h, rfl⟩ := h
            obtain rfl := (hk3 : z3 = _)
            refine e_then_ret (e_ret ?_)
            refine r_add (slO SV.nil 49 en_Vapi_Cell []) (slO_nil _ _ _) ?_
            refine r_endt J J (kc rm3 (kc rm0 (kd (kd (kd (kd (kd kr))))))) ?_
            obtain rfl := si h
            exact hk (i1.1, SV.nil) f1_1
      ·rintro d8 i8 rfl
       replace h := JK_inl hk8
       clear hk8
       refine e_blk ?_
       obtain rfl := si h
       exact ej (d8.1, d8.2.1, d8.2.2.1, d8.2.2.2.1, d8.2.2.2.2.1, d8.2.2.2.2.2.1, d8.2.2.2.2.2.2) i8 J (sc J (sc J (sc J (sc J (sc J (sc J sn)))))) (kc rm0 (kc rm0 (kc rm0 (kc rm0 kr))))
     ·rintro d7 i7 rfl
      replace h := JK_inl hk7
      clear hk7
      refine e_blk ?_
      obtain rfl := si h
      exact ej (d7.1, d7.2.1, d7.2.2.1, d7.2.2.2.1, d7.2.2.2.2.1, d7.2.2.2.2.2.1, d7.2.2.2.2.2.2) i7 J (sc J (sc J (sc J (sc J (sc J (sc J sn)))))) (kc rm0 (kc rm0 (kc rm0 (kc rm0 kr))))
    ·rintro d6 i6 rfl
     replace h := JK_inl hk6
     clear hk6
     refine e_seq (c_region ?_)
     refine o1 J (o_p (v := (I (w64 (x4.1 + 1)))) J ?_)
     refine op J J (o_end ?_)
     exact e_loop (l_sub (sc J (sc J (sc J (sc J (sc J (sc J sn)))))) (l_keep (kc rm0 (kc rm0 (kc rm0 (kc rm0 kr)))) (ih4 (w64 (x4.1 + 1), d6.1, d6.2.1, d6.2.2.1, d6.2.2.2.1, d6.2.2.2.2.1, d6.2.2.2.2.2.1, d6.2.2.2.2.2.2) i6 trivial h)))
   ·replace h := cond_f hb1712 h
    refine c_exit (e_then_exit (e_then_exit (e_blk_exit ?_)))
    obtain rfl := si h
    exact ej x4.2.1 i4 J (sc J (sc J sn)) (kc rm0 (kc rm2 (kd (kd kr))))
  ·rintro d3 i3 rfl
   replace h := JK_inl hk3
   clear hk3
   refine e_seq (cr (op J J (op J J (op J J ?_))))
   refine op J J (op J J (oe (c_ret (e_ret ?_))))
   refine r_endt J J (kc rm0 (kc rm0 kr)) ?_
   obtain rfl := si h
   exact hk (i1.1, i3) f1_1

theorem c_vitrineref04_Encode {g : Gw} (hg : GK g) (X : HP) (p0 : Int) (p1 : Int) (r : (List Int) × Int) (h : m_vitrineref04_Encode p0 p1 = some r) : Tri env g 36 (A [(I p0), (I p1)]) [X] (fun K R => ∀ (i0 : SV), K (.tuple (A [(V i0), (I r.2)])) (X :: slO i0 5 (enI .u8) r.1 :: R)) := by
 refine tri_of (fn := Tryz.f36) (N := 37) Tryz.func36 J J J ?_
 intro R K hk
 unfold m_vitrineref04_Encode at h
 change GC _ none _ [] [(0, (I p0)), (1, (I p1))] (X :: R) g _ _
 refine cr (op J J (op J J (oe ?_)))
 refine cr (op J J (oe (c_seq ?_)))
 refine cr (op J J (oe (c_block ?_)))
 refine cr ?_
 refine o1 J (o_p (v := (O (p0 == 12))) J ?_)
 refine op J J (oe ?_)
 replace h := jn_some h
 obtain ⟨y2, h, hk2⟩ := h
 refine cj (D := Int) (ι := Unit) (fun d2 i2 => y2 = Sum.inl d2) (fun d2 i2 => [(6, (I d2)), (0, (I p0)), (1, (I p1))]) (fun d2 i2 => X :: R) ?_ ?_
 ·refine c_cond (b := (p0 == 12)) J (fun hb1777 => ?_) (fun hb1777 => ?_)
  ·replace h := cond_t hb1777 h
   refine c_region (op J J (o_end ?_))
   obtain rfl := si h
   exact ej 4095 () J (sc J (sc J (sc J sn))) (kc rm0 kr)
  ·replace h := cond_f hb1777 h
   refine cr ?_
   refine o1 J (o_p (v := (O (p0 == 14))) J ?_)
   refine op J J (oe ?_)
   refine c_cond (b := (p0 == 14)) J (fun hb1778 => ?_) (fun hb1778 => ?_)
   ·replace h := cond_t hb1778 h
    refine c_region (op J J (o_end ?_))
    obtain rfl := si h
    exact ej 16383 () J (sc J (sc J (sc J sn))) (kc rm0 kr)
   ·replace h := cond_f hb1778 h
    refine cr ?_
    refine o1 J (o_p (v := (O (p0 == 16))) J ?_)
    refine op J J (oe ?_)
    refine c_cond (b := (p0 == 16)) J (fun hb1779 => ?_) (fun hb1779 => ?_)
    ·replace h := cond_t hb1779 h
     refine c_region (op J J (o_end ?_))
     obtain rfl := si h
     exact ej 65535 () J (sc J (sc J (sc J sn))) (kc rm0 kr)
    ·replace h := cond_f hb1779 h
     refine cr (op J J (op J J (oe ?_)))
     refine c_ret (ej_ret ?_)
     replace h := esc_some h
     obtain ⟨z2, h, rfl⟩ := h
     obtain rfl := (hk2 : z2 = _)
     refine e_blk_ret (e_then_ret (e_ret ?_))
     refine r_add (slO SV.nil 5 (enI .u8) []) (slO_nil _ _ _) ?_
     refine r_endt J J (kc rm1 (kc rm0 kr)) ?_
     obtain rfl := si h
     exact hk SV.nil
 ·rintro d2 i2 rfl
  replace h := JK_inl hk2
  clear hk2
  refine e_blk (e_seq (c_seq (c_seq ?_)))
  replace h := bsome h
  obtain ⟨d3, h, hk3⟩ := h
  refine cj (D := Unit) (ι := Unit) (fun _ i3 => True) (fun _ i3 => [(20, (O d3)), (0, (I p0)), (1, (I p1))]) (fun _ i3 => X :: R) ?_ ?_
  ·refine c_region (op J J ?_)
   refine o1 J (o_p (v := (O (decide (p1 < 0)))) J ?_)
   refine op J J ?_
   rcases bool_or ((decide (p1 < 0))) with hb1780 | hb1780
   ·replace h := cond_t hb1780 h
    refine on J J J hb1780 ?_
    refine on J J J hb1780 ?_
    refine on J J J hb1780 ?_
    refine o1 J (o_pick_t J hb1780 J ?_)
    refine o_end ?_
    obtain rfl := si h
    exact ej () () trivial (sc J (sc J (sc J sn))) (kc rm0 kr)
   ·replace h := cond_f hb1780 h
    refine oy J J J hb1780 (o_p J ?_)
    refine oy J J J hb1780 (o_p J ?_)
    refine oy J J J hb1780 (o_p (v := (O (decide (p1 > d2)))) J ?_)
    refine o1 J (o_pick_f J hb1780 J ?_)
    refine o_end ?_
    obtain rfl := si h
    exact ej () () trivial (sc J (sc J (sc J sn))) (kc rm0 kr)
  ·rintro _ i3 _
   replace h := hk3
   clear hk3
   refine e_seq ?_
   refine c_cond (b := d3) J (fun hb1781 => ?_) (fun hb1781 => ?_)
   ·replace h := cond_t hb1781 h
    refine cr (op J J (op J J (oe ?_)))
    refine c_ret (e_then_ret (e_ret ?_))
    refine r_add (slO SV.nil 5 (enI .u8) []) (slO_nil _ _ _) ?_
    refine r_endt J J (kc rm1 (kc rm0 kr)) ?_
    obtain rfl := si h
    exact hk SV.nil
   ·replace h := cond_f hb1781 h
    refine c_skip (e_seq (c_seq (cr (op J J ?_))))
    refine o1 J (o_p (v := (O (p0 == 12))) J ?_)
    refine oe ?_
    refine c_cond (b := (p0 == 12)) J (fun hb1782 => ?_) (fun hb1782 => ?_)
    ·replace h := cond_t hb1782 h
     refine cr (op J J ?_)
     refine o1 rfl (o_quo (m := p1) (n := 64) rfl rfl (by decide) ?_)
     replace h := bsome h
     obtain ⟨d6, h6, h⟩ := h
     refine o1 J (o_call has65 J (c_vitrineref04_Six hg X (w64 (Int.tdiv p1 64)) _ h6) (pc rm0 pn) ?_)
     refine op J J ?_
     refine o1 rfl (o_rem (m := p1) (n := 64) rfl rfl (by decide) ?_)
     replace h := bsome h
     obtain ⟨d7, h7, h⟩ := h
     refine o1 J (o_call has65 J (c_vitrineref04_Six hg X (Int.tmod p1 64) _ h7) (pc rm0 pn) ?_)
     refine o1 J (o_bs (e := (enI .u8)) (l := [d6, d7]) (zs := [(U 0)]) J J J J J J J J J J (fun s1783 => ?_))
     refine op J J (op J J (oe (c_ret (e_then_ret ?_))))
     refine e_ret ?_
     refine r_endt J J (kc rm1 (kc rm0 kr)) ?_
     obtain rfl := si h
     exact hk s1783
    ·replace h := cond_f hb1782 h
     refine c_skip (e_seq (cr (op J J ?_)))
     refine o1 rfl (o_quo (m := p1) (n := 256) rfl rfl (by decide) ?_)
     refine o1 J (o_p (v := (U (IntKind.wrap .u8 (w64 (Int.tdiv p1 256))))) J ?_)
     refine op J J ?_
     refine o1 rfl (o_rem (m := p1) (n := 256) rfl rfl (by decide) ?_)
     refine o1 J (o_p (v := (U (IntKind.wrap .u8 (Int.tmod p1 256)))) J ?_)
     refine o1 J (o_bs (e := (enI .u8)) (l := [IntKind.wrap .u8 (w64 (Int.tdiv p1 256)), IntKind.wrap .u8 (Int.tmod p1 256)]) (zs := [(U 0)]) J J J J J J J J J J (fun s1785 => ?_))
     refine op J J (op J J (oe (c_ret (e_ret ?_))))
     refine r_endt J J (kc rm1 (kc rm0 kr)) ?_
     obtain rfl := si h
     exact hk s1785

theorem c_vitrineref20_Replay {g : Gw} (hg : GK g) (X : HP) (p0 : List Int) (s0 : SV) (q0 : Rd X s0 5 (enI .u8) p0) (p1 : Bool) (r : (List Int) × Int) (h : m_vitrineref20_Replay p0 p1 = some r) : Tri env g 10 (A [(V s0), (O p1)]) [X] (fun K R => ∀ (i0 : HP × SV), (Ext X i0.1) → K (.tuple (A [(V i0.2), (I r.2)])) (i0.1 :: slO i0.2 5 (enI .u8) r.1 :: R)) := by
 refine tri_of (fn := Tryz.f10) (N := 43) Tryz.func10 J J J ?_
 intro R K hk
 unfold m_vitrineref20_Replay at h
 change GC _ none _ [] [(0, (V s0)), (1, (O p1))] (X :: R) g _ _
 refine cr (op J J (op J J (oe ?_)))
 refine cr (op J J ?_)
 replace h := bsome h
 obtain ⟨d1, h1, h⟩ := h
 refine o1 J (o_call has35 J (c_vitrineref20_Buffer hg X p0 s0 q0 _ h1) (pc rm0 pn) (fun i1 f1_0 => ?_))
 refine op J J (op J J (op J J (op J J (op J J (op J J ?_)))))
 refine op J J (oe (c_seq (cr ?_)))
 refine op J J ?_
 refine o1 J (o_p (v := (O (d1.2.2 != 0))) J ?_)
 refine oe ?_
 refine c_cond (b := (d1.2.2 != 0)) J (fun hb1776 => ?_) (fun hb1776 => ?_)
 ·replace h := cond_t hb1776 h
  refine cr (op J J (op J J (op J J (o_end ?_))))
  refine e_seq (c_ret (e_then_ret (e_ret ?_)))
  refine r_add (slO SV.nil 5 (enI .u8) []) (slO_nil _ _ _) ?_
  refine r_endt J J (kc rm1 (kc rm0 (kd kr))) ?_
  obtain rfl := si h
  exact hk (i1.1, SV.nil) f1_0
 ·replace h := cond_f hb1776 h
  refine c_skip (e_seq (cr (op J J ?_)))
  replace h := bsome h
  obtain ⟨d3, h3, h⟩ := h
  refine o1 J (o_call has36 J (c_vitrineref04_Encode hg i1.1 12 d1.2.1 _ h3) (pc rm0 pn) (fun i3 => ?_))
  refine op J J (op J J (op J J (op J J (op J J (o_end ?_)))))
  refine e_seq (c_seq (cr (op J J ?_)))
  refine o1 J (o_p (v := (O (d3.2 != 0))) J ?_)
  refine oe ?_
  refine c_cond (b := (d3.2 != 0)) J (fun hb1791 => ?_) (fun hb1791 => ?_)
  ·replace h := cond_t hb1791 h
   refine cr (op J J (op J J (op J J (o_end ?_))))
   refine e_seq (c_ret (e_then_ret (e_ret ?_)))
   refine r_add (slO SV.nil 5 (enI .u8) []) (slO_nil _ _ _) ?_
   refine r_endt J J (kc rm1 (kc rm0 (kd (kd kr)))) ?_
   obtain rfl := si h
   exact hk (i1.1, SV.nil) f1_0
  ·replace h := cond_f hb1791 h
   refine c_skip (e_seq (cr ?_))
   refine o1 J (o_bs (e := (enI .u8)) (l := [245, 64]) (zs := [(U 0)]) J J J J J J J J J J (fun s1792 => ?_))
   refine op J J (oe (c_seq (cr ?_)))
   refine op J J (oe ?_)
   replace h := bsome h
   obtain ⟨d5, h, hk5⟩ := h
   refine cj (D := Unit) (ι := Unit) (fun _ i5 => True) (fun _ i5 => [(10, (V s1792)), (9, (V i3)), (0, (V s0))]) (fun _ i5 => i1.1 :: slO s1792 5 (enI .u8) d5 :: slO i3 5 (enI .u8) d3.1 :: R) ?_ ?_
   ·refine c_cond (b := p1) J (fun hb1794 => ?_) (fun hb1794 => ?_)
    ·replace h := cond_t hb1794 h
     refine c_region (op J J ?_)
     replace h := gsome h
     obtain ⟨hg1795, h⟩ := h
     refine o1 J (o_ix (s := s1792) (n := 0) (e := (enI .u8)) J J J J J J rm0 (rd_own _ _ _ _) hg1795 ?_)
     refine o0 (o_stE (s := s1792) (e := (enI .u8)) (n := 0) (f := 0) (vs := [(U 126)]) (u := 126) J J rp0 hg1795 J J J J J J ?_)
     refine o_end ?_
     obtain rfl := si h
     exact ej () () trivial (sc J (sc J (sc J sn))) (kc rm1 (kc rm0 (kc rm0 (kd kr))))
    ·replace h := cond_f hb1794 h
     refine c_skip ?_
     obtain rfl := si h
     exact ej () () trivial (sc J (sc J (sc J sn))) (kc rm1 (kc rm0 (kc rm0 (kd kr))))
   ·rintro _ i5 _
    replace h := hk5
    clear hk5
    refine e_seq (cr (op J J (op J J ?_)))
    replace h := gsome h
    obtain ⟨hg1797, h⟩ := h
    refine o1 rfl (o_sl (a := 3) (b := (p0.length : Int)) (m := none) rfl rfl rfl rfl rfl rm0 (Rd.ext q0 f1_0) rfl rfl rfl (by decide) hg1797 mx_none (fun s1799 hr1798 => ?_))
    replace hr1798 := rd_tk hr1798
    replace h := gsome h
    obtain ⟨hg1800, h⟩ := h
    refine o1 J (o_app (s := s1792) (r := s1799) (e := (enI .u8)) (l := d5) (l2 := (List.drop 3 p0)) (zs := [(U 0)]) J J J J J J J J J J J rm1 rm0 hr1798 hg1800 (fun s1801 => ?_))
    refine o1 J (o_bs (e := (enI .u8)) (l := [17]) (zs := [(U 0)]) J J J J J J J J J J (fun s1803 => ?_))
    replace h := gsome h
    obtain ⟨hg1805, h⟩ := h
    refine o1 J (o_app (s := s1801) (r := s1803) (e := (enI .u8)) (l := (d5 ++ (List.drop 3 p0))) (l2 := [17]) (zs := [(U 0)]) J J J J J J J J J J J rm1 rm0 (rd_own _ _ _ _) hg1805 (fun s1806 => ?_))
    refine op J J (oe (cr (op J J ?_)))
    refine op J J ?_
    replace h := gsome h
    obtain ⟨hg1808, h⟩ := h
    refine o1 J (o_app (s := s1806) (r := i3) (e := (enI .u8)) (l := ((d5 ++ (List.drop 3 p0)) ++ [17])) (l2 := d3.1) (zs := [(U 0)]) J J J J J J J J J J J rm0 rm2 (rd_own _ _ _ _) hg1808 (fun s1809 => ?_))
    refine o1 J (o_bs (e := (enI .u8)) (l := [19]) (zs := [(U 0)]) J J J J J J J J J J (fun s1811 => ?_))
    replace h := gsome h
    obtain ⟨hg1813, h⟩ := h
    refine o1 J (o_app (s := s1809) (r := s1811) (e := (enI .u8)) (l := (((d5 ++ (List.drop 3 p0)) ++ [17]) ++ d3.1)) (l2 := [19]) (zs := [(U 0)]) J J J J J J J J J J J rm1 rm0 (rd_own _ _ _ _) hg1813 (fun s1814 => ?_))
    refine op J J (op J J (oe (c_ret (e_ret ?_))))
    refine r_endt J J (kc rm3 (kc rm0 (kd (kd (kd kr))))) ?_
    obtain rfl := si h
    exact hk (i1.1, s1814) f1_0

theorem c_write_Command {g : Gw} (hg : GK g) (X : HP) (p0 : Int) (r : Int × Bool) (h : m_write_Command p0 = some r) : Tri env g 37 (A [(U p0)]) [X] (fun K R => K (.tuple (A [(I r.1), (O r.2)])) (X :: R)) := by
 refine tri_of (fn := Tryz.f37) (N := 23) Tryz.func37 J J J ?_
 intro R K hk
 unfold m_write_Command at h
 change GC _ none _ [] [(0, (U p0))] (X :: R) g _ _
 refine cr (op J J (op J J (oe ?_)))
 refine c_seq (cr ?_)
 refine o1 J (o_ldG (b := 0) (off := 0) (v := (.agg (A [(.string (ByteArray.mk (A [78, 111, 116, 104, 105, 110, 103]))), (U 3), (U 3), (.string (ByteArray.mk (A [87, 114, 105, 116, 101]))), (U 1), (U 241), (.string (ByteArray.mk (A [69, 114, 97, 115, 101, 87, 114, 105, 116, 101]))), (U 5), (U 245), (.string (ByteArray.mk (A [69, 114, 97, 115, 101, 65, 108, 116, 101, 114, 110, 97, 116, 101]))), (U 13), (U 126), (.string (ByteArray.mk (A [69, 114, 97, 115, 101, 85, 110, 112, 114, 111, 116, 101, 99, 116, 101, 100]))), (U 15), (U 111), (.string (ByteArray.mk (A [82, 101, 97, 100, 66, 117, 102, 102, 101, 114]))), (U 2), (U 242), (.string (ByteArray.mk (A [82, 101, 97, 100, 77, 111, 100, 105, 102, 105, 101, 100]))), (U 6), (U 246), (.string (ByteArray.mk (A [82, 101, 97, 100, 65, 108, 108]))), (U 14), (U 110), (.string (ByteArray.mk (A [83, 116, 114, 117, 99, 116, 117, 114, 101, 100]))), (U 17), (U 243)]))) hg J J J ?_)
 refine op J J (oe ?_)
 replace h := jn_some h
 obtain ⟨y1, h, hk1⟩ := h
 refine cj (D := Unit) (ι := Unit) (fun d1 i1 => y1 = Sum.inl d1) (fun d1 i1 => []) (fun d1 i1 => X :: R) ?_ ?_
 ·refine c_block ?_
  refine c_loop (l_sub (sc J (sc J (sc J sn))) (l_keep (kc rm0 kr) (lf (X := Int) (ι := Unit) (fun k x => write_Command_l2 p0 k x) _ (fun x2 i2 => True) (fun x2 i2 => [(7, (I x2)), (6, (.agg (A [(.string (ByteArray.mk (A [78, 111, 116, 104, 105, 110, 103]))), (U 3), (U 3), (.string (ByteArray.mk (A [87, 114, 105, 116, 101]))), (U 1), (U 241), (.string (ByteArray.mk (A [69, 114, 97, 115, 101, 87, 114, 105, 116, 101]))), (U 5), (U 245), (.string (ByteArray.mk (A [69, 114, 97, 115, 101, 65, 108, 116, 101, 114, 110, 97, 116, 101]))), (U 13), (U 126), (.string (ByteArray.mk (A [69, 114, 97, 115, 101, 85, 110, 112, 114, 111, 116, 101, 99, 116, 101, 100]))), (U 15), (U 111), (.string (ByteArray.mk (A [82, 101, 97, 100, 66, 117, 102, 102, 101, 114]))), (U 2), (U 242), (.string (ByteArray.mk (A [82, 101, 97, 100, 77, 111, 100, 105, 102, 105, 101, 100]))), (U 6), (U 246), (.string (ByteArray.mk (A [82, 101, 97, 100, 65, 108, 108]))), (U 14), (U 110), (.string (ByteArray.mk (A [83, 116, 114, 117, 99, 116, 117, 114, 101, 100]))), (U 17), (U 243)]))), (0, (U p0))]) (fun x2 i2 => X :: R) (fun _ => J) ?_ fuel 0 () trivial h)))
  clear h
  rintro k2 ih2 x2 i2 _ h
  rw [write_Command_l2.eq_2] at h
  refine l_round (cr ?_)
  refine o1 J (o_p (v := (O (decide (x2 < 9)))) J ?_)
  refine oe (c_seq ?_)
  refine c_cond (b := (decide (x2 < 9))) J (fun hb1841 => ?_) (fun hb1841 => ?_)
  ·replace h := cond_t hb1841 h
   refine c_skip (e_seq (c_seq (c_block (cr ?_))))
   refine op J J ?_
   replace h := gsome h
   obtain ⟨hg1842, h⟩ := h
   refine o1 J (o_aidx (e := en_Vwrite_name) (l := [(⟨(ByteArray.mk (A [78, 111, 116, 104, 105, 110, 103])), 3, 3⟩ : Vwrite_name), (⟨(ByteArray.mk (A [87, 114, 105, 116, 101])), 1, 241⟩ : Vwrite_name), (⟨(ByteArray.mk (A [69, 114, 97, 115, 101, 87, 114, 105, 116, 101])), 5, 245⟩ : Vwrite_name), (⟨(ByteArray.mk (A [69, 114, 97, 115, 101, 65, 108, 116, 101, 114, 110, 97, 116, 101])), 13, 126⟩ : Vwrite_name), (⟨(ByteArray.mk (A [69, 114, 97, 115, 101, 85, 110, 112, 114, 111, 116, 101, 99, 116, 101, 100])), 15, 111⟩ : Vwrite_name), (⟨(ByteArray.mk (A [82, 101, 97, 100, 66, 117, 102, 102, 101, 114])), 2, 242⟩ : Vwrite_name), (⟨(ByteArray.mk (A [82, 101, 97, 100, 77, 111, 100, 105, 102, 105, 101, 100])), 6, 246⟩ : Vwrite_name), (⟨(ByteArray.mk (A [82, 101, 97, 100, 65, 108, 108])), 14, 110⟩ : Vwrite_name), (⟨(ByteArray.mk (A [83, 116, 114, 117, 99, 116, 117, 114, 101, 100])), 17, 243⟩ : Vwrite_name)]) (n := x2) (v := (.agg (A [(.string ((rd [(⟨(ByteArray.mk (A [78, 111, 116, 104, 105, 110, 103])), 3, 3⟩ : Vwrite_name), (⟨(ByteArray.mk (A [87, 114, 105, 116, 101])), 1, 241⟩ : Vwrite_name), (⟨(ByteArray.mk (A [69, 114, 97, 115, 101, 87, 114, 105, 116, 101])), 5, 245⟩ : Vwrite_name), (⟨(ByteArray.mk (A [69, 114, 97, 115, 101, 65, 108, 116, 101, 114, 110, 97, 116, 101])), 13, 126⟩ : Vwrite_name), (⟨(ByteArray.mk (A [69, 114, 97, 115, 101, 85, 110, 112, 114, 111, 116, 101, 99, 116, 101, 100])), 15, 111⟩ : Vwrite_name), (⟨(ByteArray.mk (A [82, 101, 97, 100, 66, 117, 102, 102, 101, 114])), 2, 242⟩ : Vwrite_name), (⟨(ByteArray.mk (A [82, 101, 97, 100, 77, 111, 100, 105, 102, 105, 101, 100])), 6, 246⟩ : Vwrite_name), (⟨(ByteArray.mk (A [82, 101, 97, 100, 65, 108, 108])), 14, 110⟩ : Vwrite_name), (⟨(ByteArray.mk (A [83, 116, 114, 117, 99, 116, 117, 114, 101, 100])), 17, 243⟩ : Vwrite_name)] x2).word)), (U ((rd [(⟨(ByteArray.mk (A [78, 111, 116, 104, 105, 110, 103])), 3, 3⟩ : Vwrite_name), (⟨(ByteArray.mk (A [87, 114, 105, 116, 101])), 1, 241⟩ : Vwrite_name), (⟨(ByteArray.mk (A [69, 114, 97, 115, 101, 87, 114, 105, 116, 101])), 5, 245⟩ : Vwrite_name), (⟨(ByteArray.mk (A [69, 114, 97, 115, 101, 65, 108, 116, 101, 114, 110, 97, 116, 101])), 13, 126⟩ : Vwrite_name), (⟨(ByteArray.mk (A [69, 114, 97, 115, 101, 85, 110, 112, 114, 111, 116, 101, 99, 116, 101, 100])), 15, 111⟩ : Vwrite_name), (⟨(ByteArray.mk (A [82, 101, 97, 100, 66, 117, 102, 102, 101, 114])), 2, 242⟩ : Vwrite_name), (⟨(ByteArray.mk (A [82, 101, 97, 100, 77, 111, 100, 105, 102, 105, 101, 100])), 6, 246⟩ : Vwrite_name), (⟨(ByteArray.mk (A [82, 101, 97, 100, 65, 108, 108])), 14, 110⟩ : Vwrite_name), (⟨(ByteArray.mk (A [83, 116, 114, 117, 99, 116, 117, 114, 101, 100])), 17, 243⟩ : Vwrite_name)] x2).one)), (U ((rd [(⟨(ByteArray.mk (A [78, 111, 116, 104, 105, 110, 103])), 3, 3⟩ : Vwrite_name), (⟨(ByteArray.mk (A [87, 114, 105, 116, 101])), 1, 241⟩ : Vwrite_name), (⟨(ByteArray.mk (A [69, 114, 97, 115, 101, 87, 114, 105, 116, 101])), 5, 245⟩ : Vwrite_name), (⟨(ByteArray.mk (A [69, 114, 97, 115, 101, 65, 108, 116, 101, 114, 110, 97, 116, 101])), 13, 126⟩ : Vwrite_name), (⟨(ByteArray.mk (A [69, 114, 97, 115, 101, 85, 110, 112, 114, 111, 116, 101, 99, 116, 101, 100])), 15, 111⟩ : Vwrite_name), (⟨(ByteArray.mk (A [82, 101, 97, 100, 66, 117, 102, 102, 101, 114])), 2, 242⟩ : Vwrite_name), (⟨(ByteArray.mk (A [82, 101, 97, 100, 77, 111, 100, 105, 102, 105, 101, 100])), 6, 246⟩ : Vwrite_name), (⟨(ByteArray.mk (A [82, 101, 97, 100, 65, 108, 108])), 14, 110⟩ : Vwrite_name), (⟨(ByteArray.mk (A [83, 116, 114, 117, 99, 116, 117, 114, 101, 100])), 17, 243⟩ : Vwrite_name)] x2).other))]))) J J J J J J J J hg1842 J ?_)
   refine o1 J (o_alloc (cs := [(.string ByteArray.empty), (U 0), (U 0)]) J J (fun b1843 => ?_))
   refine op J J ?_
   refine o0 (o_st (b := b1843) (off := 0) (vs := [(.string ((rd [(⟨(ByteArray.mk (A [78, 111, 116, 104, 105, 110, 103])), 3, 3⟩ : Vwrite_name), (⟨(ByteArray.mk (A [87, 114, 105, 116, 101])), 1, 241⟩ : Vwrite_name), (⟨(ByteArray.mk (A [69, 114, 97, 115, 101, 87, 114, 105, 116, 101])), 5, 245⟩ : Vwrite_name), (⟨(ByteArray.mk (A [69, 114, 97, 115, 101, 65, 108, 116, 101, 114, 110, 97, 116, 101])), 13, 126⟩ : Vwrite_name), (⟨(ByteArray.mk (A [69, 114, 97, 115, 101, 85, 110, 112, 114, 111, 116, 101, 99, 116, 101, 100])), 15, 111⟩ : Vwrite_name), (⟨(ByteArray.mk (A [82, 101, 97, 100, 66, 117, 102, 102, 101, 114])), 2, 242⟩ : Vwrite_name), (⟨(ByteArray.mk (A [82, 101, 97, 100, 77, 111, 100, 105, 102, 105, 101, 100])), 6, 246⟩ : Vwrite_name), (⟨(ByteArray.mk (A [82, 101, 97, 100, 65, 108, 108])), 14, 110⟩ : Vwrite_name), (⟨(ByteArray.mk (A [83, 116, 114, 117, 99, 116, 117, 114, 101, 100])), 17, 243⟩ : Vwrite_name)] x2).word)), (U ((rd [(⟨(ByteArray.mk (A [78, 111, 116, 104, 105, 110, 103])), 3, 3⟩ : Vwrite_name), (⟨(ByteArray.mk (A [87, 114, 105, 116, 101])), 1, 241⟩ : Vwrite_name), (⟨(ByteArray.mk (A [69, 114, 97, 115, 101, 87, 114, 105, 116, 101])), 5, 245⟩ : Vwrite_name), (⟨(ByteArray.mk (A [69, 114, 97, 115, 101, 65, 108, 116, 101, 114, 110, 97, 116, 101])), 13, 126⟩ : Vwrite_name), (⟨(ByteArray.mk (A [69, 114, 97, 115, 101, 85, 110, 112, 114, 111, 116, 101, 99, 116, 101, 100])), 15, 111⟩ : Vwrite_name), (⟨(ByteArray.mk (A [82, 101, 97, 100, 66, 117, 102, 102, 101, 114])), 2, 242⟩ : Vwrite_name), (⟨(ByteArray.mk (A [82, 101, 97, 100, 77, 111, 100, 105, 102, 105, 101, 100])), 6, 246⟩ : Vwrite_name), (⟨(ByteArray.mk (A [82, 101, 97, 100, 65, 108, 108])), 14, 110⟩ : Vwrite_name), (⟨(ByteArray.mk (A [83, 116, 114, 117, 99, 116, 117, 114, 101, 100])), 17, 243⟩ : Vwrite_name)] x2).one)), (U ((rd [(⟨(ByteArray.mk (A [78, 111, 116, 104, 105, 110, 103])), 3, 3⟩ : Vwrite_name), (⟨(ByteArray.mk (A [87, 114, 105, 116, 101])), 1, 241⟩ : Vwrite_name), (⟨(ByteArray.mk (A [69, 114, 97, 115, 101, 87, 114, 105, 116, 101])), 5, 245⟩ : Vwrite_name), (⟨(ByteArray.mk (A [69, 114, 97, 115, 101, 65, 108, 116, 101, 114, 110, 97, 116, 101])), 13, 126⟩ : Vwrite_name), (⟨(ByteArray.mk (A [69, 114, 97, 115, 101, 85, 110, 112, 114, 111, 116, 101, 99, 116, 101, 100])), 15, 111⟩ : Vwrite_name), (⟨(ByteArray.mk (A [82, 101, 97, 100, 66, 117, 102, 102, 101, 114])), 2, 242⟩ : Vwrite_name), (⟨(ByteArray.mk (A [82, 101, 97, 100, 77, 111, 100, 105, 102, 105, 101, 100])), 6, 246⟩ : Vwrite_name), (⟨(ByteArray.mk (A [82, 101, 97, 100, 65, 108, 108])), 14, 110⟩ : Vwrite_name), (⟨(ByteArray.mk (A [83, 116, 114, 117, 99, 116, 117, 114, 101, 100])), 17, 243⟩ : Vwrite_name)] x2).other))]) (cs' := [(.string ((rd [(⟨(ByteArray.mk (A [78, 111, 116, 104, 105, 110, 103])), 3, 3⟩ : Vwrite_name), (⟨(ByteArray.mk (A [87, 114, 105, 116, 101])), 1, 241⟩ : Vwrite_name), (⟨(ByteArray.mk (A [69, 114, 97, 115, 101, 87, 114, 105, 116, 101])), 5, 245⟩ : Vwrite_name), (⟨(ByteArray.mk (A [69, 114, 97, 115, 101, 65, 108, 116, 101, 114, 110, 97, 116, 101])), 13, 126⟩ : Vwrite_name), (⟨(ByteArray.mk (A [69, 114, 97, 115, 101, 85, 110, 112, 114, 111, 116, 101, 99, 116, 101, 100])), 15, 111⟩ : Vwrite_name), (⟨(ByteArray.mk (A [82, 101, 97, 100, 66, 117, 102, 102, 101, 114])), 2, 242⟩ : Vwrite_name), (⟨(ByteArray.mk (A [82, 101, 97, 100, 77, 111, 100, 105, 102, 105, 101, 100])), 6, 246⟩ : Vwrite_name), (⟨(ByteArray.mk (A [82, 101, 97, 100, 65, 108, 108])), 14, 110⟩ : Vwrite_name), (⟨(ByteArray.mk (A [83, 116, 114, 117, 99, 116, 117, 114, 101, 100])), 17, 243⟩ : Vwrite_name)] x2).word)), (U ((rd [(⟨(ByteArray.mk (A [78, 111, 116, 104, 105, 110, 103])), 3, 3⟩ : Vwrite_name), (⟨(ByteArray.mk (A [87, 114, 105, 116, 101])), 1, 241⟩ : Vwrite_name), (⟨(ByteArray.mk (A [69, 114, 97, 115, 101, 87, 114, 105, 116, 101])), 5, 245⟩ : Vwrite_name), (⟨(ByteArray.mk (A [69, 114, 97, 115, 101, 65, 108, 116, 101, 114, 110, 97, 116, 101])), 13, 126⟩ : Vwrite_name), (⟨(ByteArray.mk (A [69, 114, 97, 115, 101, 85, 110, 112, 114, 111, 116, 101, 99, 116, 101, 100])), 15, 111⟩ : Vwrite_name), (⟨(ByteArray.mk (A [82, 101, 97, 100, 66, 117, 102, 102, 101, 114])), 2, 242⟩ : Vwrite_name), (⟨(ByteArray.mk (A [82, 101, 97, 100, 77, 111, 100, 105, 102, 105, 101, 100])), 6, 246⟩ : Vwrite_name), (⟨(ByteArray.mk (A [82, 101, 97, 100, 65, 108, 108])), 14, 110⟩ : Vwrite_name), (⟨(ByteArray.mk (A [83, 116, 114, 117, 99, 116, 117, 114, 101, 100])), 17, 243⟩ : Vwrite_name)] x2).one)), (U ((rd [(⟨(ByteArray.mk (A [78, 111, 116, 104, 105, 110, 103])), 3, 3⟩ : Vwrite_name), (⟨(ByteArray.mk (A [87, 114, 105, 116, 101])), 1, 241⟩ : Vwrite_name), (⟨(ByteArray.mk (A [69, 114, 97, 115, 101, 87, 114, 105, 116, 101])), 5, 245⟩ : Vwrite_name), (⟨(ByteArray.mk (A [69, 114, 97, 115, 101, 65, 108, 116, 101, 114, 110, 97, 116, 101])), 13, 126⟩ : Vwrite_name), (⟨(ByteArray.mk (A [69, 114, 97, 115, 101, 85, 110, 112, 114, 111, 116, 101, 99, 116, 101, 100])), 15, 111⟩ : Vwrite_name), (⟨(ByteArray.mk (A [82, 101, 97, 100, 66, 117, 102, 102, 101, 114])), 2, 242⟩ : Vwrite_name), (⟨(ByteArray.mk (A [82, 101, 97, 100, 77, 111, 100, 105, 102, 105, 101, 100])), 6, 246⟩ : Vwrite_name), (⟨(ByteArray.mk (A [82, 101, 97, 100, 65, 108, 108])), 14, 110⟩ : Vwrite_name), (⟨(ByteArray.mk (A [83, 116, 114, 117, 99, 116, 117, 114, 101, 100])), 17, 243⟩ : Vwrite_name)] x2).other))]) J J rp0 J J J J J J ?_)
   refine oe (c_seq ?_)
   replace h := bsome h
   obtain ⟨d5, h, hk5⟩ := h
   refine cj (D := Unit) (ι := Unit) (fun _ i5 => True) (fun _ i5 => [(20, (O d5)), (4, (I x2)), (7, (I x2)), (6, (.agg (A [(.string (ByteArray.mk (A [78, 111, 116, 104, 105, 110, 103]))), (U 3), (U 3), (.string (ByteArray.mk (A [87, 114, 105, 116, 101]))), (U 1), (U 241), (.string (ByteArray.mk (A [69, 114, 97, 115, 101, 87, 114, 105, 116, 101]))), (U 5), (U 245), (.string (ByteArray.mk (A [69, 114, 97, 115, 101, 65, 108, 116, 101, 114, 110, 97, 116, 101]))), (U 13), (U 126), (.string (ByteArray.mk (A [69, 114, 97, 115, 101, 85, 110, 112, 114, 111, 116, 101, 99, 116, 101, 100]))), (U 15), (U 111), (.string (ByteArray.mk (A [82, 101, 97, 100, 66, 117, 102, 102, 101, 114]))), (U 2), (U 242), (.string (ByteArray.mk (A [82, 101, 97, 100, 77, 111, 100, 105, 102, 105, 101, 100]))), (U 6), (U 246), (.string (ByteArray.mk (A [82, 101, 97, 100, 65, 108, 108]))), (U 14), (U 110), (.string (ByteArray.mk (A [83, 116, 114, 117, 99, 116, 117, 114, 101, 100]))), (U 17), (U 243)]))), (0, (U p0))]) (fun _ i5 => X :: R) ?_ ?_
   ·refine c_region ?_
    refine o1 J (o_fa (fd := ⟨ "one", 5, 1, false, "", "vitrine/write", 16⟩) J J J J J ?_)
    refine o1 J (o_ld (b := b1843) (off := 1) (v := (U ((rd [(⟨(ByteArray.mk (A [78, 111, 116, 104, 105, 110, 103])), 3, 3⟩ : Vwrite_name), (⟨(ByteArray.mk (A [87, 114, 105, 116, 101])), 1, 241⟩ : Vwrite_name), (⟨(ByteArray.mk (A [69, 114, 97, 115, 101, 87, 114, 105, 116, 101])), 5, 245⟩ : Vwrite_name), (⟨(ByteArray.mk (A [69, 114, 97, 115, 101, 65, 108, 116, 101, 114, 110, 97, 116, 101])), 13, 126⟩ : Vwrite_name), (⟨(ByteArray.mk (A [69, 114, 97, 115, 101, 85, 110, 112, 114, 111, 116, 101, 99, 116, 101, 100])), 15, 111⟩ : Vwrite_name), (⟨(ByteArray.mk (A [82, 101, 97, 100, 66, 117, 102, 102, 101, 114])), 2, 242⟩ : Vwrite_name), (⟨(ByteArray.mk (A [82, 101, 97, 100, 77, 111, 100, 105, 102, 105, 101, 100])), 6, 246⟩ : Vwrite_name), (⟨(ByteArray.mk (A [82, 101, 97, 100, 65, 108, 108])), 14, 110⟩ : Vwrite_name), (⟨(ByteArray.mk (A [83, 116, 114, 117, 99, 116, 117, 114, 101, 100])), 17, 243⟩ : Vwrite_name)] x2).one))) J rm0 J J ?_)
    refine op J J ?_
    refine o1 J (o_p (v := (O (((rd [(⟨(ByteArray.mk (A [78, 111, 116, 104, 105, 110, 103])), 3, 3⟩ : Vwrite_name), (⟨(ByteArray.mk (A [87, 114, 105, 116, 101])), 1, 241⟩ : Vwrite_name), (⟨(ByteArray.mk (A [69, 114, 97, 115, 101, 87, 114, 105, 116, 101])), 5, 245⟩ : Vwrite_name), (⟨(ByteArray.mk (A [69, 114, 97, 115, 101, 65, 108, 116, 101, 114, 110, 97, 116, 101])), 13, 126⟩ : Vwrite_name), (⟨(ByteArray.mk (A [69, 114, 97, 115, 101, 85, 110, 112, 114, 111, 116, 101, 99, 116, 101, 100])), 15, 111⟩ : Vwrite_name), (⟨(ByteArray.mk (A [82, 101, 97, 100, 66, 117, 102, 102, 101, 114])), 2, 242⟩ : Vwrite_name), (⟨(ByteArray.mk (A [82, 101, 97, 100, 77, 111, 100, 105, 102, 105, 101, 100])), 6, 246⟩ : Vwrite_name), (⟨(ByteArray.mk (A [82, 101, 97, 100, 65, 108, 108])), 14, 110⟩ : Vwrite_name), (⟨(ByteArray.mk (A [83, 116, 114, 117, 99, 116, 117, 114, 101, 100])), 17, 243⟩ : Vwrite_name)] x2).one) == p0))) J ?_)
    refine op J J ?_
    rcases bool_or ((((rd [(⟨(ByteArray.mk (List.toArray [78, 111, 116, 104, 105, 110, 103])), 3, 3⟩ : Vwrite_name), (⟨(ByteArray.mk (List.toArray [87, 114, 105, 116, 101])), 1, 241⟩ : Vwrite_name), (⟨(ByteArray.mk (List.toArray [69, 114, 97, 115, 101, 87, 114, 105, 116, 101])), 5, 245⟩ : Vwrite_name), (⟨(ByteArray.mk (List.toArray [69, 114, 97, 115, 101, 65, 108, 116, 101, 114, 110, 97, 116, 101])), 13, 126⟩ : Vwrite_name), (⟨(ByteArray.mk (List.toArray [69, 114, 97, 115, 101, 85, 110, 112, 114, 111, 116, 101, 99, 116, 101, 100])), 15, 111⟩ : Vwrite_name), (⟨(ByteArray.mk (List.toArray [82, 101, 97, 100, 66, 117, 102, 102, 101, 114])), 2, 242⟩ : Vwrite_name), (⟨(ByteArray.mk (List.toArray [82, 101, 97, 100, 77, 111, 100, 105, 102, 105, 101, 100])), 6, 246⟩ : Vwrite_name), (⟨(ByteArray.mk (List.toArray [82, 101, 97, 100, 65, 108, 108])), 14, 110⟩ : Vwrite_name), (⟨(ByteArray.mk (List.toArray [83, 116, 114, 117, 99, 116, 117, 114, 101, 100])), 17, 243⟩ : Vwrite_name)] x2).one) == p0)) with hb1845 | hb1845
    ·replace h := cond_t hb1845 h
     refine on J J J hb1845 ?_
     refine on J J J hb1845 ?_
     refine on J J J hb1845 ?_
     refine on J J J hb1845 ?_
     refine o1 J (o_pick_t J hb1845 J ?_)
     refine o_end ?_
     obtain rfl := si h
     exact ej () () trivial (sc J (sc J (sc J (sc J (sc J sn))))) (kc rm1 (kd kr))
    ·replace h := cond_f hb1845 h
     refine oy J J J hb1845 (o_fa (fd := ⟨ "other", 5, 2, false, "", "vitrine/write", 17⟩) J J J J J ?_)
     refine oy J J J hb1845 (o_ld (b := b1843) (off := 2) (v := (U ((rd [(⟨(ByteArray.mk (A [78, 111, 116, 104, 105, 110, 103])), 3, 3⟩ : Vwrite_name), (⟨(ByteArray.mk (A [87, 114, 105, 116, 101])), 1, 241⟩ : Vwrite_name), (⟨(ByteArray.mk (A [69, 114, 97, 115, 101, 87, 114, 105, 116, 101])), 5, 245⟩ : Vwrite_name), (⟨(ByteArray.mk (A [69, 114, 97, 115, 101, 65, 108, 116, 101, 114, 110, 97, 116, 101])), 13, 126⟩ : Vwrite_name), (⟨(ByteArray.mk (A [69, 114, 97, 115, 101, 85, 110, 112, 114, 111, 116, 101, 99, 116, 101, 100])), 15, 111⟩ : Vwrite_name), (⟨(ByteArray.mk (A [82, 101, 97, 100, 66, 117, 102, 102, 101, 114])), 2, 242⟩ : Vwrite_name), (⟨(ByteArray.mk (A [82, 101, 97, 100, 77, 111, 100, 105, 102, 105, 101, 100])), 6, 246⟩ : Vwrite_name), (⟨(ByteArray.mk (A [82, 101, 97, 100, 65, 108, 108])), 14, 110⟩ : Vwrite_name), (⟨(ByteArray.mk (A [83, 116, 114, 117, 99, 116, 117, 114, 101, 100])), 17, 243⟩ : Vwrite_name)] x2).other))) J rm0 J J ?_)
     refine oy J J J hb1845 (o_p J ?_)
     refine oy J J J hb1845 (o_p (v := (O (((rd [(⟨(ByteArray.mk (A [78, 111, 116, 104, 105, 110, 103])), 3, 3⟩ : Vwrite_name), (⟨(ByteArray.mk (A [87, 114, 105, 116, 101])), 1, 241⟩ : Vwrite_name), (⟨(ByteArray.mk (A [69, 114, 97, 115, 101, 87, 114, 105, 116, 101])), 5, 245⟩ : Vwrite_name), (⟨(ByteArray.mk (A [69, 114, 97, 115, 101, 65, 108, 116, 101, 114, 110, 97, 116, 101])), 13, 126⟩ : Vwrite_name), (⟨(ByteArray.mk (A [69, 114, 97, 115, 101, 85, 110, 112, 114, 111, 116, 101, 99, 116, 101, 100])), 15, 111⟩ : Vwrite_name), (⟨(ByteArray.mk (A [82, 101, 97, 100, 66, 117, 102, 102, 101, 114])), 2, 242⟩ : Vwrite_name), (⟨(ByteArray.mk (A [82, 101, 97, 100, 77, 111, 100, 105, 102, 105, 101, 100])), 6, 246⟩ : Vwrite_name), (⟨(ByteArray.mk (A [82, 101, 97, 100, 65, 108, 108])), 14, 110⟩ : Vwrite_name), (⟨(ByteArray.mk (A [83, 116, 114, 117, 99, 116, 117, 114, 101, 100])), 17, 243⟩ : Vwrite_name)] x2).other) == p0))) J ?_)
     refine o1 J (o_pick_f J hb1845 J ?_)
     refine o_end ?_
     obtain rfl := si h
     exact ej () () trivial (sc J (sc J (sc J (sc J (sc J sn))))) (kc rm1 (kd kr))
   ·rintro _ i5 _
    replace h := hk5
    clear hk5
    refine e_seq ?_
    refine c_cond (b := d5) J (fun hb1846 => ?_) (fun hb1846 => ?_)
    ·replace h := cond_t hb1846 h
     refine cr (op J J (op J J (op J J (o_end ?_))))
     refine e_seq (c_ret (e_blk_ret (e_then_ret (e_then_ret (e_blk_ret ?_)))))
     refine ej_ret ?_
     replace h := esc_some h
     obtain ⟨z1, h, rfl⟩ := h
     obtain rfl := (hk1 : z1 = _)
     refine e_then_ret (e_ret ?_)
     refine r_endt J J (kc rm0 kr) ?_
     obtain rfl := si h
     exact hk
    ·replace h := cond_f hb1846 h
     refine c_skip (e_blk (e_seq (c_region ?_)))
     refine o1 J (o_p (v := (I (w64 (x2 + 1)))) J ?_)
     refine op J J (o_end ?_)
     exact e_loop (l_sub (sc J (sc J (sc J sn))) (l_keep (kc rm0 kr) (ih2 (w64 (x2 + 1)) () trivial h)))
  ·replace h := cond_f hb1841 h
   refine c_exit (e_then_exit (e_then_exit (e_blk_exit ?_)))
   obtain rfl := si h
   exact ej () () J sn (kc rm0 kr)
 ·rintro d1 i1 rfl
  replace h := JK_inl hk1
  clear hk1
  refine e_seq (cr (op J J (op J J (o_end ?_))))
  refine e_seq (c_ret (e_ret ?_))
  refine r_endt J J (kc rm0 kr) ?_
  obtain rfl := si h
  exact hk

theorem c_order_Parse {g : Gw} (hg : GK g) (X : HP) (p0 : List Int) (s0 : SV) (q0 : Rd X s0 5 (enI .u8) p0) (r : Unit) (h : m_order_Parse p0 = some r) : Tri env g 100 (A [(V s0)]) [X] (fun K R => ∀ (i0 : Nat), K (.func (.func 112) #[] (A [(F i0 0)])) (X :: blk i0 (.cells (A [(V s0)]) 28 (0, 0)) :: R)) := by
 refine tri_of (fn := Tryz.f100) (N := 4) Tryz.func100 J J J ?_
 intro R K hk
 unfold m_order_Parse at h
 change GC _ none _ [] [(0, (V s0))] (X :: R) g _ _
 refine cr ?_
 refine o1 J (o_box (cs := [(V s0)]) J J (fun b1879 => ?_))
 refine op J J (oe (cr (op J J ?_)))
 refine op J J (oe (c_ret (e_ret ?_)))
 refine r_endt J J (kc rm1 (kc rm0 kr)) ?_
 obtain rfl := si h
 exact hk b1879

theorem c_write_pen_cell {g : Gw} (hg : GK g) (X : HP) (p0 : Vwrite_pen) (b0 : Nat) (p1 : Vspace_Space) (b1 : Nat) (s0 : SV) (p2 : Int) (p3 : Bool) (r : Vapi_Cell) (h : m_write_pen_cell p0 p1 p2 p3 = some r) : Tri env g 122 (A [(F b0 0), (U p2), (O p3)]) [X, blk b0 (.cells (A [(F b1 0), (I p0.n), (U p0.look.Char), (O p0.look.Attr), (U p0.look.FA), (U p0.look.High), (U p0.look.Color), (U p0.look.f_Set), (O p0.texts)]) 187 (0, 0)), blk b1 (.cells (A [(I p1.model), (O p1.alternate), (I p1.size.Rows), (I p1.size.Cols), (V s0), (I p1.cursor), (I p1.attrs)]) 105 (0, 0)), slO s0 49 en_Vapi_Cell p1.cells] (fun K R => K (.agg (A [(U r.Char), (O r.Attr), (U r.FA), (U r.High), (U r.Color), (U r.f_Set)])) (X :: blk b1 (.cells (A [(I p1.model), (O p1.alternate), (I p1.size.Rows), (I p1.size.Cols), (V s0), (I p1.cursor), (I p1.attrs)]) 105 (0, 0)) :: slO s0 49 en_Vapi_Cell p1.cells :: blk b0 (.cells (A [(F b1 0), (I p0.n), (U p0.look.Char), (O p0.look.Attr), (U p0.look.FA), (U p0.look.High), (U p0.look.Color), (U p0.look.f_Set), (O p0.texts)]) 187 (0, 0)) :: R)) := by
 refine tri_of (fn := Tryz.f122) (N := 17) Tryz.func122 J J J ?_
 intro R K hk
 unfold m_write_pen_cell at h
 change GC _ none _ [] [(0, (F b0 0)), (1, (U p2)), (2, (O p3))] (X :: blk b0 (.cells (A [(F b1 0), (I p0.n), (U p0.look.Char), (O p0.look.Attr), (U p0.look.FA), (U p0.look.High), (U p0.look.Color), (U p0.look.f_Set), (O p0.texts)]) 187 (0, 0)) :: blk b1 (.cells (A [(I p1.model), (O p1.alternate), (I p1.size.Rows), (I p1.size.Cols), (V s0), (I p1.cursor), (I p1.attrs)]) 105 (0, 0)) :: slO s0 49 en_Vapi_Cell p1.cells :: R) g _ _
 refine cr ?_
 refine o1 J (o_alloc (cs := [(U 0), (O false), (U 0), (U 0), (U 0), (U 0)]) J J (fun b1898 => ?_))
 refine oe (cr (op J J (op J J ?_)))
 refine o1 J (o_fa (fd := ⟨ "look", 49, 2, false, "", "vitrine/write", 16⟩) J J J J J ?_)
 refine o1 J (o_ld (b := b0) (off := 2) (v := (.agg (A [(U p0.look.Char), (O p0.look.Attr), (U p0.look.FA), (U p0.look.High), (U p0.look.Color), (U p0.look.f_Set)]))) J rm2 J J ?_)
 refine o1 J (o_alloc (cs := [(U 0), (O false), (U 0), (U 0), (U 0), (U 0)]) J J (fun b1900 => ?_))
 refine o0 (o_st (b := b1900) (off := 0) (vs := [(U p0.look.Char), (O p0.look.Attr), (U p0.look.FA), (U p0.look.High), (U p0.look.Color), (U p0.look.f_Set)]) (cs' := [(U p0.look.Char), (O p0.look.Attr), (U p0.look.FA), (U p0.look.High), (U p0.look.Color), (U p0.look.f_Set)]) J J rp0 J J J J J J ?_)
 refine oe (cr (op J J ?_))
 refine o1 J (o_fa (fd := ⟨ "Char", 5, 0, false, "", "", 0⟩) J J J J J ?_)
 refine o0 (o_st (b := b1900) (off := 0) (vs := [(U p2)]) (cs' := [(U p2), (O p0.look.Attr), (U p0.look.FA), (U p0.look.High), (U p0.look.Color), (U p0.look.f_Set)]) J J rp0 J J J J J J ?_)
 refine oe (c_seq (cr (op J J ?_)))
 refine oe ?_
 replace h := bsome h
 obtain ⟨d1, h, hk1⟩ := h
 refine cj (D := Unit) (ι := Unit) (fun _ i1 => True) (fun _ i1 => [(7, (F b1900 0)), (6, (F b1898 0))]) (fun _ i1 => X :: blk b1900 (.cells (A [(U p2), (O p0.look.Attr), (U p0.look.FA), (U p0.look.High), (U p0.look.Color), (U d1)]) 49 (0, 0)) :: blk b1898 (.cells (A [(U 0), (O false), (U 0), (U 0), (U 0), (U 0)]) 49 (0, 0)) :: blk b1 (.cells (A [(I p1.model), (O p1.alternate), (I p1.size.Rows), (I p1.size.Cols), (V s0), (I p1.cursor), (I p1.attrs)]) 105 (0, 0)) :: blk b0 (.cells (A [(F b1 0), (I p0.n), (U p0.look.Char), (O p0.look.Attr), (U p0.look.FA), (U p0.look.High), (U p0.look.Color), (U p0.look.f_Set), (O p0.texts)]) 187 (0, 0)) :: slO s0 49 en_Vapi_Cell p1.cells :: R) ?_ ?_
 ·refine c_cond (b := p3) J (fun hb1902 => ?_) (fun hb1902 => ?_)
  ·replace h := cond_t hb1902 h
   refine c_region ?_
   refine o1 J (o_fa (fd := ⟨ "Set", 5, 5, false, "", "", 5⟩) J J J J J ?_)
   refine o0 (o_st (b := b1900) (off := 5) (vs := [(U 241)]) (cs' := [(U p2), (O p0.look.Attr), (U p0.look.FA), (U p0.look.High), (U p0.look.Color), (U 241)]) J J rp0 J J J J J J ?_)
   refine o_end ?_
   obtain rfl := si h
   exact ej () () trivial (sc J (sc J sn)) (kc rm2 (kc rm0 (kc rm0 (kc rm1 (kc rm0 (kc rm0 kr))))))
  ·replace h := cond_f hb1902 h
   refine c_skip ?_
   obtain rfl := si h
   exact ej () () trivial (sc J (sc J sn)) (kc rm2 (kc rm0 (kc rm0 (kc rm1 (kc rm0 (kc rm0 kr))))))
 ·rintro _ i1 _
  replace h := hk1
  clear hk1
  refine e_seq (cr ?_)
  refine o1 J (o_ld (b := b1900) (off := 0) (v := (.agg (A [(U p2), (O p0.look.Attr), (U p0.look.FA), (U p0.look.High), (U p0.look.Color), (U d1)]))) J rm1 J J ?_)
  refine o0 (o_st (b := b1898) (off := 0) (vs := [(U p2), (O p0.look.Attr), (U p0.look.FA), (U p0.look.High), (U p0.look.Color), (U d1)]) (cs' := [(U p2), (O p0.look.Attr), (U p0.look.FA), (U p0.look.High), (U p0.look.Color), (U d1)]) J J rp2 J J J J J J ?_)
  refine oe (c_ret (e_ret ?_))
  refine r_endc (B := [[(U p2), (O p0.look.Attr), (U p0.look.FA), (U p0.look.High), (U p0.look.Color), (U d1)]]) J ⟨⟨_, _, _, _, J, rm2⟩, trivial⟩ J (kc rm0 (kc rm2 (kc rm3 (kc rm2 (kd (kd kr)))))) ?_
  obtain rfl := si h
  exact hk

theorem c_write_pen_next {g : Gw} (hg : GK g) (X : HP) (p0 : Vwrite_pen) (b0 : Nat) (p1 : Vspace_Space) (b1 : Nat) (s0 : SV) (r : Vwrite_pen) (h : m_write_pen_next p0 p1 = some r) : Tri env g 123 (A [(F b0 0)]) [X, blk b0 (.cells (A [(F b1 0), (I p0.n), (U p0.look.Char), (O p0.look.Attr), (U p0.look.FA), (U p0.look.High), (U p0.look.Color), (U p0.look.f_Set), (O p0.texts)]) 187 (0, 0)), blk b1 (.cells (A [(I p1.model), (O p1.alternate), (I p1.size.Rows), (I p1.size.Cols), (V s0), (I p1.cursor), (I p1.attrs)]) 105 (0, 0)), slO s0 49 en_Vapi_Cell p1.cells] (fun K R => K (.tuple (A [])) (X :: blk b1 (.cells (A [(I p1.model), (O p1.alternate), (I p1.size.Rows), (I p1.size.Cols), (V s0), (I p1.cursor), (I p1.attrs)]) 105 (0, 0)) :: slO s0 49 en_Vapi_Cell p1.cells :: blk b0 (.cells (A [(F b1 0), (I r.n), (U r.look.Char), (O r.look.Attr), (U r.look.FA), (U r.look.High), (U r.look.Color), (U r.look.f_Set), (O r.texts)]) 187 (0, 0)) :: R)) := by
 refine tri_of (fn := Tryz.f123) (N := 16) Tryz.func123 J J J ?_
 intro R K hk
 unfold m_write_pen_next at h
 change GC _ none _ [] [(0, (F b0 0))] (X :: blk b0 (.cells (A [(F b1 0), (I p0.n), (U p0.look.Char), (O p0.look.Attr), (U p0.look.FA), (U p0.look.High), (U p0.look.Color), (U p0.look.f_Set), (O p0.texts)]) 187 (0, 0)) :: blk b1 (.cells (A [(I p1.model), (O p1.alternate), (I p1.size.Rows), (I p1.size.Cols), (V s0), (I p1.cursor), (I p1.attrs)]) 105 (0, 0)) :: slO s0 49 en_Vapi_Cell p1.cells :: R) g _ _
 refine c_draw (n := 3) (q := [(0, 2, (F b0 0)), (1, 3, (F b0 0)), (2, 4, (F b0 0)), (3, 5, (F b0 0)), (4, 6, (F b1 0)), (6, 8, (F b0 0)), (7, 9, (F b0 0)), (8, 10, (F b0 1)), (9, 11, (I p0.n)), (10, 12, (I (w64 (p0.n + 1))))]) (pend := [0, 1, 2, 3, 4, 6, 7, 8, 9, 10]) J J J ?_
 replace h := bsome h
 obtain ⟨d1, h1, h⟩ := h
 refine ⟨⟨fun _ => ⟨J, J, J, .inl ⟨J, (o_p J ⟨J, J⟩)⟩⟩, fun _ => ⟨J, J, J, .inl ⟨J, (o_p J ⟨J, J⟩)⟩⟩, fun _ => ⟨J, J, J, .inl ⟨J, (o_p J ⟨J, J⟩)⟩⟩, fun _ => ⟨J, J, J, .inl ⟨J, (o_fa (fd := ⟨ "s", 24, 0, false, "", "vitrine/write", 0⟩) J J J J J ⟨J, J⟩)⟩⟩, fun _ => ⟨J, J, J, .inl ⟨J, (o_ld (b := b0) (off := 0) (v := (F b1 0)) J rm1 J J ⟨J, J⟩)⟩⟩, fun _ => ⟨J, J, J, .inl ⟨J, (o_p J ⟨J, J⟩)⟩⟩, fun _ => ⟨J, J, J, .inl ⟨J, (o_p J ⟨J, J⟩)⟩⟩, fun _ => ⟨J, J, J, .inl ⟨J, (o_fa (fd := ⟨ "n", 3, 1, false, "", "vitrine/write", 8⟩) J J J J J ⟨J, J⟩)⟩⟩, fun _ => ⟨J, J, J, .inl ⟨J, (o_ld (b := b0) (off := 1) (v := (I p0.n)) J rm1 J J ⟨J, J⟩)⟩⟩, fun _ => ⟨J, J, J, .inl ⟨J, (o_p (v := (I (w64 (p0.n + 1)))) J ⟨J, J⟩)⟩⟩, trivial⟩, J, .inr ⟨[5], J, J, ⟨J, .inl J, ?_⟩, trivial⟩⟩
 refine (o_call has53 J (c_space_Space_Size hg X p1 b1 s0 _ h1) (pc rm0 (pc rm1 (pc rm1 pn))) ?_)
 refine ⟨[], [0, 6, 7, 8, 9, 10], J, J, J, J, ?_⟩
 replace h := bsome h
 obtain ⟨d2, h2, h⟩ := h
 refine ⟨⟨fun _ => ⟨J, J, J, .inl ⟨J, (o_p J ⟨J, J⟩)⟩⟩, (fun h => nomatch h), (fun h => nomatch h), (fun h => nomatch h), (fun h => nomatch h), fun _ => ⟨J, J, J, .inl ⟨J, (o_p J ⟨J, J⟩)⟩⟩, fun _ => ⟨J, J, J, .inl ⟨J, (o_p J ⟨J, J⟩)⟩⟩, fun _ => ⟨J, J, J, .inl ⟨J, (o_fa (fd := ⟨ "n", 3, 1, false, "", "vitrine/write", 8⟩) J J J J J ⟨J, J⟩)⟩⟩, fun _ => ⟨J, J, J, .inl ⟨J, (o_ld (b := b0) (off := 1) (v := (I p0.n)) J rm3 J J ⟨J, J⟩)⟩⟩, fun _ => ⟨J, J, J, .inl ⟨J, (o_p (v := (I (w64 (p0.n + 1)))) J ⟨J, J⟩)⟩⟩, trivial⟩, J, .inr ⟨[11], J, J, ⟨J, .inl J, ?_⟩, trivial⟩⟩
 refine (o_call has40 J (c_addr_Size_Wrap hg X (⟨d1.Rows, d1.Cols⟩ : Vaddr_Size) (w64 (p0.n + 1)) _ h2) (pc rm0 pn) ?_)
 refine ⟨[(12, 14, (F b0 0)), (13, 15, (F b0 1))], [0, 12, 13], J, J, J, J, ?_⟩
 refine ⟨⟨fun _ => ⟨J, J, J, .inl ⟨J, (o_p J ⟨J, J⟩)⟩⟩, fun _ => ⟨J, J, J, .inl ⟨J, (o_fa (fd := ⟨ "n", 3, 1, false, "", "vitrine/write", 8⟩) J J J J J ⟨J, J⟩)⟩⟩, fun _ => ⟨J, J, J, .inl ⟨J, (o_p J ⟨J, J⟩)⟩⟩, (fun h => nomatch h), (fun h => nomatch h), (fun h => nomatch h), (fun h => nomatch h), (fun h => nomatch h), (fun h => nomatch h), (fun h => nomatch h), (fun h => nomatch h), (fun h => nomatch h), trivial⟩, J, .inr ⟨[14], J, J, ⟨J, .inl J, ?_⟩, trivial⟩⟩
 refine (o_st (b := b0) (off := 1) (vs := [(I d2)]) (cs' := [(F b1 0), (I d2), (U p0.look.Char), (O p0.look.Attr), (U p0.look.FA), (U p0.look.High), (U p0.look.Color), (U p0.look.f_Set), (O p0.texts)]) J J rp3 J J J J J J ?_)
 refine ⟨[], [], J, J, ?_⟩
 refine ⟨⟨(fun h => nomatch h), (fun h => nomatch h), (fun h => nomatch h), (fun h => nomatch h), (fun h => nomatch h), (fun h => nomatch h), (fun h => nomatch h), (fun h => nomatch h), (fun h => nomatch h), (fun h => nomatch h), (fun h => nomatch h), (fun h => nomatch h), trivial⟩, J, J, J, ?_⟩
 refine e_fall ?_
 refine r_endt J J (kc rm0 (kc rm0 (kc rm0 (kc rm0 kr)))) ?_
 obtain rfl := si h
 exact hk

theorem c_write_pen_put {g : Gw} (hg : GK g) (X : HP) (p0 : Vwrite_pen) (b0 : Nat) (p1 : Vspace_Space) (b1 : Nat) (s0 : SV) (p2 : Int) (p3 : Bool) (r : Vspace_Space × Vwrite_pen) (h : m_write_pen_put p0 p1 p2 p3 = some r) : Tri env g 113 (A [(F b0 0), (U p2), (O p3)]) [X, blk b0 (.cells (A [(F b1 0), (I p0.n), (U p0.look.Char), (O p0.look.Attr), (U p0.look.FA), (U p0.look.High), (U p0.look.Color), (U p0.look.f_Set), (O p0.texts)]) 187 (0, 0)), blk b1 (.cells (A [(I p1.model), (O p1.alternate), (I p1.size.Rows), (I p1.size.Cols), (V s0), (I p1.cursor), (I p1.attrs)]) 105 (0, 0)), slO s0 49 en_Vapi_Cell p1.cells] (fun K R => K (.tuple (A [])) (X :: blk b1 (.cells (A [(I r.1.model), (O r.1.alternate), (I r.1.size.Rows), (I r.1.size.Cols), (V s0), (I r.1.cursor), (I r.1.attrs)]) 105 (0, 0)) :: slO s0 49 en_Vapi_Cell r.1.cells :: blk b0 (.cells (A [(F b1 0), (I r.2.n), (U r.2.look.Char), (O r.2.look.Attr), (U r.2.look.FA), (U r.2.look.High), (U r.2.look.Color), (U r.2.look.f_Set), (O r.2.texts)]) 187 (0, 0)) :: R)) := by
 refine tri_of (fn := Tryz.f113) (N := 21) Tryz.func113 J J J ?_
 intro R K hk
 unfold m_write_pen_put at h
 change GC _ none _ [] [(0, (F b0 0)), (1, (U p2)), (2, (O p3))] (X :: blk b0 (.cells (A [(F b1 0), (I p0.n), (U p0.look.Char), (O p0.look.Attr), (U p0.look.FA), (U p0.look.High), (U p0.look.Color), (U p0.look.f_Set), (O p0.texts)]) 187 (0, 0)) :: blk b1 (.cells (A [(I p1.model), (O p1.alternate), (I p1.size.Rows), (I p1.size.Cols), (V s0), (I p1.cursor), (I p1.attrs)]) 105 (0, 0)) :: slO s0 49 en_Vapi_Cell p1.cells :: R) g _ _
 refine c_seq ?_
 refine c_draw (n := 2) (q := [(0, 6, (F b0 0)), (1, 7, (F b0 0)), (2, 8, (F b0 0)), (3, 9, (F b1 0)), (4, 10, (F b0 0)), (5, 11, (F b0 0)), (6, 12, (F b0 1)), (7, 13, (I p0.n)), (8, 14, (F b0 0)), (9, 15, (U p2)), (10, 16, (O p3))]) (pend := [0, 1, 2, 3, 4, 5, 6, 7, 8, 9, 10]) J J J ?_
 replace h := bsome h
 obtain ⟨d2, h2, h⟩ := h
 refine ⟨⟨fun _ => ⟨J, J, J, .inl ⟨J, (o_p J ⟨J, J⟩)⟩⟩, fun _ => ⟨J, J, J, .inl ⟨J, (o_p J ⟨J, J⟩)⟩⟩, fun _ => ⟨J, J, J, .inl ⟨J, (o_fa (fd := ⟨ "s", 24, 0, false, "", "vitrine/write", 0⟩) J J J J J ⟨J, J⟩)⟩⟩, fun _ => ⟨J, J, J, .inl ⟨J, (o_ld (b := b0) (off := 0) (v := (F b1 0)) J rm1 J J ⟨J, J⟩)⟩⟩, fun _ => ⟨J, J, J, .inl ⟨J, (o_p J ⟨J, J⟩)⟩⟩, fun _ => ⟨J, J, J, .inl ⟨J, (o_p J ⟨J, J⟩)⟩⟩, fun _ => ⟨J, J, J, .inl ⟨J, (o_fa (fd := ⟨ "n", 3, 1, false, "", "vitrine/write", 8⟩) J J J J J ⟨J, J⟩)⟩⟩, fun _ => ⟨J, J, J, .inl ⟨J, (o_ld (b := b0) (off := 1) (v := (I p0.n)) J rm1 J J ⟨J, J⟩)⟩⟩, fun _ => ⟨J, J, J, .inl ⟨J, (o_p J ⟨J, J⟩)⟩⟩, fun _ => ⟨J, J, J, .inl ⟨J, (o_p J ⟨J, J⟩)⟩⟩, fun _ => ⟨J, J, J, .inl ⟨J, (o_p J ⟨J, J⟩)⟩⟩, trivial⟩, J, .inr ⟨[11], J, J, ⟨J, .inl J, ?_⟩, trivial⟩⟩
 refine (o_call has122 J (c_write_pen_cell hg X p0 b0 p1 b1 s0 p2 p3 _ h2) (pc rm0 (pc rm0 (pc rm0 (pc rm0 pn)))) ?_)
 refine ⟨[], [0, 1, 2, 3, 4, 5, 6, 7], J, J, J, J, ?_⟩
 replace h := bsome h
 obtain ⟨d3, h3, h⟩ := h
 refine ⟨⟨fun _ => ⟨J, J, J, .inl ⟨J, (o_p J ⟨J, J⟩)⟩⟩, fun _ => ⟨J, J, J, .inl ⟨J, (o_p J ⟨J, J⟩)⟩⟩, fun _ => ⟨J, J, J, .inl ⟨J, (o_fa (fd := ⟨ "s", 24, 0, false, "", "vitrine/write", 0⟩) J J J J J ⟨J, J⟩)⟩⟩, fun _ => ⟨J, J, J, .inl ⟨J, (o_ld (b := b0) (off := 0) (v := (F b1 0)) J rm3 J J ⟨J, J⟩)⟩⟩, fun _ => ⟨J, J, J, .inl ⟨J, (o_p J ⟨J, J⟩)⟩⟩, fun _ => ⟨J, J, J, .inl ⟨J, (o_p J ⟨J, J⟩)⟩⟩, fun _ => ⟨J, J, J, .inl ⟨J, (o_fa (fd := ⟨ "n", 3, 1, false, "", "vitrine/write", 8⟩) J J J J J ⟨J, J⟩)⟩⟩, fun _ => ⟨J, J, J, .inl ⟨J, (o_ld (b := b0) (off := 1) (v := (I p0.n)) J rm3 J J ⟨J, J⟩)⟩⟩, (fun h => nomatch h), (fun h => nomatch h), (fun h => nomatch h), trivial⟩, J, .inr ⟨[12], J, J, ⟨J, .inl J, ?_⟩, trivial⟩⟩
 refine (o_call has22 J (c_space_Space_Set hg X p1 b1 s0 p0.n d2 _ h3) (pc rm0 (pc rm0 (pc rm0 pn))) ?_)
 refine ⟨[], [], J, J, J, J, ?_⟩
 refine ⟨⟨(fun h => nomatch h), (fun h => nomatch h), (fun h => nomatch h), (fun h => nomatch h), (fun h => nomatch h), (fun h => nomatch h), (fun h => nomatch h), (fun h => nomatch h), (fun h => nomatch h), (fun h => nomatch h), (fun h => nomatch h), trivial⟩, J, J, J, ?_⟩
 refine e_seq (c_region (op J J ?_))
 replace h := bsome h
 obtain ⟨d4, h4, h⟩ := h
 refine o1 J (o_call has123 J (c_write_pen_next hg X p0 b0 (⟨d3.model, d3.alternate, d3.size, d3.cells, d3.cursor, d3.attrs⟩ : Vspace_Space) b1 s0 _ h4) (pc rm0 (pc rm2 (pc rm0 (pc rm0 pn)))) ?_)
 refine o_end (e_fall ?_)
 refine r_endt J J (kc rm0 (kc rm0 (kc rm0 (kc rm0 kr)))) ?_
 obtain rfl := si h
 exact hk

theorem c_write_pen_to {g : Gw} (hg : GK g) (X : HP) (p0 : Vwrite_pen) (b0 : Nat) (p1 : Vspace_Space) (b1 : Nat) (s0 : SV) (p2 : Int) (r : Vwrite_pen × Int) (h : m_write_pen_to p0 p1 p2 = some r) : Tri env g 114 (A [(F b0 0), (I p2)]) [X, blk b0 (.cells (A [(F b1 0), (I p0.n), (U p0.look.Char), (O p0.look.Attr), (U p0.look.FA), (U p0.look.High), (U p0.look.Color), (U p0.look.f_Set), (O p0.texts)]) 187 (0, 0)), blk b1 (.cells (A [(I p1.model), (O p1.alternate), (I p1.size.Rows), (I p1.size.Cols), (V s0), (I p1.cursor), (I p1.attrs)]) 105 (0, 0)), slO s0 49 en_Vapi_Cell p1.cells] (fun K R => K (I r.2) (X :: blk b1 (.cells (A [(I p1.model), (O p1.alternate), (I p1.size.Rows), (I p1.size.Cols), (V s0), (I p1.cursor), (I p1.attrs)]) 105 (0, 0)) :: slO s0 49 en_Vapi_Cell p1.cells :: blk b0 (.cells (A [(F b1 0), (I r.1.n), (U r.1.look.Char), (O r.1.look.Attr), (U r.1.look.FA), (U r.1.look.High), (U r.1.look.Color), (U r.1.look.f_Set), (O r.1.texts)]) 187 (0, 0)) :: R)) := by
 refine tri_of (fn := Tryz.f114) (N := 17) Tryz.func114 J J J ?_
 intro R K hk
 unfold m_write_pen_to at h
 change GC _ none _ [] [(0, (F b0 0)), (1, (I p2))] (X :: blk b0 (.cells (A [(F b1 0), (I p0.n), (U p0.look.Char), (O p0.look.Attr), (U p0.look.FA), (U p0.look.High), (U p0.look.Color), (U p0.look.f_Set), (O p0.texts)]) 187 (0, 0)) :: blk b1 (.cells (A [(I p1.model), (O p1.alternate), (I p1.size.Rows), (I p1.size.Cols), (V s0), (I p1.cursor), (I p1.attrs)]) 105 (0, 0)) :: slO s0 49 en_Vapi_Cell p1.cells :: R) g _ _
 refine cr (op J J (oe (c_seq ?_)))
 refine cr (op J J (op J J (op J J ?_)))
 refine o1 J (o_fa (fd := ⟨ "s", 24, 0, false, "", "vitrine/write", 0⟩) J J J J J ?_)
 refine o1 J (o_ld (b := b0) (off := 0) (v := (F b1 0)) J rm1 J J ?_)
 replace h := bsome h
 obtain ⟨d1, h1, h⟩ := h
 refine o1 J (o_call has53 J (c_space_Space_Size hg X p1 b1 s0 _ h1) (pc rm0 (pc rm1 (pc rm1 pn))) ?_)
 replace h := bsome h
 obtain ⟨d2, h2, h⟩ := h
 refine o1 J (o_call has49 J (c_addr_Size_Cells hg X (⟨d1.Rows, d1.Cols⟩ : Vaddr_Size) _ h2) (pc rm0 pn) ?_)
 refine o1 J (o_p (v := (O (decide (p2 ≥ d2)))) J ?_)
 refine oe ?_
 refine c_cond (b := (decide (p2 ≥ d2))) J (fun hb1919 => ?_) (fun hb1919 => ?_)
 ·replace h := cond_t hb1919 h
  refine cr (op J J (oe (c_ret ?_)))
  refine e_then_ret (e_ret ?_)
  refine r_endt J J (kc rm0 (kc rm0 (kc rm0 (kc rm0 kr)))) ?_
  obtain rfl := si h
  exact hk
 ·replace h := cond_f hb1919 h
  refine c_skip (e_seq (cr (op J J (op J J ?_))))
  refine op J J ?_
  refine o1 J (o_fa (fd := ⟨ "n", 3, 1, false, "", "vitrine/write", 8⟩) J J J J J ?_)
  refine o0 (o_st (b := b0) (off := 1) (vs := [(I p2)]) (cs' := [(F b1 0), (I p2), (U p0.look.Char), (O p0.look.Attr), (U p0.look.FA), (U p0.look.High), (U p0.look.Color), (U p0.look.f_Set), (O p0.texts)]) J J rp3 J J J J J J ?_)
  refine oe (cr (op J J (o_end ?_)))
  refine e_seq (c_ret (e_ret ?_))
  refine r_endt J J (kc rm0 (kc rm0 (kc rm0 (kc rm0 kr)))) ?_
  obtain rfl := si h
  exact hk

theorem c_write_applied {g : Gw} (hg : GK g) (X : HP) (p0 : Vapi_Cell) (p1 : List Vattr_Pair) (s0 : SV) (q0 : Rd X s0 93 en_Vattr_Pair p1) (r : Vapi_Cell × Int) (h : m_write_applied p0 p1 = some r) : Tri env g 117 (A [(.agg (A [(U p0.Char), (O p0.Attr), (U p0.FA), (U p0.High), (U p0.Color), (U p0.f_Set)])), (V s0)]) [X] (fun K R => K (.tuple (A [(.agg (A [(U r.1.Char), (O r.1.Attr), (U r.1.FA), (U r.1.High), (U r.1.Color), (U r.1.f_Set)])), (I r.2)])) (X :: R)) := by
 refine tri_of (fn := Tryz.f117) (N := 27) Tryz.func117 J J J ?_
 intro R K hk
 unfold m_write_applied at h
 change GC _ none _ [] [(0, (.agg (A [(U p0.Char), (O p0.Attr), (U p0.FA), (U p0.High), (U p0.Color), (U p0.f_Set)]))), (1, (V s0))] (X :: R) g _ _
 refine cr ?_
 refine o1 J (o_box (cs := [(U p0.Char), (O p0.Attr), (U p0.FA), (U p0.High), (U p0.Color), (U p0.f_Set)]) J J (fun b1925 => ?_))
 refine o1 J (o_alloc (cs := [(U 0), (O false), (U 0), (U 0), (U 0), (U 0)]) J J (fun b1927 => ?_))
 refine op J J (oe (c_seq (cr ?_)))
 refine op J J ?_
 refine o1 J (o_len (s := s0) J J J rm2 q0 ?_)
 refine op J J (oe ?_)
 replace h := jn_some h
 obtain ⟨y1, h, hk1⟩ := h
 refine cj (D := Int × Bool × Int × Int × Int × Int) (ι := Unit) (fun d1 i1 => y1 = Sum.inl d1) (fun d1 i1 => [(4, (F b1927 0)), (2, (F b1925 0))]) (fun d1 i1 => X :: blk b1927 (.cells (A [(U 0), (O false), (U 0), (U 0), (U 0), (U 0)]) 49 (0, 0)) :: blk b1925 (.cells (A [(U d1.1), (O d1.2.1), (U d1.2.2.1), (U d1.2.2.2.1), (U d1.2.2.2.2.1), (U d1.2.2.2.2.2)]) 49 (0, 0)) :: R) ?_ ?_
 ·refine c_block ?_
  refine c_loop (l_sub (sc J (sc J (sc J (sc J (sc J sn))))) (l_keep (kc rm2 (kc rm0 (kc rm0 kr))) (lf (X := Int × Int × Bool × Int × Int × Int × Int) (ι := Unit) (fun k x => write_applied_l2 p1 k x) _ (fun x2 i2 => True) (fun x2 i2 => [(11, (I x2.1)), (10, (I (p1.length : Int))), (9, (V s0)), (4, (F b1927 0)), (2, (F b1925 0))]) (fun x2 i2 => X :: blk b1927 (.cells (A [(U 0), (O false), (U 0), (U 0), (U 0), (U 0)]) 49 (0, 0)) :: blk b1925 (.cells (A [(U x2.2.1), (O x2.2.2.1), (U x2.2.2.2.1), (U x2.2.2.2.2.1), (U x2.2.2.2.2.2.1), (U x2.2.2.2.2.2.2)]) 49 (0, 0)) :: R) (fun _ => J) ?_ fuel (0, p0.Char, p0.Attr, p0.FA, p0.High, p0.Color, p0.f_Set) () trivial h)))
  clear h
  rintro k2 ih2 x2 i2 _ h
  rw [write_applied_l2.eq_2] at h
  refine l_round (cr ?_)
  refine o1 J (o_p (v := (O (decide (x2.1 < (p1.length : Int))))) J ?_)
  refine oe (c_seq ?_)
  refine c_cond (b := (decide (x2.1 < (p1.length : Int)))) J (fun hb1939 => ?_) (fun hb1939 => ?_)
  ·replace h := cond_t hb1939 h
   refine c_skip (e_seq (c_seq (c_block (cr ?_))))
   replace h := gsome h
   obtain ⟨hg1940, h⟩ := h
   refine o1 J (o_ix (s := s0) (n := x2.1) (e := en_Vattr_Pair) J J J J J J rm0 q0 hg1940 ?_)
   refine o1 J (o_ldE (s := s0) (e := en_Vattr_Pair) (n := x2.1) (f := 0) (v := (.agg (A [(U ((rd p1 x2.1).f_Type)), (U ((rd p1 x2.1).Value))]))) J rm0 q0 hg1940 J J ?_)
   refine o1 J (o_alloc (cs := [(U 0), (U 0)]) J J (fun b1941 => ?_))
   refine o0 (o_st (b := b1941) (off := 0) (vs := [(U ((rd p1 x2.1).f_Type)), (U ((rd p1 x2.1).Value))]) (cs' := [(U ((rd p1 x2.1).f_Type)), (U ((rd p1 x2.1).Value))]) J J rp0 J J J J J J ?_)
   refine oe (cr (op J J (o_end ?_)))
   refine e_seq (cr ?_)
   refine o1 J (o_ld (b := b1941) (off := 0) (v := (.agg (A [(U ((rd p1 x2.1).f_Type)), (U ((rd p1 x2.1).Value))]))) J rm0 J J ?_)
   refine o1 J (o_ld (b := b1925) (off := 0) (v := (.agg (A [(U x2.2.1), (O x2.2.2.1), (U x2.2.2.2.1), (U x2.2.2.2.2.1), (U x2.2.2.2.2.2.1), (U x2.2.2.2.2.2.2)]))) J rm3 J J ?_)
   replace h := bsome h
   obtain ⟨d5, h5, h⟩ := h
   refine o1 J (o_call has61 J (c_attr_Pair_Apply hg X (rd p1 x2.1) (⟨x2.2.1, x2.2.2.1, x2.2.2.2.1, x2.2.2.2.2.1, x2.2.2.2.2.2.1, x2.2.2.2.2.2.2⟩ : Vapi_Cell) _ h5) (pc rm1 pn) ?_)
   refine op J J (op J J (op J J ?_))
   refine o0 (o_st (b := b1925) (off := 0) (vs := [(U d5.1.Char), (O d5.1.Attr), (U d5.1.FA), (U d5.1.High), (U d5.1.Color), (U d5.1.f_Set)]) (cs' := [(U d5.1.Char), (O d5.1.Attr), (U d5.1.FA), (U d5.1.High), (U d5.1.Color), (U d5.1.f_Set)]) J J rp3 J J J J J J ?_)
   refine op J J (oe (cr (op J J ?_)))
   refine o1 J (o_p (v := (O (d5.2 != 0))) J ?_)
   refine oe ?_
   refine c_cond (b := (d5.2 != 0)) J (fun hb1943 => ?_) (fun hb1943 => ?_)
   ·replace h := cond_t hb1943 h
    refine cr ?_
    refine o1 J (o_build (fs := f_1) (ps := [(0, 1), (1, 1), (2, 1), (3, 1), (4, 1), (5, 1)]) (cs := [(U 0), (O false), (U 0), (U 0), (U 0), (U 0)]) J J J J J ?_)
    refine op J J ?_
    refine o0 (o_st (b := b1927) (off := 0) (vs := [(U 0), (O false), (U 0), (U 0), (U 0), (U 0)]) (cs' := [(U 0), (O false), (U 0), (U 0), (U 0), (U 0)]) J J rp2 J J J J J J ?_)
    refine op J J (oe (c_ret (e_blk_ret (e_then_ret ?_))))
    refine e_then_ret (e_blk_ret (ej_ret ?_))
    replace h := esc_some h
    obtain ⟨z1, h, rfl⟩ := h
    obtain rfl := (hk1 : z1 = _)
    refine e_then_ret (e_ret ?_)
    refine r_endc (B := [[(U 0), (O false), (U 0), (U 0), (U 0), (U 0)]]) J ⟨⟨_, _, _, _, J, rm2⟩, trivial⟩ J (kc rm0 (kd (kd (kd kr)))) ?_
    obtain rfl := si h
    exact hk
   ·replace h := cond_f hb1943 h
    refine c_skip (e_blk (e_seq (c_region ?_)))
    refine o1 J (o_p (v := (I (w64 (x2.1 + 1)))) J ?_)
    refine op J J (o_end ?_)
    exact e_loop (l_sub (sc J (sc J (sc J (sc J (sc J sn))))) (l_keep (kc rm0 (kc rm1 (kc rm1 (kd kr)))) (ih2 (w64 (x2.1 + 1), d5.1.Char, d5.1.Attr, d5.1.FA, d5.1.High, d5.1.Color, d5.1.f_Set) () trivial h)))
  ·replace h := cond_f hb1939 h
   refine c_exit (e_then_exit (e_then_exit (e_blk_exit ?_)))
   obtain rfl := si h
   exact ej (x2.2.1, x2.2.2.1, x2.2.2.2.1, x2.2.2.2.2.1, x2.2.2.2.2.2.1, x2.2.2.2.2.2.2) () J (sc J (sc J sn)) (kc rm0 (kc rm0 (kc rm0 kr)))
 ·rintro d1 i1 rfl
  replace h := JK_inl hk1
  clear hk1
  refine e_seq (cr ?_)
  refine o1 J (o_ld (b := b1925) (off := 0) (v := (.agg (A [(U d1.1), (O d1.2.1), (U d1.2.2.1), (U d1.2.2.2.1), (U d1.2.2.2.2.1), (U d1.2.2.2.2.2)]))) J rm2 J J ?_)
  refine o0 (o_st (b := b1927) (off := 0) (vs := [(U d1.1), (O d1.2.1), (U d1.2.2.1), (U d1.2.2.2.1), (U d1.2.2.2.2.1), (U d1.2.2.2.2.2)]) (cs' := [(U d1.1), (O d1.2.1), (U d1.2.2.1), (U d1.2.2.2.1), (U d1.2.2.2.2.1), (U d1.2.2.2.2.2)]) J J rp1 J J J J J J ?_)
  refine op J J (oe (c_ret (e_ret ?_)))
  refine r_endc (B := [[(U d1.1), (O d1.2.1), (U d1.2.2.1), (U d1.2.2.2.1), (U d1.2.2.2.2.1), (U d1.2.2.2.2.2)]]) J ⟨⟨_, _, _, _, J, rm1⟩, trivial⟩ J (kc rm0 (kd (kd kr))) ?_
  obtain rfl := si h
  exact hk

theorem c_write_pen_attribute {g : Gw} (hg : GK g) (X : HP) (p0 : Vwrite_pen) (b0 : Nat) (p1 : Vspace_Space) (b1 : Nat) (s0 : SV) (p2 : Vapi_Cell) (p3 : List Vattr_Pair) (s1 : SV) (q0 : Rd X s1 93 en_Vattr_Pair p3) (r : Vspace_Space × Vwrite_pen × Int) (h : m_write_pen_attribute p0 p1 p2 p3 = some r) : Tri env g 116 (A [(F b0 0), (.agg (A [(U p2.Char), (O p2.Attr), (U p2.FA), (U p2.High), (U p2.Color), (U p2.f_Set)])), (V s1)]) [X, blk b0 (.cells (A [(F b1 0), (I p0.n), (U p0.look.Char), (O p0.look.Attr), (U p0.look.FA), (U p0.look.High), (U p0.look.Color), (U p0.look.f_Set), (O p0.texts)]) 187 (0, 0)), blk b1 (.cells (A [(I p1.model), (O p1.alternate), (I p1.size.Rows), (I p1.size.Cols), (V s0), (I p1.cursor), (I p1.attrs)]) 105 (0, 0)), slO s0 49 en_Vapi_Cell p1.cells] (fun K R => K (I r.2.2) (X :: blk b1 (.cells (A [(I r.1.model), (O r.1.alternate), (I r.1.size.Rows), (I r.1.size.Cols), (V s0), (I r.1.cursor), (I r.1.attrs)]) 105 (0, 0)) :: slO s0 49 en_Vapi_Cell r.1.cells :: blk b0 (.cells (A [(F b1 0), (I r.2.1.n), (U r.2.1.look.Char), (O r.2.1.look.Attr), (U r.2.1.look.FA), (U r.2.1.look.High), (U r.2.1.look.Color), (U r.2.1.look.f_Set), (O r.2.1.texts)]) 187 (0, 0)) :: R)) := by
 refine tri_of (fn := Tryz.f116) (N := 29) Tryz.func116 J J J ?_
 intro R K hk
 unfold m_write_pen_attribute at h
 change GC _ none _ [] [(0, (F b0 0)), (1, (.agg (A [(U p2.Char), (O p2.Attr), (U p2.FA), (U p2.High), (U p2.Color), (U p2.f_Set)]))), (2, (V s1))] (X :: blk b0 (.cells (A [(F b1 0), (I p0.n), (U p0.look.Char), (O p0.look.Attr), (U p0.look.FA), (U p0.look.High), (U p0.look.Color), (U p0.look.f_Set), (O p0.texts)]) 187 (0, 0)) :: blk b1 (.cells (A [(I p1.model), (O p1.alternate), (I p1.size.Rows), (I p1.size.Cols), (V s0), (I p1.cursor), (I p1.attrs)]) 105 (0, 0)) :: slO s0 49 en_Vapi_Cell p1.cells :: R) g _ _
 refine cr ?_
 refine o1 J (o_box (cs := [(U p2.Char), (O p2.Attr), (U p2.FA), (U p2.High), (U p2.Color), (U p2.f_Set)]) J J (fun b1923 => ?_))
 refine op J J (oe (cr ?_))
 refine o1 J (o_ld (b := b1923) (off := 0) (v := (.agg (A [(U p2.Char), (O p2.Attr), (U p2.FA), (U p2.High), (U p2.Color), (U p2.f_Set)]))) J rm0 J J ?_)
 refine op J J ?_
 replace h := bsome h
 obtain ⟨d1, h1, h⟩ := h
 refine o1 J (o_call has117 J (c_write_applied hg X p2 p3 s1 q0 _ h1) (pc rm1 pn) ?_)
 refine op J J (op J J (op J J ?_))
 refine o0 (o_st (b := b1923) (off := 0) (vs := [(U d1.1.Char), (O d1.1.Attr), (U d1.1.FA), (U d1.1.High), (U d1.1.Color), (U d1.1.f_Set)]) (cs' := [(U d1.1.Char), (O d1.1.Attr), (U d1.1.FA), (U d1.1.High), (U d1.1.Color), (U d1.1.f_Set)]) J J rp1 J J J J J J ?_)
 refine op J J (oe (c_seq (cr ?_)))
 refine op J J ?_
 refine o1 J (o_p (v := (O (d1.2 != 0))) J ?_)
 refine oe ?_
 refine c_cond (b := (d1.2 != 0)) J (fun hb1944 => ?_) (fun hb1944 => ?_)
 ·replace h := cond_t hb1944 h
  refine cr (op J J (op J J (oe ?_)))
  refine c_ret (e_then_ret (e_ret ?_))
  refine r_endt J J (kc rm0 (kc rm2 (kc rm2 (kc rm1 (kd kr))))) ?_
  obtain rfl := si h
  exact hk
 ·replace h := cond_f hb1944 h
  refine c_skip (e_seq (c_seq ?_))
  refine c_draw (n := 1) (q := [(0, 17, (F b0 0)), (1, 18, (F b0 0)), (2, 19, (F b0 0)), (3, 20, (F b1 0)), (4, 21, (F b0 0)), (5, 22, (F b0 0)), (6, 23, (F b0 1)), (7, 24, (I p0.n)), (8, 25, (.agg (A [(U d1.1.Char), (O d1.1.Attr), (U d1.1.FA), (U d1.1.High), (U d1.1.Color), (U d1.1.f_Set)])))]) (pend := [0, 1, 2, 3, 4, 5, 6, 7, 8]) J J J ?_
  replace h := bsome h
  obtain ⟨d4, h4, h⟩ := h
  refine ⟨⟨fun _ => ⟨J, J, J, .inl ⟨J, (o_p J ⟨J, J⟩)⟩⟩, fun _ => ⟨J, J, J, .inl ⟨J, (o_p J ⟨J, J⟩)⟩⟩, fun _ => ⟨J, J, J, .inl ⟨J, (o_fa (fd := ⟨ "s", 24, 0, false, "", "vitrine/write", 0⟩) J J J J J ⟨J, J⟩)⟩⟩, fun _ => ⟨J, J, J, .inl ⟨J, (o_ld (b := b0) (off := 0) (v := (F b1 0)) J rm2 J J ⟨J, J⟩)⟩⟩, fun _ => ⟨J, J, J, .inl ⟨J, (o_p J ⟨J, J⟩)⟩⟩, fun _ => ⟨J, J, J, .inl ⟨J, (o_p J ⟨J, J⟩)⟩⟩, fun _ => ⟨J, J, J, .inl ⟨J, (o_fa (fd := ⟨ "n", 3, 1, false, "", "vitrine/write", 8⟩) J J J J J ⟨J, J⟩)⟩⟩, fun _ => ⟨J, J, J, .inl ⟨J, (o_ld (b := b0) (off := 1) (v := (I p0.n)) J rm2 J J ⟨J, J⟩)⟩⟩, fun _ => ⟨J, J, J, .inl ⟨J, (o_ld (b := b1923) (off := 0) (v := (.agg (A [(U d1.1.Char), (O d1.1.Attr), (U d1.1.FA), (U d1.1.High), (U d1.1.Color), (U d1.1.f_Set)]))) J rm1 J J ⟨J, J⟩)⟩⟩, trivial⟩, J, .inr ⟨[9], J, J, ⟨J, .inl J, ?_⟩, trivial⟩⟩
  refine (o_call has22 J (c_space_Space_Set hg X p1 b1 s0 p0.n d1.1 _ h4) (pc rm0 (pc rm2 (pc rm2 pn))) ?_)
  refine ⟨[], [], J, J, J, J, ?_⟩
  refine ⟨⟨(fun h => nomatch h), (fun h => nomatch h), (fun h => nomatch h), (fun h => nomatch h), (fun h => nomatch h), (fun h => nomatch h), (fun h => nomatch h), (fun h => nomatch h), (fun h => nomatch h), trivial⟩, J, J, J, ?_⟩
  refine e_seq (cr (op J J ?_))
  replace h := bsome h
  obtain ⟨d5, h5, h⟩ := h
  refine o1 J (o_call has123 J (c_write_pen_next hg X (⟨p0.n, p0.look, p0.texts⟩ : Vwrite_pen) b0 (⟨d4.model, d4.alternate, d4.size, d4.cells, d4.cursor, d4.attrs⟩ : Vspace_Space) b1 s0 _ h5) (pc rm0 (pc rm3 (pc rm0 (pc rm0 pn)))) ?_)
  refine oe (cr (op J J (o_end ?_)))
  refine e_seq (c_ret (e_ret ?_))
  refine r_endt J J (kc rm0 (kc rm0 (kc rm0 (kc rm0 (kd kr))))) ?_
  obtain rfl := si h
  exact hk

theorem c_write_pen_do {g : Gw} (hg : GK g) (X : HP) (p0 : Vwrite_pen) (b0 : Nat) (p1 : Vspace_Space) (b1 : Nat) (s0 : SV) (p2 : Vorder_Op) (s1 : SV) (q0 : Rd X s1 93 en_Vattr_Pair p2.Pairs) (s2 : SV) (q1 : Rd X s2 5 (enI .u8) p2.Text) (r : Vspace_Space × Vwrite_pen × Int) (h : m_write_pen_do p0 p1 p2 = some r) : Tri env g 101 (A [(F b0 0), (.agg (A [(I p2.Kind), (I p2.Addr), (U p2.Code), (O p2.Graph), (U p2.FA), (V s1), (V s2)]))]) [X, blk b0 (.cells (A [(F b1 0), (I p0.n), (U p0.look.Char), (O p0.look.Attr), (U p0.look.FA), (U p0.look.High), (U p0.look.Color), (U p0.look.f_Set), (O p0.texts)]) 187 (0, 0)), blk b1 (.cells (A [(I p1.model), (O p1.alternate), (I p1.size.Rows), (I p1.size.Cols), (V s0), (I p1.cursor), (I p1.attrs)]) 105 (0, 0)), slO s0 49 en_Vapi_Cell p1.cells] (fun K R => K (I r.2.2) (X :: blk b1 (.cells (A [(I r.1.model), (O r.1.alternate), (I r.1.size.Rows), (I r.1.size.Cols), (V s0), (I r.1.cursor), (I r.1.attrs)]) 105 (0, 0)) :: slO s0 49 en_Vapi_Cell r.1.cells :: blk b0 (.cells (A [(F b1 0), (I r.2.1.n), (U r.2.1.look.Char), (O r.2.1.look.Attr), (U r.2.1.look.FA), (U r.2.1.look.High), (U r.2.1.look.Color), (U r.2.1.look.f_Set), (O r.2.1.texts)]) 187 (0, 0)) :: R)) := by
 refine tri_of (fn := Tryz.f101) (N := 110) Tryz.func101 J J J ?_
 intro R K hk
 unfold m_write_pen_do at h
 change GC _ none _ [] [(0, (F b0 0)), (1, (.agg (A [(I p2.Kind), (I p2.Addr), (U p2.Code), (O p2.Graph), (U p2.FA), (V s1), (V s2)])))] (X :: blk b0 (.cells (A [(F b1 0), (I p0.n), (U p0.look.Char), (O p0.look.Attr), (U p0.look.FA), (U p0.look.High), (U p0.look.Color), (U p0.look.f_Set), (O p0.texts)]) 187 (0, 0)) :: blk b1 (.cells (A [(I p1.model), (O p1.alternate), (I p1.size.Rows), (I p1.size.Cols), (V s0), (I p1.cursor), (I p1.attrs)]) 105 (0, 0)) :: slO s0 49 en_Vapi_Cell p1.cells :: R) g _ _
 refine cr ?_
 refine o1 J (o_box (cs := [(I p2.Kind), (I p2.Addr), (U p2.Code), (O p2.Graph), (U p2.FA), (V s1), (V s2)]) J J (fun b1893 => ?_))
 refine op J J (oe (c_seq (cr ?_)))
 refine o1 J (o_fa (fd := ⟨ "Kind", 3, 0, false, "", "", 0⟩) J J J J J ?_)
 refine o1 J (o_ld (b := b1893) (off := 0) (v := (I p2.Kind)) J rm0 J J ?_)
 refine oe ?_
 replace h := jn_some h
 obtain ⟨y1, h, hk1⟩ := h
 refine cj (D := Int × Bool × Int × Int × (List Vapi_Cell) × Int × Int × Int × Int × Bool × Int × Int × Int × Int × Bool) (ι := Unit) (fun d1 i1 => y1 = Sum.inl d1) (fun d1 i1 => []) (fun d1 i1 => X :: blk b1 (.cells (A [(I d1.1), (O d1.2.1), (I d1.2.2.1), (I d1.2.2.2.1), (V s0), (I d1.2.2.2.2.2.1), (I d1.2.2.2.2.2.2.1)]) 105 (0, 0)) :: blk b0 (.cells (A [(F b1 0), (I d1.2.2.2.2.2.2.2.1), (U d1.2.2.2.2.2.2.2.2.1), (O d1.2.2.2.2.2.2.2.2.2.1), (U d1.2.2.2.2.2.2.2.2.2.2.1), (U d1.2.2.2.2.2.2.2.2.2.2.2.1), (U d1.2.2.2.2.2.2.2.2.2.2.2.2.1), (U d1.2.2.2.2.2.2.2.2.2.2.2.2.2.1), (O d1.2.2.2.2.2.2.2.2.2.2.2.2.2.2)]) 187 (0, 0)) :: slO s0 49 en_Vapi_Cell d1.2.2.2.2.1 :: R) ?_ ?_
 ·refine c_block (cr ?_)
  refine o1 J (o_p (v := (O (p2.Kind == 0))) J ?_)
  refine op J J (oe ?_)
  replace h := jn_some h
  obtain ⟨y2, h, hk2⟩ := h
  refine cj (D := Int × Bool × Int × Int × (List Vapi_Cell) × Int × Int × Int × Int × Bool × Int × Int × Int × Int × Bool) (ι := Unit) (fun d2 i2 => y2 = Sum.inl d2) (fun d2 i2 => []) (fun d2 i2 => X :: blk b1 (.cells (A [(I d2.1), (O d2.2.1), (I d2.2.2.1), (I d2.2.2.2.1), (V s0), (I d2.2.2.2.2.2.1), (I d2.2.2.2.2.2.2.1)]) 105 (0, 0)) :: blk b0 (.cells (A [(F b1 0), (I d2.2.2.2.2.2.2.2.1), (U d2.2.2.2.2.2.2.2.2.1), (O d2.2.2.2.2.2.2.2.2.2.1), (U d2.2.2.2.2.2.2.2.2.2.2.1), (U d2.2.2.2.2.2.2.2.2.2.2.2.1), (U d2.2.2.2.2.2.2.2.2.2.2.2.2.1), (U d2.2.2.2.2.2.2.2.2.2.2.2.2.2.1), (O d2.2.2.2.2.2.2.2.2.2.2.2.2.2.2)]) 187 (0, 0)) :: slO s0 49 en_Vapi_Cell d2.2.2.2.2.1 :: R) ?_ ?_
  ·refine c_cond (b := (p2.Kind == 0)) J (fun hb1895 => ?_) (fun hb1895 => ?_)
   ·replace h := cond_t hb1895 h
    refine cr ?_
    refine o1 J (o_fa (fd := ⟨ "Text", 28, 6, false, "", "", 48⟩) J J J J J ?_)
    refine o1 J (o_ld (b := b1893) (off := 6) (v := (V s2)) J rm0 J J ?_)
    refine o1 J (o_len (s := s2) J J J rm1 q1 ?_)
    refine op J J (oe ?_)
    replace h := bsome h
    obtain ⟨d3, h, hk3⟩ := h
    refine cj (D := Unit) (ι := Unit) (fun _ i3 => True) (fun _ i3 => []) (fun _ i3 => X :: blk b1 (.cells (A [(I d3.1), (O d3.2.1), (I d3.2.2.1), (I d3.2.2.2.1), (V s0), (I d3.2.2.2.2.2.1), (I d3.2.2.2.2.2.2.1)]) 105 (0, 0)) :: blk b0 (.cells (A [(F b1 0), (I d3.2.2.2.2.2.2.2.1), (U d3.2.2.2.2.2.2.2.2.1), (O d3.2.2.2.2.2.2.2.2.2.1), (U d3.2.2.2.2.2.2.2.2.2.2.1), (U d3.2.2.2.2.2.2.2.2.2.2.2.1), (U d3.2.2.2.2.2.2.2.2.2.2.2.2.1), (U d3.2.2.2.2.2.2.2.2.2.2.2.2.2.1), (O d3.2.2.2.2.2.2.2.2.2.2.2.2.2.2)]) 187 (0, 0)) :: slO s0 49 en_Vapi_Cell d3.2.2.2.2.1 :: R) ?_ ?_
    ·refine c_block ?_
     refine c_loop (l_sub (sc J (sc J (sc J (sc J sn)))) (l_keep (kc rm1 (kc rm1 (kc rm1 (kc rm1 (kd kr))))) (lf (X := Int × Int × Int × Bool × Int × Int × Int × Int × Bool × Int × Bool × Int × Int × (List Vapi_Cell) × Int × Int) (ι := Unit) (fun k x => write_pen_do_l4 p2 k x) _ (fun x4 i4 => True) (fun x4 i4 => [(17, (I x4.1)), (16, (I (p2.Text.length : Int))), (15, (V s2)), (0, (F b0 0))]) (fun x4 i4 => X :: blk b0 (.cells (A [(F b1 0), (I x4.2.1), (U x4.2.2.1), (O x4.2.2.2.1), (U x4.2.2.2.2.1), (U x4.2.2.2.2.2.1), (U x4.2.2.2.2.2.2.1), (U x4.2.2.2.2.2.2.2.1), (O x4.2.2.2.2.2.2.2.2.1)]) 187 (0, 0)) :: blk b1 (.cells (A [(I x4.2.2.2.2.2.2.2.2.2.1), (O x4.2.2.2.2.2.2.2.2.2.2.1), (I x4.2.2.2.2.2.2.2.2.2.2.2.1), (I x4.2.2.2.2.2.2.2.2.2.2.2.2.1), (V s0), (I x4.2.2.2.2.2.2.2.2.2.2.2.2.2.2.1), (I x4.2.2.2.2.2.2.2.2.2.2.2.2.2.2.2)]) 105 (0, 0)) :: slO s0 49 en_Vapi_Cell x4.2.2.2.2.2.2.2.2.2.2.2.2.2.1 :: R) (fun _ => J) ?_ fuel (0, p0.n, p0.look.Char, p0.look.Attr, p0.look.FA, p0.look.High, p0.look.Color, p0.look.f_Set, p0.texts, p1.model, p1.alternate, p1.size.Rows, p1.size.Cols, p1.cells, p1.cursor, p1.attrs) () trivial h)))
     clear h
     rintro k4 ih4 x4 i4 _ h
     rw [write_pen_do_l4.eq_2] at h
     refine l_round (cr ?_)
     refine o1 J (o_p (v := (O (decide (x4.1 < (p2.Text.length : Int))))) J ?_)
     refine oe (c_seq ?_)
     refine c_cond (b := (decide (x4.1 < (p2.Text.length : Int)))) J (fun hb1911 => ?_) (fun hb1911 => ?_)
     ·replace h := cond_t hb1911 h
      refine c_skip (e_seq (c_seq (c_block (cr ?_))))
      replace h := gsome h
      obtain ⟨hg1912, h⟩ := h
      refine o1 J (o_ix (s := s2) (n := x4.1) (e := (enI .u8)) J J J J J J rm0 q1 hg1912 ?_)
      refine o1 J (o_ldE (s := s2) (e := (enI .u8)) (n := x4.1) (f := 0) (v := (U (rd p2.Text x4.1))) J rm0 q1 hg1912 J J ?_)
      refine op J J (oe (c_region (op J J (op J J ?_))))
      replace h := bsome h
      obtain ⟨d7, h7, h⟩ := h
      refine o1 J (o_call has113 J (c_write_pen_put hg X (⟨x4.2.1, (⟨x4.2.2.1, x4.2.2.2.1, x4.2.2.2.2.1, x4.2.2.2.2.2.1, x4.2.2.2.2.2.2.1, x4.2.2.2.2.2.2.2.1⟩ : Vapi_Cell), x4.2.2.2.2.2.2.2.2.1⟩ : Vwrite_pen) b0 (⟨x4.2.2.2.2.2.2.2.2.2.1, x4.2.2.2.2.2.2.2.2.2.2.1, (⟨x4.2.2.2.2.2.2.2.2.2.2.2.1, x4.2.2.2.2.2.2.2.2.2.2.2.2.1⟩ : Vaddr_Size), x4.2.2.2.2.2.2.2.2.2.2.2.2.2.1, x4.2.2.2.2.2.2.2.2.2.2.2.2.2.2.1, x4.2.2.2.2.2.2.2.2.2.2.2.2.2.2.2⟩ : Vspace_Space) b1 s0 (rd p2.Text x4.1) false _ h7) (pc rm0 (pc rm0 (pc rm0 (pc rm0 pn)))) ?_)
      refine o_end (e_blk (e_seq (c_region ?_)))
      refine o1 J (o_p (v := (I (w64 (x4.1 + 1)))) J ?_)
      refine op J J (o_end ?_)
      exact e_loop (l_sub (sc J (sc J (sc J (sc J sn)))) (l_keep (kc rm0 (kc rm2 (kc rm0 (kc rm0 kr)))) (ih4 (w64 (x4.1 + 1), d7.2.n, d7.2.look.Char, d7.2.look.Attr, d7.2.look.FA, d7.2.look.High, d7.2.look.Color, d7.2.look.f_Set, d7.2.texts, d7.1.model, d7.1.alternate, d7.1.size.Rows, d7.1.size.Cols, d7.1.cells, d7.1.cursor, d7.1.attrs) () trivial h)))
     ·replace h := cond_f hb1911 h
      refine c_exit (e_then_exit (e_then_exit (e_blk_exit ?_)))
      obtain rfl := si h
      exact ej () () trivial sn (kc rm0 (kc rm1 (kc rm0 (kc rm0 kr))))
    ·rintro _ i3 _
     replace h := hk3
     clear hk3
     obtain rfl := si h
     exact ej (d3.1, d3.2.1, d3.2.2.1, d3.2.2.2.1, d3.2.2.2.2.1, d3.2.2.2.2.2.1, d3.2.2.2.2.2.2.1, d3.2.2.2.2.2.2.2.1, d3.2.2.2.2.2.2.2.2.1, d3.2.2.2.2.2.2.2.2.2.1, d3.2.2.2.2.2.2.2.2.2.2.1, d3.2.2.2.2.2.2.2.2.2.2.2.1, d3.2.2.2.2.2.2.2.2.2.2.2.2.1, d3.2.2.2.2.2.2.2.2.2.2.2.2.2.1, d3.2.2.2.2.2.2.2.2.2.2.2.2.2.2) () J sn (kc rm0 (kc rm0 (kc rm0 (kc rm0 kr))))
   ·replace h := cond_f hb1895 h
    refine cr ?_
    refine o1 J (o_p (v := (O (p2.Kind == 8))) J ?_)
    refine op J J (oe ?_)
    refine c_cond (b := (p2.Kind == 8)) J (fun hb1916 => ?_) (fun hb1916 => ?_)
    ·replace h := cond_t hb1916 h
     refine c_region (op J J ?_)
     refine o1 J (o_fa (fd := ⟨ "Code", 5, 2, false, "", "", 16⟩) J J J J J ?_)
     refine o1 J (o_ld (b := b1893) (off := 2) (v := (U p2.Code)) J rm0 J J ?_)
     replace h := bsome h
     obtain ⟨d8, h8, h⟩ := h
     refine o1 J (o_call has113 J (c_write_pen_put hg X p0 b0 p1 b1 s0 p2.Code true _ h8) (pc rm1 (pc rm1 (pc rm1 (pc rm1 pn)))) ?_)
     refine o_end ?_
     obtain rfl := si h
     exact ej (d8.1.model, d8.1.alternate, d8.1.size.Rows, d8.1.size.Cols, d8.1.cells, d8.1.cursor, d8.1.attrs, d8.2.n, d8.2.look.Char, d8.2.look.Attr, d8.2.look.FA, d8.2.look.High, d8.2.look.Color, d8.2.look.f_Set, d8.2.texts) () J sn (kc rm0 (kc rm0 (kc rm1 (kc rm0 (kd kr)))))
    ·replace h := cond_f hb1916 h
     refine cr ?_
     refine o1 J (o_p (v := (O (p2.Kind == 17))) J ?_)
     refine op J J (oe ?_)
     refine c_cond (b := (p2.Kind == 17)) J (fun hb1918 => ?_) (fun hb1918 => ?_)
     ·replace h := cond_t hb1918 h
      refine cr (op J J ?_)
      refine o1 J (o_fa (fd := ⟨ "Addr", 3, 1, false, "", "", 8⟩) J J J J J ?_)
      refine o1 J (o_ld (b := b1893) (off := 1) (v := (I p2.Addr)) J rm0 J J ?_)
      replace h := bsome h
      obtain ⟨d9, h9, h⟩ := h
      refine o1 J (o_call has114 J (c_write_pen_to hg X p0 b0 p1 b1 s0 p2.Addr _ h9) (pc rm1 (pc rm1 (pc rm1 (pc rm1 pn)))) ?_)
      refine op J J (oe (c_ret (ej_ret ?_)))
      replace h := esc_some h
      obtain ⟨z2, h, rfl⟩ := h
      obtain rfl := (hk2 : z2 = _)
      refine e_blk_ret (ej_ret ?_)
      replace h := esc_some h
      obtain ⟨z1, h, rfl⟩ := h
      obtain rfl := (hk1 : z1 = _)
      refine e_then_ret (e_ret ?_)
      refine r_endt J J (kc rm0 (kc rm0 (kc rm0 (kc rm0 (kd kr))))) ?_
      obtain rfl := si h
      exact hk
     ·replace h := cond_f hb1918 h
      refine c_seq (cr ?_)
      refine o1 J (o_p (v := (O (p2.Kind == 18))) J ?_)
      refine op J J (oe ?_)
      replace h := bsome h
      obtain ⟨d10, h, hk10⟩ := h
      refine cj (D := Unit) (ι := Unit) (fun _ i10 => True) (fun _ i10 => [(37, (O d10)), (11, (I p2.Kind)), (3, (F b1893 0)), (0, (F b0 0))]) (fun _ i10 => X :: blk b1893 (.cells (A [(I p2.Kind), (I p2.Addr), (U p2.Code), (O p2.Graph), (U p2.FA), (V s1), (V s2)]) 91 (0, 0)) :: blk b0 (.cells (A [(F b1 0), (I p0.n), (U p0.look.Char), (O p0.look.Attr), (U p0.look.FA), (U p0.look.High), (U p0.look.Color), (U p0.look.f_Set), (O p0.texts)]) 187 (0, 0)) :: blk b1 (.cells (A [(I p1.model), (O p1.alternate), (I p1.size.Rows), (I p1.size.Cols), (V s0), (I p1.cursor), (I p1.attrs)]) 105 (0, 0)) :: slO s0 49 en_Vapi_Cell p1.cells :: R) ?_ ?_
      ·refine c_cond (b := (p2.Kind == 18)) J (fun hb1920 => ?_) (fun hb1920 => ?_)
       ·replace h := cond_t hb1920 h
        refine c_skip ?_
        obtain rfl := si h
        exact ej () () trivial (sc J (sc J (sc J (sc J sn)))) (kc rm1 (kc rm0 (kc rm0 (kc rm0 (kc rm0 kr)))))
       ·replace h := cond_f hb1920 h
        refine c_region ?_
        refine o1 J (o_p (v := (O (p2.Kind == 60))) J ?_)
        refine op J J (o_end ?_)
        obtain rfl := si h
        exact ej () () trivial (sc J (sc J (sc J (sc J sn)))) (kc rm1 (kc rm0 (kc rm0 (kc rm0 (kc rm0 kr)))))
      ·rintro _ i10 _
       replace h := hk10
       clear hk10
       refine e_seq ?_
       refine c_cond (b := d10) J (fun hb1921 => ?_) (fun hb1921 => ?_)
       ·replace h := cond_t hb1921 h
        refine cr (op J J ?_)
        refine o1 J (o_ld (b := b1893) (off := 0) (v := (.agg (A [(I p2.Kind), (I p2.Addr), (U p2.Code), (O p2.Graph), (U p2.FA), (V s1), (V s2)]))) J rm1 J J ?_)
        cases h
       ·replace h := cond_f hb1921 h
        refine cr ?_
        refine o1 J (o_p (v := (O (p2.Kind == 29))) J ?_)
        refine op J J (oe ?_)
        refine c_cond (b := (p2.Kind == 29)) J (fun hb1922 => ?_) (fun hb1922 => ?_)
        ·replace h := cond_t hb1922 h
         refine cr (op J J ?_)
         refine o1 J (o_fa (fd := ⟨ "FA", 5, 4, false, "", "", 18⟩) J J J J J ?_)
         refine o1 J (o_ld (b := b1893) (off := 4) (v := (U p2.FA)) J rm1 J J ?_)
         refine o1 J (o_build (fs := f_1) (ps := [(0, 1), (1, 1), (2, 1), (3, 1), (4, 1), (5, 1)]) (cs := [(U 0), (O true), (U p2.FA), (U 0), (U 0), (U 0)]) J J J J J ?_)
         replace h := bsome h
         obtain ⟨d11, h11, h⟩ := h
         refine o1 J (o_call has116 J (c_write_pen_attribute hg X (⟨p0.n, p0.look, p0.texts⟩ : Vwrite_pen) b0 p1 b1 s0 (⟨0, true, p2.FA, 0, 0, 0⟩ : Vapi_Cell) ([] : List Vattr_Pair) SV.nil (rd_nil _ _ _) _ h11) (pc rm0 (pc rm1 (pc rm1 (pc rm1 pn)))) ?_)
         refine op J J (oe (c_ret (ej_ret ?_)))
         replace h := esc_some h
         obtain ⟨z2, h, rfl⟩ := h
         obtain rfl := (hk2 : z2 = _)
         refine e_blk_ret (ej_ret ?_)
         replace h := esc_some h
         obtain ⟨z1, h, rfl⟩ := h
         obtain rfl := (hk1 : z1 = _)
         refine e_then_ret (e_ret ?_)
         refine r_endt J J (kc rm0 (kc rm0 (kc rm0 (kc rm0 (kd kr))))) ?_
         obtain rfl := si h
         exact hk
        ·replace h := cond_f hb1922 h
         refine cr ?_
         refine o1 J (o_p (v := (O (p2.Kind == 41))) J ?_)
         refine op J J (oe ?_)
         refine c_cond (b := (p2.Kind == 41)) J (fun hb1948 => ?_) (fun hb1948 => ?_)
         ·replace h := cond_t hb1948 h
          refine cr (op J J ?_)
          refine o1 J (o_build (fs := f_1) (ps := [(0, 1), (1, 1), (2, 1), (3, 1), (4, 1), (5, 1)]) (cs := [(U 0), (O true), (U 0), (U 0), (U 0), (U 0)]) J J J J J ?_)
          refine o1 J (o_fa (fd := ⟨ "Pairs", 89, 5, false, "", "", 24⟩) J J J J J ?_)
          refine o1 J (o_ld (b := b1893) (off := 5) (v := (V s1)) J rm1 J J ?_)
          replace h := bsome h
          obtain ⟨d12, h12, h⟩ := h
          refine o1 J (o_call has116 J (c_write_pen_attribute hg X (⟨p0.n, p0.look, p0.texts⟩ : Vwrite_pen) b0 p1 b1 s0 (⟨0, true, 0, 0, 0, 0⟩ : Vapi_Cell) p2.Pairs s1 q0 _ h12) (pc rm0 (pc rm1 (pc rm1 (pc rm1 pn)))) ?_)
          refine op J J (oe (c_ret (ej_ret ?_)))
          replace h := esc_some h
          obtain ⟨z2, h, rfl⟩ := h
          obtain rfl := (hk2 : z2 = _)
          refine e_blk_ret (ej_ret ?_)
          replace h := esc_some h
          obtain ⟨z1, h, rfl⟩ := h
          obtain rfl := (hk1 : z1 = _)
          refine e_then_ret (e_ret ?_)
          refine r_endt J J (kc rm0 (kc rm0 (kc rm0 (kc rm0 (kd kr))))) ?_
          obtain rfl := si h
          exact hk
         ·replace h := cond_f hb1948 h
          refine cr ?_
          refine o1 J (o_p (v := (O (p2.Kind == 44))) J ?_)
          refine op J J (oe ?_)
          refine c_cond (b := (p2.Kind == 44)) J (fun hb1950 => ?_) (fun hb1950 => ?_)
          ·replace h := cond_t hb1950 h
           refine c_seq ?_
           replace h := bsome h
           obtain ⟨d13, h, hk13⟩ := h
           refine cj (D := Unit) (ι := Nat) (fun _ i13 => True) (fun _ i13 => [(7, (F i13 0)), (3, (F b1893 0)), (0, (F b0 0))]) (fun _ i13 => X :: blk i13 (.cells (A [(U d13.1), (O d13.2.1), (U d13.2.2.1), (U d13.2.2.2.1), (U d13.2.2.2.2.1), (U d13.2.2.2.2.2)]) 49 (0, 0)) :: blk b1893 (.cells (A [(I p2.Kind), (I p2.Addr), (U p2.Code), (O p2.Graph), (U p2.FA), (V s1), (V s2)]) 91 (0, 0)) :: blk b0 (.cells (A [(F b1 0), (I p0.n), (U p0.look.Char), (O p0.look.Attr), (U p0.look.FA), (U p0.look.High), (U p0.look.Color), (U p0.look.f_Set), (O p0.texts)]) 187 (0, 0)) :: blk b1 (.cells (A [(I p1.model), (O p1.alternate), (I p1.size.Rows), (I p1.size.Cols), (V s0), (I p1.cursor), (I p1.attrs)]) 105 (0, 0)) :: slO s0 49 en_Vapi_Cell p1.cells :: R) ?_ ?_
           ·replace h := bsome h
            obtain ⟨d14, h14, h⟩ := h
            refine c_draw (n := 3) (q := [(0, 59, (F b0 0)), (1, 60, (F b0 0)), (2, 61, (F b0 0)), (3, 62, (F b1 0)), (4, 63, (F b0 0)), (5, 64, (F b0 0)), (6, 65, (F b0 1)), (7, 66, (I p0.n))]) (pend := [0, 1, 2, 3, 4, 5, 6, 7]) J J J ?_
            refine ⟨⟨fun _ => ⟨J, J, J, .inl ⟨J, (o_p J ⟨J, J⟩)⟩⟩, fun _ => ⟨J, J, J, .inl ⟨J, (o_p J ⟨J, J⟩)⟩⟩, fun _ => ⟨J, J, J, .inl ⟨J, (o_fa (fd := ⟨ "s", 24, 0, false, "", "vitrine/write", 0⟩) J J J J J ⟨J, J⟩)⟩⟩, fun _ => ⟨J, J, J, .inl ⟨J, (o_ld (b := b0) (off := 0) (v := (F b1 0)) J rm2 J J ⟨J, J⟩)⟩⟩, fun _ => ⟨J, J, J, .inl ⟨J, (o_p J ⟨J, J⟩)⟩⟩, fun _ => ⟨J, J, J, .inl ⟨J, (o_p J ⟨J, J⟩)⟩⟩, fun _ => ⟨J, J, J, .inl ⟨J, (o_fa (fd := ⟨ "n", 3, 1, false, "", "vitrine/write", 8⟩) J J J J J ⟨J, J⟩)⟩⟩, fun _ => ⟨J, J, J, .inl ⟨J, (o_ld (b := b0) (off := 1) (v := (I p0.n)) J rm2 J J ⟨J, J⟩)⟩⟩, trivial⟩, J, .inr ⟨[8, 9], J, J, ⟨J, .inl J, ?_⟩, ⟨J, .inl J, ?_⟩, trivial⟩⟩
            ·refine (o_call has13 J (c_space_Space_At hg X p1 b1 s0 p0.n _ h14) (pc rm0 (pc rm2 (pc rm2 pn))) ?_)
             refine ⟨[], [], J, J, J, J, ?_⟩
             refine ⟨⟨(fun h => nomatch h), (fun h => nomatch h), (fun h => nomatch h), (fun h => nomatch h), (fun h => nomatch h), (fun h => nomatch h), (fun h => nomatch h), (fun h => nomatch h), trivial⟩, J, .inr ⟨[9], J, J, ⟨J, .inl J, ?_⟩, trivial⟩⟩
             refine (o_alloc (cs := [(U 0), (O false), (U 0), (U 0), (U 0), (U 0)]) J J (fun b1951 => ?_))
             refine ⟨[], [], J, J, J, J, ?_⟩
             refine ⟨⟨(fun h => nomatch h), (fun h => nomatch h), (fun h => nomatch h), (fun h => nomatch h), (fun h => nomatch h), (fun h => nomatch h), (fun h => nomatch h), (fun h => nomatch h), trivial⟩, J, .inr ⟨[10], J, J, ⟨J, .inl J, ?_⟩, trivial⟩⟩
             refine (o_st (b := b1951) (off := 0) (vs := [(U d14.Char), (O d14.Attr), (U d14.FA), (U d14.High), (U d14.Color), (U d14.f_Set)]) (cs' := [(U d14.Char), (O d14.Attr), (U d14.FA), (U d14.High), (U d14.Color), (U d14.f_Set)]) J J rp0 J J J J J J ?_)
             refine ⟨[], [], J, J, ?_⟩
             refine ⟨⟨(fun h => nomatch h), (fun h => nomatch h), (fun h => nomatch h), (fun h => nomatch h), (fun h => nomatch h), (fun h => nomatch h), (fun h => nomatch h), (fun h => nomatch h), trivial⟩, J, J, J, ?_⟩
             obtain rfl := si h
             exact ej () b1951 trivial (sc J (sc J (sc J sn))) (kc rm1 (kc rm0 (kc rm2 (kc rm2 (kc rm0 (kc rm0 kr))))))
            ·refine (o_alloc (cs := [(U 0), (O false), (U 0), (U 0), (U 0), (U 0)]) J J (fun b1951 => ?_))
             refine ⟨[], [0, 1, 2, 3, 4, 5, 6, 7], J, J, J, J, ?_⟩
             refine ⟨⟨fun _ => ⟨J, J, J, .inl ⟨J, (o_p J ⟨J, J⟩)⟩⟩, fun _ => ⟨J, J, J, .inl ⟨J, (o_p J ⟨J, J⟩)⟩⟩, fun _ => ⟨J, J, J, .inl ⟨J, (o_fa (fd := ⟨ "s", 24, 0, false, "", "vitrine/write", 0⟩) J J J J J ⟨J, J⟩)⟩⟩, fun _ => ⟨J, J, J, .inl ⟨J, (o_ld (b := b0) (off := 0) (v := (F b1 0)) J rm3 J J ⟨J, J⟩)⟩⟩, fun _ => ⟨J, J, J, .inl ⟨J, (o_p J ⟨J, J⟩)⟩⟩, fun _ => ⟨J, J, J, .inl ⟨J, (o_p J ⟨J, J⟩)⟩⟩, fun _ => ⟨J, J, J, .inl ⟨J, (o_fa (fd := ⟨ "n", 3, 1, false, "", "vitrine/write", 8⟩) J J J J J ⟨J, J⟩)⟩⟩, fun _ => ⟨J, J, J, .inl ⟨J, (o_ld (b := b0) (off := 1) (v := (I p0.n)) J rm3 J J ⟨J, J⟩)⟩⟩, trivial⟩, J, .inr ⟨[8], J, J, ⟨J, .inl J, ?_⟩, trivial⟩⟩
             refine (o_call has13 J (c_space_Space_At hg X p1 b1 s0 p0.n _ h14) (pc rm1 (pc rm3 (pc rm3 pn))) ?_)
             refine ⟨[], [], J, J, J, J, ?_⟩
             refine ⟨⟨(fun h => nomatch h), (fun h => nomatch h), (fun h => nomatch h), (fun h => nomatch h), (fun h => nomatch h), (fun h => nomatch h), (fun h => nomatch h), (fun h => nomatch h), trivial⟩, J, .inr ⟨[10], J, J, ⟨J, .inl J, ?_⟩, trivial⟩⟩
             refine (o_st (b := b1951) (off := 0) (vs := [(U d14.Char), (O d14.Attr), (U d14.FA), (U d14.High), (U d14.Color), (U d14.f_Set)]) (cs' := [(U d14.Char), (O d14.Attr), (U d14.FA), (U d14.High), (U d14.Color), (U d14.f_Set)]) J J rp3 J J J J J J ?_)
             refine ⟨[], [], J, J, ?_⟩
             refine ⟨⟨(fun h => nomatch h), (fun h => nomatch h), (fun h => nomatch h), (fun h => nomatch h), (fun h => nomatch h), (fun h => nomatch h), (fun h => nomatch h), (fun h => nomatch h), trivial⟩, J, J, J, ?_⟩
             obtain rfl := si h
             exact ej () b1951 trivial (sc J (sc J (sc J sn))) (kc rm0 (kc rm2 (kc rm2 (kc rm2 (kc rm0 (kc rm0 kr))))))
           ·rintro _ i13 _
            replace h := hk13
            clear hk13
            refine e_seq (c_seq (cr ?_))
            refine o1 J (o_fa (fd := ⟨ "Attr", 4, 1, false, "", "", 1⟩) J J J J J ?_)
            refine o1 J (o_ld (b := i13) (off := 1) (v := (O d13.2.1)) J rm1 J J ?_)
            refine o1 J (o_p (v := (O (!d13.2.1))) J ?_)
            refine oe ?_
            refine c_cond (b := (!d13.2.1)) J (fun hb1956 => ?_) (fun hb1956 => ?_)
            ·replace h := cond_t hb1956 h
             refine cr (op J J (oe (c_ret ?_)))
             refine e_then_ret (ej_ret ?_)
             replace h := esc_some h
             obtain ⟨z2, h, rfl⟩ := h
             obtain rfl := (hk2 : z2 = _)
             refine e_blk_ret (ej_ret ?_)
             replace h := esc_some h
             obtain ⟨z1, h, rfl⟩ := h
             obtain rfl := (hk1 : z1 = _)
             refine e_then_ret (e_ret ?_)
             refine r_endt J J (kc rm0 (kc rm3 (kc rm3 (kc rm2 (kd (kd kr)))))) ?_
             obtain rfl := si h
             exact hk
            ·replace h := cond_f hb1956 h
             refine c_skip (e_seq (cr (op J J ?_)))
             refine o1 J (o_ld (b := i13) (off := 0) (v := (.agg (A [(U d13.1), (O d13.2.1), (U d13.2.2.1), (U d13.2.2.2.1), (U d13.2.2.2.2.1), (U d13.2.2.2.2.2)]))) J rm1 J J ?_)
             refine o1 J (o_fa (fd := ⟨ "Pairs", 89, 5, false, "", "", 24⟩) J J J J J ?_)
             refine o1 J (o_ld (b := b1893) (off := 5) (v := (V s1)) J rm2 J J ?_)
             replace h := bsome h
             obtain ⟨d16, h16, h⟩ := h
             refine o1 J (o_call has116 J (c_write_pen_attribute hg X (⟨p0.n, p0.look, p0.texts⟩ : Vwrite_pen) b0 p1 b1 s0 (⟨d13.1, d13.2.1, d13.2.2.1, d13.2.2.2.1, d13.2.2.2.2.1, d13.2.2.2.2.2⟩ : Vapi_Cell) p2.Pairs s1 q0 _ h16) (pc rm0 (pc rm2 (pc rm2 (pc rm2 pn)))) ?_)
             refine op J J (oe (c_ret (ej_ret ?_)))
             replace h := esc_some h
             obtain ⟨z2, h, rfl⟩ := h
             obtain rfl := (hk2 : z2 = _)
             refine e_blk_ret (ej_ret ?_)
             replace h := esc_some h
             obtain ⟨z1, h, rfl⟩ := h
             obtain rfl := (hk1 : z1 = _)
             refine e_then_ret (e_ret ?_)
             refine r_endt J J (kc rm0 (kc rm0 (kc rm0 (kc rm0 (kd (kd kr)))))) ?_
             obtain rfl := si h
             exact hk
          ·replace h := cond_f hb1950 h
           refine cr ?_
           refine o1 J (o_p (v := (O (p2.Kind == 40))) J ?_)
           refine op J J (oe ?_)
           refine c_cond (b := (p2.Kind == 40)) J (fun hb1958 => ?_) (fun hb1958 => ?_)
           ·replace h := cond_t hb1958 h
            refine c_seq ?_
            replace h := bsome h
            obtain ⟨d17, h, hk17⟩ := h
            refine cj (D := Unit) (ι := Nat) (fun _ i17 => True) (fun _ i17 => [(9, (I d17.1)), (8, (F i17 0)), (0, (F b0 0))]) (fun _ i17 => X :: blk i17 (.cells (A [(U d17.2.1), (O d17.2.2.1), (U d17.2.2.2.1), (U d17.2.2.2.2.1), (U d17.2.2.2.2.2.1), (U d17.2.2.2.2.2.2)]) 49 (0, 0)) :: blk b0 (.cells (A [(F b1 0), (I p0.n), (U p0.look.Char), (O p0.look.Attr), (U p0.look.FA), (U p0.look.High), (U p0.look.Color), (U p0.look.f_Set), (O p0.texts)]) 187 (0, 0)) :: blk b1 (.cells (A [(I p1.model), (O p1.alternate), (I p1.size.Rows), (I p1.size.Cols), (V s0), (I p1.cursor), (I p1.attrs)]) 105 (0, 0)) :: slO s0 49 en_Vapi_Cell p1.cells :: R) ?_ ?_
            ·replace h := bsome h
             obtain ⟨d18, h18, h⟩ := h
             refine c_draw (n := 3) (q := [(0, 79, (F b0 0)), (1, 80, (F b0 0)), (2, 81, (F b0 2)), (3, 82, (.agg (A [(U p0.look.Char), (O p0.look.Attr), (U p0.look.FA), (U p0.look.High), (U p0.look.Color), (U p0.look.f_Set)]))), (4, 83, (F b1893 5)), (5, 84, (V s1))]) (pend := [0, 1, 2, 3, 4, 5]) J J J ?_
             refine ⟨⟨fun _ => ⟨J, J, J, .inl ⟨J, (o_p J ⟨J, J⟩)⟩⟩, fun _ => ⟨J, J, J, .inl ⟨J, (o_p J ⟨J, J⟩)⟩⟩, fun _ => ⟨J, J, J, .inl ⟨J, (o_fa (fd := ⟨ "look", 49, 2, false, "", "vitrine/write", 16⟩) J J J J J ⟨J, J⟩)⟩⟩, fun _ => ⟨J, J, J, .inl ⟨J, (o_ld (b := b0) (off := 2) (v := (.agg (A [(U p0.look.Char), (O p0.look.Attr), (U p0.look.FA), (U p0.look.High), (U p0.look.Color), (U p0.look.f_Set)]))) J rm2 J J ⟨J, J⟩)⟩⟩, fun _ => ⟨J, J, J, .inl ⟨J, (o_fa (fd := ⟨ "Pairs", 89, 5, false, "", "", 24⟩) J J J J J ⟨J, J⟩)⟩⟩, fun _ => ⟨J, J, J, .inl ⟨J, (o_ld (b := b1893) (off := 5) (v := (V s1)) J rm1 J J ⟨J, J⟩)⟩⟩, trivial⟩, J, .inr ⟨[6, 10], J, J, ⟨J, .inl J, ?_⟩, ⟨J, .inl J, ?_⟩, trivial⟩⟩
             ·refine (o_call has117 J (c_write_applied hg X p0.look p2.Pairs s1 q0 _ h18) (pc rm0 pn) ?_)
              refine ⟨[(7, 78, (.tuple (A [(.agg (A [(U d18.1.Char), (O d18.1.Attr), (U d18.1.FA), (U d18.1.High), (U d18.1.Color), (U d18.1.f_Set)])), (I d18.2)]))), (8, 86, (.agg (A [(U d18.1.Char), (O d18.1.Attr), (U d18.1.FA), (U d18.1.High), (U d18.1.Color), (U d18.1.f_Set)]))), (9, 87, (I d18.2))], [7, 8, 9], J, J, J, J, ?_⟩
              refine ⟨⟨fun _ => ⟨J, J, J, .inl ⟨J, (o_p J ⟨J, J⟩)⟩⟩, fun _ => ⟨J, J, J, .inl ⟨J, (o_p J ⟨J, J⟩)⟩⟩, fun _ => ⟨J, J, J, .inl ⟨J, (o_p J ⟨J, J⟩)⟩⟩, (fun h => nomatch h), (fun h => nomatch h), (fun h => nomatch h), (fun h => nomatch h), (fun h => nomatch h), (fun h => nomatch h), trivial⟩, J, .inr ⟨[10], J, J, ⟨J, .inl J, ?_⟩, trivial⟩⟩
              refine (o_alloc (cs := [(U 0), (O false), (U 0), (U 0), (U 0), (U 0)]) J J (fun b1959 => ?_))
              refine ⟨[], [7, 8, 9], J, J, J, J, ?_⟩
              refine ⟨⟨fun _ => ⟨J, J, J, .inl ⟨J, (o_p J ⟨J, J⟩)⟩⟩, fun _ => ⟨J, J, J, .inl ⟨J, (o_p J ⟨J, J⟩)⟩⟩, fun _ => ⟨J, J, J, .inl ⟨J, (o_p J ⟨J, J⟩)⟩⟩, (fun h => nomatch h), (fun h => nomatch h), (fun h => nomatch h), (fun h => nomatch h), (fun h => nomatch h), (fun h => nomatch h), trivial⟩, J, .inr ⟨[11], J, J, ⟨J, .inl J, ?_⟩, trivial⟩⟩
              refine (o_st (b := b1959) (off := 0) (vs := [(U d18.1.Char), (O d18.1.Attr), (U d18.1.FA), (U d18.1.High), (U d18.1.Color), (U d18.1.f_Set)]) (cs' := [(U d18.1.Char), (O d18.1.Attr), (U d18.1.FA), (U d18.1.High), (U d18.1.Color), (U d18.1.f_Set)]) J J rp0 J J J J J J ?_)
              refine ⟨[(12, 9, (I d18.2))], [9, 12], J, J, ?_⟩
              refine ⟨⟨fun _ => ⟨J, J, J, .inl ⟨J, (o_p J ⟨J, J⟩)⟩⟩, (fun h => nomatch h), (fun h => nomatch h), fun _ => ⟨J, J, J, .inl ⟨J, (o_p J ⟨J, J⟩)⟩⟩, (fun h => nomatch h), (fun h => nomatch h), (fun h => nomatch h), (fun h => nomatch h), (fun h => nomatch h), (fun h => nomatch h), trivial⟩, J, J, J, ?_⟩
              obtain rfl := si h
              exact ej () b1959 trivial (sc J (sc J (sc J sn))) (kc rm1 (kc rm0 (kc rm1 (kc rm1 (kc rm1 (kd kr))))))
             ·refine (o_alloc (cs := [(U 0), (O false), (U 0), (U 0), (U 0), (U 0)]) J J (fun b1959 => ?_))
              refine ⟨[], [0, 1, 2, 3, 4, 5], J, J, J, J, ?_⟩
              refine ⟨⟨fun _ => ⟨J, J, J, .inl ⟨J, (o_p J ⟨J, J⟩)⟩⟩, fun _ => ⟨J, J, J, .inl ⟨J, (o_p J ⟨J, J⟩)⟩⟩, fun _ => ⟨J, J, J, .inl ⟨J, (o_fa (fd := ⟨ "look", 49, 2, false, "", "vitrine/write", 16⟩) J J J J J ⟨J, J⟩)⟩⟩, fun _ => ⟨J, J, J, .inl ⟨J, (o_ld (b := b0) (off := 2) (v := (.agg (A [(U p0.look.Char), (O p0.look.Attr), (U p0.look.FA), (U p0.look.High), (U p0.look.Color), (U p0.look.f_Set)]))) J rm3 J J ⟨J, J⟩)⟩⟩, fun _ => ⟨J, J, J, .inl ⟨J, (o_fa (fd := ⟨ "Pairs", 89, 5, false, "", "", 24⟩) J J J J J ⟨J, J⟩)⟩⟩, fun _ => ⟨J, J, J, .inl ⟨J, (o_ld (b := b1893) (off := 5) (v := (V s1)) J rm2 J J ⟨J, J⟩)⟩⟩, trivial⟩, J, .inr ⟨[6], J, J, ⟨J, .inl J, ?_⟩, trivial⟩⟩
              refine (o_call has117 J (c_write_applied hg X p0.look p2.Pairs s1 q0 _ h18) (pc rm1 pn) ?_)
              refine ⟨[(7, 78, (.tuple (A [(.agg (A [(U d18.1.Char), (O d18.1.Attr), (U d18.1.FA), (U d18.1.High), (U d18.1.Color), (U d18.1.f_Set)])), (I d18.2)]))), (8, 86, (.agg (A [(U d18.1.Char), (O d18.1.Attr), (U d18.1.FA), (U d18.1.High), (U d18.1.Color), (U d18.1.f_Set)]))), (9, 87, (I d18.2))], [7, 8, 9], J, J, J, J, ?_⟩
              refine ⟨⟨fun _ => ⟨J, J, J, .inl ⟨J, (o_p J ⟨J, J⟩)⟩⟩, fun _ => ⟨J, J, J, .inl ⟨J, (o_p J ⟨J, J⟩)⟩⟩, fun _ => ⟨J, J, J, .inl ⟨J, (o_p J ⟨J, J⟩)⟩⟩, (fun h => nomatch h), (fun h => nomatch h), (fun h => nomatch h), (fun h => nomatch h), (fun h => nomatch h), (fun h => nomatch h), trivial⟩, J, .inr ⟨[11], J, J, ⟨J, .inl J, ?_⟩, trivial⟩⟩
              refine (o_st (b := b1959) (off := 0) (vs := [(U d18.1.Char), (O d18.1.Attr), (U d18.1.FA), (U d18.1.High), (U d18.1.Color), (U d18.1.f_Set)]) (cs' := [(U d18.1.Char), (O d18.1.Attr), (U d18.1.FA), (U d18.1.High), (U d18.1.Color), (U d18.1.f_Set)]) J J rp1 J J J J J J ?_)
              refine ⟨[(12, 9, (I d18.2))], [9, 12], J, J, ?_⟩
              refine ⟨⟨fun _ => ⟨J, J, J, .inl ⟨J, (o_p J ⟨J, J⟩)⟩⟩, (fun h => nomatch h), (fun h => nomatch h), fun _ => ⟨J, J, J, .inl ⟨J, (o_p J ⟨J, J⟩)⟩⟩, (fun h => nomatch h), (fun h => nomatch h), (fun h => nomatch h), (fun h => nomatch h), (fun h => nomatch h), (fun h => nomatch h), trivial⟩, J, J, J, ?_⟩
              obtain rfl := si h
              exact ej () b1959 trivial (sc J (sc J (sc J sn))) (kc rm0 (kc rm0 (kc rm1 (kc rm1 (kc rm1 (kd kr))))))
            ·rintro _ i17 _
             replace h := hk17
             clear hk17
             refine e_seq (c_seq (cr (op J J ?_)))
             refine o1 J (o_p (v := (O (d17.1 == 0))) J ?_)
             refine oe ?_
             replace h := bsome h
             obtain ⟨d19, h, hk19⟩ := h
             refine cj (D := Unit) (ι := Unit) (fun _ i19 => True) (fun _ i19 => [(9, (I d17.1))]) (fun _ i19 => X :: blk b1 (.cells (A [(I p1.model), (O p1.alternate), (I p1.size.Rows), (I p1.size.Cols), (V s0), (I p1.cursor), (I p1.attrs)]) 105 (0, 0)) :: blk b0 (.cells (A [(F b1 0), (I p0.n), (U d19.1), (O d19.2.1), (U d19.2.2.1), (U d19.2.2.2.1), (U d19.2.2.2.2.1), (U d19.2.2.2.2.2), (O p0.texts)]) 187 (0, 0)) :: slO s0 49 en_Vapi_Cell p1.cells :: R) ?_ ?_
             ·refine c_cond (b := (d17.1 == 0)) J (fun hb1964 => ?_) (fun hb1964 => ?_)
              ·replace h := cond_t hb1964 h
               refine c_region (op J J ?_)
               refine o1 J (o_ld (b := i17) (off := 0) (v := (.agg (A [(U d17.2.1), (O d17.2.2.1), (U d17.2.2.2.1), (U d17.2.2.2.2.1), (U d17.2.2.2.2.2.1), (U d17.2.2.2.2.2.2)]))) J rm1 J J ?_)
               refine op J J ?_
               refine o1 J (o_fa (fd := ⟨ "look", 49, 2, false, "", "vitrine/write", 16⟩) J J J J J ?_)
               refine o0 (o_st (b := b0) (off := 2) (vs := [(U d17.2.1), (O d17.2.2.1), (U d17.2.2.2.1), (U d17.2.2.2.2.1), (U d17.2.2.2.2.2.1), (U d17.2.2.2.2.2.2)]) (cs' := [(F b1 0), (I p0.n), (U d17.2.1), (O d17.2.2.1), (U d17.2.2.2.1), (U d17.2.2.2.2.1), (U d17.2.2.2.2.2.1), (U d17.2.2.2.2.2.2), (O p0.texts)]) J J rp2 J J J J J J ?_)
               refine o_end ?_
               obtain rfl := si h
               exact ej () () trivial (sc J sn) (kc rm0 (kc rm2 (kc rm1 (kc rm1 (kd kr)))))
              ·replace h := cond_f hb1964 h
               refine c_skip ?_
               obtain rfl := si h
               exact ej () () trivial (sc J sn) (kc rm0 (kc rm2 (kc rm1 (kc rm1 (kd kr)))))
             ·rintro _ i19 _
              replace h := hk19
              clear hk19
              refine e_seq (cr (op J J (op J J (o_end ?_))))
              refine e_seq (c_ret (ej_ret ?_))
              replace h := esc_some h
              obtain ⟨z2, h, rfl⟩ := h
              obtain rfl := (hk2 : z2 = _)
              refine e_blk_ret (ej_ret ?_)
              replace h := esc_some h
              obtain ⟨z1, h, rfl⟩ := h
              obtain rfl := (hk1 : z1 = _)
              refine e_then_ret (e_ret ?_)
              refine r_endt J J (kc rm0 (kc rm0 (kc rm1 (kc rm0 kr)))) ?_
              obtain rfl := si h
              exact hk
           ·replace h := cond_f hb1958 h
            refine cr ?_
            refine o1 J (o_p (v := (O (p2.Kind == 19))) J ?_)
            refine op J J (oe ?_)
            refine c_cond (b := (p2.Kind == 19)) J (fun hb1965 => ?_) (fun hb1965 => ?_)
            ·replace h := cond_t hb1965 h
             refine c_draw (n := 1) (q := [(0, 97, (F b0 0)), (1, 98, (F b0 0)), (2, 99, (F b0 0)), (3, 100, (F b1 0)), (4, 101, (F b0 0)), (5, 102, (F b0 0)), (6, 103, (F b0 1)), (7, 104, (I p0.n))]) (pend := [0, 1, 2, 3, 4, 5, 6, 7]) J J J ?_
             replace h := bsome h
             obtain ⟨d20, h20, h⟩ := h
             refine ⟨⟨fun _ => ⟨J, J, J, .inl ⟨J, (o_p J ⟨J, J⟩)⟩⟩, fun _ => ⟨J, J, J, .inl ⟨J, (o_p J ⟨J, J⟩)⟩⟩, fun _ => ⟨J, J, J, .inl ⟨J, (o_fa (fd := ⟨ "s", 24, 0, false, "", "vitrine/write", 0⟩) J J J J J ⟨J, J⟩)⟩⟩, fun _ => ⟨J, J, J, .inl ⟨J, (o_ld (b := b0) (off := 0) (v := (F b1 0)) J rm2 J J ⟨J, J⟩)⟩⟩, fun _ => ⟨J, J, J, .inl ⟨J, (o_p J ⟨J, J⟩)⟩⟩, fun _ => ⟨J, J, J, .inl ⟨J, (o_p J ⟨J, J⟩)⟩⟩, fun _ => ⟨J, J, J, .inl ⟨J, (o_fa (fd := ⟨ "n", 3, 1, false, "", "vitrine/write", 8⟩) J J J J J ⟨J, J⟩)⟩⟩, fun _ => ⟨J, J, J, .inl ⟨J, (o_ld (b := b0) (off := 1) (v := (I p0.n)) J rm2 J J ⟨J, J⟩)⟩⟩, trivial⟩, J, .inr ⟨[8], J, J, ⟨J, .inl J, ?_⟩, trivial⟩⟩
             refine (o_call has23 J (c_space_Space_Place hg X p1 b1 s0 p0.n _ h20) (pc rm0 (pc rm2 (pc rm2 pn))) ?_)
             refine ⟨[], [], J, J, J, J, ?_⟩
             refine ⟨⟨(fun h => nomatch h), (fun h => nomatch h), (fun h => nomatch h), (fun h => nomatch h), (fun h => nomatch h), (fun h => nomatch h), (fun h => nomatch h), (fun h => nomatch h), trivial⟩, J, J, J, ?_⟩
             obtain rfl := si h
             exact ej (d20.model, d20.alternate, d20.size.Rows, d20.size.Cols, d20.cells, d20.cursor, d20.attrs, p0.n, p0.look.Char, p0.look.Attr, p0.look.FA, p0.look.High, p0.look.Color, p0.look.f_Set, p0.texts) () J sn (kc rm0 (kc rm0 (kc rm2 (kc rm0 (kd kr)))))
            ·replace h := cond_f hb1965 h
             refine cr ?_
             refine o1 J (o_p (v := (O (p2.Kind == 5))) J ?_)
             refine op J J (oe ?_)
             refine c_cond (b := (p2.Kind == 5)) J (fun hb1967 => ?_) (fun hb1967 => ?_)
             ·replace h := cond_t hb1967 h
              refine c_region (op J J ?_)
              cases h
             ·replace h := cond_f hb1967 h
              refine c_skip ?_
              obtain rfl := si h
              exact ej (p1.model, p1.alternate, p1.size.Rows, p1.size.Cols, p1.cells, p1.cursor, p1.attrs, p0.n, p0.look.Char, p0.look.Attr, p0.look.FA, p0.look.High, p0.look.Color, p0.look.f_Set, p0.texts) () J sn (kc rm0 (kc rm2 (kc rm1 (kc rm1 (kd kr)))))
  ·rintro d2 i2 rfl
   replace h := JK_inl hk2
   clear hk2
   refine e_blk ?_
   obtain rfl := si h
   exact ej (d2.1, d2.2.1, d2.2.2.1, d2.2.2.2.1, d2.2.2.2.2.1, d2.2.2.2.2.2.1, d2.2.2.2.2.2.2.1, d2.2.2.2.2.2.2.2.1, d2.2.2.2.2.2.2.2.2.1, d2.2.2.2.2.2.2.2.2.2.1, d2.2.2.2.2.2.2.2.2.2.2.1, d2.2.2.2.2.2.2.2.2.2.2.2.1, d2.2.2.2.2.2.2.2.2.2.2.2.2.1, d2.2.2.2.2.2.2.2.2.2.2.2.2.2.1, d2.2.2.2.2.2.2.2.2.2.2.2.2.2.2) () J sn (kc rm0 (kc rm0 (kc rm0 (kc rm0 kr))))
 ·rintro d1 i1 rfl
  replace h := JK_inl hk1
  clear hk1
  refine e_seq (cr (op J J (oe ?_)))
  refine c_ret (e_ret ?_)
  refine r_endt J J (kc rm0 (kc rm0 (kc rm1 (kc rm0 kr)))) ?_
  obtain rfl := si h
  exact hk

theorem c_write_Orders {g : Gw} (hg : GK g) (X : HP) (p0 : Vspace_Space) (b0 : Nat) (s0 : SV) (p1 : List Int) (s1 : SV) (q0 : Rd X s1 5 (enI .u8) p1) (p2 : Int) (r : Vspace_Space × Int × Int × Int) (h : m_write_Orders p0 p1 p2 = some r) : Tri env g 67 (A [(F b0 0), (V s1), (I p2)]) [X, blk b0 (.cells (A [(I p0.model), (O p0.alternate), (I p0.size.Rows), (I p0.size.Cols), (V s0), (I p0.cursor), (I p0.attrs)]) 105 (0, 0)), slO s0 49 en_Vapi_Cell p0.cells] (fun K R => ∀ (i0 : HP), (Ext X i0) → K (.tuple (A [(I r.2.1), (I r.2.2.1), (I r.2.2.2)])) (i0 :: blk b0 (.cells (A [(I r.1.model), (O r.1.alternate), (I r.1.size.Rows), (I r.1.size.Cols), (V s0), (I r.1.cursor), (I r.1.attrs)]) 105 (0, 0)) :: slO s0 49 en_Vapi_Cell r.1.cells :: R)) := by
 refine tri_of (fn := Tryz.f67) (N := 57) Tryz.func67 J J J ?_
 intro R K hk
 unfold m_write_Orders at h
 change GC _ none _ [] [(0, (F b0 0)), (1, (V s1)), (2, (I p2))] (X :: blk b0 (.cells (A [(I p0.model), (O p0.alternate), (I p0.size.Rows), (I p0.size.Cols), (V s0), (I p0.cursor), (I p0.attrs)]) 105 (0, 0)) :: slO s0 49 en_Vapi_Cell p0.cells :: R) g _ _
 refine cr ?_
 refine o1 J (o_alloc (cs := [(I 0)]) J J (fun b1867 => ?_))
 refine o1 J (o_alloc (cs := [(I 0)]) J J (fun b1869 => ?_))
 refine o1 J (o_alloc (cs := [(I 0)]) J J (fun b1871 => ?_))
 refine oe (c_seq (cr (op J J ?_)))
 refine o1 J (o_p (v := (O false)) J ?_)
 refine oe ?_
 refine c_cond_f J J ?_
 refine c_skip (e_seq (cr (op J J (op J J ?_))))
 replace h := bsome h
 obtain ⟨d1, h1, h⟩ := h
 refine o1 J (o_call has53 J (c_space_Space_Size hg X p0 b0 s0 _ h1) (pc rm3 (pc rm3 (pc rm3 pn))) ?_)
 refine op J J ?_
 replace h := bsome h
 obtain ⟨d2, h2, h⟩ := h
 refine o1 J (o_call has40 J (c_addr_Size_Wrap hg X (⟨d1.Rows, d1.Cols⟩ : Vaddr_Size) p2 _ h2) (pc rm0 pn) ?_)
 refine o1 J (o_build (fs := [⟨ "s", 24, 0, false, "", "vitrine/write", 0⟩, ⟨ "n", 3, 1, false, "", "vitrine/write", 8⟩, ⟨ "look", 49, 2, false, "", "vitrine/write", 16⟩, ⟨ "texts", 4, 8, false, "", "vitrine/write", 22⟩]) (ps := [(0, 1), (1, 1), (2, 6), (8, 1)]) (cs := [(F b0 0), (I d2), (U 0), (O false), (U 0), (U 0), (U 0), (U 0), (O false)]) J J J J J ?_)
 refine o1 J (o_box (cs := [(F b0 0), (I d2), (U 0), (O false), (U 0), (U 0), (U 0), (U 0), (O false)]) J J (fun b1873 => ?_))
 refine o1 J (o_alloc (cs := [(.pointer none)]) J J (fun b1875 => ?_))
 refine o0 (o_st (b := b1875) (off := 0) (vs := [(F b1873 0)]) (cs' := [(F b1873 0)]) J J rp0 J J J J J J ?_)
 refine oe (cr ?_)
 refine o1 J (o_alloc (cs := [(I 0)]) J J (fun b1877 => ?_))
 refine o0 (o_st (b := b1877) (off := 0) (vs := [(I 0)]) (cs' := [(I 0)]) J J rp0 J J J J J J ?_)
 refine oe (c_seq (cr (op J J ?_)))
 replace h := bsome h
 obtain ⟨d3, h3, h⟩ := h
 refine o1 J (o_call has100 J (c_order_Parse hg X p1 s1 q0 _ h3) (pc rm3 pn) (fun i3 => ?_))
 refine oe ?_
 replace h := jn_some h
 obtain ⟨y4, h, hk4⟩ := h
 refine cjd (D := Int × Int × Bool × Int × Int × (List Vapi_Cell) × Int × Int × Int × Int × Bool × Int × Int × Int × Int × Bool) (ι := HP × Nat) (fun d4 i4 => [mk i4.2]) (fun d4 i4 => (y4 = Sum.inl d4) ∧ (Ext X i4.1)) (fun d4 i4 => [(10, (F b1877 0)), (9, (F b1875 0)), (8, (F b1871 0)), (7, (F b1869 0)), (6, (F b1867 0))]) (fun d4 i4 => i4.1 :: blk b1877 (.cells (A [(I d4.1)]) 3 (0, 0)) :: blk b1875 (.cells (A [(F b1873 0)]) 185 (0, 0)) :: blk b1871 (.cells (A [(I 0)]) 29 (0, 0)) :: blk b1869 (.cells (A [(I 0)]) 3 (0, 0)) :: blk b1867 (.cells (A [(I 0)]) 3 (0, 0)) :: blk b0 (.cells (A [(I d4.2.1), (O d4.2.2.1), (I d4.2.2.2.1), (I d4.2.2.2.2.1), (V s0), (I d4.2.2.2.2.2.2.1), (I d4.2.2.2.2.2.2.2.1)]) 105 (0, 0)) :: blk b1873 (.cells (A [(F b0 0), (I d4.2.2.2.2.2.2.2.2.1), (U d4.2.2.2.2.2.2.2.2.2.1), (O d4.2.2.2.2.2.2.2.2.2.2.1), (U d4.2.2.2.2.2.2.2.2.2.2.2.1), (U d4.2.2.2.2.2.2.2.2.2.2.2.2.1), (U d4.2.2.2.2.2.2.2.2.2.2.2.2.2.1), (U d4.2.2.2.2.2.2.2.2.2.2.2.2.2.2.1), (O d4.2.2.2.2.2.2.2.2.2.2.2.2.2.2.2)]) 187 (0, 0)) :: slO s0 49 en_Vapi_Cell d4.2.2.2.2.2.1 :: blk i4.2 (.deferred (some [])) :: R) ?_ ?_
 ·refine c_block ?_
  replace h := jn_some h
  obtain ⟨y5, h, hk5⟩ := h
  refine cjd (D := Int × Int × Bool × Int × Int × (List Vapi_Cell) × Int × Int × Int × Int × Bool × Int × Int × Int × Int × Bool) (ι := HP × Nat) (fun d5 i5 => [mk i5.2]) (fun d5 i5 => (y5 = Sum.inl d5) ∧ (Ext X i5.1)) (fun d5 i5 => [(10, (F b1877 0)), (9, (F b1875 0)), (8, (F b1871 0)), (7, (F b1869 0)), (6, (F b1867 0))]) (fun d5 i5 => i5.1 :: blk b1877 (.cells (A [(I d5.1)]) 3 (0, 0)) :: blk b1875 (.cells (A [(F b1873 0)]) 185 (0, 0)) :: blk b1871 (.cells (A [(I 0)]) 29 (0, 0)) :: blk b1869 (.cells (A [(I 0)]) 3 (0, 0)) :: blk b1867 (.cells (A [(I 0)]) 3 (0, 0)) :: blk b0 (.cells (A [(I d5.2.1), (O d5.2.2.1), (I d5.2.2.2.1), (I d5.2.2.2.2.1), (V s0), (I d5.2.2.2.2.2.2.1), (I d5.2.2.2.2.2.2.2.1)]) 105 (0, 0)) :: blk b1873 (.cells (A [(F b0 0), (I d5.2.2.2.2.2.2.2.2.1), (U d5.2.2.2.2.2.2.2.2.2.1), (O d5.2.2.2.2.2.2.2.2.2.2.1), (U d5.2.2.2.2.2.2.2.2.2.2.2.1), (U d5.2.2.2.2.2.2.2.2.2.2.2.2.1), (U d5.2.2.2.2.2.2.2.2.2.2.2.2.2.1), (U d5.2.2.2.2.2.2.2.2.2.2.2.2.2.2.1), (O d5.2.2.2.2.2.2.2.2.2.2.2.2.2.2.2)]) 187 (0, 0)) :: slO s0 49 en_Vapi_Cell d5.2.2.2.2.2.1 :: blk i5.2 (.deferred (some [])) :: R) ?_ ?_
  ·refine c_range' (fn := Tryz.f112) (M := 32) J has112 Tryz.func112 J J J (fun l6 D6 a6 fc6 rc6 hrc6 ht6 => ?_)
   change GC _ none _ [] [(0, (.func (.yield l6) #[] #[])), (1, (F i3 0))] (blk l6 (.loop (rc6 .ready none)) :: blk D6 (.deferred (some [])) :: X :: blk i3 (.cells (A [(V s1)]) 28 (0, 0)) :: blk b1877 (.cells (A [(I 0)]) 3 (0, 0)) :: blk b1875 (.cells (A [(F b1873 0)]) 185 (0, 0)) :: blk b1873 (.cells (A [(F b0 0), (I d2), (U 0), (O false), (U 0), (U 0), (U 0), (U 0), (O false)]) 187 (0, 0)) :: blk b0 (.cells (A [(I p0.model), (O p0.alternate), (I p0.size.Rows), (I p0.size.Cols), (V s0), (I p0.cursor), (I p0.attrs)]) 105 (0, 0)) :: slO s0 49 en_Vapi_Cell p0.cells :: blk b1871 (.cells (A [(I 0)]) 29 (0, 0)) :: blk b1869 (.cells (A [(I 0)]) 3 (0, 0)) :: blk b1867 (.cells (A [(I 0)]) 3 (0, 0)) :: R) g _ _
   refine cr ?_
   refine o1 J (o_ld (b := i3) (off := 0) (v := (V s1)) J rm3 J J ?_)
   refine o1 J (o_build (fs := f_7) (ps := [(0, 1), (1, 1)]) (cs := [(V s1), (I 0)]) J J J J J ?_)
   refine o1 J (o_box (cs := [(V s1), (I 0)]) J J (fun b1882 => ?_))
   refine op J J (oe ?_)
   replace h := jn_some h
   obtain ⟨y7, h, hk7⟩ := h
   refine cj (D := Int × Bool × Int × Int × (List Vapi_Cell) × Int × Int × Int × Int × Int × Bool × Int × Int × Int × Int × Bool) (ι := HP) (fun d7 i7 => (y7 = Sum.inl d7) ∧ (Rd i7 s1 5 (enI .u8) p1) ∧ (Ext X i7)) (fun d7 i7 => []) (fun d7 i7 => i7 :: blk b0 (.cells (A [(I d7.1), (O d7.2.1), (I d7.2.2.1), (I d7.2.2.2.1), (V s0), (I d7.2.2.2.2.2.1), (I d7.2.2.2.2.2.2.1)]) 105 (0, 0)) :: blk i3 (.cells (A [(V s1)]) 28 (0, 0)) :: blk b1877 (.cells (A [(I d7.2.2.2.2.2.2.2.1)]) 3 (0, 0)) :: blk b1875 (.cells (A [(F b1873 0)]) 185 (0, 0)) :: blk b1873 (.cells (A [(F b0 0), (I d7.2.2.2.2.2.2.2.2.1), (U d7.2.2.2.2.2.2.2.2.2.1), (O d7.2.2.2.2.2.2.2.2.2.2.1), (U d7.2.2.2.2.2.2.2.2.2.2.2.1), (U d7.2.2.2.2.2.2.2.2.2.2.2.2.1), (U d7.2.2.2.2.2.2.2.2.2.2.2.2.2.1), (U d7.2.2.2.2.2.2.2.2.2.2.2.2.2.2.1), (O d7.2.2.2.2.2.2.2.2.2.2.2.2.2.2.2)]) 187 (0, 0)) :: blk b1871 (.cells (A [(I 0)]) 29 (0, 0)) :: blk b1869 (.cells (A [(I 0)]) 3 (0, 0)) :: blk b1867 (.cells (A [(I 0)]) 3 (0, 0)) :: slO s0 49 en_Vapi_Cell d7.2.2.2.2.1 :: blk l6 (.loop (rc6 .ready none)) :: blk D6 (.deferred (some [])) :: R) ?_ ?_
   ·refine c_block ?_
    refine c_loop (l_sub (sc J (sc J sn)) (l_keep (kc rm3 (kc rm0 (kc rm6 (kc rm2 (kc rm2 (kc rm2 (kc rm2 (kc rm3 (kc rm3 (kc rm3 (kc rm2 (kc rm0 (kc rm0 kr))))))))))))) (lf (X := (List Int) × Int × Int × Bool × Int × Int × (List Vapi_Cell) × Int × Int × Int × Int × Int × Bool × Int × Int × Int × Int × Bool) (ι := HP × SV) (fun k x => write_Orders_l8 k x) _ (fun x8 i8 => (Rd i8.1 i8.2 5 (enI .u8) x8.1) ∧ (Rd i8.1 s1 5 (enI .u8) p1) ∧ (Ext X i8.1)) (fun x8 i8 => [(3, (F b1882 0)), (0, (.func (.yield l6) #[] #[]))]) (fun x8 i8 => i8.1 :: blk b1882 (.cells (A [(V i8.2), (I x8.2.1)]) 128 (0, 0)) :: blk b0 (.cells (A [(I x8.2.2.1), (O x8.2.2.2.1), (I x8.2.2.2.2.1), (I x8.2.2.2.2.2.1), (V s0), (I x8.2.2.2.2.2.2.2.1), (I x8.2.2.2.2.2.2.2.2.1)]) 105 (0, 0)) :: blk i3 (.cells (A [(V s1)]) 28 (0, 0)) :: blk b1877 (.cells (A [(I x8.2.2.2.2.2.2.2.2.2.1)]) 3 (0, 0)) :: blk b1875 (.cells (A [(F b1873 0)]) 185 (0, 0)) :: blk b1873 (.cells (A [(F b0 0), (I x8.2.2.2.2.2.2.2.2.2.2.1), (U x8.2.2.2.2.2.2.2.2.2.2.2.1), (O x8.2.2.2.2.2.2.2.2.2.2.2.2.1), (U x8.2.2.2.2.2.2.2.2.2.2.2.2.2.1), (U x8.2.2.2.2.2.2.2.2.2.2.2.2.2.2.1), (U x8.2.2.2.2.2.2.2.2.2.2.2.2.2.2.2.1), (U x8.2.2.2.2.2.2.2.2.2.2.2.2.2.2.2.2.1), (O x8.2.2.2.2.2.2.2.2.2.2.2.2.2.2.2.2.2)]) 187 (0, 0)) :: blk b1871 (.cells (A [(I 0)]) 29 (0, 0)) :: blk b1869 (.cells (A [(I 0)]) 3 (0, 0)) :: blk b1867 (.cells (A [(I 0)]) 3 (0, 0)) :: slO s0 49 en_Vapi_Cell x8.2.2.2.2.2.2.1 :: blk l6 (.loop (rc6 .ready none)) :: blk D6 (.deferred (some [])) :: R) (fun _ => J) ?_ fuel (p1, 0, p0.model, p0.alternate, p0.size.Rows, p0.size.Cols, p0.cells, p0.cursor, p0.attrs, 0, d2, 0, false, 0, 0, 0, 0, false) (X, s1) ⟨q0, q0, (Ext.refl _)⟩ h)))
    clear h
    rintro k8 ih8 x8 i8 ⟨f8_0, f8_1, f8_2⟩ h
    rw [write_Orders_l8.eq_2] at h
    refine l_round (c_seq (cr (op J J (op J J ?_))))
    refine o1 J (o_fa (fd := ⟨ "p", 28, 0, false, "", "vitrine/order", 0⟩) J J J J J ?_)
    refine o1 J (o_ld (b := b1882) (off := 0) (v := (V i8.2)) J rm1 J J ?_)
    refine o1 J (o_len (s := i8.2) J J J rm0 f8_0 ?_)
    refine o1 J (o_p (v := (O (decide ((x8.1.length : Int) > 0)))) J ?_)
    refine oe ?_
    refine c_cond (b := (decide ((x8.1.length : Int) > 0))) J (fun hb2010 => ?_) (fun hb2010 => ?_)
    ·replace h := cond_t hb2010 h
     refine c_skip (e_seq (c_block (cr (op J J ?_))))
     replace h := bsome h
     obtain ⟨d10, h10, h⟩ := h
     refine o1 J (o_call has60 J (c_order_scanner_op hg i8.1 (⟨x8.1, x8.2.1⟩ : Vorder_scanner) b1882 i8.2 f8_0 _ h10) (pc rm0 (pc rm0 pn)) (fun i10 f10_0 f10_1 => ?_))
     refine o1 J (o_alloc (cs := [(I 0), (I 0), (U 0), (O false), (U 0), (V SV.nil), (V SV.nil)]) J J (fun b2013 => ?_))
     refine o0 (o_st (b := b2013) (off := 0) (vs := [(I d10.2.Kind), (I d10.2.Addr), (U d10.2.Code), (O d10.2.Graph), (U d10.2.FA), (V i10.2.2.1), (V i10.2.2.2)]) (cs' := [(I d10.2.Kind), (I d10.2.Addr), (U d10.2.Code), (O d10.2.Graph), (U d10.2.FA), (V i10.2.2.1), (V i10.2.2.2)]) J J rp0 J J J J J J ?_)
     refine oe (c_seq (cr (op J J ?_)))
     refine op J J ?_
     refine o1 J (o_fa (fd := ⟨ "code", 29, 1, false, "", "vitrine/order", 24⟩) J J J J J ?_)
     refine o1 J (o_ld (b := b1882) (off := 1) (v := (I d10.1.code)) J rm2 J J ?_)
     refine o1 J (o_p (v := (O (d10.1.code != 0))) J ?_)
     refine oe ?_
     refine c_cond (b := (d10.1.code != 0)) J (fun hb2015 => ?_) (fun hb2015 => ?_)
     ·replace h := cond_t hb2015 h
      refine cr (op J J ?_)
      refine o1 J (o_build (fs := f_5) (ps := [(0, 1), (1, 1), (2, 1), (3, 1), (4, 1), (5, 1), (6, 1)]) (cs := [(I 0), (I 0), (U 0), (O false), (U 0), (V SV.nil), (V SV.nil)]) J J J J J ?_)
      refine op J J (op J J ?_)
      refine o1 J (o_fa (fd := ⟨ "code", 29, 1, false, "", "vitrine/order", 24⟩) J J J J J ?_)
      refine o1 J (o_ld (b := b1882) (off := 1) (v := (I d10.1.code)) J rm2 J J ?_)
      refine o1 J (o_yield' hrc6 ht6 J J J J rm14 ?_)
      refine cr ?_
      refine o1 J (o_alloc (cs := [(I 0), (I 0), (U 0), (O false), (U 0), (V SV.nil), (V SV.nil)]) J J (fun b2016 => ?_))
      refine o0 (o_st (b := b2016) (off := 0) (vs := [(I 0), (I 0), (U 0), (O false), (U 0), (V SV.nil), (V SV.nil)]) (cs' := [(I 0), (I 0), (U 0), (O false), (U 0), (V SV.nil), (V SV.nil)]) J J rp0 J J J J J J ?_)
      refine oe (c_region (op J J (o_end ?_)))
      refine e_begin' hrc6 rm1 ?_
      refine c_block (c_seq (cr (op J J ?_)))
      refine o1 J (o_p (v := (O (d10.1.code == 0))) J ?_)
      refine oe ?_
      replace h := bsome h
      obtain ⟨d13, h, hk13⟩ := h
      refine cj (D := Unit) (ι := Unit) (fun _ i13 => True) (fun _ i13 => [(12, (I d13.1)), (11, (F b2016 0)), (10, (F b1877 0)), (9, (F b1875 0)), (8, (F b1871 0)), (7, (F b1869 0)), (6, (F b1867 0))]) (fun _ i13 => i10.1 :: blk b2016 (.cells (A [(I 0), (I 0), (U 0), (O false), (U 0), (V SV.nil), (V SV.nil)]) 91 (0, 0)) :: blk b1877 (.cells (A [(I x8.2.2.2.2.2.2.2.2.2.1)]) 3 (0, 0)) :: blk b1875 (.cells (A [(F b1873 0)]) 185 (0, 0)) :: blk b1871 (.cells (A [(I 0)]) 29 (0, 0)) :: blk b1869 (.cells (A [(I 0)]) 3 (0, 0)) :: blk b1867 (.cells (A [(I 0)]) 3 (0, 0)) :: blk b0 (.cells (A [(I d13.2.1), (O d13.2.2.1), (I d13.2.2.2.1), (I d13.2.2.2.2.1), (V s0), (I d13.2.2.2.2.2.2.1), (I d13.2.2.2.2.2.2.2.1)]) 105 (0, 0)) :: blk i3 (.cells (A [(V s1)]) 28 (0, 0)) :: blk b1873 (.cells (A [(F b0 0), (I d13.2.2.2.2.2.2.2.2.1), (U d13.2.2.2.2.2.2.2.2.2.1), (O d13.2.2.2.2.2.2.2.2.2.2.1), (U d13.2.2.2.2.2.2.2.2.2.2.2.1), (U d13.2.2.2.2.2.2.2.2.2.2.2.2.1), (U d13.2.2.2.2.2.2.2.2.2.2.2.2.2.1), (U d13.2.2.2.2.2.2.2.2.2.2.2.2.2.2.1), (O d13.2.2.2.2.2.2.2.2.2.2.2.2.2.2.2)]) 187 (0, 0)) :: blk b1882 (.cells (A [(V i10.2.1), (I d10.1.code)]) 128 (0, 0)) :: blk b2013 (.cells (A [(I d10.2.Kind), (I d10.2.Addr), (U d10.2.Code), (O d10.2.Graph), (U d10.2.FA), (V i10.2.2.1), (V i10.2.2.2)]) 91 (0, 0)) :: slO s0 49 en_Vapi_Cell d13.2.2.2.2.2.1 :: slO i10.2.2.1 93 en_Vattr_Pair d10.2.Pairs :: slO i10.2.2.2 5 (enI .u8) d10.2.Text :: blk l6 (.loop (rc6 .busy none)) :: blk D6 (.deferred (some [])) :: R) ?_ ?_
      ·refine c_cond (b := (d10.1.code == 0)) J (fun hb2018 => ?_) (fun hb2018 => ?_)
       ·replace h := cond_t hb2018 h
        refine c_region ?_
        refine o1 J (o_ld (b := b1875) (off := 0) (v := (F b1873 0)) J rm10 J J ?_)
        refine o1 J (o_ld (b := b2016) (off := 0) (v := (.agg (A [(I 0), (I 0), (U 0), (O false), (U 0), (V SV.nil), (V SV.nil)]))) J rm1 J J ?_)
        replace h := bsome h
        obtain ⟨d14, h14, h⟩ := h
        refine o1 J (o_call has101 J (c_write_pen_do hg i10.1 (⟨x8.2.2.2.2.2.2.2.2.2.2.1, (⟨x8.2.2.2.2.2.2.2.2.2.2.2.1, x8.2.2.2.2.2.2.2.2.2.2.2.2.1, x8.2.2.2.2.2.2.2.2.2.2.2.2.2.1, x8.2.2.2.2.2.2.2.2.2.2.2.2.2.2.1, x8.2.2.2.2.2.2.2.2.2.2.2.2.2.2.2.1, x8.2.2.2.2.2.2.2.2.2.2.2.2.2.2.2.2.1⟩ : Vapi_Cell), x8.2.2.2.2.2.2.2.2.2.2.2.2.2.2.2.2.2⟩ : Vwrite_pen) b1873 (⟨x8.2.2.1, x8.2.2.2.1, (⟨x8.2.2.2.2.1, x8.2.2.2.2.2.1⟩ : Vaddr_Size), x8.2.2.2.2.2.2.1, x8.2.2.2.2.2.2.2.1, x8.2.2.2.2.2.2.2.2.1⟩ : Vspace_Space) b0 s0 (⟨0, 0, 0, false, 0, ([] : List Vattr_Pair), ([] : List Int)⟩ : Vorder_Op) SV.nil (rd_nil _ _ _) SV.nil (rd_nil _ _ _) _ h14) (pc rm3 (pc rm10 (pc rm6 (pc rm12 pn)))) ?_)
        refine op J J (o_end ?_)
        obtain rfl := si h
        exact ej () () trivial (sc J (sc J (sc J (sc J (sc J (sc J (sc J sn))))))) (kc rm0 (kc rm4 (kc rm9 (kc rm9 (kc rm9 (kc rm9 (kc rm9 (kc rm0 (kc rm7 (kc rm1 (kc rm3 (kc rm2 (kc rm0 (kc rm1 (kc rm1 (kc rm0 (kc rm0 kr)))))))))))))))))
       ·replace h := cond_f hb2018 h
        refine c_skip ?_
        obtain rfl := si h
        exact ej () () trivial (sc J (sc J (sc J (sc J (sc J (sc J (sc J sn))))))) (kc rm3 (kc rm1 (kc rm7 (kc rm7 (kc rm8 (kc rm8 (kc rm8 (kc rm5 (kc rm5 (kc rm5 (kc rm2 (kc rm1 (kc rm3 (kc rm1 (kc rm1 (kc rm0 (kc rm0 kr)))))))))))))))))
      ·rintro _ i13 _
       replace h := hk13
       clear hk13
       refine e_seq (c_seq (cr (op J J ?_)))
       refine o1 J (o_p (v := (O (d13.1 != 0))) J ?_)
       refine oe ?_
       refine c_cond (b := (d13.1 != 0)) J (fun hb2021 => ?_) (fun hb2021 => ?_)
       ·replace h := cond_t hb2021 h
        refine c_seq ?_
        refine c_draw (n := 3) (q := [(0, 33, (F b1873 0)), (1, 34, (F b1873 0)), (2, 35, (F b1873 1)), (3, 36, (I d13.2.2.2.2.2.2.2.2.1)), (4, 37, (I x8.2.2.2.2.2.2.2.2.2.1)), (5, 38, (I d13.1))]) (pend := [0, 1, 2, 3, 4, 5]) J J J ?_
        refine ⟨⟨fun _ => ⟨J, J, J, .inl ⟨J, (o_ld (b := b1875) (off := 0) (v := (F b1873 0)) J rm3 J J ⟨J, J⟩)⟩⟩, fun _ => ⟨J, J, J, .inl ⟨J, (o_p J ⟨J, J⟩)⟩⟩, fun _ => ⟨J, J, J, .inl ⟨J, (o_fa (fd := ⟨ "n", 3, 1, false, "", "vitrine/write", 8⟩) J J J J J ⟨J, J⟩)⟩⟩, fun _ => ⟨J, J, J, .inl ⟨J, (o_ld (b := b1873) (off := 1) (v := (I d13.2.2.2.2.2.2.2.2.1)) J rm9 J J ⟨J, J⟩)⟩⟩, fun _ => ⟨J, J, J, .inl ⟨J, (o_ld (b := b1877) (off := 0) (v := (I x8.2.2.2.2.2.2.2.2.2.1)) J rm2 J J ⟨J, J⟩)⟩⟩, fun _ => ⟨J, J, J, .inl ⟨J, (o_p J ⟨J, J⟩)⟩⟩, trivial⟩, J, .inr ⟨[6], J, J, ⟨J, .inl J, ?_⟩, trivial⟩⟩
        refine (o_st (b := b1867) (off := 0) (vs := [(I d13.2.2.2.2.2.2.2.2.1)]) (cs' := [(I d13.2.2.2.2.2.2.2.2.1)]) J J rp6 J J J J J J ?_)
        refine ⟨[], [4, 5], J, J, ?_⟩
        refine ⟨⟨(fun h => nomatch h), (fun h => nomatch h), (fun h => nomatch h), (fun h => nomatch h), fun _ => ⟨J, J, J, .inl ⟨J, (o_ld (b := b1877) (off := 0) (v := (I x8.2.2.2.2.2.2.2.2.2.1)) J rm2 J J ⟨J, J⟩)⟩⟩, fun _ => ⟨J, J, J, .inl ⟨J, (o_p J ⟨J, J⟩)⟩⟩, trivial⟩, J, .inr ⟨[7], J, J, ⟨J, .inl J, ?_⟩, trivial⟩⟩
        refine (o_st (b := b1869) (off := 0) (vs := [(I x8.2.2.2.2.2.2.2.2.2.1)]) (cs' := [(I x8.2.2.2.2.2.2.2.2.2.1)]) J J rp5 J J J J J J ?_)
        refine ⟨[], [5], J, J, ?_⟩
        refine ⟨⟨(fun h => nomatch h), (fun h => nomatch h), (fun h => nomatch h), (fun h => nomatch h), (fun h => nomatch h), fun _ => ⟨J, J, J, .inl ⟨J, (o_p J ⟨J, J⟩)⟩⟩, trivial⟩, J, .inr ⟨[8], J, J, ⟨J, .inl J, ?_⟩, trivial⟩⟩
        refine (o_st (b := b1871) (off := 0) (vs := [(I d13.1)]) (cs' := [(I d13.1)]) J J rp4 J J J J J J ?_)
        refine ⟨[], [], J, J, ?_⟩
        refine ⟨⟨(fun h => nomatch h), (fun h => nomatch h), (fun h => nomatch h), (fun h => nomatch h), (fun h => nomatch h), (fun h => nomatch h), trivial⟩, J, J, J, ?_⟩
        refine e_seq (c_ret (e_then_ret (e_blk_ret ?_)))
        refine e_round_ret' hrc6 rm15 ?_
        refine oe (c_ret (e_then_ret (e_blk_ret (e_then_ret ?_))))
        refine e_blk_ret (ej_ret ?_)
        replace h := esc_some h
        obtain ⟨z7, h, rfl⟩ := h
        obtain rfl := (hk7 : z7 = _)
        refine e_ret ?_
        refine r_end (rs := []) (vs := []) J J ?_
        refine ke_jump' hrc6 rm0 (by simp) ?_
        refine c_ret (ejd_ret ?_)
        replace h := esc_some h
        obtain ⟨z5, h, rfl⟩ := h
        obtain rfl := (hk5 : z5 = _)
        refine e_blk_ret (ejd_ret ?_)
        replace h := esc_some h
        obtain ⟨z4, h, rfl⟩ := h
        obtain rfl := (hk4 : z4 = _)
        refine e_then_ret (e_ret ?_)
        refine r_mark rm15 ?_
        refine r_endc (B := [[(I d13.2.2.2.2.2.2.2.2.1)], [(I x8.2.2.2.2.2.2.2.2.2.1)], [(I d13.1)]]) J ⟨⟨_, _, _, _, J, rm6⟩, ⟨⟨_, _, _, _, J, rm5⟩, ⟨⟨_, _, _, _, J, rm4⟩, trivial⟩⟩⟩ J (kc rm0 (kc rm6 (kc rm10 (kd (kd (kd (kd (kd (kd (kd (kd (kd (kd (kd (kd kr))))))))))))))) ?_
        obtain rfl := si h
        exact hk i10.1 (Ext.trans f8_2 f10_1)
       ·replace h := cond_f hb2021 h
        refine c_skip (e_seq (cr ?_))
        refine o1 J (o_ld (b := b1875) (off := 0) (v := (F b1873 0)) J rm3 J J ?_)
        refine o1 J (o_fa (fd := ⟨ "Kind", 3, 0, false, "", "", 0⟩) J J J J J ?_)
        refine o1 J (o_ld (b := b2016) (off := 0) (v := (I 0)) J rm1 J J ?_)
        refine o1 J (o_p (v := (O true)) J ?_)
        refine op J J ?_
        refine on J J J J ?_
        refine on J J J J ?_
        refine on J J J J ?_
        refine o1 J (o_pick_t J J J ?_)
        refine op J J ?_
        refine o1 J (o_fa (fd := ⟨ "texts", 4, 8, false, "", "vitrine/write", 22⟩) J J J J J ?_)
        refine o0 (o_st (b := b1873) (off := 8) (vs := [(O true)]) (cs' := [(F b0 0), (I d13.2.2.2.2.2.2.2.2.1), (U d13.2.2.2.2.2.2.2.2.2.1), (O d13.2.2.2.2.2.2.2.2.2.2.1), (U d13.2.2.2.2.2.2.2.2.2.2.2.1), (U d13.2.2.2.2.2.2.2.2.2.2.2.2.1), (U d13.2.2.2.2.2.2.2.2.2.2.2.2.2.1), (U d13.2.2.2.2.2.2.2.2.2.2.2.2.2.2.1), (O true)]) J J rp9 J J J J J J ?_)
        refine oe (c_region ?_)
        refine o1 J (o_ld (b := b1877) (off := 0) (v := (I x8.2.2.2.2.2.2.2.2.2.1)) J rm2 J J ?_)
        refine o1 J (o_p (v := (I (w64 (x8.2.2.2.2.2.2.2.2.2.1 + 1)))) J ?_)
        refine o0 (o_st (b := b1877) (off := 0) (vs := [(I (w64 (x8.2.2.2.2.2.2.2.2.2.1 + 1)))]) (cs' := [(I (w64 (x8.2.2.2.2.2.2.2.2.2.1 + 1)))]) J J rp2 J J J J J J ?_)
        refine o_end (e_blk ?_)
        refine e_on' hrc6 rm15 ?_
        refine oe (c_ret (e_then_ret (e_blk_ret (e_then_ret ?_))))
        refine e_blk_ret (ej_ret ?_)
        replace h := esc_some h
        obtain ⟨z7, h, rfl⟩ := h
        obtain rfl := (hk7 : z7 = _)
        refine e_ret ?_
        refine r_end (rs := []) (vs := []) J J ?_
        refine ke' hrc6 rm0 (by simp) ?_
        obtain rfl := si h
        exact ejd (w64 (x8.2.2.2.2.2.2.2.2.2.1 + 1), d13.2.1, d13.2.2.1, d13.2.2.2.1, d13.2.2.2.2.1, d13.2.2.2.2.2.1, d13.2.2.2.2.2.2.1, d13.2.2.2.2.2.2.2.1, d13.2.2.2.2.2.2.2.2.1, d13.2.2.2.2.2.2.2.2.2.1, d13.2.2.2.2.2.2.2.2.2.2.1, d13.2.2.2.2.2.2.2.2.2.2.2.1, d13.2.2.2.2.2.2.2.2.2.2.2.2.1, d13.2.2.2.2.2.2.2.2.2.2.2.2.2.1, d13.2.2.2.2.2.2.2.2.2.2.2.2.2.2.1, true) (i10.1, D6) ⟨J, (Ext.trans f8_2 f10_1)⟩ J (sc J (sc J (sc J (sc J (sc J sn))))) (kc rm0 (kc rm1 (kc rm1 (kc rm1 (kc rm1 (kc rm1 (kc rm1 (kc rm2 (kc rm4 (kc rm6 (kd (kd (kd (kd (kd (kd kr))))))))))))))))
     ·replace h := cond_f hb2015 h
      refine c_skip (e_seq (cr (op J J ?_)))
      refine o1 J (o_ld (b := b2013) (off := 0) (v := (.agg (A [(I d10.2.Kind), (I d10.2.Addr), (U d10.2.Code), (O d10.2.Graph), (U d10.2.FA), (V i10.2.2.1), (V i10.2.2.2)]))) J rm0 J J ?_)
      refine o1 J (o_yield' hrc6 ht6 J J J J rm14 ?_)
      refine cr ?_
      refine o1 J (o_alloc (cs := [(I 0), (I 0), (U 0), (O false), (U 0), (V SV.nil), (V SV.nil)]) J J (fun b2022 => ?_))
      refine o0 (o_st (b := b2022) (off := 0) (vs := [(I d10.2.Kind), (I d10.2.Addr), (U d10.2.Code), (O d10.2.Graph), (U d10.2.FA), (V i10.2.2.1), (V i10.2.2.2)]) (cs' := [(I d10.2.Kind), (I d10.2.Addr), (U d10.2.Code), (O d10.2.Graph), (U d10.2.FA), (V i10.2.2.1), (V i10.2.2.2)]) J J rp0 J J J J J J ?_)
      refine oe (c_region (op J J (o_end ?_)))
      refine e_begin' hrc6 rm1 ?_
      refine c_block (c_seq (cr (op J J ?_)))
      refine o1 J (o_p (v := (O true)) J ?_)
      refine oe ?_
      refine c_cond_t J J ?_
      refine c_region ?_
      refine o1 J (o_ld (b := b1875) (off := 0) (v := (F b1873 0)) J rm10 J J ?_)
      refine o1 J (o_ld (b := b2022) (off := 0) (v := (.agg (A [(I d10.2.Kind), (I d10.2.Addr), (U d10.2.Code), (O d10.2.Graph), (U d10.2.FA), (V i10.2.2.1), (V i10.2.2.2)]))) J rm1 J J ?_)
      refine o_fz rm5 rm3 (fun X2024 hx2025 hs2026 => ?_)
      refine o_fz rm5 rm0 (fun X2027 hx2028 hs2029 => ?_)
      replace h := bsome h
      obtain ⟨d19, h19, h⟩ := h
      refine o1 J (o_call has101 J (c_write_pen_do hg X2027 (⟨x8.2.2.2.2.2.2.2.2.2.2.1, (⟨x8.2.2.2.2.2.2.2.2.2.2.2.1, x8.2.2.2.2.2.2.2.2.2.2.2.2.1, x8.2.2.2.2.2.2.2.2.2.2.2.2.2.1, x8.2.2.2.2.2.2.2.2.2.2.2.2.2.2.1, x8.2.2.2.2.2.2.2.2.2.2.2.2.2.2.2.1, x8.2.2.2.2.2.2.2.2.2.2.2.2.2.2.2.2.1⟩ : Vapi_Cell), x8.2.2.2.2.2.2.2.2.2.2.2.2.2.2.2.2.2⟩ : Vwrite_pen) b1873 (⟨x8.2.2.1, x8.2.2.2.1, (⟨x8.2.2.2.2.1, x8.2.2.2.2.2.1⟩ : Vaddr_Size), x8.2.2.2.2.2.2.1, x8.2.2.2.2.2.2.2.1, x8.2.2.2.2.2.2.2.2.1⟩ : Vspace_Space) b0 s0 (⟨d10.2.Kind, d10.2.Addr, d10.2.Code, d10.2.Graph, d10.2.FA, d10.2.Pairs, d10.2.Text⟩ : Vorder_Op) i10.2.2.1 (Rd.ext hs2026 hx2028) i10.2.2.2 hs2029 _ h19) (pc rm0 (pc rm8 (pc rm4 (pc rm10 pn)))) ?_)
      refine op J J (oe (c_seq (cr ?_)))
      refine op J J ?_
      refine o1 J (o_p (v := (O (d19.2.2 != 0))) J ?_)
      refine oe ?_
      refine c_cond (b := (d19.2.2 != 0)) J (fun hb2031 => ?_) (fun hb2031 => ?_)
      ·replace h := cond_t hb2031 h
       refine c_seq ?_
       refine c_draw (n := 3) (q := [(0, 33, (F b1873 0)), (1, 34, (F b1873 0)), (2, 35, (F b1873 1)), (3, 36, (I d19.2.1.n)), (4, 37, (I x8.2.2.2.2.2.2.2.2.2.1)), (5, 38, (I d19.2.2))]) (pend := [0, 1, 2, 3, 4, 5]) J J J ?_
       refine ⟨⟨fun _ => ⟨J, J, J, .inl ⟨J, (o_ld (b := b1875) (off := 0) (v := (F b1873 0)) J rm10 J J ⟨J, J⟩)⟩⟩, fun _ => ⟨J, J, J, .inl ⟨J, (o_p J ⟨J, J⟩)⟩⟩, fun _ => ⟨J, J, J, .inl ⟨J, (o_fa (fd := ⟨ "n", 3, 1, false, "", "vitrine/write", 8⟩) J J J J J ⟨J, J⟩)⟩⟩, fun _ => ⟨J, J, J, .inl ⟨J, (o_ld (b := b1873) (off := 1) (v := (I d19.2.1.n)) J rm3 J J ⟨J, J⟩)⟩⟩, fun _ => ⟨J, J, J, .inl ⟨J, (o_ld (b := b1877) (off := 0) (v := (I x8.2.2.2.2.2.2.2.2.2.1)) J rm9 J J ⟨J, J⟩)⟩⟩, fun _ => ⟨J, J, J, .inl ⟨J, (o_p J ⟨J, J⟩)⟩⟩, trivial⟩, J, .inr ⟨[6], J, J, ⟨J, .inl J, ?_⟩, trivial⟩⟩
       refine (o_st (b := b1867) (off := 0) (vs := [(I d19.2.1.n)]) (cs' := [(I d19.2.1.n)]) J J rp13 J J J J J J ?_)
       refine ⟨[], [4, 5], J, J, ?_⟩
       refine ⟨⟨(fun h => nomatch h), (fun h => nomatch h), (fun h => nomatch h), (fun h => nomatch h), fun _ => ⟨J, J, J, .inl ⟨J, (o_ld (b := b1877) (off := 0) (v := (I x8.2.2.2.2.2.2.2.2.2.1)) J rm9 J J ⟨J, J⟩)⟩⟩, fun _ => ⟨J, J, J, .inl ⟨J, (o_p J ⟨J, J⟩)⟩⟩, trivial⟩, J, .inr ⟨[7], J, J, ⟨J, .inl J, ?_⟩, trivial⟩⟩
       refine (o_st (b := b1869) (off := 0) (vs := [(I x8.2.2.2.2.2.2.2.2.2.1)]) (cs' := [(I x8.2.2.2.2.2.2.2.2.2.1)]) J J rp12 J J J J J J ?_)
       refine ⟨[], [5], J, J, ?_⟩
       refine ⟨⟨(fun h => nomatch h), (fun h => nomatch h), (fun h => nomatch h), (fun h => nomatch h), (fun h => nomatch h), fun _ => ⟨J, J, J, .inl ⟨J, (o_p J ⟨J, J⟩)⟩⟩, trivial⟩, J, .inr ⟨[8], J, J, ⟨J, .inl J, ?_⟩, trivial⟩⟩
       refine (o_st (b := b1871) (off := 0) (vs := [(I d19.2.2)]) (cs' := [(I d19.2.2)]) J J rp11 J J J J J J ?_)
       refine ⟨[], [], J, J, ?_⟩
       refine ⟨⟨(fun h => nomatch h), (fun h => nomatch h), (fun h => nomatch h), (fun h => nomatch h), (fun h => nomatch h), (fun h => nomatch h), trivial⟩, J, J, J, ?_⟩
       refine e_seq (c_ret (e_then_ret (e_blk_ret ?_)))
       refine e_round_ret' hrc6 rm4 ?_
       refine o1 J (o_p (v := (O true)) J ?_)
       refine oe ?_
       refine c_cond_t J J ?_
       refine c_ret (e_blk_ret (e_then_ret (e_blk_ret (ej_ret ?_))))
       replace h := esc_some h
       obtain ⟨z7, h, rfl⟩ := h
       obtain rfl := (hk7 : z7 = _)
       refine e_ret ?_
       refine r_end (rs := []) (vs := []) J J ?_
       refine ke_jump' hrc6 rm0 (by simp) ?_
       refine c_ret (ejd_ret ?_)
       replace h := esc_some h
       obtain ⟨z5, h, rfl⟩ := h
       obtain rfl := (hk5 : z5 = _)
       refine e_blk_ret (ejd_ret ?_)
       replace h := esc_some h
       obtain ⟨z4, h, rfl⟩ := h
       obtain rfl := (hk4 : z4 = _)
       refine e_then_ret (e_ret ?_)
       refine r_mark rm13 ?_
       refine r_endc (B := [[(I d19.2.1.n)], [(I x8.2.2.2.2.2.2.2.2.2.1)], [(I d19.2.2)]]) J ⟨⟨_, _, _, _, J, rm12⟩, ⟨⟨_, _, _, _, J, rm11⟩, ⟨⟨_, _, _, _, J, rm10⟩, trivial⟩⟩⟩ J (kc rm0 (kc rm0 (kc rm0 (kd (kd (kd (kd (kd (kd (kd (kd (kd (kd kr))))))))))))) ?_
       obtain rfl := si h
       exact hk X2027 (Ext.trans (Ext.trans (Ext.trans f8_2 f10_1) hx2025) hx2028)
      ·replace h := cond_f hb2031 h
       refine c_skip (e_seq (c_seq ?_))
       replace h := bsome h
       obtain ⟨d22, h, hk22⟩ := h
       refine cj (D := Unit) (ι := Unit) (fun _ i22 => True) (fun _ i22 => [(10, (F b1877 0))]) (fun _ i22 => X2027 :: blk b1877 (.cells (A [(I x8.2.2.2.2.2.2.2.2.2.1)]) 3 (0, 0)) :: blk b0 (.cells (A [(I d19.1.model), (O d19.1.alternate), (I d19.1.size.Rows), (I d19.1.size.Cols), (V s0), (I d19.1.cursor), (I d19.1.attrs)]) 105 (0, 0)) :: blk i3 (.cells (A [(V s1)]) 28 (0, 0)) :: blk b1875 (.cells (A [(F b1873 0)]) 185 (0, 0)) :: blk b1873 (.cells (A [(F b0 0), (I d19.2.1.n), (U d19.2.1.look.Char), (O d19.2.1.look.Attr), (U d19.2.1.look.FA), (U d19.2.1.look.High), (U d19.2.1.look.Color), (U d19.2.1.look.f_Set), (O d22)]) 187 (0, 0)) :: blk b1871 (.cells (A [(I 0)]) 29 (0, 0)) :: blk b1869 (.cells (A [(I 0)]) 3 (0, 0)) :: blk b1867 (.cells (A [(I 0)]) 3 (0, 0)) :: blk b1882 (.cells (A [(V i10.2.1), (I d10.1.code)]) 128 (0, 0)) :: blk b2013 (.cells (A [(I d10.2.Kind), (I d10.2.Addr), (U d10.2.Code), (O d10.2.Graph), (U d10.2.FA), (V i10.2.2.1), (V i10.2.2.2)]) 91 (0, 0)) :: slO s0 49 en_Vapi_Cell d19.1.cells :: blk l6 (.loop (rc6 .busy none)) :: blk D6 (.deferred (some [])) :: R) ?_ ?_
       ·refine c_region ?_
        refine o1 J (o_ld (b := b1875) (off := 0) (v := (F b1873 0)) J rm10 J J ?_)
        refine o1 J (o_fa (fd := ⟨ "Kind", 3, 0, false, "", "", 0⟩) J J J J J ?_)
        refine o1 J (o_ld (b := b2022) (off := 0) (v := (I d10.2.Kind)) J rm5 J J ?_)
        refine o1 J (o_p (v := (O (d10.2.Kind == 0))) J ?_)
        refine op J J ?_
        rcases bool_or ((d10.2.Kind == 0)) with hb2032 | hb2032
        ·replace h := cond_t hb2032 h
         refine on J J J hb2032 ?_
         refine on J J J hb2032 ?_
         refine on J J J hb2032 ?_
         refine o1 J (o_pick_t J hb2032 J ?_)
         refine op J J ?_
         refine o1 J (o_fa (fd := ⟨ "texts", 4, 8, false, "", "vitrine/write", 22⟩) J J J J J ?_)
         refine o0 (o_st (b := b1873) (off := 8) (vs := [(O true)]) (cs' := [(F b0 0), (I d19.2.1.n), (U d19.2.1.look.Char), (O d19.2.1.look.Attr), (U d19.2.1.look.FA), (U d19.2.1.look.High), (U d19.2.1.look.Color), (U d19.2.1.look.f_Set), (O true)]) J J rp3 J J J J J J ?_)
         refine o_end ?_
         obtain rfl := si h
         exact ej () () trivial (sc J sn) (kc rm0 (kc rm8 (kc rm0 (kc rm6 (kc rm6 (kc rm1 (kc rm5 (kc rm5 (kc rm5 (kc rm4 (kc rm3 (kc rm0 (kc rm0 (kc rm1 (kd kr)))))))))))))))
        ·replace h := cond_f hb2032 h
         refine oy J J J hb2032 (o_fa (fd := ⟨ "Kind", 3, 0, false, "", "", 0⟩) J J J J J ?_)
         refine oy J J J hb2032 (o_ld (b := b2022) (off := 0) (v := (I d10.2.Kind)) J rm5 J J ?_)
         refine oy J J J hb2032 (o_p (v := (O (d10.2.Kind == 8))) J ?_)
         refine o1 J (o_pick_f J hb2032 J ?_)
         refine op J J ?_
         refine o1 J (o_fa (fd := ⟨ "texts", 4, 8, false, "", "vitrine/write", 22⟩) J J J J J ?_)
         refine o0 (o_st (b := b1873) (off := 8) (vs := [(O (d10.2.Kind == 8))]) (cs' := [(F b0 0), (I d19.2.1.n), (U d19.2.1.look.Char), (O d19.2.1.look.Attr), (U d19.2.1.look.FA), (U d19.2.1.look.High), (U d19.2.1.look.Color), (U d19.2.1.look.f_Set), (O (d10.2.Kind == 8))]) J J rp3 J J J J J J ?_)
         refine o_end ?_
         obtain rfl := si h
         exact ej () () trivial (sc J sn) (kc rm0 (kc rm8 (kc rm0 (kc rm6 (kc rm6 (kc rm1 (kc rm5 (kc rm5 (kc rm5 (kc rm4 (kc rm3 (kc rm0 (kc rm0 (kc rm1 (kd kr)))))))))))))))
       ·rintro _ i22 _
        replace h := hk22
        clear hk22
        refine e_seq (c_region ?_)
        refine o1 J (o_ld (b := b1877) (off := 0) (v := (I x8.2.2.2.2.2.2.2.2.2.1)) J rm1 J J ?_)
        refine o1 J (o_p (v := (I (w64 (x8.2.2.2.2.2.2.2.2.2.1 + 1)))) J ?_)
        refine o0 (o_st (b := b1877) (off := 0) (vs := [(I (w64 (x8.2.2.2.2.2.2.2.2.2.1 + 1)))]) (cs' := [(I (w64 (x8.2.2.2.2.2.2.2.2.2.1 + 1)))]) J J rp1 J J J J J J ?_)
        refine o_end (e_blk ?_)
        refine e_on' hrc6 rm12 ?_
        refine o1 J (o_p (v := (O false)) J ?_)
        refine oe ?_
        refine c_cond_f J J ?_
        refine c_skip (e_blk ?_)
        exact e_loop (l_sub (sc J (sc J sn)) (l_keep (kc rm1 (kc rm9 (kc rm2 (kc rm2 (kc rm1 (kc rm1 (kc rm1 (kc rm1 (kc rm1 (kc rm1 (kc rm2 (kc rm0 (kc rm1 (kd kr)))))))))))))) (ih8 (d10.1.p, d10.1.code, d19.1.model, d19.1.alternate, d19.1.size.Rows, d19.1.size.Cols, d19.1.cells, d19.1.cursor, d19.1.attrs, w64 (x8.2.2.2.2.2.2.2.2.2.1 + 1), d19.2.1.n, d19.2.1.look.Char, d19.2.1.look.Attr, d19.2.1.look.FA, d19.2.1.look.High, d19.2.1.look.Color, d19.2.1.look.f_Set, d22) (X2027, i10.2.1) ⟨(Rd.ext f10_0 (Ext.trans hx2025 hx2028)), (Rd.ext f8_1 (Ext.trans (Ext.trans f10_1 hx2025) hx2028)), (Ext.trans (Ext.trans (Ext.trans f8_2 f10_1) hx2025) hx2028)⟩ h)))
    ·replace h := cond_f hb2010 h
     refine c_exit (e_then_exit (e_then_exit (e_blk_exit ?_)))
     obtain rfl := si h
     exact ej (x8.2.2.1, x8.2.2.2.1, x8.2.2.2.2.1, x8.2.2.2.2.2.1, x8.2.2.2.2.2.2.1, x8.2.2.2.2.2.2.2.1, x8.2.2.2.2.2.2.2.2.1, x8.2.2.2.2.2.2.2.2.2.1, x8.2.2.2.2.2.2.2.2.2.2.1, x8.2.2.2.2.2.2.2.2.2.2.2.1, x8.2.2.2.2.2.2.2.2.2.2.2.2.1, x8.2.2.2.2.2.2.2.2.2.2.2.2.2.1, x8.2.2.2.2.2.2.2.2.2.2.2.2.2.2.1, x8.2.2.2.2.2.2.2.2.2.2.2.2.2.2.2.1, x8.2.2.2.2.2.2.2.2.2.2.2.2.2.2.2.2.1, x8.2.2.2.2.2.2.2.2.2.2.2.2.2.2.2.2.2) i8.1 ⟨J, f8_1, f8_2⟩ sn (kc rm0 (kc rm1 (kc rm1 (kc rm1 (kc rm1 (kc rm1 (kc rm1 (kc rm1 (kc rm1 (kc rm1 (kc rm1 (kc rm1 (kd kr)))))))))))))
   ·rintro d7 i7 ⟨rfl, f7_0, f7_1⟩
    replace h := JK_inl hk7
    clear hk7
    refine e_fall ?_
    refine r_end (rs := []) (vs := []) J J ?_
    refine ke' hrc6 rm10 (by simp) ?_
    obtain rfl := si h
    exact ejd (d7.2.2.2.2.2.2.2.1, d7.1, d7.2.1, d7.2.2.1, d7.2.2.2.1, d7.2.2.2.2.1, d7.2.2.2.2.2.1, d7.2.2.2.2.2.2.1, d7.2.2.2.2.2.2.2.2.1, d7.2.2.2.2.2.2.2.2.2.1, d7.2.2.2.2.2.2.2.2.2.2.1, d7.2.2.2.2.2.2.2.2.2.2.2.1, d7.2.2.2.2.2.2.2.2.2.2.2.2.1, d7.2.2.2.2.2.2.2.2.2.2.2.2.2.1, d7.2.2.2.2.2.2.2.2.2.2.2.2.2.2.1, d7.2.2.2.2.2.2.2.2.2.2.2.2.2.2.2) (i7, D6) ⟨J, f7_1⟩ J (sc J (sc J (sc J (sc J (sc J sn))))) (kc rm0 (kc rm2 (kc rm2 (kc rm3 (kc rm3 (kc rm3 (kc rm0 (kc rm1 (kc rm1 (kc rm1 (kd kr)))))))))))
  ·rintro d5 i5 ⟨rfl, f5_0⟩
   replace h := JK_inl hk5
   clear hk5
   refine e_blk ?_
   obtain rfl := si h
   exact ejd (d5.1, d5.2.1, d5.2.2.1, d5.2.2.2.1, d5.2.2.2.2.1, d5.2.2.2.2.2.1, d5.2.2.2.2.2.2.1, d5.2.2.2.2.2.2.2.1, d5.2.2.2.2.2.2.2.2.1, d5.2.2.2.2.2.2.2.2.2.1, d5.2.2.2.2.2.2.2.2.2.2.1, d5.2.2.2.2.2.2.2.2.2.2.2.1, d5.2.2.2.2.2.2.2.2.2.2.2.2.1, d5.2.2.2.2.2.2.2.2.2.2.2.2.2.1, d5.2.2.2.2.2.2.2.2.2.2.2.2.2.2.1, d5.2.2.2.2.2.2.2.2.2.2.2.2.2.2.2) (i5.1, i5.2) ⟨J, f5_0⟩ J (sc J (sc J (sc J (sc J (sc J sn))))) (kc rm0 (kc rm0 (kc rm0 (kc rm0 (kc rm0 (kc rm0 (kc rm0 (kc rm0 (kc rm0 (kc rm0 kr))))))))))
 ·rintro d4 i4 ⟨rfl, f4_0⟩
  replace h := JK_inl hk4
  clear hk4
  refine e_seq (c_seq ?_)
  refine c_draw (n := 3) (q := [(0, 52, (F b1873 0)), (1, 53, (F b1873 0)), (2, 54, (F b1873 1)), (3, 55, (I d4.2.2.2.2.2.2.2.2.1)), (4, 56, (I d4.1))]) (pend := [0, 1, 2, 3, 4]) J J J ?_
  refine ⟨⟨fun _ => ⟨J, J, J, .inl ⟨J, (o_ld (b := b1875) (off := 0) (v := (F b1873 0)) J rm2 J J ⟨J, J⟩)⟩⟩, fun _ => ⟨J, J, J, .inl ⟨J, (o_p J ⟨J, J⟩)⟩⟩, fun _ => ⟨J, J, J, .inl ⟨J, (o_fa (fd := ⟨ "n", 3, 1, false, "", "vitrine/write", 8⟩) J J J J J ⟨J, J⟩)⟩⟩, fun _ => ⟨J, J, J, .inl ⟨J, (o_ld (b := b1873) (off := 1) (v := (I d4.2.2.2.2.2.2.2.2.1)) J rm7 J J ⟨J, J⟩)⟩⟩, fun _ => ⟨J, J, J, .inl ⟨J, (o_ld (b := b1877) (off := 0) (v := (I d4.1)) J rm1 J J ⟨J, J⟩)⟩⟩, trivial⟩, J, .inr ⟨[5], J, J, ⟨J, .inl J, ?_⟩, trivial⟩⟩
  refine (o_st (b := b1867) (off := 0) (vs := [(I d4.2.2.2.2.2.2.2.2.1)]) (cs' := [(I d4.2.2.2.2.2.2.2.2.1)]) J J rp5 J J J J J J ?_)
  refine ⟨[], [4], J, J, ?_⟩
  refine ⟨⟨(fun h => nomatch h), (fun h => nomatch h), (fun h => nomatch h), (fun h => nomatch h), fun _ => ⟨J, J, J, .inl ⟨J, (o_ld (b := b1877) (off := 0) (v := (I d4.1)) J rm1 J J ⟨J, J⟩)⟩⟩, trivial⟩, J, .inr ⟨[6], J, J, ⟨J, .inl J, ?_⟩, trivial⟩⟩
  refine (o_st (b := b1869) (off := 0) (vs := [(I d4.1)]) (cs' := [(I d4.1)]) J J rp4 J J J J J J ?_)
  refine ⟨[], [], J, J, ?_⟩
  refine ⟨⟨(fun h => nomatch h), (fun h => nomatch h), (fun h => nomatch h), (fun h => nomatch h), (fun h => nomatch h), trivial⟩, J, .inr ⟨[7], J, J, ⟨J, .inl J, ?_⟩, trivial⟩⟩
  refine (o_st (b := b1871) (off := 0) (vs := [(I 0)]) (cs' := [(I 0)]) J J rp3 J J J J J J ?_)
  refine ⟨[], [], J, J, ?_⟩
  refine ⟨⟨(fun h => nomatch h), (fun h => nomatch h), (fun h => nomatch h), (fun h => nomatch h), (fun h => nomatch h), trivial⟩, J, J, J, ?_⟩
  refine e_seq (c_ret (e_ret ?_))
  refine r_mark rm9 ?_
  refine r_endc (B := [[(I d4.2.2.2.2.2.2.2.2.1)], [(I d4.1)], [(I 0)]]) J ⟨⟨_, _, _, _, J, rm5⟩, ⟨⟨_, _, _, _, J, rm4⟩, ⟨⟨_, _, _, _, J, rm3⟩, trivial⟩⟩⟩ J (kc rm0 (kc rm5 (kc rm6 (kd (kd (kd (kd (kd (kd kr))))))))) ?_
  obtain rfl := si h
  exact hk i4.1 f4_0

theorem c_write_written {g : Gw} (hg : GK g) (X : HP) (p0 : Vspace_Space) (b0 : Nat) (s0 : SV) (p1 : Vwrite_Result) (s1 : SV) (q0 : Rd X s1 5 (enI .u8) p1.Fields) (p2 : List Int) (s2 : SV) (q1 : Rd X s2 5 (enI .u8) p2) (r : Vspace_Space × Vwrite_Result × Int) (h : m_write_written p0 p1 p2 = some r) : Tri env g 38 (A [(F b0 0), (.agg (A [(I p1.Command), (O p1.Restore), (O p1.Alarm), (O p1.Reset), (I p1.Pieces), (V s1)])), (V s2)]) [X, blk b0 (.cells (A [(I p0.model), (O p0.alternate), (I p0.size.Rows), (I p0.size.Cols), (V s0), (I p0.cursor), (I p0.attrs)]) 105 (0, 0)), slO s0 49 en_Vapi_Cell p0.cells] (fun K R => ∀ (i0 : HP × SV), (Rd i0.1 s1 5 (enI .u8) r.2.1.Fields) → (Ext X i0.1) → K (.tuple (A [(.agg (A [(I r.2.1.Command), (O r.2.1.Restore), (O r.2.1.Alarm), (O r.2.1.Reset), (I r.2.1.Pieces), (V s1)])), (I r.2.2)])) (i0.1 :: blk b0 (.cells (A [(I r.1.model), (O r.1.alternate), (I r.1.size.Rows), (I r.1.size.Cols), (V i0.2), (I r.1.cursor), (I r.1.attrs)]) 105 (0, 0)) :: slO i0.2 49 en_Vapi_Cell r.1.cells :: R)) := by
 refine tri_of (fn := Tryz.f38) (N := 59) Tryz.func38 J J J ?_
 intro R K hk
 unfold m_write_written at h
 change GC _ none _ [] [(0, (F b0 0)), (1, (.agg (A [(I p1.Command), (O p1.Restore), (O p1.Alarm), (O p1.Reset), (I p1.Pieces), (V s1)]))), (2, (V s2))] (X :: blk b0 (.cells (A [(I p0.model), (O p0.alternate), (I p0.size.Rows), (I p0.size.Cols), (V s0), (I p0.cursor), (I p0.attrs)]) 105 (0, 0)) :: slO s0 49 en_Vapi_Cell p0.cells :: R) g _ _
 refine cr ?_
 refine o1 J (o_box (cs := [(I p1.Command), (O p1.Restore), (O p1.Alarm), (O p1.Reset), (I p1.Pieces), (V s1)]) J J (fun b1855 => ?_))
 refine o1 J (o_alloc (cs := [(I 0), (O false), (O false), (O false), (I 0), (V SV.nil)]) J J (fun b1857 => ?_))
 refine op J J (oe (cr (op J J ?_)))
 refine oe (c_seq (cr (op J J ?_)))
 refine o1 J (o_len (s := s2) J J J rm2 q1 ?_)
 refine o1 J (o_p (v := (O (decide ((p2.length : Int) > 0)))) J ?_)
 refine oe ?_
 replace h := bsome h
 obtain ⟨d1, h, hk1⟩ := h
 refine cj (D := Unit) (ι := SV) (fun _ i1 => Rd X i1 5 (enI .u8) d1.1) (fun _ i1 => [(2, (V i1)), (8, (U d1.2)), (6, (F b1857 0)), (4, (F b1855 0)), (0, (F b0 0))]) (fun _ i1 => X :: blk b1857 (.cells (A [(I 0), (O false), (O false), (O false), (I 0), (V SV.nil)]) 44 (0, 0)) :: blk b1855 (.cells (A [(I p1.Command), (O p1.Restore), (O p1.Alarm), (O p1.Reset), (I p1.Pieces), (V s1)]) 44 (0, 0)) :: blk b0 (.cells (A [(I p0.model), (O p0.alternate), (I p0.size.Rows), (I p0.size.Cols), (V s0), (I p0.cursor), (I p0.attrs)]) 105 (0, 0)) :: slO s0 49 en_Vapi_Cell p0.cells :: R) ?_ ?_
 ·refine c_cond (b := (decide ((p2.length : Int) > 0))) J (fun hb1859 => ?_) (fun hb1859 => ?_)
  ·replace h := cond_t hb1859 h
   refine c_sub (T' := [(12, (O (decide ((p2.length : Int) > 0)))), (11, (I (p2.length : Int))), (10, (V s2)), (7, (I 0)), (6, (F b1857 0)), (4, (F b1855 0)), (0, (F b0 0)), (1, (.agg (A [(I p1.Command), (O p1.Restore), (O p1.Alarm), (O p1.Reset), (I p1.Pieces), (V s1)]))), (2, (V s2))]) (sc J (sc J (sc J (sc J (sc J (sc J (sc J (sc J (sc J sn))))))))) ?_
   replace h := gsome h
   obtain ⟨hg1860, h⟩ := h
   replace h := gsome h
   obtain ⟨hg1861, h⟩ := h
   have hr1862 : Rd X (SV.cut s2 1 (Int.toNat 1) (Int.toNat (p2.length : Int)) (mxv s2 none)) 5 (enI .u8) (List.drop 1 p2) := rd_tk (Rd.cutv q1 hg1861 mx_none)
   refine c_draw (n := 1) (q := [(0, 13, (V s2)), (1, 14, (F (SV.blk s2) (SV.off s2 + Int.toNat 0 * 1))), (2, 15, (U (rd p2 0))), (3, 16, (V s2)), (4, 17, (V (SV.cut s2 1 (Int.toNat 1) (Int.toNat (p2.length : Int)) (mxv s2 none)))), (5, 8, (U (rd p2 0)))]) (pend := [0, 1, 2, 3, 4, 5]) J J J ?_
   refine ⟨⟨fun _ => ⟨rfl, rfl, rfl, .inl ⟨rfl, (o_p rfl ⟨rfl, rfl⟩)⟩⟩, fun _ => ⟨rfl, rfl, rfl, .inl ⟨rfl, (o_ix (s := s2) (n := 0) (e := (enI .u8)) rfl rfl rfl rfl rfl rfl rm2 q1 hg1860 ⟨rfl, rfl⟩)⟩⟩, fun _ => ⟨rfl, rfl, rfl, .inl ⟨rfl, (o_ldE (s := s2) (e := (enI .u8)) (n := 0) (f := 0) (v := (U (rd p2 0))) rfl rm2 q1 hg1860 rfl rfl ⟨rfl, rfl⟩)⟩⟩, fun _ => ⟨rfl, rfl, rfl, .inl ⟨rfl, (o_p rfl ⟨rfl, rfl⟩)⟩⟩, fun _ => ⟨rfl, rfl, rfl, .inl ⟨rfl, (o_slx (a := 1) (b := (p2.length : Int)) (m := none) rfl rfl rfl rfl rfl rm2 q1 rfl rfl rfl (by decide) hg1861 mx_none ⟨rfl, rfl⟩)⟩⟩, fun _ => ⟨rfl, rfl, rfl, .inl ⟨rfl, (o_p rfl ⟨rfl, rfl⟩)⟩⟩, trivial⟩, rfl, .inr ⟨[6], rfl, rfl, ⟨rfl, .inl rfl, ?_⟩, trivial⟩⟩
   refine (o_p J ?_)
   refine ⟨[], [], J, J, J, J, ?_⟩
   refine ⟨⟨(fun h => nomatch h), (fun h => nomatch h), (fun h => nomatch h), (fun h => nomatch h), (fun h => nomatch h), (fun h => nomatch h), trivial⟩, J, J, J, ?_⟩
   obtain rfl := si h
   exact ej () (SV.cut s2 1 (Int.toNat 1) (Int.toNat (p2.length : Int)) (mxv s2 none)) hr1862 (sc J (sc J (sc J (sc J (sc J sn))))) (kc rm2 (kc rm0 (kc rm0 (kc rm0 (kc rm0 kr)))))
  ·replace h := cond_f hb1859 h
   refine c_skip ?_
   obtain rfl := si h
   exact ej () s2 q1 (sc J (sc J (sc J (sc J (sc J sn))))) (kc rm2 (kc rm0 (kc rm0 (kc rm0 (kc rm0 kr)))))
 ·rintro _ i1 f1_0
  replace h := hk1
  clear hk1
  refine e_seq (c_seq (c_block (cr ?_)))
  refine o1 J (o_fa (fd := ⟨ "Command", 3, 0, false, "", "", 0⟩) J J J J J ?_)
  refine o1 J (o_ld (b := b1855) (off := 0) (v := (I p1.Command)) J rm2 J J ?_)
  refine o1 J (o_p (v := (O (p1.Command != 1))) J ?_)
  refine op J J (oe ?_)
  replace h := bsome h
  obtain ⟨d3, h, hk3⟩ := h
  refine cj (D := Unit) (ι := SV) (fun _ i3 => True) (fun _ i3 => [(2, (V i1)), (8, (U d1.2)), (6, (F b1857 0)), (4, (F b1855 0)), (0, (F b0 0))]) (fun _ i3 => X :: blk b1857 (.cells (A [(I 0), (O false), (O false), (O false), (I 0), (V SV.nil)]) 44 (0, 0)) :: blk b1855 (.cells (A [(I p1.Command), (O p1.Restore), (O p1.Alarm), (O p1.Reset), (I p1.Pieces), (V s1)]) 44 (0, 0)) :: blk b0 (.cells (A [(I d3.1), (O d3.2.1), (I d3.2.2.1), (I d3.2.2.2.1), (V i3), (I d3.2.2.2.2.2.1), (I d3.2.2.2.2.2.2)]) 105 (0, 0)) :: slO i3 49 en_Vapi_Cell d3.2.2.2.2.1 :: R) ?_ ?_
  ·refine c_cond (b := (p1.Command != 1)) J (fun hb1863 => ?_) (fun hb1863 => ?_)
   ·replace h := cond_t hb1863 h
    refine c_region (op J J ?_)
    refine o1 J (o_fa (fd := ⟨ "Command", 3, 0, false, "", "", 0⟩) J J J J J ?_)
    refine o1 J (o_ld (b := b1855) (off := 0) (v := (I p1.Command)) J rm2 J J ?_)
    refine o1 J (o_p (v := (O (p1.Command == 3))) J ?_)
    replace h := bsome h
    obtain ⟨d4, h4, h⟩ := h
    refine o1 J (o_call has21 J (c_space_Space_Clear_2 hg X p0 b0 s0 (p1.Command == 3) _ h4) (pc rm0 (pc rm2 (pc rm2 pn))) (fun i4 => ?_))
    refine o_end ?_
    obtain rfl := si h
    exact ej () i4 trivial (sc J (sc J (sc J (sc J (sc J sn))))) (kc rm0 (kc rm3 (kc rm3 (kc rm0 (kc rm0 (kd kr))))))
   ·replace h := cond_f hb1863 h
    refine cr (op J J ?_)
    refine o1 J (o_p (v := (U (iband .u8 d1.2 1))) J ?_)
    refine o1 J (o_p (v := (O ((iband .u8 d1.2 1) != 0))) J ?_)
    refine op J J (oe ?_)
    refine c_cond (b := ((iband .u8 d1.2 1) != 0)) J (fun hb1865 => ?_) (fun hb1865 => ?_)
    ·replace h := cond_t hb1865 h
     refine c_region (op J J ?_)
     cases h
    ·replace h := cond_f hb1865 h
     refine c_skip ?_
     obtain rfl := si h
     exact ej () s0 trivial (sc J (sc J (sc J (sc J (sc J sn))))) (kc rm0 (kc rm0 (kc rm0 (kc rm0 (kc rm0 kr)))))
  ·rintro _ i3 _
   replace h := hk3
   clear hk3
   refine e_blk (e_seq (cr (op J J (o_end ?_))))
   refine e_seq (cr (op J J (op J J (op J J ?_))))
   replace h := bsome h
   obtain ⟨d5, h5, h⟩ := h
   refine o1 J (o_call has15 J (c_space_Space_Cursor hg X (⟨d3.1, d3.2.1, (⟨d3.2.2.1, d3.2.2.2.1⟩ : Vaddr_Size), d3.2.2.2.2.1, d3.2.2.2.2.2.1, d3.2.2.2.2.2.2⟩ : Vspace_Space) b0 i3 _ h5) (pc rm0 (pc rm2 (pc rm2 pn))) ?_)
   replace h := bsome h
   obtain ⟨d6, h6, h⟩ := h
   refine o1 J (o_call has67 J (c_write_Orders hg X (⟨d3.1, d3.2.1, (⟨d3.2.2.1, d3.2.2.2.1⟩ : Vaddr_Size), d3.2.2.2.2.1, d3.2.2.2.2.2.1, d3.2.2.2.2.2.2⟩ : Vspace_Space) b0 i3 d1.1 i1 f1_0 d5 _ h6) (pc rm0 (pc rm0 (pc rm0 pn))) (fun i6 f6_0 => ?_))
   refine op J J (op J J (op J J (op J J ?_)))
   refine o1 J (o_fa (fd := ⟨ "Pieces", 3, 4, false, "", "", 16⟩) J J J J J ?_)
   refine o0 (o_st (b := b1855) (off := 4) (vs := [(I d6.2.2.1)]) (cs' := [(I p1.Command), (O p1.Restore), (O p1.Alarm), (O p1.Reset), (I d6.2.2.1), (V s1)]) J J rp4 J J J J J J ?_)
   refine op J J (oe (c_seq (cr ?_)))
   refine op J J ?_
   refine o1 J (o_p (v := (O (d6.2.2.2 == 0))) J ?_)
   refine oe ?_
   replace h := bsome h
   obtain ⟨d7, h, hk7⟩ := h
   refine cj (D := Unit) (ι := Unit) (fun _ i7 => True) (fun _ i7 => [(9, (I d6.2.2.2)), (6, (F b1857 0)), (4, (F b1855 0))]) (fun _ i7 => i6 :: blk b1857 (.cells (A [(I 0), (O false), (O false), (O false), (I 0), (V SV.nil)]) 44 (0, 0)) :: blk b1855 (.cells (A [(I p1.Command), (O d7.1), (O d7.2.1), (O d7.2.2), (I d6.2.2.1), (V s1)]) 44 (0, 0)) :: blk b0 (.cells (A [(I d6.1.model), (O d6.1.alternate), (I d6.1.size.Rows), (I d6.1.size.Cols), (V i3), (I d6.1.cursor), (I d6.1.attrs)]) 105 (0, 0)) :: slO i3 49 en_Vapi_Cell d6.1.cells :: R) ?_ ?_
   ·refine c_cond (b := (d6.2.2.2 == 0)) J (fun hb2039 => ?_) (fun hb2039 => ?_)
    ·replace h := cond_t hb2039 h
     refine c_region (op J J ?_)
     refine o1 J (o_p (v := (U (iband .u8 d1.2 2))) J ?_)
     refine o1 J (o_p (v := (O ((iband .u8 d1.2 2) != 0))) J ?_)
     refine op J J ?_
     refine o1 J (o_p (v := (U (iband .u8 d1.2 4))) J ?_)
     refine o1 J (o_p (v := (O ((iband .u8 d1.2 4) != 0))) J ?_)
     refine op J J ?_
     refine o1 J (o_p (v := (U (iband .u8 d1.2 64))) J ?_)
     refine o1 J (o_p (v := (O ((iband .u8 d1.2 64) != 0))) J ?_)
     refine o1 J (o_fa (fd := ⟨ "Restore", 4, 1, false, "", "", 8⟩) J J J J J ?_)
     refine o0 (o_st (b := b1855) (off := 1) (vs := [(O ((iband .u8 d1.2 2) != 0))]) (cs' := [(I p1.Command), (O ((iband .u8 d1.2 2) != 0)), (O p1.Alarm), (O p1.Reset), (I d6.2.2.1), (V s1)]) J J rp4 J J J J J J ?_)
     refine o1 J (o_fa (fd := ⟨ "Alarm", 4, 2, false, "", "", 9⟩) J J J J J ?_)
     refine o0 (o_st (b := b1855) (off := 2) (vs := [(O ((iband .u8 d1.2 4) != 0))]) (cs' := [(I p1.Command), (O ((iband .u8 d1.2 2) != 0)), (O ((iband .u8 d1.2 4) != 0)), (O p1.Reset), (I d6.2.2.1), (V s1)]) J J rp4 J J J J J J ?_)
     refine o1 J (o_fa (fd := ⟨ "Reset", 4, 3, false, "", "", 10⟩) J J J J J ?_)
     refine o0 (o_st (b := b1855) (off := 3) (vs := [(O ((iband .u8 d1.2 64) != 0))]) (cs' := [(I p1.Command), (O ((iband .u8 d1.2 2) != 0)), (O ((iband .u8 d1.2 4) != 0)), (O ((iband .u8 d1.2 64) != 0)), (I d6.2.2.1), (V s1)]) J J rp4 J J J J J J ?_)
     refine o_end ?_
     obtain rfl := si h
     exact ej () () trivial (sc J (sc J (sc J sn))) (kc rm0 (kc rm2 (kc rm2 (kc rm0 (kc rm0 kr)))))
    ·replace h := cond_f hb2039 h
     refine c_skip ?_
     obtain rfl := si h
     exact ej () () trivial (sc J (sc J (sc J sn))) (kc rm0 (kc rm2 (kc rm2 (kc rm0 (kc rm0 kr)))))
   ·rintro _ i7 _
    replace h := hk7
    clear hk7
    refine e_seq (cr ?_)
    refine o1 J (o_ld (b := b1855) (off := 0) (v := (.agg (A [(I p1.Command), (O d7.1), (O d7.2.1), (O d7.2.2), (I d6.2.2.1), (V s1)]))) J rm2 J J ?_)
    refine op J J ?_
    refine o0 (o_st (b := b1857) (off := 0) (vs := [(I p1.Command), (O d7.1), (O d7.2.1), (O d7.2.2), (I d6.2.2.1), (V s1)]) (cs' := [(I p1.Command), (O d7.1), (O d7.2.1), (O d7.2.2), (I d6.2.2.1), (V s1)]) J J rp1 J J J J J J ?_)
    refine op J J (oe (c_ret (e_ret ?_)))
    refine r_endc (B := [[(I p1.Command), (O d7.1), (O d7.2.1), (O d7.2.2), (I d6.2.2.1), (V s1)]]) J ⟨⟨_, _, _, _, J, rm1⟩, trivial⟩ J (kc rm0 (kc rm2 (kc rm2 (kd (kd kr))))) ?_
    obtain rfl := si h
    exact hk (i6, i3) (Rd.ext q0 f6_0) f6_0

theorem c_write_Run {g : Gw} (hg : GK g) (X : HP) (p0 : Vspace_Space) (b0 : Nat) (s0 : SV) (p1 : List Int) (s1 : SV) (q0 : Rd X s1 5 (enI .u8) p1) (r : Vspace_Space × Vwrite_Result × Int) (h : m_write_Run p0 p1 = some r) : Tri env g 11 (A [(F b0 0), (V s1)]) [X, blk b0 (.cells (A [(I p0.model), (O p0.alternate), (I p0.size.Rows), (I p0.size.Cols), (V s0), (I p0.cursor), (I p0.attrs)]) 105 (0, 0)), slO s0 49 en_Vapi_Cell p0.cells] (fun K R => ∀ (i0 : HP × SV × SV), (Rd i0.1 i0.2.2 5 (enI .u8) r.2.1.Fields) → (Ext X i0.1) → K (.tuple (A [(.agg (A [(I r.2.1.Command), (O r.2.1.Restore), (O r.2.1.Alarm), (O r.2.1.Reset), (I r.2.1.Pieces), (V i0.2.2)])), (I r.2.2)])) (i0.1 :: blk b0 (.cells (A [(I r.1.model), (O r.1.alternate), (I r.1.size.Rows), (I r.1.size.Cols), (V i0.2.1), (I r.1.cursor), (I r.1.attrs)]) 105 (0, 0)) :: slO i0.2.1 49 en_Vapi_Cell r.1.cells :: R)) := by
 refine tri_of (fn := Tryz.f11) (N := 54) Tryz.func11 J J J ?_
 intro R K hk
 unfold m_write_Run at h
 change GC _ none _ [] [(0, (F b0 0)), (1, (V s1))] (X :: blk b0 (.cells (A [(I p0.model), (O p0.alternate), (I p0.size.Rows), (I p0.size.Cols), (V s0), (I p0.cursor), (I p0.attrs)]) 105 (0, 0)) :: slO s0 49 en_Vapi_Cell p0.cells :: R) g _ _
 refine cr ?_
 refine o1 J (o_alloc (cs := [(I 0), (O false), (O false), (O false), (I 0), (V SV.nil)]) J J (fun b1827 => ?_))
 refine op J J (oe (c_seq (c_block (c_seq ?_))))
 refine c_region (op J J ?_)
 refine o1 J (o_p (v := (O false)) J ?_)
 refine op J J (oe ?_)
 refine c_cond_f J J ?_
 refine cr (op J J ?_)
 refine o1 J (o_len (s := s1) J J J rm1 q0 ?_)
 refine o1 J (o_p (v := (O ((p1.length : Int) == 0))) J ?_)
 refine op J J (oe ?_)
 refine c_cond (b := ((p1.length : Int) == 0)) J (fun hb1829 => ?_) (fun hb1829 => ?_)
 ·replace h := cond_t hb1829 h
  refine cr ?_
  refine o1 J (o_build (fs := f_6) (ps := [(0, 1), (1, 1), (2, 1), (3, 1), (4, 1), (5, 1)]) (cs := [(I 0), (O false), (O false), (O false), (I 0), (V SV.nil)]) J J J J J ?_)
  refine o0 (o_st (b := b1827) (off := 0) (vs := [(I 0), (O false), (O false), (O false), (I 0), (V SV.nil)]) (cs' := [(I 0), (O false), (O false), (O false), (I 0), (V SV.nil)]) J J rp0 J J J J J J ?_)
  refine op J J (oe (c_ret (e_blk_ret (e_then_ret ?_))))
  refine e_ret ?_
  refine r_endc (B := [[(I 0), (O false), (O false), (O false), (I 0), (V SV.nil)]]) J ⟨⟨_, _, _, _, J, rm0⟩, trivial⟩ J (kc rm1 (kc rm1 (kc rm1 (kd kr)))) ?_
  obtain rfl := si h
  exact hk (X, s0, SV.nil) (rd_nil _ _ _) (Ext.refl _)
 ·replace h := cond_f hb1829 h
  refine c_skip (e_blk (e_seq (cr (op J J ?_))))
  replace h := gsome h
  obtain ⟨hg1830, h⟩ := h
  refine o1 J (o_ix (s := s1) (n := 0) (e := (enI .u8)) J J J J J J rm1 q0 hg1830 ?_)
  refine o1 J (o_ldE (s := s1) (e := (enI .u8)) (n := 0) (f := 0) (v := (U (rd p1 0))) J rm1 q0 hg1830 J J ?_)
  replace h := bsome h
  obtain ⟨d3, h3, h⟩ := h
  refine o1 J (o_call has37 J (c_write_Command hg X (rd p1 0) _ h3) (pc rm1 pn) ?_)
  refine op J J (op J J (op J J (op J J (op J J (o_end ?_)))))
  refine e_seq (c_seq (cr (op J J ?_)))
  refine o1 J (o_p (v := (O (!d3.2))) J ?_)
  refine oe ?_
  refine c_cond (b := (!d3.2)) J (fun hb1847 => ?_) (fun hb1847 => ?_)
  ·replace h := cond_t hb1847 h
   refine cr ?_
   refine o1 J (o_build (fs := f_6) (ps := [(0, 1), (1, 1), (2, 1), (3, 1), (4, 1), (5, 1)]) (cs := [(I 0), (O false), (O false), (O false), (I 0), (V SV.nil)]) J J J J J ?_)
   refine o0 (o_st (b := b1827) (off := 0) (vs := [(I 0), (O false), (O false), (O false), (I 0), (V SV.nil)]) (cs' := [(I 0), (O false), (O false), (O false), (I 0), (V SV.nil)]) J J rp1 J J J J J J ?_)
   refine op J J (oe (c_ret (e_then_ret (e_ret ?_))))
   refine r_endc (B := [[(I 0), (O false), (O false), (O false), (I 0), (V SV.nil)]]) J ⟨⟨_, _, _, _, J, rm1⟩, trivial⟩ J (kc rm0 (kc rm1 (kc rm1 (kd kr)))) ?_
   obtain rfl := si h
   exact hk (X, s0, SV.nil) (rd_nil _ _ _) (Ext.refl _)
  ·replace h := cond_f hb1847 h
   refine c_skip (e_seq (cr (op J J ?_)))
   refine o1 J (o_build (fs := f_6) (ps := [(0, 1), (1, 1), (2, 1), (3, 1), (4, 1), (5, 1)]) (cs := [(I d3.1), (O false), (O false), (O false), (I 0), (V SV.nil)]) J J J J J ?_)
   refine o1 J (o_alloc (cs := [(I 0), (O false), (O false), (O false), (I 0), (V SV.nil)]) J J (fun b1848 => ?_))
   refine o0 (o_st (b := b1848) (off := 0) (vs := [(I d3.1), (O false), (O false), (O false), (I 0), (V SV.nil)]) (cs' := [(I d3.1), (O false), (O false), (O false), (I 0), (V SV.nil)]) J J rp0 J J J J J J ?_)
   refine oe (c_seq (cr (op J J ?_)))
   refine oe (c_block (c_seq (cr ?_)))
   refine o1 J (o_p (v := (O (d3.1 == 1))) J ?_)
   refine op J J (oe ?_)
   replace h := bsome h
   obtain ⟨d6, h, hk6⟩ := h
   refine cj (D := Unit) (ι := Unit) (fun _ i6 => True) (fun _ i6 => [(31, (O d6)), (30, (I d3.1)), (8, (F b1848 0)), (4, (F b1827 0)), (0, (F b0 0)), (1, (V s1))]) (fun _ i6 => X :: blk b1848 (.cells (A [(I d3.1), (O false), (O false), (O false), (I 0), (V SV.nil)]) 44 (0, 0)) :: blk b1827 (.cells (A [(I 0), (O false), (O false), (O false), (I 0), (V SV.nil)]) 44 (0, 0)) :: blk b0 (.cells (A [(I p0.model), (O p0.alternate), (I p0.size.Rows), (I p0.size.Cols), (V s0), (I p0.cursor), (I p0.attrs)]) 105 (0, 0)) :: slO s0 49 en_Vapi_Cell p0.cells :: R) ?_ ?_
   ·refine c_cond (b := (d3.1 == 1)) J (fun hb1850 => ?_) (fun hb1850 => ?_)
    ·replace h := cond_t hb1850 h
     refine c_skip ?_
     obtain rfl := si h
     exact ej () () trivial (sc J (sc J (sc J (sc J (sc J (sc J sn)))))) (kc rm1 (kc rm0 (kc rm0 (kc rm0 (kc rm0 kr)))))
    ·replace h := cond_f hb1850 h
     refine cr ?_
     refine o1 J (o_p (v := (O (d3.1 == 2))) J ?_)
     refine op J J (oe ?_)
     refine c_cond (b := (d3.1 == 2)) J (fun hb1851 => ?_) (fun hb1851 => ?_)
     ·replace h := cond_t hb1851 h
      refine c_skip ?_
      obtain rfl := si h
      exact ej () () trivial (sc J (sc J (sc J (sc J (sc J (sc J sn)))))) (kc rm1 (kc rm0 (kc rm0 (kc rm0 (kc rm0 kr)))))
     ·replace h := cond_f hb1851 h
      refine c_region ?_
      refine o1 J (o_p (v := (O (d3.1 == 3))) J ?_)
      refine op J J (o_end ?_)
      obtain rfl := si h
      exact ej () () trivial (sc J (sc J (sc J (sc J (sc J (sc J sn)))))) (kc rm1 (kc rm0 (kc rm0 (kc rm0 (kc rm0 kr)))))
   ·rintro _ i6 _
    replace h := hk6
    clear hk6
    refine e_seq ?_
    replace h := jn_some h
    obtain ⟨y7, h, hk7⟩ := h
    refine cj (D := (List Int)) (ι := SV) (fun d7 i7 => y7 = Sum.inl d7) (fun d7 i7 => [(8, (F b1848 0)), (4, (F b1827 0))]) (fun d7 i7 => X :: blk b1848 (.cells (A [(I d3.1), (O false), (O false), (O false), (I 0), (V i7)]) 44 (0, 0)) :: blk b1827 (.cells (A [(I 0), (O false), (O false), (O false), (I 0), (V SV.nil)]) 44 (0, 0)) :: blk b0 (.cells (A [(I p0.model), (O p0.alternate), (I p0.size.Rows), (I p0.size.Cols), (V s0), (I p0.cursor), (I p0.attrs)]) 105 (0, 0)) :: slO i7 5 (enI .u8) d7 :: slO s0 49 en_Vapi_Cell p0.cells :: R) ?_ ?_
    ·refine c_cond (b := d6) J (fun hb1852 => ?_) (fun hb1852 => ?_)
     ·replace h := cond_t hb1852 h
      refine c_seq ?_
      replace h := gsome h
      obtain ⟨hg1853, h⟩ := h
      have hr1854 : Rd X (SV.cut s1 1 (Int.toNat 1) (Int.toNat (p1.length : Int)) (mxv s1 none)) 5 (enI .u8) (List.drop 1 p1) := rd_tk (Rd.cutv q0 hg1853 mx_none)
      refine c_draw (n := 2) (q := [(0, 35, (F b0 0)), (1, 36, (.agg (A [(I d3.1), (O false), (O false), (O false), (I 0), (V SV.nil)]))), (2, 37, (V s1)), (3, 38, (V (SV.cut s1 1 (Int.toNat 1) (Int.toNat (p1.length : Int)) (mxv s1 none))))]) (pend := [0, 1, 2, 3]) J J J ?_
      replace h := bsome h
      obtain ⟨d9, h9, h⟩ := h
      refine ⟨⟨fun _ => ⟨rfl, rfl, rfl, .inl ⟨rfl, (o_p rfl ⟨rfl, rfl⟩)⟩⟩, fun _ => ⟨rfl, rfl, rfl, .inl ⟨rfl, (o_ld (b := b1848) (off := 0) (v := (.agg (A [(I d3.1), (O false), (O false), (O false), (I 0), (V SV.nil)]))) rfl rm1 rfl rfl ⟨rfl, rfl⟩)⟩⟩, fun _ => ⟨rfl, rfl, rfl, .inl ⟨rfl, (o_p rfl ⟨rfl, rfl⟩)⟩⟩, fun _ => ⟨rfl, rfl, rfl, .inl ⟨rfl, (o_slx (a := 1) (b := (p1.length : Int)) (m := none) rfl rfl rfl rfl rfl rm0 q0 rfl rfl rfl (by decide) hg1853 mx_none ⟨rfl, rfl⟩)⟩⟩, trivial⟩, rfl, .inr ⟨[4], rfl, rfl, ⟨rfl, .inl rfl, ?_⟩, trivial⟩⟩
      refine (o_call has38 J (c_write_written hg X (⟨p0.model, p0.alternate, p0.size, p0.cells, p0.cursor, p0.attrs⟩ : Vspace_Space) b0 s0 (⟨d3.1, false, false, false, 0, ([] : List Int)⟩ : Vwrite_Result) SV.nil (rd_nil _ _ _) (List.drop 1 p1) (SV.cut s1 1 (Int.toNat 1) (Int.toNat (p1.length : Int)) (mxv s1 none)) hr1854 _ h9) (pc rm0 (pc rm2 (pc rm2 pn))) (fun i9 f9_0 f9_1 => ?_))
      refine ⟨[(5, 40, (.agg (A [(I d9.2.1.Command), (O d9.2.1.Restore), (O d9.2.1.Alarm), (O d9.2.1.Reset), (I d9.2.1.Pieces), (V SV.nil)]))), (6, 41, (I d9.2.2))], [5, 6], J, J, J, J, ?_⟩
      refine ⟨⟨fun _ => ⟨J, J, J, .inl ⟨J, (o_p J ⟨J, J⟩)⟩⟩, fun _ => ⟨J, J, J, .inl ⟨J, (o_p J ⟨J, J⟩)⟩⟩, (fun h => nomatch h), (fun h => nomatch h), (fun h => nomatch h), (fun h => nomatch h), trivial⟩, J, .inr ⟨[7], J, J, ⟨J, .inl J, ?_⟩, trivial⟩⟩
      refine (o_st (b := b1827) (off := 0) (vs := [(I d9.2.1.Command), (O d9.2.1.Restore), (O d9.2.1.Alarm), (O d9.2.1.Reset), (I d9.2.1.Pieces), (V SV.nil)]) (cs' := [(I d9.2.1.Command), (O d9.2.1.Restore), (O d9.2.1.Alarm), (O d9.2.1.Reset), (I d9.2.1.Pieces), (V SV.nil)]) J J rp4 J J J J J J ?_)
      refine ⟨[(8, 5, (I d9.2.2))], [8], J, J, ?_⟩
      refine ⟨⟨fun _ => ⟨J, J, J, .inl ⟨J, (o_p J ⟨J, J⟩)⟩⟩, (fun h => nomatch h), (fun h => nomatch h), (fun h => nomatch h), (fun h => nomatch h), (fun h => nomatch h), (fun h => nomatch h), trivial⟩, J, J, J, ?_⟩
      refine e_seq (c_ret (ej_ret ?_))
      replace h := esc_some h
      obtain ⟨z7, h, rfl⟩ := h
      obtain rfl := (hk7 : z7 = _)
      refine e_blk_ret (e_then_ret (e_ret ?_))
      refine r_endc (B := [[(I d9.2.1.Command), (O d9.2.1.Restore), (O d9.2.1.Alarm), (O d9.2.1.Reset), (I d9.2.1.Pieces), (V SV.nil)]]) J ⟨⟨_, _, _, _, J, rm4⟩, trivial⟩ J (kc rm0 (kc rm0 (kc rm0 (kd (kd kr))))) ?_
      obtain rfl := si h
      exact hk (i9.1, i9.2, SV.nil) f9_0 f9_1
     ·replace h := cond_f hb1852 h
      refine cr ?_
      refine o1 J (o_p (v := (O (d3.1 == 4))) J ?_)
      refine op J J (oe ?_)
      refine c_cond (b := (d3.1 == 4)) J (fun hb2042 => ?_) (fun hb2042 => ?_)
      ·replace h := cond_t hb2042 h
       refine cr (op J J ?_)
       cases h
      ·replace h := cond_f hb2042 h
       refine cr ?_
       refine o1 J (o_p (v := (O (d3.1 == 8))) J ?_)
       refine op J J (oe ?_)
       refine c_cond (b := (d3.1 == 8)) J (fun hb2043 => ?_) (fun hb2043 => ?_)
       ·replace h := cond_t hb2043 h
        refine c_region (op J J ?_)
        replace h := gsome h
        obtain ⟨hg2044, h⟩ := h
        refine o1 rfl (o_sl (a := 1) (b := (p1.length : Int)) (m := none) rfl rfl rfl rfl rfl rm0 q0 rfl rfl rfl (by decide) hg2044 mx_none (fun s2046 hr2045 => ?_))
        replace hr2045 := rd_tk hr2045
        replace h := bsome h
        obtain ⟨d10, h10, h⟩ := h
        refine o1 J (o_call has34 J (c_bytes_Clone hg X (List.drop 1 p1) s2046 hr2045 _ h10) (pc rm0 pn) (fun i10 => ?_))
        refine o1 J (o_fa (fd := ⟨ "Fields", 28, 5, false, "", "", 24⟩) J J J J J ?_)
        refine o0 (o_st (b := b1848) (off := 5) (vs := [(V i10)]) (cs' := [(I d3.1), (O false), (O false), (O false), (I 0), (V i10)]) J J rp2 J J J J J J ?_)
        refine o_end ?_
        obtain rfl := si h
        exact ej d10 i10 J (sc J (sc J sn)) (kc rm0 (kc rm1 (kc rm1 (kc rm1 (kc rm0 (kc rm0 kr))))))
       ·replace h := cond_f hb2043 h
        refine c_skip ?_
        refine e_add (slO SV.nil 5 (enI .u8) []) (slO_nil _ _ _) ?_
        obtain rfl := si h
        exact ej ([] : List Int) SV.nil J (sc J (sc J sn)) (kc rm1 (kc rm1 (kc rm1 (kc rm1 (kc rm0 (kc rm0 kr))))))
    ·rintro d7 i7 rfl
     replace h := JK_inl hk7
     clear hk7
     refine e_blk (e_seq (cr ?_))
     refine o1 J (o_ld (b := b1848) (off := 0) (v := (.agg (A [(I d3.1), (O false), (O false), (O false), (I 0), (V i7)]))) J rm1 J J ?_)
     refine o0 (o_st (b := b1827) (off := 0) (vs := [(I d3.1), (O false), (O false), (O false), (I 0), (V i7)]) (cs' := [(I d3.1), (O false), (O false), (O false), (I 0), (V i7)]) J J rp2 J J J J J J ?_)
     refine op J J (oe (c_ret (e_ret ?_)))
     refine r_fz rm4 rm0 (fun X2051 hx2052 hs2053 => ?_)
     refine r_endc (B := [[(I d3.1), (O false), (O false), (O false), (I 0), (V i7)]]) J ⟨⟨_, _, _, _, J, rm2⟩, trivial⟩ J (kc rm0 (kc rm2 (kc rm2 (kd (kd kr))))) ?_
     obtain rfl := si h
     exact hk (X2051, s0, i7) hs2053 hx2052

theorem c_vitrineref01_Same {g : Gw} (hg : GK g) (X : HP) (p0 : List Int) (s0 : SV) (q0 : Rd X s0 5 (enI .u8) p0) (p1 : List Int) (s1 : SV) (q1 : Rd X s1 5 (enI .u8) p1) (r : Bool) (h : m_vitrineref01_Same p0 p1 = some r) : Tri env g 12 (A [(V s0), (V s1)]) [X] (fun K R => K (O r) (X :: R)) := by
 refine tri_of (fn := Tryz.f12) (N := 10) Tryz.func12 J J J ?_
 intro R K hk
 unfold m_vitrineref01_Same at h
 change GC _ none _ [] [(0, (V s0)), (1, (V s1))] (X :: R) g _ _
 refine cr (op J J (oe (c_seq ?_)))
 refine c_region (op J J ?_)
 refine o1 J (o_b2s (s := s0) J J J J J J J rm0 q0 ?_)
 refine op J J ?_
 refine o1 J (o_b2s (s := s1) J J J J J J J rm0 q1 ?_)
 refine o1 J (o_p (v := (O ((bstr p0).data.toList == (bstr p1).data.toList))) J ?_)
 refine op J J (oe (c_ret (e_ret ?_)))
 refine r_endt J J (kc rm0 kr) ?_
 obtain rfl := si h
 exact hk

theorem c_vitrinelaw20_sent {g : Gw} (hg : GK g) (X : HP) (p0 : Int) (r : Int) (h : m_vitrinelaw20_sent p0 = some r) : Tri env g 14 (A [(U p0)]) [X] (fun K R => K (U r) (X :: R)) := by
 refine tri_of (fn := Tryz.f14) (N := 6) Tryz.func14 J J J ?_
 intro R K hk
 unfold m_vitrinelaw20_sent at h
 change GC _ none _ [] [(0, (U p0))] (X :: R) g _ _
 refine cr (op J J (oe (c_seq ?_)))
 refine cr (op J J ?_)
 replace h := bsome h
 obtain ⟨d1, h1, h⟩ := h
 refine o1 J (o_call has41 J (c_vitrineref16_Is hg X p0 _ h1) (pc rm0 pn) ?_)
 refine oe ?_
 refine c_cond (b := d1) J (fun hb2075 => ?_) (fun hb2075 => ?_)
 ·replace h := cond_t hb2075 h
  refine cr (op J J (oe (c_ret ?_)))
  refine e_then_ret (e_ret ?_)
  refine r_endt J J (kc rm0 kr) ?_
  obtain rfl := si h
  exact hk
 ·replace h := cond_f hb2075 h
  refine c_skip (e_seq (cr (op J J (op J J ?_))))
  refine oe (c_ret (e_ret ?_))
  refine r_endt J J (kc rm0 kr) ?_
  obtain rfl := si h
  exact hk

theorem c_space_Space_Alternate {g : Gw} (hg : GK g) (X : HP) (p0 : Vspace_Space) (b0 : Nat) (s0 : SV) (r : Bool) (h : m_space_Space_Alternate p0 = some r) : Tri env g 16 (A [(F b0 0)]) [X, blk b0 (.cells (A [(I p0.model), (O p0.alternate), (I p0.size.Rows), (I p0.size.Cols), (V s0), (I p0.cursor), (I p0.attrs)]) 105 (0, 0)), slO s0 49 en_Vapi_Cell p0.cells] (fun K R => K (O r) (X :: blk b0 (.cells (A [(I p0.model), (O p0.alternate), (I p0.size.Rows), (I p0.size.Cols), (V s0), (I p0.cursor), (I p0.attrs)]) 105 (0, 0)) :: slO s0 49 en_Vapi_Cell p0.cells :: R)) := by
 refine tri_of (fn := Tryz.f16) (N := 11) Tryz.func16 J J J ?_
 intro R K hk
 unfold m_space_Space_Alternate at h
 change GC _ none _ [] [(0, (F b0 0))] (X :: blk b0 (.cells (A [(I p0.model), (O p0.alternate), (I p0.size.Rows), (I p0.size.Cols), (V s0), (I p0.cursor), (I p0.attrs)]) 105 (0, 0)) :: slO s0 49 en_Vapi_Cell p0.cells :: R) g _ _
 refine cr (op J J (oe (c_seq ?_)))
 refine c_region (op J J ?_)
 refine o1 J (o_p (v := (O true)) J ?_)
 refine op J J ?_
 refine oy J J J J (o_p J ?_)
 refine oy J J J J (o_p J ?_)
 refine oy J J J J (o_fa (fd := ⟨ "alternate", 4, 1, false, "", "vitrine/space", 8⟩) J J J J J ?_)
 refine oy J J J J (o_ld (b := b0) (off := 1) (v := (O p0.alternate)) J rm1 J J ?_)
 refine o1 J (o_pick_t J J J ?_)
 refine op J J (oe (c_ret (e_ret ?_)))
 refine r_endt J J (kc rm0 (kc rm0 (kc rm0 kr))) ?_
 obtain rfl := si h
 exact hk

end Go.Vt
