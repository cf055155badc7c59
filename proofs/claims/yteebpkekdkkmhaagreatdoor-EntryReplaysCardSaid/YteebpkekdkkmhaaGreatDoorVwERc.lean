/- The walks: each function does what its model says. No conditions. -/
import Derived.Test.YteebpkekdkkmhaaGreatDoorVwERb
set_option linter.unusedVariables false
set_option maxRecDepth 100000
set_option maxHeartbeats 4000000
namespace Go.Vt
open Go.Proofs
theorem c_read_Buffer {g : Gw} (hg : GK g) (X : HP) (p0 : Vspace_Space) (b0 : Nat) (s0 : SV) (p1 : Int) (p2 : Int) (r : Vspace_Space × (List Int) × Int) (h : m_read_Buffer p0 p1 p2 = some r) : Tri env g 6 (A [(F b0 0), (U p1), (I p2)]) [X, blk b0 (.cells (A [(I p0.model), (O p0.alternate), (I p0.size.Rows), (I p0.size.Cols), (V s0), (I p0.cursor), (I p0.attrs)]) 105 (0, 0)), slO s0 49 en_Vapi_Cell p0.cells] (fun K R => ∀ (i0 : HP × SV), (Ext X i0.1) → K (.tuple (A [(V i0.2), (I r.2.2)])) (i0.1 :: blk b0 (.cells (A [(I r.1.model), (O r.1.alternate), (I r.1.size.Rows), (I r.1.size.Cols), (V s0), (I r.1.cursor), (I r.1.attrs)]) 105 (0, 0)) :: slO s0 49 en_Vapi_Cell r.1.cells :: slO i0.2 5 (enI .u8) r.2.1 :: R)) := by
 refine tri_of (fn := Tryz.f6) (N := 38) Tryz.func6 J J J ?_
 intro R K hk
 unfold m_read_Buffer at h
 change GC _ none _ [] [(0, (F b0 0)), (1, (U p1)), (2, (I p2))] (X :: blk b0 (.cells (A [(I p0.model), (O p0.alternate), (I p0.size.Rows), (I p0.size.Cols), (V s0), (I p0.cursor), (I p0.attrs)]) 105 (0, 0)) :: slO s0 49 en_Vapi_Cell p0.cells :: R) g _ _
 refine cr (op J J (op J J (oe ?_)))
 refine cr (op J J (op J J (op J J ?_)))
 replace h := bsome h
 obtain ⟨d2, h2, h⟩ := h
 rcases d2 with d2 | d2
 ·cases h
 ·refine o1 J (o_call has24 J (c_read_begin hg X (⟨p0.model, p0.alternate, p0.size, p0.cells, p0.cursor, p0.attrs⟩ : Vspace_Space) b0 s0 p1 p2 false _ h2) (pc rm0 (pc rm0 (pc rm0 pn))) (fun i2 => ?_))
  refine op J J (op J J (op J J ?_))
  refine o1 J (o_alloc (cs := [(.pointer none)]) J J (fun b636 => ?_))
  refine o0 (o_st (b := b636) (off := 0) (vs := [(F i2.1 0)]) (cs' := [(F i2.1 0)]) J J rp0 J J J J J J ?_)
  refine op J J (oe (c_seq (cr ?_)))
  refine op J J ?_
  refine o1 J (o_p (v := (O (d2.2 != 0))) J ?_)
  refine oe ?_
  refine c_cond (b := (d2.2 != 0)) J (fun hb638 => ?_) (fun hb638 => ?_)
  ·replace h := cond_t hb638 h
   refine cr (op J J (op J J (op J J (o_end ?_))))
   refine e_seq (c_ret (e_then_ret (e_ret ?_)))
   refine r_add (slO SV.nil 5 (enI .u8) []) (slO_nil _ _ _) ?_
   refine r_endt J J (kc rm2 (kc rm2 (kc rm2 (kc rm0 (kd (kd (kd kr))))))) ?_
   obtain rfl := si h
   exact hk (X, SV.nil) (Ext.refl _)
  ·replace h := cond_f hb638 h
   refine c_skip (e_seq (c_seq (cr (op J J ?_))))
   replace h := bsome h
   obtain ⟨d4, h4, h⟩ := h
   refine o1 J (o_call has25 J (c_space_Space_All hg X p0 b0 s0 _ h4) (pc rm1 (pc rm1 (pc rm1 pn))) (fun i4 => ?_))
   refine oe ?_
   replace h := bsome h
   obtain ⟨d5, h, hk5⟩ := h
   refine cjd (D := Unit) (ι := HP × SV × Nat) (fun _ i5 => [mk i5.2.2]) (fun _ i5 => Ext X i5.1) (fun _ i5 => [(8, (F b636 0))]) (fun _ i5 => i5.1 :: blk b636 (.cells (A [(F i2.1 0)]) 70 (0, 0)) :: blk b0 (.cells (A [(I p0.model), (O p0.alternate), (I p0.size.Rows), (I p0.size.Cols), (V s0), (I p0.cursor), (I p0.attrs)]) 105 (0, 0)) :: blk i2.1 (.cells (A [(V i5.2.1), (U d5.2.1), (O d5.2.2.1), (U d5.2.2.2.1), (U d5.2.2.2.2.1), (U d5.2.2.2.2.2.1), (U d5.2.2.2.2.2.2.1), (I d5.2.2.2.2.2.2.2)]) 78 (0, 0)) :: slO s0 49 en_Vapi_Cell p0.cells :: slO i5.2.1 5 (enI .u8) d5.1 :: blk i5.2.2 (.deferred (some [])) :: R) ?_ ?_
   ·refine c_block ?_
    replace h := bsome h
    obtain ⟨d6, h, hk6⟩ := h
    refine cjd (D := Unit) (ι := HP × SV × Nat) (fun _ i6 => [mk i6.2.2]) (fun _ i6 => Ext X i6.1) (fun _ i6 => [(8, (F b636 0))]) (fun _ i6 => i6.1 :: blk b636 (.cells (A [(F i2.1 0)]) 70 (0, 0)) :: blk b0 (.cells (A [(I p0.model), (O p0.alternate), (I p0.size.Rows), (I p0.size.Cols), (V s0), (I p0.cursor), (I p0.attrs)]) 105 (0, 0)) :: blk i2.1 (.cells (A [(V i6.2.1), (U d6.2.1), (O d6.2.2.1), (U d6.2.2.2.1), (U d6.2.2.2.2.1), (U d6.2.2.2.2.2.1), (U d6.2.2.2.2.2.2.1), (I d6.2.2.2.2.2.2.2)]) 78 (0, 0)) :: slO s0 49 en_Vapi_Cell p0.cells :: slO i6.2.1 5 (enI .u8) d6.1 :: blk i6.2.2 (.deferred (some [])) :: R) ?_ ?_
    ·refine c_range' (fn := Tryz.f52) (M := 18) J has52 Tryz.func52 J J J (fun l7 D7 a7 fc7 rc7 hrc7 ht7 => ?_)
     change GC _ none _ [] [(0, (.func (.yield l7) #[] #[])), (1, (F i4 0))] (blk l7 (.loop (rc7 .ready none)) :: blk D7 (.deferred (some [])) :: X :: blk b0 (.cells (A [(I p0.model), (O p0.alternate), (I p0.size.Rows), (I p0.size.Cols), (V s0), (I p0.cursor), (I p0.attrs)]) 105 (0, 0)) :: slO s0 49 en_Vapi_Cell p0.cells :: blk i4 (.cells (A [(F b0 0)]) 24 (0, 0)) :: blk b636 (.cells (A [(F i2.1 0)]) 70 (0, 0)) :: blk i2.1 (.cells (A [(V i2.2), (U d2.1.last.Char), (O d2.1.last.Attr), (U d2.1.last.FA), (U d2.1.last.High), (U d2.1.last.Color), (U d2.1.last.f_Set), (I d2.1.mode)]) 78 (0, 0)) :: slO i2.2 5 (enI .u8) d2.1.out :: R) g _ _
     refine cr ?_
     refine o1 J (o_ld (b := i4) (off := 0) (v := (F b0 0)) J rm5 J J ?_)
     replace h := bsome h
     obtain ⟨d8, h8, h⟩ := h
     refine o1 J (o_call has53 J (c_space_Space_Size hg X p0 b0 s0 _ h8) (pc rm2 (pc rm2 (pc rm2 pn))) ?_)
     replace h := bsome h
     obtain ⟨d9, h9, h⟩ := h
     refine o1 J (o_call has49 J (c_addr_Size_Cells hg X d8 _ h9) (pc rm0 pn) ?_)
     refine op J J (oe ?_)
     replace h := bsome h
     obtain ⟨d10, h, hk10⟩ := h
     refine cj (D := Unit) (ι := HP × SV) (fun _ i10 => Ext X i10.1) (fun _ i10 => []) (fun _ i10 => i10.1 :: blk b0 (.cells (A [(I p0.model), (O p0.alternate), (I p0.size.Rows), (I p0.size.Cols), (V s0), (I p0.cursor), (I p0.attrs)]) 105 (0, 0)) :: blk i4 (.cells (A [(F b0 0)]) 24 (0, 0)) :: blk b636 (.cells (A [(F i2.1 0)]) 70 (0, 0)) :: blk i2.1 (.cells (A [(V i10.2), (U d10.2.1), (O d10.2.2.1), (U d10.2.2.2.1), (U d10.2.2.2.2.1), (U d10.2.2.2.2.2.1), (U d10.2.2.2.2.2.2.1), (I d10.2.2.2.2.2.2.2)]) 78 (0, 0)) :: slO s0 49 en_Vapi_Cell p0.cells :: slO i10.2 5 (enI .u8) d10.1 :: blk l7 (.loop (rc7 .ready none)) :: blk D7 (.deferred (some [])) :: R) ?_ ?_
     ·refine c_block ?_
      refine c_loop (l_sub (sc J (sc J (sc J (sc J sn)))) (l_keep (kc rm0 (kc rm4 (kc rm0 (kc rm3 (kc rm3 (kc rm0 (kc rm2 (kc rm0 (kc rm0 kr))))))))) (lf (X := Int × (List Int) × Int × Bool × Int × Int × Int × Int × Int) (ι := HP × SV) (fun k x => read_Buffer_l11 p0 d9 k x) _ (fun x11 i11 => Ext X i11.1) (fun x11 i11 => [(7, (I x11.1)), (6, (I d9)), (0, (.func (.yield l7) #[] #[])), (1, (F i4 0))]) (fun x11 i11 => i11.1 :: blk i4 (.cells (A [(F b0 0)]) 24 (0, 0)) :: blk b0 (.cells (A [(I p0.model), (O p0.alternate), (I p0.size.Rows), (I p0.size.Cols), (V s0), (I p0.cursor), (I p0.attrs)]) 105 (0, 0)) :: blk b636 (.cells (A [(F i2.1 0)]) 70 (0, 0)) :: blk i2.1 (.cells (A [(V i11.2), (U x11.2.2.1), (O x11.2.2.2.1), (U x11.2.2.2.2.1), (U x11.2.2.2.2.2.1), (U x11.2.2.2.2.2.2.1), (U x11.2.2.2.2.2.2.2.1), (I x11.2.2.2.2.2.2.2.2)]) 78 (0, 0)) :: slO s0 49 en_Vapi_Cell p0.cells :: slO i11.2 5 (enI .u8) x11.2.1 :: blk l7 (.loop (rc7 .ready none)) :: blk D7 (.deferred (some [])) :: R) (fun _ => J) ?_ fuel (0, d2.1.out, d2.1.last.Char, d2.1.last.Attr, d2.1.last.FA, d2.1.last.High, d2.1.last.Color, d2.1.last.f_Set, d2.1.mode) (X, i2.2) (Ext.refl _) h)))
      clear h
      rintro k11 ih11 x11 i11 f11_0 h
      rw [read_Buffer_l11.eq_2] at h
      refine l_round (cr ?_)
      refine o1 J (o_p (v := (O (decide (x11.1 < d9)))) J ?_)
      refine oe (c_seq ?_)
      refine c_cond (b := (decide (x11.1 < d9))) J (fun hb898 => ?_) (fun hb898 => ?_)
      ·replace h := cond_t hb898 h
       refine c_skip (e_seq (c_seq (c_block (cr ?_))))
       refine op J J (op J J (oe (cr ?_)))
       refine op J J (op J J ?_)
       refine o1 J (o_ld (b := i4) (off := 0) (v := (F b0 0)) J rm1 J J ?_)
       refine op J J ?_
       replace h := bsome h
       obtain ⟨d14, h14, h⟩ := h
       refine o1 J (o_call has13 J (c_space_Space_At hg i11.1 (⟨p0.model, p0.alternate, p0.size, p0.cells, p0.cursor, p0.attrs⟩ : Vspace_Space) b0 s0 x11.1 _ h14) (pc rm0 (pc rm1 (pc rm3 pn))) ?_)
       refine o1 J (o_yield' hrc7 ht7 J J J J rm7 ?_)
       refine c_region ?_
       refine o1 J (o_alloc (cs := [(U 0), (O false), (U 0), (U 0), (U 0), (U 0)]) J J (fun b899 => ?_))
       refine o0 (o_st (b := b899) (off := 0) (vs := [(U d14.Char), (O d14.Attr), (U d14.FA), (U d14.High), (U d14.Color), (U d14.f_Set)]) (cs' := [(U d14.Char), (O d14.Attr), (U d14.FA), (U d14.High), (U d14.Color), (U d14.f_Set)]) J J rp0 J J J J J J ?_)
       refine o_end ?_
       refine e_begin' hrc7 rm1 ?_
       refine c_block (cr ?_)
       refine o1 J (o_fa (fd := ⟨ "Attr", 4, 1, false, "", "", 1⟩) J J J J J ?_)
       refine o1 J (o_ld (b := b899) (off := 1) (v := (O d14.Attr)) J rm1 J J ?_)
       refine oe ?_
       replace h := bsome h
       obtain ⟨d16, h, hk16⟩ := h
       refine cj (D := Unit) (ι := HP × SV) (fun _ i16 => (Ext X i16.1) ∧ (Ext i11.1 i16.1)) (fun _ i16 => []) (fun _ i16 => i16.1 :: blk b0 (.cells (A [(I p0.model), (O p0.alternate), (I p0.size.Rows), (I p0.size.Cols), (V s0), (I p0.cursor), (I p0.attrs)]) 105 (0, 0)) :: blk i4 (.cells (A [(F b0 0)]) 24 (0, 0)) :: blk b636 (.cells (A [(F i2.1 0)]) 70 (0, 0)) :: blk i2.1 (.cells (A [(V i16.2), (U d16.2.1), (O d16.2.2.1), (U d16.2.2.2.1), (U d16.2.2.2.2.1), (U d16.2.2.2.2.2.1), (U d16.2.2.2.2.2.2.1), (I d16.2.2.2.2.2.2.2)]) 78 (0, 0)) :: slO s0 49 en_Vapi_Cell p0.cells :: slO i16.2 5 (enI .u8) d16.1 :: blk l7 (.loop (rc7 .busy none)) :: blk D7 (.deferred (some [])) :: R) ?_ ?_
       ·refine c_cond (b := d14.Attr) J (fun hb901 => ?_) (fun hb901 => ?_)
        ·replace h := cond_t hb901 h
         refine c_region ?_
         refine o1 J (o_ld (b := b636) (off := 0) (v := (F i2.1 0)) J rm6 J J ?_)
         refine o1 J (o_ld (b := b899) (off := 0) (v := (.agg (A [(U d14.Char), (O d14.Attr), (U d14.FA), (U d14.High), (U d14.Color), (U d14.f_Set)]))) J rm1 J J ?_)
         replace h := bsome h
         obtain ⟨d17, h17, h⟩ := h
         refine o1 J (o_call has26 J (c_read_sender_attribute hg i11.1 (⟨x11.2.1, (⟨x11.2.2.1, x11.2.2.2.1, x11.2.2.2.2.1, x11.2.2.2.2.2.1, x11.2.2.2.2.2.2.1, x11.2.2.2.2.2.2.2.1⟩ : Vapi_Cell), x11.2.2.2.2.2.2.2.2⟩ : Vread_sender) i2.1 i11.2 (⟨d14.Char, d14.Attr, d14.FA, d14.High, d14.Color, d14.f_Set⟩ : Vapi_Cell) _ h17) (pc rm2 (pc rm6 (pc rm6 pn))) (fun i17 f17_0 => ?_))
         refine o_end ?_
         obtain rfl := si h
         exact ej () (i17.1, i17.2) ⟨(Ext.trans f11_0 f17_0), f17_0⟩ sn (kc rm0 (kc rm4 (kc rm5 (kc rm5 (kc rm0 (kc rm3 (kc rm0 (kc rm0 (kc rm1 (kd kr))))))))))
        ·replace h := cond_f hb901 h
         refine c_region ?_
         refine o1 J (o_ld (b := b636) (off := 0) (v := (F i2.1 0)) J rm6 J J ?_)
         refine o1 J (o_ld (b := b899) (off := 0) (v := (.agg (A [(U d14.Char), (O d14.Attr), (U d14.FA), (U d14.High), (U d14.Color), (U d14.f_Set)]))) J rm1 J J ?_)
         replace h := bsome h
         obtain ⟨d18, h18, h⟩ := h
         refine o1 J (o_call has27 J (c_read_sender_character hg i11.1 (⟨x11.2.1, (⟨x11.2.2.1, x11.2.2.2.1, x11.2.2.2.2.1, x11.2.2.2.2.2.1, x11.2.2.2.2.2.2.1, x11.2.2.2.2.2.2.2.1⟩ : Vapi_Cell), x11.2.2.2.2.2.2.2.2⟩ : Vread_sender) i2.1 i11.2 (⟨d14.Char, d14.Attr, d14.FA, d14.High, d14.Color, d14.f_Set⟩ : Vapi_Cell) _ h18) (pc rm2 (pc rm6 (pc rm6 pn))) (fun i18 => ?_))
         refine o_end ?_
         obtain rfl := si h
         exact ej () (i11.1, i18) ⟨f11_0, (Ext.refl _)⟩ sn (kc rm0 (kc rm4 (kc rm5 (kc rm5 (kc rm0 (kc rm3 (kc rm0 (kc rm0 (kc rm1 (kd kr))))))))))
       ·rintro _ i16 ⟨f16_0, f16_1⟩
        replace h := hk16
        clear hk16
        refine e_blk ?_
        refine e_on' hrc7 rm7 ?_
        refine o1 J (o_p (v := (O false)) J ?_)
        refine oe ?_
        refine c_cond_f J J ?_
        refine c_skip (e_blk (e_seq (c_region ?_)))
        refine o1 J (o_p (v := (I (w64 (x11.1 + 1)))) J ?_)
        refine op J J (o_end ?_)
        exact e_loop (l_sub (sc J (sc J (sc J (sc J sn)))) (l_keep (kc rm1 (kc rm2 (kc rm1 (kc rm1 (kc rm1 (kc rm1 (kc rm1 (kc rm0 (kc rm0 kr))))))))) (ih11 (w64 (x11.1 + 1), d16.1, d16.2.1, d16.2.2.1, d16.2.2.2.1, d16.2.2.2.2.1, d16.2.2.2.2.2.1, d16.2.2.2.2.2.2.1, d16.2.2.2.2.2.2.2) (i16.1, i16.2) f16_0 h)))
      ·replace h := cond_f hb898 h
       refine c_exit (e_then_exit (e_then_exit (e_blk_exit ?_)))
       obtain rfl := si h
       exact ej () (i11.1, i11.2) f11_0 sn (kc rm0 (kc rm1 (kc rm0 (kc rm0 (kc rm0 (kc rm0 (kc rm0 (kc rm0 (kc rm0 kr)))))))))
     ·rintro _ i10 f10_0
      replace h := hk10
      clear hk10
      refine e_fall ?_
      refine r_end (rs := []) (vs := []) J J ?_
      refine ke' hrc7 rm7 (by simp) ?_
      obtain rfl := si h
      exact ejd () (i10.1, i10.2, D7) f10_0 J (sc J sn) (kc rm0 (kc rm2 (kc rm0 (kc rm1 (kc rm1 (kc rm1 (kc rm1 (kd kr))))))))
    ·rintro _ i6 f6_0
     replace h := hk6
     clear hk6
     refine e_blk ?_
     obtain rfl := si h
     exact ejd () (i6.1, i6.2.1, i6.2.2) f6_0 J (sc J sn) (kc rm0 (kc rm0 (kc rm0 (kc rm0 (kc rm0 (kc rm0 (kc rm0 kr)))))))
   ·rintro _ i5 f5_0
    replace h := hk5
    clear hk5
    refine e_seq (cr ?_)
    refine o1 J (o_ld (b := b636) (off := 0) (v := (F i2.1 0)) J rm1 J J ?_)
    refine op J J ?_
    refine o1 J (o_fa (fd := ⟨ "out", 28, 0, false, "", "vitrine/read", 0⟩) J J J J J ?_)
    refine o1 J (o_ld (b := i2.1) (off := 0) (v := (V i5.2.1)) J rm3 J J ?_)
    refine op J J (op J J (oe (c_ret (e_ret ?_))))
    refine r_mark rm6 ?_
    refine r_endt J J (kc rm0 (kc rm1 (kc rm2 (kc rm2 (kd (kd kr)))))) ?_
    obtain rfl := si h
    exact hk (i5.1, i5.2.1) f5_0

theorem c_vitrineref05_Diff {g : Gw} (hg : GK g) (X : HP) (p0 : Vapi_Cell) (p1 : Vapi_Cell) (r : (List Vvitrineref05_Pair)) (h : m_vitrineref05_Diff p0 p1 = some r) : Tri env g 28 (A [(.agg (A [(U p0.Char), (O p0.Attr), (U p0.FA), (U p0.High), (U p0.Color), (U p0.f_Set)])), (.agg (A [(U p1.Char), (O p1.Attr), (U p1.FA), (U p1.High), (U p1.Color), (U p1.f_Set)]))]) [X] (fun K R => ∀ (i0 : SV), K (V i0) (X :: slO i0 82 en_Vvitrineref05_Pair r :: R)) := by
 refine tri_of (fn := Tryz.f28) (N := 40) Tryz.func28 J J J ?_
 intro R K hk
 unfold m_vitrineref05_Diff at h
 change GC _ none _ [] [(0, (.agg (A [(U p0.Char), (O p0.Attr), (U p0.FA), (U p0.High), (U p0.Color), (U p0.f_Set)]))), (1, (.agg (A [(U p1.Char), (O p1.Attr), (U p1.FA), (U p1.High), (U p1.Color), (U p1.f_Set)])))] (X :: R) g _ _
 refine cr ?_
 refine o1 J (o_box (cs := [(U p0.Char), (O p0.Attr), (U p0.FA), (U p0.High), (U p0.Color), (U p0.f_Set)]) J J (fun b919 => ?_))
 refine o1 J (o_box (cs := [(U p1.Char), (O p1.Attr), (U p1.FA), (U p1.High), (U p1.Color), (U p1.f_Set)]) J J (fun b921 => ?_))
 refine op J J (oe (cr (op J J ?_)))
 refine oe (c_seq (cr ?_))
 refine o1 J (o_fa (fd := ⟨ "High", 5, 3, false, "", "", 3⟩) J J J J J ?_)
 refine o1 J (o_ld (b := b919) (off := 3) (v := (U p0.High)) J rm1 J J ?_)
 refine o1 J (o_fa (fd := ⟨ "High", 5, 3, false, "", "", 3⟩) J J J J J ?_)
 refine o1 J (o_ld (b := b921) (off := 3) (v := (U p1.High)) J rm0 J J ?_)
 refine o1 J (o_p (v := (O (p0.High != p1.High))) J ?_)
 refine oe ?_
 replace h := bsome h
 obtain ⟨d1, h, hk1⟩ := h
 refine cj (D := Unit) (ι := SV) (fun _ i1 => True) (fun _ i1 => [(5, (V i1)), (3, (F b921 0)), (2, (F b919 0))]) (fun _ i1 => X :: slO i1 82 en_Vvitrineref05_Pair d1 :: blk b921 (.cells (A [(U p1.Char), (O p1.Attr), (U p1.FA), (U p1.High), (U p1.Color), (U p1.f_Set)]) 49 (0, 0)) :: blk b919 (.cells (A [(U p0.Char), (O p0.Attr), (U p0.FA), (U p0.High), (U p0.Color), (U p0.f_Set)]) 49 (0, 0)) :: R) ?_ ?_
 ·refine c_cond (b := (p0.High != p1.High)) J (fun hb923 => ?_) (fun hb923 => ?_)
  ·replace h := cond_t hb923 h
   refine c_region (op J J ?_)
   refine o1 J (o_fa (fd := ⟨ "High", 5, 3, false, "", "", 3⟩) J J J J J ?_)
   refine o1 J (o_ld (b := b921) (off := 3) (v := (U p1.High)) J rm0 J J ?_)
   refine o1 J (o_build (fs := f_0) (ps := [(0, 1), (1, 1)]) (cs := [(U 65), (U p1.High)]) J J J J J ?_)
   refine o1 J (o_bs (e := en_Vvitrineref05_Pair) (l := [(⟨65, p1.High⟩ : Vvitrineref05_Pair)]) (zs := [(U 0), (U 0)]) J J J J J J J J J J (fun s924 => ?_))
   refine o_add (slO SV.nil 82 en_Vvitrineref05_Pair []) (slO_nil _ _ _) ?_
   replace h := gsome h
   obtain ⟨hg927, h⟩ := h
   refine o1 J (o_app (s := SV.nil) (r := s924) (e := en_Vvitrineref05_Pair) (l := ([] : List Vvitrineref05_Pair)) (l2 := [(⟨65, p1.High⟩ : Vvitrineref05_Pair)]) (zs := [(U 0), (U 0)]) J J J J J J J J J J J rm0 rm0 (rd_own _ _ _ _) hg927 (fun s928 => ?_))
   refine op J J (o_end ?_)
   obtain rfl := si h
   exact ej () s928 trivial (sc J (sc J (sc J sn))) (kc rm4 (kc rm0 (kc rm1 (kc rm1 (kd kr)))))
  ·replace h := cond_f hb923 h
   refine c_skip ?_
   refine e_add (slO SV.nil 82 en_Vvitrineref05_Pair []) (slO_nil _ _ _) ?_
   obtain rfl := si h
   exact ej () SV.nil trivial (sc J (sc J (sc J sn))) (kc rm3 (kc rm0 (kc rm0 (kc rm0 kr))))
 ·rintro _ i1 _
  replace h := hk1
  clear hk1
  refine e_seq (c_seq (cr ?_))
  refine o1 J (o_fa (fd := ⟨ "Color", 5, 4, false, "", "", 4⟩) J J J J J ?_)
  refine o1 J (o_ld (b := b919) (off := 4) (v := (U p0.Color)) J rm3 J J ?_)
  refine o1 J (o_fa (fd := ⟨ "Color", 5, 4, false, "", "", 4⟩) J J J J J ?_)
  refine o1 J (o_ld (b := b921) (off := 4) (v := (U p1.Color)) J rm2 J J ?_)
  refine o1 J (o_p (v := (O (p0.Color != p1.Color))) J ?_)
  refine oe ?_
  replace h := bsome h
  obtain ⟨d2, h, hk2⟩ := h
  refine cj (D := Unit) (ι := SV) (fun _ i2 => True) (fun _ i2 => [(5, (V i2)), (3, (F b921 0)), (2, (F b919 0))]) (fun _ i2 => X :: slO i2 82 en_Vvitrineref05_Pair d2 :: blk b921 (.cells (A [(U p1.Char), (O p1.Attr), (U p1.FA), (U p1.High), (U p1.Color), (U p1.f_Set)]) 49 (0, 0)) :: blk b919 (.cells (A [(U p0.Char), (O p0.Attr), (U p0.FA), (U p0.High), (U p0.Color), (U p0.f_Set)]) 49 (0, 0)) :: R) ?_ ?_
  ·refine c_cond (b := (p0.Color != p1.Color)) J (fun hb931 => ?_) (fun hb931 => ?_)
   ·replace h := cond_t hb931 h
    refine c_region (op J J ?_)
    refine o1 J (o_fa (fd := ⟨ "Color", 5, 4, false, "", "", 4⟩) J J J J J ?_)
    refine o1 J (o_ld (b := b921) (off := 4) (v := (U p1.Color)) J rm2 J J ?_)
    refine o1 J (o_build (fs := f_0) (ps := [(0, 1), (1, 1)]) (cs := [(U 66), (U p1.Color)]) J J J J J ?_)
    refine o1 J (o_bs (e := en_Vvitrineref05_Pair) (l := [(⟨66, p1.Color⟩ : Vvitrineref05_Pair)]) (zs := [(U 0), (U 0)]) J J J J J J J J J J (fun s932 => ?_))
    replace h := gsome h
    obtain ⟨hg934, h⟩ := h
    refine o1 J (o_app (s := i1) (r := s932) (e := en_Vvitrineref05_Pair) (l := d1) (l2 := [(⟨66, p1.Color⟩ : Vvitrineref05_Pair)]) (zs := [(U 0), (U 0)]) J J J J J J J J J J J rm2 rm0 (rd_own _ _ _ _) hg934 (fun s935 => ?_))
    refine op J J (o_end ?_)
    obtain rfl := si h
    exact ej () s935 trivial (sc J (sc J (sc J sn))) (kc rm2 (kc rm0 (kc rm1 (kc rm1 (kd kr)))))
   ·replace h := cond_f hb931 h
    refine c_skip ?_
    obtain rfl := si h
    exact ej () i1 trivial (sc J (sc J (sc J sn))) (kc rm0 (kc rm0 (kc rm0 (kc rm0 kr))))
  ·rintro _ i2 _
   replace h := hk2
   clear hk2
   refine e_seq (c_seq (cr ?_))
   refine o1 J (o_fa (fd := ⟨ "Set", 5, 5, false, "", "", 5⟩) J J J J J ?_)
   refine o1 J (o_ld (b := b919) (off := 5) (v := (U p0.f_Set)) J rm3 J J ?_)
   refine o1 J (o_fa (fd := ⟨ "Set", 5, 5, false, "", "", 5⟩) J J J J J ?_)
   refine o1 J (o_ld (b := b921) (off := 5) (v := (U p1.f_Set)) J rm2 J J ?_)
   refine o1 J (o_p (v := (O (p0.f_Set != p1.f_Set))) J ?_)
   refine oe ?_
   replace h := bsome h
   obtain ⟨d3, h, hk3⟩ := h
   refine cj (D := Unit) (ι := SV) (fun _ i3 => True) (fun _ i3 => [(5, (V i3))]) (fun _ i3 => X :: slO i3 82 en_Vvitrineref05_Pair d3 :: R) ?_ ?_
   ·refine c_cond (b := (p0.f_Set != p1.f_Set)) J (fun hb938 => ?_) (fun hb938 => ?_)
    ·replace h := cond_t hb938 h
     refine c_region (op J J ?_)
     refine o1 J (o_fa (fd := ⟨ "Set", 5, 5, false, "", "", 5⟩) J J J J J ?_)
     refine o1 J (o_ld (b := b921) (off := 5) (v := (U p1.f_Set)) J rm2 J J ?_)
     refine o1 J (o_build (fs := f_0) (ps := [(0, 1), (1, 1)]) (cs := [(U 67), (U p1.f_Set)]) J J J J J ?_)
     refine o1 J (o_bs (e := en_Vvitrineref05_Pair) (l := [(⟨67, p1.f_Set⟩ : Vvitrineref05_Pair)]) (zs := [(U 0), (U 0)]) J J J J J J J J J J (fun s939 => ?_))
     replace h := gsome h
     obtain ⟨hg941, h⟩ := h
     refine o1 J (o_app (s := i2) (r := s939) (e := en_Vvitrineref05_Pair) (l := d2) (l2 := [(⟨67, p1.f_Set⟩ : Vvitrineref05_Pair)]) (zs := [(U 0), (U 0)]) J J J J J J J J J J J rm2 rm0 (rd_own _ _ _ _) hg941 (fun s942 => ?_))
     refine op J J (o_end ?_)
     obtain rfl := si h
     exact ej () s942 trivial (sc J sn) (kc rm2 (kc rm0 (kd (kd (kd kr)))))
    ·replace h := cond_f hb938 h
     refine c_skip ?_
     obtain rfl := si h
     exact ej () i2 trivial (sc J sn) (kc rm0 (kc rm0 (kd (kd kr))))
   ·rintro _ i3 _
    replace h := hk3
    clear hk3
    refine e_seq (cr (op J J (op J J (o_end ?_))))
    refine e_seq (c_ret (e_ret ?_))
    refine r_endt J J (kc rm0 (kc rm0 kr)) ?_
    obtain rfl := si h
    exact hk i3

theorem c_vitrineref05_Right {g : Gw} (hg : GK g) (X : HP) (p0 : Vvitrineref05_Pair) (r : Bool) (h : m_vitrineref05_Right p0 = some r) : Tri env g 29 (A [(.agg (A [(U p0.f_Type), (U p0.Value)]))]) [X] (fun K R => K (O r) (X :: R)) := by
 refine tri_of (fn := Tryz.f29) (N := 33) Tryz.func29 J J J ?_
 intro R K hk
 unfold m_vitrineref05_Right at h
 change GC _ none _ [] [(0, (.agg (A [(U p0.f_Type), (U p0.Value)])))] (X :: R) g _ _
 refine cr ?_
 refine o1 J (o_box (cs := [(U p0.f_Type), (U p0.Value)]) J J (fun b952 => ?_))
 refine op J J (oe (cr (op J J ?_)))
 refine oe (c_seq (cr ?_))
 refine o1 J (o_fa (fd := ⟨ "Type", 5, 0, false, "", "", 0⟩) J J J J J ?_)
 refine o1 J (o_ld (b := b952) (off := 0) (v := (U p0.f_Type)) J rm0 J J ?_)
 refine oe (c_block (cr ?_))
 refine o1 J (o_p (v := (O (p0.f_Type == 0))) J ?_)
 refine op J J (oe ?_)
 replace h := jn_some h
 obtain ⟨y2, h, hk2⟩ := h
 refine cj (D := (List Int)) (ι := SV) (fun d2 i2 => y2 = Sum.inl d2) (fun d2 i2 => [(3, (V i2)), (1, (F b952 0))]) (fun d2 i2 => X :: slO i2 5 (enI .u8) d2 :: blk b952 (.cells (A [(U p0.f_Type), (U p0.Value)]) 82 (0, 0)) :: R) ?_ ?_
 ·refine c_cond (b := (p0.f_Type == 0)) J (fun hb954 => ?_) (fun hb954 => ?_)
  ·replace h := cond_t hb954 h
   refine c_region ?_
   refine o1 J (o_bs (e := (enI .u8)) (l := [0]) (zs := [(U 0)]) J J J J J J J J J J (fun s955 => ?_))
   refine op J J (o_end ?_)
   obtain rfl := si h
   exact ej [0] s955 J (sc J (sc J sn)) (kc rm2 (kc rm0 (kc rm0 kr)))
  ·replace h := cond_f hb954 h
   refine cr ?_
   refine o1 J (o_p (v := (O (p0.f_Type == 192))) J ?_)
   refine op J J (oe ?_)
   refine c_cond (b := (p0.f_Type == 192)) J (fun hb957 => ?_) (fun hb957 => ?_)
   ·replace h := cond_t hb957 h
    refine cr (op J J (oe (c_ret ?_)))
    refine ej_ret ?_
    replace h := esc_some h
    obtain ⟨z2, h, rfl⟩ := h
    obtain rfl := (hk2 : z2 = _)
    refine e_blk_ret (e_then_ret (e_ret ?_))
    refine r_endt J J (kc rm1 (kd kr)) ?_
    obtain rfl := si h
    exact hk
   ·replace h := cond_f hb957 h
    refine cr ?_
    refine o1 J (o_p (v := (O (p0.f_Type == 65))) J ?_)
    refine op J J (oe ?_)
    refine c_cond (b := (p0.f_Type == 65)) J (fun hb958 => ?_) (fun hb958 => ?_)
    ·replace h := cond_t hb958 h
     refine c_region ?_
     refine o1 J (o_bs (e := (enI .u8)) (l := [0, 240, 241, 242, 244, 248]) (zs := [(U 0)]) J J J J J J J J J J (fun s959 => ?_))
     refine op J J (o_end ?_)
     obtain rfl := si h
     exact ej [0, 240, 241, 242, 244, 248] s959 J (sc J (sc J sn)) (kc rm2 (kc rm0 (kc rm0 kr)))
    ·replace h := cond_f hb958 h
     refine cr ?_
     refine o1 J (o_p (v := (O (p0.f_Type == 66))) J ?_)
     refine op J J (oe ?_)
     refine c_cond (b := (p0.f_Type == 66)) J (fun hb961 => ?_) (fun hb961 => ?_)
     ·replace h := cond_t hb961 h
      refine c_region ?_
      refine o1 J (o_bs (e := (enI .u8)) (l := [0, 241, 242, 243, 244, 245, 246, 247]) (zs := [(U 0)]) J J J J J J J J J J (fun s962 => ?_))
      refine op J J (o_end ?_)
      obtain rfl := si h
      exact ej [0, 241, 242, 243, 244, 245, 246, 247] s962 J (sc J (sc J sn)) (kc rm2 (kc rm0 (kc rm0 kr)))
     ·replace h := cond_f hb961 h
      refine cr ?_
      refine o1 J (o_p (v := (O (p0.f_Type == 67))) J ?_)
      refine op J J (oe ?_)
      refine c_cond (b := (p0.f_Type == 67)) J (fun hb964 => ?_) (fun hb964 => ?_)
      ·replace h := cond_t hb964 h
       refine c_region ?_
       refine o1 J (o_bs (e := (enI .u8)) (l := [0, 241]) (zs := [(U 0)]) J J J J J J J J J J (fun s965 => ?_))
       refine op J J (o_end ?_)
       obtain rfl := si h
       exact ej [0, 241] s965 J (sc J (sc J sn)) (kc rm2 (kc rm0 (kc rm0 kr)))
      ·replace h := cond_f hb964 h
       refine c_skip ?_
       refine e_add (slO SV.nil 5 (enI .u8) []) (slO_nil _ _ _) ?_
       obtain rfl := si h
       exact ej ([] : List Int) SV.nil J (sc J (sc J sn)) (kc rm2 (kc rm0 (kc rm0 kr)))
 ·rintro d2 i2 rfl
  replace h := JK_inl hk2
  clear hk2
  refine e_blk (e_seq (c_seq (cr (op J J ?_))))
  refine o1 J (o_len (s := i2) J J J rm1 (rd_own _ _ _ _) ?_)
  refine op J J (oe ?_)
  replace h := jn_some h
  obtain ⟨y3, h, hk3⟩ := h
  refine cj (D := Unit) (ι := Unit) (fun d3 i3 => y3 = Sum.inl d3) (fun d3 i3 => []) (fun d3 i3 => X :: R) ?_ ?_
  ·refine c_block ?_
   refine c_loop (l_sub (sc J (sc J (sc J (sc J sn)))) (l_keep (kc rm0 (kc rm0 (kc rm0 kr))) (lf (X := Int) (ι := Unit) (fun k x => vitrineref05_Right_l4 p0 d2 k x) _ (fun x4 i4 => True) (fun x4 i4 => [(24, (I x4)), (23, (I (d2.length : Int))), (22, (V i2)), (1, (F b952 0))]) (fun x4 i4 => X :: slO i2 5 (enI .u8) d2 :: blk b952 (.cells (A [(U p0.f_Type), (U p0.Value)]) 82 (0, 0)) :: R) (fun _ => J) ?_ fuel 0 () trivial h)))
   clear h
   rintro k4 ih4 x4 i4 _ h
   rw [vitrineref05_Right_l4.eq_2] at h
   refine l_round (cr ?_)
   refine o1 J (o_p (v := (O (decide (x4 < (d2.length : Int))))) J ?_)
   refine oe (c_seq ?_)
   refine c_cond (b := (decide (x4 < (d2.length : Int)))) J (fun hb975 => ?_) (fun hb975 => ?_)
   ·replace h := cond_t hb975 h
    refine c_skip (e_seq (c_seq (c_block (cr ?_))))
    replace h := gsome h
    obtain ⟨hg976, h⟩ := h
    refine o1 J (o_ix (s := i2) (n := x4) (e := (enI .u8)) J J J J J J rm1 (rd_own _ _ _ _) hg976 ?_)
    refine o1 J (o_ldE (s := i2) (e := (enI .u8)) (n := x4) (f := 0) (v := (U (rd d2 x4))) J rm1 (rd_own _ _ _ _) hg976 J J ?_)
    refine op J J (oe (cr (op J J ?_)))
    refine o1 J (o_fa (fd := ⟨ "Value", 5, 1, false, "", "", 1⟩) J J J J J ?_)
    refine o1 J (o_ld (b := b952) (off := 1) (v := (U p0.Value)) J rm2 J J ?_)
    refine o1 J (o_p (v := (O ((rd d2 x4) == p0.Value))) J ?_)
    refine oe ?_
    refine c_cond (b := ((rd d2 x4) == p0.Value)) J (fun hb977 => ?_) (fun hb977 => ?_)
    ·replace h := cond_t hb977 h
     refine cr (op J J (oe (c_ret ?_)))
     refine e_blk_ret (e_then_ret (e_then_ret (e_blk_ret (ej_ret ?_))))
     replace h := esc_some h
     obtain ⟨z3, h, rfl⟩ := h
     obtain rfl := (hk3 : z3 = _)
     refine e_then_ret (e_ret ?_)
     refine r_endt J J (kc rm0 (kd (kd kr))) ?_
     obtain rfl := si h
     exact hk
    ·replace h := cond_f hb977 h
     refine c_skip (e_blk (e_seq (c_region ?_)))
     refine o1 J (o_p (v := (I (w64 (x4 + 1)))) J ?_)
     refine op J J (o_end ?_)
     exact e_loop (l_sub (sc J (sc J (sc J (sc J sn)))) (l_keep (kc rm0 (kc rm0 (kc rm0 kr))) (ih4 (w64 (x4 + 1)) () trivial h)))
   ·replace h := cond_f hb975 h
    refine c_exit (e_then_exit (e_then_exit (e_blk_exit ?_)))
    obtain rfl := si h
    exact ej () () J sn (kc rm0 (kd (kd kr)))
  ·rintro d3 i3 rfl
   replace h := JK_inl hk3
   clear hk3
   refine e_seq (cr (op J J (oe ?_)))
   refine c_ret (e_ret ?_)
   refine r_endt J J (kc rm0 kr) ?_
   obtain rfl := si h
   exact hk

theorem c_vitrinelaw20_looks {g : Gw} (hg : GK g) (X : HP) (p0 : Vvitrineref12_Space) (b0 : Nat) (s0 : SV) (r : Bool) (h : m_vitrinelaw20_looks p0 = some r) : Tri env g 7 (A [(F b0 0)]) [X, blk b0 (.cells (A [(I p0.Model), (O p0.Alt), (I p0.Size.Rows), (I p0.Size.Cols), (V s0), (I p0.Cursor)]) 40 (0, 0)), slO s0 49 en_Vapi_Cell p0.L] (fun K R => K (O r) (X :: blk b0 (.cells (A [(I p0.Model), (O p0.Alt), (I p0.Size.Rows), (I p0.Size.Cols), (V s0), (I p0.Cursor)]) 40 (0, 0)) :: slO s0 49 en_Vapi_Cell p0.L :: R)) := by
 refine tri_of (fn := Tryz.f7) (N := 29) Tryz.func7 J J J ?_
 intro R K hk
 unfold m_vitrinelaw20_looks at h
 change GC _ none _ [] [(0, (F b0 0))] (X :: blk b0 (.cells (A [(I p0.Model), (O p0.Alt), (I p0.Size.Rows), (I p0.Size.Cols), (V s0), (I p0.Cursor)]) 40 (0, 0)) :: slO s0 49 en_Vapi_Cell p0.L :: R) g _ _
 refine cr (op J J (oe (c_seq ?_)))
 refine cr (op J J (op J J ?_))
 refine o1 J (o_fa (fd := ⟨ "L", 33, 4, false, "", "", 32⟩) J J J J J ?_)
 refine o1 J (o_ld (b := b0) (off := 4) (v := (V s0)) J rm1 J J ?_)
 refine o1 J (o_len (s := s0) J J J rm2 (rd_own _ _ _ _) ?_)
 refine op J J (oe ?_)
 replace h := jn_some h
 obtain ⟨y1, h, hk1⟩ := h
 refine cj (D := Unit) (ι := Unit) (fun d1 i1 => y1 = Sum.inl d1) (fun d1 i1 => []) (fun d1 i1 => X :: blk b0 (.cells (A [(I p0.Model), (O p0.Alt), (I p0.Size.Rows), (I p0.Size.Cols), (V s0), (I p0.Cursor)]) 40 (0, 0)) :: slO s0 49 en_Vapi_Cell p0.L :: R) ?_ ?_
 ·refine c_block ?_
  refine c_loop (l_sub (sc J (sc J (sc J sn))) (l_keep (kc rm0 (kc rm1 (kc rm0 kr))) (lf (X := Int) (ι := Unit) (fun k x => vitrinelaw20_looks_l2 p0 k x) _ (fun x2 i2 => True) (fun x2 i2 => [(12, (I x2)), (11, (I (p0.L.length : Int))), (10, (V s0))]) (fun x2 i2 => X :: slO s0 49 en_Vapi_Cell p0.L :: blk b0 (.cells (A [(I p0.Model), (O p0.Alt), (I p0.Size.Rows), (I p0.Size.Cols), (V s0), (I p0.Cursor)]) 40 (0, 0)) :: R) (fun _ => J) ?_ fuel 0 () trivial h)))
  clear h
  rintro k2 ih2 x2 i2 _ h
  rw [vitrinelaw20_looks_l2.eq_2] at h
  refine l_round (cr ?_)
  refine o1 J (o_p (v := (O (decide (x2 < (p0.L.length : Int))))) J ?_)
  refine oe (c_seq ?_)
  refine c_cond (b := (decide (x2 < (p0.L.length : Int)))) J (fun hb1009 => ?_) (fun hb1009 => ?_)
  ·replace h := cond_t hb1009 h
   refine c_skip (e_seq (c_seq ?_))
   replace h := jn_some h
   obtain ⟨y4, h, hk4⟩ := h
   refine cj (D := Unit) (ι := Unit) (fun d4 i4 => y4 = Sum.inl d4) (fun d4 i4 => [(12, (I x2)), (11, (I (p0.L.length : Int))), (10, (V s0))]) (fun d4 i4 => X :: slO s0 49 en_Vapi_Cell p0.L :: blk b0 (.cells (A [(I p0.Model), (O p0.Alt), (I p0.Size.Rows), (I p0.Size.Cols), (V s0), (I p0.Cursor)]) 40 (0, 0)) :: R) ?_ ?_
   ·refine c_block (cr ?_)
    replace h := gsome h
    obtain ⟨hg1010, h⟩ := h
    refine o1 J (o_ix (s := s0) (n := x2) (e := en_Vapi_Cell) J J J J J J rm1 (rd_own _ _ _ _) hg1010 ?_)
    refine o1 J (o_ldE (s := s0) (e := en_Vapi_Cell) (n := x2) (f := 0) (v := (.agg (A [(U ((rd p0.L x2).Char)), (O ((rd p0.L x2).Attr)), (U ((rd p0.L x2).FA)), (U ((rd p0.L x2).High)), (U ((rd p0.L x2).Color)), (U ((rd p0.L x2).f_Set))]))) J rm1 (rd_own _ _ _ _) hg1010 J J ?_)
    refine o1 J (o_alloc (cs := [(U 0), (O false), (U 0), (U 0), (U 0), (U 0)]) J J (fun b1011 => ?_))
    refine o0 (o_st (b := b1011) (off := 0) (vs := [(U ((rd p0.L x2).Char)), (O ((rd p0.L x2).Attr)), (U ((rd p0.L x2).FA)), (U ((rd p0.L x2).High)), (U ((rd p0.L x2).Color)), (U ((rd p0.L x2).f_Set))]) (cs' := [(U ((rd p0.L x2).Char)), (O ((rd p0.L x2).Attr)), (U ((rd p0.L x2).FA)), (U ((rd p0.L x2).High)), (U ((rd p0.L x2).Color)), (U ((rd p0.L x2).f_Set))]) J J rp0 J J J J J J ?_)
    refine oe (cr ?_)
    refine o1 J (o_build (fs := f_1) (ps := [(0, 1), (1, 1), (2, 1), (3, 1), (4, 1), (5, 1)]) (cs := [(U 0), (O false), (U 0), (U 0), (U 0), (U 0)]) J J J J J ?_)
    refine o1 J (o_ld (b := b1011) (off := 0) (v := (.agg (A [(U ((rd p0.L x2).Char)), (O ((rd p0.L x2).Attr)), (U ((rd p0.L x2).FA)), (U ((rd p0.L x2).High)), (U ((rd p0.L x2).Color)), (U ((rd p0.L x2).f_Set))]))) J rm0 J J ?_)
    replace h := bsome h
    obtain ⟨d5, h5, h⟩ := h
    refine o1 J (o_call has28 J (c_vitrineref05_Diff hg X (⟨0, false, 0, 0, 0, 0⟩ : Vapi_Cell) (rd p0.L x2) _ h5) (pc rm1 pn) (fun i5 => ?_))
    refine o1 J (o_len (s := i5) J J J rm1 (rd_own _ _ _ _) ?_)
    refine op J J (oe ?_)
    replace h := jn_some h
    obtain ⟨y6, h, hk6⟩ := h
    refine cj (D := Unit) (ι := Unit) (fun d6 i6 => y6 = Sum.inl d6) (fun d6 i6 => [(12, (I x2)), (11, (I (p0.L.length : Int))), (10, (V s0))]) (fun d6 i6 => X :: slO s0 49 en_Vapi_Cell p0.L :: blk b0 (.cells (A [(I p0.Model), (O p0.Alt), (I p0.Size.Rows), (I p0.Size.Cols), (V s0), (I p0.Cursor)]) 40 (0, 0)) :: R) ?_ ?_
    ·refine c_block ?_
     refine c_loop (l_sub (sc J (sc J (sc J (sc J (sc J (sc J sn)))))) (l_keep (kc rm0 (kc rm0 (kc rm1 (kc rm1 (kd kr))))) (lf (X := Int) (ι := Unit) (fun k x => vitrinelaw20_looks_l7 d5 k x) _ (fun x7 i7 => True) (fun x7 i7 => [(20, (I x7)), (19, (I (d5.length : Int))), (18, (V i5)), (12, (I x2)), (11, (I (p0.L.length : Int))), (10, (V s0))]) (fun x7 i7 => X :: slO i5 82 en_Vvitrineref05_Pair d5 :: slO s0 49 en_Vapi_Cell p0.L :: blk b0 (.cells (A [(I p0.Model), (O p0.Alt), (I p0.Size.Rows), (I p0.Size.Cols), (V s0), (I p0.Cursor)]) 40 (0, 0)) :: R) (fun _ => J) ?_ fuel 0 () trivial h)))
     clear h
     rintro k7 ih7 x7 i7 _ h
     rw [vitrinelaw20_looks_l7.eq_2] at h
     refine l_round (cr ?_)
     refine o1 J (o_p (v := (O (decide (x7 < (d5.length : Int))))) J ?_)
     refine oe (c_seq ?_)
     refine c_cond (b := (decide (x7 < (d5.length : Int)))) J (fun hb1024 => ?_) (fun hb1024 => ?_)
     ·replace h := cond_t hb1024 h
      refine c_skip (e_seq (c_seq (c_block (cr ?_))))
      replace h := gsome h
      obtain ⟨hg1025, h⟩ := h
      refine o1 J (o_ix (s := i5) (n := x7) (e := en_Vvitrineref05_Pair) J J J J J J rm1 (rd_own _ _ _ _) hg1025 ?_)
      refine o1 J (o_ldE (s := i5) (e := en_Vvitrineref05_Pair) (n := x7) (f := 0) (v := (.agg (A [(U ((rd d5 x7).f_Type)), (U ((rd d5 x7).Value))]))) J rm1 (rd_own _ _ _ _) hg1025 J J ?_)
      refine o1 J (o_alloc (cs := [(U 0), (U 0)]) J J (fun b1026 => ?_))
      refine o0 (o_st (b := b1026) (off := 0) (vs := [(U ((rd d5 x7).f_Type)), (U ((rd d5 x7).Value))]) (cs' := [(U ((rd d5 x7).f_Type)), (U ((rd d5 x7).Value))]) J J rp0 J J J J J J ?_)
      refine oe (cr ?_)
      refine o1 J (o_ld (b := b1026) (off := 0) (v := (.agg (A [(U ((rd d5 x7).f_Type)), (U ((rd d5 x7).Value))]))) J rm0 J J ?_)
      replace h := bsome h
      obtain ⟨d10, h10, h⟩ := h
      refine o1 J (o_call has29 J (c_vitrineref05_Right hg X (rd d5 x7) _ h10) (pc rm1 pn) ?_)
      refine o1 J (o_p (v := (O (!d10))) J ?_)
      refine oe ?_
      refine c_cond (b := (!d10)) J (fun hb1028 => ?_) (fun hb1028 => ?_)
      ·replace h := cond_t hb1028 h
       refine cr (op J J (oe (c_ret ?_)))
       refine e_blk_ret (e_then_ret (e_then_ret (e_blk_ret (ej_ret ?_))))
       replace h := esc_some h
       obtain ⟨z6, h, rfl⟩ := h
       obtain rfl := (hk6 : z6 = _)
       refine e_blk_ret (ej_ret ?_)
       replace h := esc_some h
       obtain ⟨z4, h, rfl⟩ := h
       obtain rfl := (hk4 : z4 = _)
       refine e_then_ret (e_then_ret (e_blk_ret (ej_ret ?_)))
       replace h := esc_some h
       obtain ⟨z1, h, rfl⟩ := h
       obtain rfl := (hk1 : z1 = _)
       refine e_then_ret (e_ret ?_)
       refine r_endt J J (kc rm0 (kc rm3 (kc rm2 (kd (kd kr))))) ?_
       obtain rfl := si h
       exact hk
      ·replace h := cond_f hb1028 h
       refine c_skip (e_blk (e_seq (c_region ?_)))
       refine o1 J (o_p (v := (I (w64 (x7 + 1)))) J ?_)
       refine op J J (o_end ?_)
       exact e_loop (l_sub (sc J (sc J (sc J (sc J (sc J (sc J sn)))))) (l_keep (kc rm0 (kc rm1 (kc rm1 (kc rm1 (kd kr))))) (ih7 (w64 (x7 + 1)) () trivial h)))
     ·replace h := cond_f hb1024 h
      refine c_exit (e_then_exit (e_then_exit (e_blk_exit ?_)))
      obtain rfl := si h
      exact ej () () J (sc J (sc J (sc J sn))) (kc rm0 (kc rm1 (kc rm1 (kd kr))))
    ·rintro d6 i6 rfl
     replace h := JK_inl hk6
     clear hk6
     refine e_blk ?_
     obtain rfl := si h
     exact ej () () J (sc J (sc J (sc J sn))) (kc rm0 (kc rm0 (kc rm0 kr)))
   ·rintro d4 i4 rfl
    replace h := JK_inl hk4
    clear hk4
    refine e_seq (c_region ?_)
    refine o1 J (o_p (v := (I (w64 (x2 + 1)))) J ?_)
    refine op J J (o_end ?_)
    exact e_loop (l_sub (sc J (sc J (sc J sn))) (l_keep (kc rm0 (kc rm0 (kc rm0 kr))) (ih2 (w64 (x2 + 1)) () trivial h)))
  ·replace h := cond_f hb1009 h
   refine c_exit (e_then_exit (e_then_exit (e_blk_exit ?_)))
   obtain rfl := si h
   exact ej () () J sn (kc rm0 (kc rm1 (kc rm0 kr)))
 ·rintro d1 i1 rfl
  replace h := JK_inl hk1
  clear hk1
  refine e_seq (cr (op J J (oe ?_)))
  refine c_ret (e_ret ?_)
  refine r_endt J J (kc rm0 (kc rm0 (kc rm0 kr))) ?_
  obtain rfl := si h
  exact hk

theorem c_attr_Pair_Apply {g : Gw} (hg : GK g) (X : HP) (p0 : Vattr_Pair) (p1 : Vapi_Cell) (r : Vapi_Cell × Int) (h : m_attr_Pair_Apply p0 p1 = some r) : Tri env g 61 (A [(.agg (A [(U p0.f_Type), (U p0.Value)])), (.agg (A [(U p1.Char), (O p1.Attr), (U p1.FA), (U p1.High), (U p1.Color), (U p1.f_Set)]))]) [X] (fun K R => K (.tuple (A [(.agg (A [(U r.1.Char), (O r.1.Attr), (U r.1.FA), (U r.1.High), (U r.1.Color), (U r.1.f_Set)])), (I r.2)])) (X :: R)) := by
 refine tri_of (fn := Tryz.f61) (N := 44) Tryz.func61 J J J ?_
 intro R K hk
 unfold m_attr_Pair_Apply at h
 change GC _ none _ [] [(0, (.agg (A [(U p0.f_Type), (U p0.Value)]))), (1, (.agg (A [(U p1.Char), (O p1.Attr), (U p1.FA), (U p1.High), (U p1.Color), (U p1.f_Set)])))] (X :: R) g _ _
 refine cr ?_
 refine o1 J (o_box (cs := [(U p0.f_Type), (U p0.Value)]) J J (fun b1064 => ?_))
 refine o1 J (o_box (cs := [(U p1.Char), (O p1.Attr), (U p1.FA), (U p1.High), (U p1.Color), (U p1.f_Set)]) J J (fun b1066 => ?_))
 refine o1 J (o_alloc (cs := [(U 0), (O false), (U 0), (U 0), (U 0), (U 0)]) J J (fun b1068 => ?_))
 refine op J J (oe (c_seq (cr ?_)))
 refine o1 J (o_ld (b := b1064) (off := 0) (v := (.agg (A [(U p0.f_Type), (U p0.Value)]))) J rm2 J J ?_)
 replace h := bsome h
 obtain ⟨d1, h1, h⟩ := h
 refine o1 J (o_call has82 J (c_attr_Pair_Check hg X p0 _ h1) (pc rm3 pn) ?_)
 refine op J J (oe (cr (op J J ?_)))
 refine o1 J (o_p (v := (O (d1 != 0))) J ?_)
 refine oe ?_
 refine c_cond (b := (d1 != 0)) J (fun hb1070 => ?_) (fun hb1070 => ?_)
 ·replace h := cond_t hb1070 h
  refine cr ?_
  refine o1 J (o_build (fs := f_1) (ps := [(0, 1), (1, 1), (2, 1), (3, 1), (4, 1), (5, 1)]) (cs := [(U 0), (O false), (U 0), (U 0), (U 0), (U 0)]) J J J J J ?_)
  refine op J J ?_
  refine o0 (o_st (b := b1068) (off := 0) (vs := [(U 0), (O false), (U 0), (U 0), (U 0), (U 0)]) (cs' := [(U 0), (O false), (U 0), (U 0), (U 0), (U 0)]) J J rp1 J J J J J J ?_)
  refine op J J (oe (c_ret (e_then_ret (e_ret ?_))))
  refine r_endc (B := [[(U 0), (O false), (U 0), (U 0), (U 0), (U 0)]]) J ⟨⟨_, _, _, _, J, rm1⟩, trivial⟩ J (kc rm0 (kd (kd (kd kr)))) ?_
  obtain rfl := si h
  exact hk
 ·replace h := cond_f hb1070 h
  refine c_skip (e_seq (c_seq (cr ?_)))
  refine o1 J (o_fa (fd := ⟨ "Type", 5, 0, false, "", "", 0⟩) J J J J J ?_)
  refine o1 J (o_ld (b := b1064) (off := 0) (v := (U p0.f_Type)) J rm3 J J ?_)
  refine oe (c_block (cr ?_))
  refine o1 J (o_p (v := (O (p0.f_Type == 0))) J ?_)
  refine op J J (oe ?_)
  replace h := bsome h
  obtain ⟨d4, h, hk4⟩ := h
  refine cj (D := Unit) (ι := Unit) (fun _ i4 => True) (fun _ i4 => [(4, (F b1068 0)), (3, (F b1066 0))]) (fun _ i4 => X :: blk b1068 (.cells (A [(U 0), (O false), (U 0), (U 0), (U 0), (U 0)]) 49 (0, 0)) :: blk b1066 (.cells (A [(U p1.Char), (O p1.Attr), (U d4.1), (U d4.2.1), (U d4.2.2.1), (U d4.2.2.2)]) 49 (0, 0)) :: R) ?_ ?_
  ·refine c_cond (b := (p0.f_Type == 0)) J (fun hb1071 => ?_) (fun hb1071 => ?_)
   ·replace h := cond_t hb1071 h
    refine c_region ?_
    refine o1 J (o_fa (fd := ⟨ "High", 5, 3, false, "", "", 3⟩) J J J J J ?_)
    refine o0 (o_st (b := b1066) (off := 3) (vs := [(U 0)]) (cs' := [(U p1.Char), (O p1.Attr), (U p1.FA), (U 0), (U p1.Color), (U p1.f_Set)]) J J rp2 J J J J J J ?_)
    refine o1 J (o_fa (fd := ⟨ "Color", 5, 4, false, "", "", 4⟩) J J J J J ?_)
    refine o0 (o_st (b := b1066) (off := 4) (vs := [(U 0)]) (cs' := [(U p1.Char), (O p1.Attr), (U p1.FA), (U 0), (U 0), (U p1.f_Set)]) J J rp2 J J J J J J ?_)
    refine o1 J (o_fa (fd := ⟨ "Set", 5, 5, false, "", "", 5⟩) J J J J J ?_)
    refine o0 (o_st (b := b1066) (off := 5) (vs := [(U 0)]) (cs' := [(U p1.Char), (O p1.Attr), (U p1.FA), (U 0), (U 0), (U 0)]) J J rp2 J J J J J J ?_)
    refine o_end ?_
    obtain rfl := si h
    exact ej () () trivial (sc J (sc J sn)) (kc rm0 (kc rm0 (kc rm0 (kd kr))))
   ·replace h := cond_f hb1071 h
    refine cr ?_
    refine o1 J (o_p (v := (O (p0.f_Type == 192))) J ?_)
    refine op J J (oe ?_)
    refine c_cond (b := (p0.f_Type == 192)) J (fun hb1072 => ?_) (fun hb1072 => ?_)
    ·replace h := cond_t hb1072 h
     refine cr ?_
     refine o1 J (o_fa (fd := ⟨ "Attr", 4, 1, false, "", "", 1⟩) J J J J J ?_)
     refine o1 J (o_ld (b := b1066) (off := 1) (v := (O p1.Attr)) J rm2 J J ?_)
     refine oe ?_
     refine c_cond (b := p1.Attr) J (fun hb1073 => ?_) (fun hb1073 => ?_)
     ·replace h := cond_t hb1073 h
      refine c_region ?_
      refine o1 J (o_fa (fd := ⟨ "Value", 5, 1, false, "", "", 1⟩) J J J J J ?_)
      refine o1 J (o_ld (b := b1064) (off := 1) (v := (U p0.Value)) J rm3 J J ?_)
      refine o1 J (o_p (v := (U (iband .u8 p0.Value 61))) J ?_)
      refine o1 J (o_fa (fd := ⟨ "FA", 5, 2, false, "", "", 2⟩) J J J J J ?_)
      refine o0 (o_st (b := b1066) (off := 2) (vs := [(U (iband .u8 p0.Value 61))]) (cs' := [(U p1.Char), (O p1.Attr), (U (iband .u8 p0.Value 61)), (U p1.High), (U p1.Color), (U p1.f_Set)]) J J rp2 J J J J J J ?_)
      refine o_end ?_
      obtain rfl := si h
      exact ej () () trivial (sc J (sc J sn)) (kc rm0 (kc rm0 (kc rm0 (kd kr))))
     ·replace h := cond_f hb1073 h
      refine c_skip ?_
      obtain rfl := si h
      exact ej () () trivial (sc J (sc J sn)) (kc rm0 (kc rm0 (kc rm0 (kd kr))))
    ·replace h := cond_f hb1072 h
     refine cr ?_
     refine o1 J (o_p (v := (O (p0.f_Type == 65))) J ?_)
     refine op J J (oe ?_)
     refine c_cond (b := (p0.f_Type == 65)) J (fun hb1074 => ?_) (fun hb1074 => ?_)
     ·replace h := cond_t hb1074 h
      refine c_region ?_
      refine o1 J (o_fa (fd := ⟨ "Value", 5, 1, false, "", "", 1⟩) J J J J J ?_)
      refine o1 J (o_ld (b := b1064) (off := 1) (v := (U p0.Value)) J rm3 J J ?_)
      refine o1 J (o_fa (fd := ⟨ "High", 5, 3, false, "", "", 3⟩) J J J J J ?_)
      refine o0 (o_st (b := b1066) (off := 3) (vs := [(U p0.Value)]) (cs' := [(U p1.Char), (O p1.Attr), (U p1.FA), (U p0.Value), (U p1.Color), (U p1.f_Set)]) J J rp2 J J J J J J ?_)
      refine o_end ?_
      obtain rfl := si h
      exact ej () () trivial (sc J (sc J sn)) (kc rm0 (kc rm0 (kc rm0 (kd kr))))
     ·replace h := cond_f hb1074 h
      refine cr ?_
      refine o1 J (o_p (v := (O (p0.f_Type == 66))) J ?_)
      refine op J J (oe ?_)
      refine c_cond (b := (p0.f_Type == 66)) J (fun hb1075 => ?_) (fun hb1075 => ?_)
      ·replace h := cond_t hb1075 h
       refine c_region ?_
       refine o1 J (o_fa (fd := ⟨ "Value", 5, 1, false, "", "", 1⟩) J J J J J ?_)
       refine o1 J (o_ld (b := b1064) (off := 1) (v := (U p0.Value)) J rm3 J J ?_)
       refine o1 J (o_fa (fd := ⟨ "Color", 5, 4, false, "", "", 4⟩) J J J J J ?_)
       refine o0 (o_st (b := b1066) (off := 4) (vs := [(U p0.Value)]) (cs' := [(U p1.Char), (O p1.Attr), (U p1.FA), (U p1.High), (U p0.Value), (U p1.f_Set)]) J J rp2 J J J J J J ?_)
       refine o_end ?_
       obtain rfl := si h
       exact ej () () trivial (sc J (sc J sn)) (kc rm0 (kc rm0 (kc rm0 (kd kr))))
      ·replace h := cond_f hb1075 h
       refine cr ?_
       refine o1 J (o_p (v := (O (p0.f_Type == 67))) J ?_)
       refine op J J (oe ?_)
       refine c_cond (b := (p0.f_Type == 67)) J (fun hb1076 => ?_) (fun hb1076 => ?_)
       ·replace h := cond_t hb1076 h
        refine c_region ?_
        refine o1 J (o_fa (fd := ⟨ "Value", 5, 1, false, "", "", 1⟩) J J J J J ?_)
        refine o1 J (o_ld (b := b1064) (off := 1) (v := (U p0.Value)) J rm3 J J ?_)
        refine o1 J (o_fa (fd := ⟨ "Set", 5, 5, false, "", "", 5⟩) J J J J J ?_)
        refine o0 (o_st (b := b1066) (off := 5) (vs := [(U p0.Value)]) (cs' := [(U p1.Char), (O p1.Attr), (U p1.FA), (U p1.High), (U p1.Color), (U p0.Value)]) J J rp2 J J J J J J ?_)
        refine o_end ?_
        obtain rfl := si h
        exact ej () () trivial (sc J (sc J sn)) (kc rm0 (kc rm0 (kc rm0 (kd kr))))
       ·replace h := cond_f hb1076 h
        refine c_skip ?_
        obtain rfl := si h
        exact ej () () trivial (sc J (sc J sn)) (kc rm0 (kc rm0 (kc rm0 (kd kr))))
  ·rintro _ i4 _
   replace h := hk4
   clear hk4
   refine e_blk (e_seq (cr ?_))
   refine o1 J (o_ld (b := b1066) (off := 0) (v := (.agg (A [(U p1.Char), (O p1.Attr), (U d4.1), (U d4.2.1), (U d4.2.2.1), (U d4.2.2.2)]))) J rm2 J J ?_)
   refine o0 (o_st (b := b1068) (off := 0) (vs := [(U p1.Char), (O p1.Attr), (U d4.1), (U d4.2.1), (U d4.2.2.1), (U d4.2.2.2)]) (cs' := [(U p1.Char), (O p1.Attr), (U d4.1), (U d4.2.1), (U d4.2.2.1), (U d4.2.2.2)]) J J rp1 J J J J J J ?_)
   refine op J J (oe (c_ret (e_ret ?_)))
   refine r_endc (B := [[(U p1.Char), (O p1.Attr), (U d4.1), (U d4.2.1), (U d4.2.2.1), (U d4.2.2.2)]]) J ⟨⟨_, _, _, _, J, rm1⟩, trivial⟩ J (kc rm0 (kd (kd kr))) ?_
   obtain rfl := si h
   exact hk

theorem c_entry_look {g : Gw} (hg : GK g) (X : HP) (p0 : Vapi_Cell) (p1 : List Vattr_Pair) (s0 : SV) (q0 : Rd X s0 93 en_Vattr_Pair p1) (r : Vapi_Cell) (h : m_entry_look p0 p1 = some r) : Tri env g 32 (A [(.agg (A [(U p0.Char), (O p0.Attr), (U p0.FA), (U p0.High), (U p0.Color), (U p0.f_Set)])), (V s0)]) [X] (fun K R => K (.agg (A [(U r.Char), (O r.Attr), (U r.FA), (U r.High), (U r.Color), (U r.f_Set)])) (X :: R)) := by
 refine tri_of (fn := Tryz.f32) (N := 26) Tryz.func32 J J J ?_
 intro R K hk
 unfold m_entry_look at h
 change GC _ none _ [] [(0, (.agg (A [(U p0.Char), (O p0.Attr), (U p0.FA), (U p0.High), (U p0.Color), (U p0.f_Set)]))), (1, (V s0))] (X :: R) g _ _
 refine cr ?_
 refine o1 J (o_box (cs := [(U p0.Char), (O p0.Attr), (U p0.FA), (U p0.High), (U p0.Color), (U p0.f_Set)]) J J (fun b1056 => ?_))
 refine o1 J (o_alloc (cs := [(U 0), (O false), (U 0), (U 0), (U 0), (U 0)]) J J (fun b1058 => ?_))
 refine oe (c_seq (cr (op J J ?_)))
 refine o1 J (o_len (s := s0) J J J rm2 q0 ?_)
 refine op J J (oe ?_)
 replace h := bsome h
 obtain ⟨d1, h, hk1⟩ := h
 refine cj (D := Unit) (ι := Unit) (fun _ i1 => True) (fun _ i1 => [(4, (F b1058 0)), (2, (F b1056 0))]) (fun _ i1 => X :: blk b1058 (.cells (A [(U 0), (O false), (U 0), (U 0), (U 0), (U 0)]) 49 (0, 0)) :: blk b1056 (.cells (A [(U d1.1), (O d1.2.1), (U d1.2.2.1), (U d1.2.2.2.1), (U d1.2.2.2.2.1), (U d1.2.2.2.2.2)]) 49 (0, 0)) :: R) ?_ ?_
 ·refine c_block ?_
  refine c_loop (l_sub (sc J (sc J (sc J (sc J (sc J sn))))) (l_keep (kc rm2 (kc rm0 (kc rm0 kr))) (lf (X := Int × Int × Bool × Int × Int × Int × Int) (ι := Unit) (fun k x => entry_look_l2 p1 k x) _ (fun x2 i2 => True) (fun x2 i2 => [(11, (I x2.1)), (10, (I (p1.length : Int))), (9, (V s0)), (4, (F b1058 0)), (2, (F b1056 0))]) (fun x2 i2 => X :: blk b1058 (.cells (A [(U 0), (O false), (U 0), (U 0), (U 0), (U 0)]) 49 (0, 0)) :: blk b1056 (.cells (A [(U x2.2.1), (O x2.2.2.1), (U x2.2.2.2.1), (U x2.2.2.2.2.1), (U x2.2.2.2.2.2.1), (U x2.2.2.2.2.2.2)]) 49 (0, 0)) :: R) (fun _ => J) ?_ fuel (0, p0.Char, p0.Attr, p0.FA, p0.High, p0.Color, p0.f_Set) () trivial h)))
  clear h
  rintro k2 ih2 x2 i2 _ h
  rw [entry_look_l2.eq_2] at h
  refine l_round (cr ?_)
  refine o1 J (o_p (v := (O (decide (x2.1 < (p1.length : Int))))) J ?_)
  refine oe (c_seq ?_)
  refine c_cond (b := (decide (x2.1 < (p1.length : Int)))) J (fun hb1087 => ?_) (fun hb1087 => ?_)
  ·replace h := cond_t hb1087 h
   refine c_skip (e_seq (c_seq (c_block (cr ?_))))
   replace h := gsome h
   obtain ⟨hg1088, h⟩ := h
   refine o1 J (o_ix (s := s0) (n := x2.1) (e := en_Vattr_Pair) J J J J J J rm0 q0 hg1088 ?_)
   refine o1 J (o_ldE (s := s0) (e := en_Vattr_Pair) (n := x2.1) (f := 0) (v := (.agg (A [(U ((rd p1 x2.1).f_Type)), (U ((rd p1 x2.1).Value))]))) J rm0 q0 hg1088 J J ?_)
   refine o1 J (o_alloc (cs := [(U 0), (U 0)]) J J (fun b1089 => ?_))
   refine o0 (o_st (b := b1089) (off := 0) (vs := [(U ((rd p1 x2.1).f_Type)), (U ((rd p1 x2.1).Value))]) (cs' := [(U ((rd p1 x2.1).f_Type)), (U ((rd p1 x2.1).Value))]) J J rp0 J J J J J J ?_)
   refine oe (cr ?_)
   refine o1 J (o_ld (b := b1089) (off := 0) (v := (.agg (A [(U ((rd p1 x2.1).f_Type)), (U ((rd p1 x2.1).Value))]))) J rm0 J J ?_)
   refine o1 J (o_ld (b := b1056) (off := 0) (v := (.agg (A [(U x2.2.1), (O x2.2.2.1), (U x2.2.2.2.1), (U x2.2.2.2.2.1), (U x2.2.2.2.2.2.1), (U x2.2.2.2.2.2.2)]))) J rm3 J J ?_)
   replace h := bsome h
   obtain ⟨d5, h5, h⟩ := h
   refine o1 J (o_call has61 J (c_attr_Pair_Apply hg X (rd p1 x2.1) (⟨x2.2.1, x2.2.2.1, x2.2.2.2.1, x2.2.2.2.2.1, x2.2.2.2.2.2.1, x2.2.2.2.2.2.2⟩ : Vapi_Cell) _ h5) (pc rm1 pn) ?_)
   refine op J J (op J J (op J J ?_))
   refine o1 J (o_alloc (cs := [(U 0), (O false), (U 0), (U 0), (U 0), (U 0)]) J J (fun b1091 => ?_))
   refine o0 (o_st (b := b1091) (off := 0) (vs := [(U d5.1.Char), (O d5.1.Attr), (U d5.1.FA), (U d5.1.High), (U d5.1.Color), (U d5.1.f_Set)]) (cs' := [(U d5.1.Char), (O d5.1.Attr), (U d5.1.FA), (U d5.1.High), (U d5.1.Color), (U d5.1.f_Set)]) J J rp0 J J J J J J ?_)
   refine op J J (oe (cr (op J J ?_)))
   refine o1 J (o_p (v := (O (d5.2 == 0))) J ?_)
   refine oe ?_
   replace h := bsome h
   obtain ⟨d6, h, hk6⟩ := h
   refine cj (D := Unit) (ι := Unit) (fun _ i6 => True) (fun _ i6 => [(11, (I x2.1)), (10, (I (p1.length : Int))), (9, (V s0)), (4, (F b1058 0)), (2, (F b1056 0))]) (fun _ i6 => X :: blk b1058 (.cells (A [(U 0), (O false), (U 0), (U 0), (U 0), (U 0)]) 49 (0, 0)) :: blk b1056 (.cells (A [(U d6.1), (O d6.2.1), (U d6.2.2.1), (U d6.2.2.2.1), (U d6.2.2.2.2.1), (U d6.2.2.2.2.2)]) 49 (0, 0)) :: R) ?_ ?_
   ·refine c_cond (b := (d5.2 == 0)) J (fun hb1093 => ?_) (fun hb1093 => ?_)
    ·replace h := cond_t hb1093 h
     refine c_region ?_
     refine o1 J (o_ld (b := b1091) (off := 0) (v := (.agg (A [(U d5.1.Char), (O d5.1.Attr), (U d5.1.FA), (U d5.1.High), (U d5.1.Color), (U d5.1.f_Set)]))) J rm0 J J ?_)
     refine o0 (o_st (b := b1056) (off := 0) (vs := [(U d5.1.Char), (O d5.1.Attr), (U d5.1.FA), (U d5.1.High), (U d5.1.Color), (U d5.1.f_Set)]) (cs' := [(U d5.1.Char), (O d5.1.Attr), (U d5.1.FA), (U d5.1.High), (U d5.1.Color), (U d5.1.f_Set)]) J J rp4 J J J J J J ?_)
     refine o_end ?_
     obtain rfl := si h
     exact ej () () trivial (sc J (sc J (sc J (sc J (sc J sn))))) (kc rm1 (kc rm2 (kc rm2 (kd (kd kr)))))
    ·replace h := cond_f hb1093 h
     refine c_skip ?_
     obtain rfl := si h
     exact ej () () trivial (sc J (sc J (sc J (sc J (sc J sn))))) (kc rm1 (kc rm2 (kc rm2 (kd (kd kr)))))
   ·rintro _ i6 _
    replace h := hk6
    clear hk6
    refine e_blk (e_seq (c_region ?_))
    refine o1 J (o_p (v := (I (w64 (x2.1 + 1)))) J ?_)
    refine op J J (o_end ?_)
    exact e_loop (l_sub (sc J (sc J (sc J (sc J (sc J sn))))) (l_keep (kc rm0 (kc rm0 (kc rm0 kr))) (ih2 (w64 (x2.1 + 1), d6.1, d6.2.1, d6.2.2.1, d6.2.2.2.1, d6.2.2.2.2.1, d6.2.2.2.2.2) () trivial h)))
  ·replace h := cond_f hb1087 h
   refine c_exit (e_then_exit (e_then_exit (e_blk_exit ?_)))
   obtain rfl := si h
   exact ej () () trivial (sc J (sc J sn)) (kc rm0 (kc rm0 (kc rm0 kr)))
 ·rintro _ i1 _
  replace h := hk1
  clear hk1
  refine e_seq (cr ?_)
  refine o1 J (o_ld (b := b1056) (off := 0) (v := (.agg (A [(U d1.1), (O d1.2.1), (U d1.2.2.1), (U d1.2.2.2.1), (U d1.2.2.2.2.1), (U d1.2.2.2.2.2)]))) J rm2 J J ?_)
  refine o0 (o_st (b := b1058) (off := 0) (vs := [(U d1.1), (O d1.2.1), (U d1.2.2.1), (U d1.2.2.2.1), (U d1.2.2.2.2.1), (U d1.2.2.2.2.2)]) (cs' := [(U d1.1), (O d1.2.1), (U d1.2.2.1), (U d1.2.2.2.1), (U d1.2.2.2.2.1), (U d1.2.2.2.2.2)]) J J rp1 J J J J J J ?_)
  refine oe (c_ret (e_ret ?_))
  refine r_endc (B := [[(U d1.1), (O d1.2.1), (U d1.2.2.1), (U d1.2.2.2.1), (U d1.2.2.2.2.1), (U d1.2.2.2.2.2)]]) J ⟨⟨_, _, _, _, J, rm1⟩, trivial⟩ J (kc rm0 (kd (kd kr))) ?_
  obtain rfl := si h
  exact hk

theorem c_entry_Buffer {g : Gw} (hg : GK g) (X : HP) (p0 : List Int) (s0 : SV) (q0 : Rd X s0 5 (enI .u8) p0) (r : (List Vapi_Cell) × Int × Int) (h : m_entry_Buffer p0 = some r) : Tri env g 8 (A [(V s0)]) [X] (fun K R => ∀ (i0 : HP × SV), (Ext X i0.1) → K (.tuple (A [(V i0.2), (I r.2.1), (I r.2.2)])) (i0.1 :: slO i0.2 49 en_Vapi_Cell r.1 :: R)) := by
 refine tri_of (fn := Tryz.f8) (N := 99) Tryz.func8 J J J ?_
 intro R K hk
 unfold m_entry_Buffer at h
 change GC _ none _ [] [(0, (V s0))] (X :: R) g _ _
 refine cr (op J J (op J J (op J J (o_end ?_))))
 refine e_seq (cr (op J J ?_))
 replace h := bsome h
 obtain ⟨d1, h1, h⟩ := h
 refine o1 J (o_call has30 J (c_entry_begin hg X p0 s0 q0 _ h1) (pc rm0 pn) (fun i1 f1_0 => ?_))
 refine op J J (op J J (op J J (op J J ?_)))
 refine o1 J (o_alloc (cs := [(U 0), (O false), (I 0), (V SV.nil)]) J J (fun b1033 => ?_))
 refine o0 (o_st (b := b1033) (off := 0) (vs := [(U d1.1.AID), (O d1.1.Short), (I d1.1.Cursor), (V SV.nil)]) (cs' := [(U d1.1.AID), (O d1.1.Short), (I d1.1.Cursor), (V SV.nil)]) J J rp0 J J J J J J ?_)
 refine op J J (op J J (oe (c_seq (c_block ?_))))
 refine cr (op J J ?_)
 refine o1 J (o_p (v := (O (d1.2.2 != 0))) J ?_)
 refine op J J (oe ?_)
 refine c_cond (b := (d1.2.2 != 0)) J (fun hb1035 => ?_) (fun hb1035 => ?_)
 ·replace h := cond_t hb1035 h
  refine cr (op J J (op J J (op J J (op J J ?_))))
  refine oe (c_ret (e_blk_ret (e_then_ret (e_ret ?_))))
  refine r_add (slO SV.nil 49 en_Vapi_Cell []) (slO_nil _ _ _) ?_
  refine r_endt J J (kc rm2 (kc rm0 (kd kr))) ?_
  obtain rfl := si h
  exact hk (X, SV.nil) (Ext.refl _)
 ·replace h := cond_f hb1035 h
  refine cr ?_
  refine o1 J (o_fa (fd := ⟨ "Short", 4, 1, false, "", "", 1⟩) J J J J J ?_)
  refine o1 J (o_ld (b := b1033) (off := 1) (v := (O d1.1.Short)) J rm0 J J ?_)
  refine op J J (oe ?_)
  refine c_cond (b := d1.1.Short) J (fun hb1036 => ?_) (fun hb1036 => ?_)
  ·replace h := cond_t hb1036 h
   refine cr (op J J (op J J (op J J (o_end ?_))))
   refine e_seq (c_ret (e_blk_ret (e_then_ret (e_ret ?_))))
   refine r_add (slO SV.nil 49 en_Vapi_Cell []) (slO_nil _ _ _) ?_
   refine r_endt J J (kc rm2 (kc rm0 (kd kr))) ?_
   obtain rfl := si h
   exact hk (X, SV.nil) (Ext.refl _)
  ·replace h := cond_f hb1036 h
   refine c_skip (e_blk (e_seq (cr (op J J ?_))))
   replace h := bsome h
   obtain ⟨d4, h4, h⟩ := h
   refine o1 J (o_call has31 J (c_order_All hg X d1.2.1 i1 f1_0 _ h4) (pc rm1 pn) (fun i4 f4_0 f4_1 => ?_))
   refine op J J (op J J (op J J (op J J (op J J (op J J ?_)))))
   refine op J J (oe (c_seq (cr ?_)))
   refine op J J ?_
   refine o1 J (o_p (v := (O (d4.2.2 != 0))) J ?_)
   refine oe ?_
   refine c_cond (b := (d4.2.2 != 0)) J (fun hb1038 => ?_) (fun hb1038 => ?_)
   ·replace h := cond_t hb1038 h
    refine cr (op J J (op J J (op J J (op J J ?_))))
    refine oe (c_ret (e_then_ret (e_ret ?_)))
    refine r_add (slO SV.nil 49 en_Vapi_Cell []) (slO_nil _ _ _) ?_
    refine r_endt J J (kc rm1 (kc rm0 (kd (kd kr)))) ?_
    obtain rfl := si h
    exact hk (i4.1, SV.nil) f4_1
   ·replace h := cond_f hb1038 h
    refine c_skip (e_seq (cr (op J J (o_end ?_))))
    refine e_seq (cr ?_)
    refine o1 J (o_build (fs := f_1) (ps := [(0, 1), (1, 1), (2, 1), (3, 1), (4, 1), (5, 1)]) (cs := [(U 0), (O false), (U 0), (U 0), (U 0), (U 0)]) J J J J J ?_)
    refine o1 J (o_alloc (cs := [(U 0), (O false), (U 0), (U 0), (U 0), (U 0)]) J J (fun b1039 => ?_))
    refine o0 (o_st (b := b1039) (off := 0) (vs := [(U 0), (O false), (U 0), (U 0), (U 0), (U 0)]) (cs' := [(U 0), (O false), (U 0), (U 0), (U 0), (U 0)]) J J rp0 J J J J J J ?_)
    refine oe (c_seq (cr (op J J ?_)))
    refine o1 J (o_lenN (s := i4.2.1) J J J rm2 (rd_own _ _ _ _) f4_0 ?_)
    refine op J J (oe ?_)
    replace h := jn_some h
    obtain ⟨y6, h, hk6⟩ := h
    refine cj (D := (List Vapi_Cell)) (ι := HP × SV) (fun d6 i6 => (y6 = Sum.inl d6) ∧ (Ext X i6.1)) (fun d6 i6 => [(10, (V i6.2)), (5, (F b1033 0))]) (fun d6 i6 => i6.1 :: slO i6.2 49 en_Vapi_Cell d6 :: blk b1033 (.cells (A [(U d1.1.AID), (O d1.1.Short), (I d1.1.Cursor), (V SV.nil)]) 56 (0, 0)) :: R) ?_ ?_
    ·refine c_block ?_
     refine c_add (slO SV.nil 49 en_Vapi_Cell []) (slO_nil _ _ _) ?_
     refine c_loop (l_sub (sc J (sc J (sc J (sc J (sc J (sc J sn)))))) (l_keep (kc rm2 (kc rm2 (kc rm1 (kc rm0 (kc rm0 kr))))) (lf (X := Int × (List Vapi_Cell) × Int × Bool × Int × Int × Int × Int) (ι := HP × (List (Vorder_Op × SV × SV)) × SV) (fun k x => entry_Buffer_l7 d4 k x) _ (fun x7 i7 => (NL (D_Vorder_Op i7.1) i7.2.1 d4.1) ∧ (Ext X i7.1)) (fun x7 i7 => [(42, (I x7.1)), (41, (I (d4.1.length : Int))), (40, (V i4.2.1)), (11, (F b1039 0)), (10, (V i7.2.2)), (5, (F b1033 0))]) (fun x7 i7 => i7.1 :: slO i4.2.1 91 en_Vorder_Op i7.2.1 :: blk b1039 (.cells (A [(U x7.2.2.1), (O x7.2.2.2.1), (U x7.2.2.2.2.1), (U x7.2.2.2.2.2.1), (U x7.2.2.2.2.2.2.1), (U x7.2.2.2.2.2.2.2)]) 49 (0, 0)) :: slO i7.2.2 49 en_Vapi_Cell x7.2.1 :: blk b1033 (.cells (A [(U d1.1.AID), (O d1.1.Short), (I d1.1.Cursor), (V SV.nil)]) 56 (0, 0)) :: R) (fun _ => J) ?_ fuel (0, ([] : List Vapi_Cell), 0, false, 0, 0, 0, 0) (i4.1, i4.2.2, SV.nil) ⟨f4_0, f4_1⟩ h)))
     clear h
     rintro k7 ih7 x7 i7 ⟨f7_0, f7_1⟩ h
     rw [entry_Buffer_l7.eq_2] at h
     refine l_round (cr ?_)
     refine o1 J (o_p (v := (O (decide (x7.1 < (d4.1.length : Int))))) J ?_)
     refine oe (c_seq ?_)
     refine c_cond (b := (decide (x7.1 < (d4.1.length : Int)))) J (fun hb1193 => ?_) (fun hb1193 => ?_)
     ·replace h := cond_t hb1193 h
      refine c_skip (e_seq (c_seq ?_))
      replace h := jn_some h
      obtain ⟨y9, h, hk9⟩ := h
      refine cj (D := (List Vapi_Cell) × Int × Bool × Int × Int × Int × Int) (ι := HP × (List (Vorder_Op × SV × SV)) × SV) (fun d9 i9 => (y9 = Sum.inl d9) ∧ (NL (D_Vorder_Op i9.1) i9.2.1 d4.1) ∧ (Ext X i9.1)) (fun d9 i9 => [(42, (I x7.1)), (41, (I (d4.1.length : Int))), (40, (V i4.2.1)), (11, (F b1039 0)), (10, (V i9.2.2)), (5, (F b1033 0))]) (fun d9 i9 => i9.1 :: slO i4.2.1 91 en_Vorder_Op i9.2.1 :: blk b1039 (.cells (A [(U d9.2.1), (O d9.2.2.1), (U d9.2.2.2.1), (U d9.2.2.2.2.1), (U d9.2.2.2.2.2.1), (U d9.2.2.2.2.2.2)]) 49 (0, 0)) :: slO i9.2.2 49 en_Vapi_Cell d9.1 :: blk b1033 (.cells (A [(U d1.1.AID), (O d1.1.Short), (I d1.1.Cursor), (V SV.nil)]) 56 (0, 0)) :: R) ?_ ?_
      ·refine c_block (cr ?_)
       replace h := gsome h
       obtain ⟨hg1194, h⟩ := h
       refine o1 J (o_ix (s := i4.2.1) (n := x7.1) (e := en_Vorder_Op) J J J J J J rm1 (rd_own _ _ _ _) (NL.lt f7_0 hg1194) ?_)
       obtain ⟨sv1195, he_sv1195, hd_sv1195⟩ := NL.rd f7_0 hg1194
       have hr1196 : Rd i7.1 sv1195.1 93 en_Vattr_Pair ((rd d4.1 x7.1).Pairs) := hd_sv1195.1
       have hr1197 : Rd i7.1 sv1195.2 5 (enI .u8) ((rd d4.1 x7.1).Text) := hd_sv1195.2
       refine o1 rfl (o_ldE (s := i4.2.1) (e := en_Vorder_Op) (n := x7.1) (f := 0) (v := (.agg (A [(I ((rd d4.1 x7.1).Kind)), (I ((rd d4.1 x7.1).Addr)), (U ((rd d4.1 x7.1).Code)), (O ((rd d4.1 x7.1).Graph)), (U ((rd d4.1 x7.1).FA)), (V sv1195.1), (V sv1195.2)]))) rfl rm1 (rd_own _ _ _ _) (NL.lt f7_0 hg1194) rfl (by rw [he_sv1195]; rfl) ?_)
       refine o1 J (o_alloc (cs := [(I 0), (I 0), (U 0), (O false), (U 0), (V SV.nil), (V SV.nil)]) J J (fun b1198 => ?_))
       refine o0 (o_st (b := b1198) (off := 0) (vs := [(I ((rd d4.1 x7.1).Kind)), (I ((rd d4.1 x7.1).Addr)), (U ((rd d4.1 x7.1).Code)), (O ((rd d4.1 x7.1).Graph)), (U ((rd d4.1 x7.1).FA)), (V sv1195.1), (V sv1195.2)]) (cs' := [(I ((rd d4.1 x7.1).Kind)), (I ((rd d4.1 x7.1).Addr)), (U ((rd d4.1 x7.1).Code)), (O ((rd d4.1 x7.1).Graph)), (U ((rd d4.1 x7.1).FA)), (V sv1195.1), (V sv1195.2)]) J J rp0 J J J J J J ?_)
       refine oe (cr ?_)
       refine o1 J (o_ld (b := b1039) (off := 0) (v := (.agg (A [(U x7.2.2.1), (O x7.2.2.2.1), (U x7.2.2.2.2.1), (U x7.2.2.2.2.2.1), (U x7.2.2.2.2.2.2.1), (U x7.2.2.2.2.2.2.2)]))) J rm3 J J ?_)
       refine o1 J (o_alloc (cs := [(U 0), (O false), (U 0), (U 0), (U 0), (U 0)]) J J (fun b1200 => ?_))
       refine o0 (o_st (b := b1200) (off := 0) (vs := [(U x7.2.2.1), (O x7.2.2.2.1), (U x7.2.2.2.2.1), (U x7.2.2.2.2.2.1), (U x7.2.2.2.2.2.2.1), (U x7.2.2.2.2.2.2.2)]) (cs' := [(U x7.2.2.1), (O x7.2.2.2.1), (U x7.2.2.2.2.1), (U x7.2.2.2.2.2.1), (U x7.2.2.2.2.2.2.1), (U x7.2.2.2.2.2.2.2)]) J J rp0 J J J J J J ?_)
       refine oe (c_seq (cr ?_))
       refine o1 J (o_fa (fd := ⟨ "Kind", 3, 0, false, "", "", 0⟩) J J J J J ?_)
       refine o1 J (o_ld (b := b1198) (off := 0) (v := (I ((rd d4.1 x7.1).Kind))) J rm1 J J ?_)
       refine oe ?_
       replace h := jn_some h
       obtain ⟨y10, h, hk10⟩ := h
       refine cj (D := Int × Bool × Int × Int × Int × Int) (ι := HP × (List (Vorder_Op × SV × SV))) (fun d10 i10 => (y10 = Sum.inl d10) ∧ (NL (D_Vorder_Op i10.1) i10.2 d4.1) ∧ (Ext X i10.1)) (fun d10 i10 => [(14, (F b1200 0)), (42, (I x7.1)), (41, (I (d4.1.length : Int))), (40, (V i4.2.1)), (11, (F b1039 0)), (10, (V i7.2.2)), (5, (F b1033 0))]) (fun d10 i10 => i10.1 :: blk b1200 (.cells (A [(U d10.1), (O d10.2.1), (U d10.2.2.1), (U d10.2.2.2.1), (U d10.2.2.2.2.1), (U d10.2.2.2.2.2)]) 49 (0, 0)) :: slO i4.2.1 91 en_Vorder_Op i10.2 :: blk b1039 (.cells (A [(U x7.2.2.1), (O x7.2.2.2.1), (U x7.2.2.2.2.1), (U x7.2.2.2.2.2.1), (U x7.2.2.2.2.2.2.1), (U x7.2.2.2.2.2.2.2)]) 49 (0, 0)) :: slO i7.2.2 49 en_Vapi_Cell x7.2.1 :: blk b1033 (.cells (A [(U d1.1.AID), (O d1.1.Short), (I d1.1.Cursor), (V SV.nil)]) 56 (0, 0)) :: R) ?_ ?_
       ·refine c_block (cr ?_)
        refine o1 J (o_p (v := (O (((rd d4.1 x7.1).Kind) == 29))) J ?_)
        refine op J J (oe ?_)
        replace h := jn_some h
        obtain ⟨y11, h, hk11⟩ := h
        refine cj (D := Int × Bool × Int × Int × Int × Int) (ι := HP × (List (Vorder_Op × SV × SV))) (fun d11 i11 => (y11 = Sum.inl d11) ∧ (NL (D_Vorder_Op i11.1) i11.2 d4.1) ∧ (Ext X i11.1)) (fun d11 i11 => [(14, (F b1200 0)), (42, (I x7.1)), (41, (I (d4.1.length : Int))), (40, (V i4.2.1)), (11, (F b1039 0)), (10, (V i7.2.2)), (5, (F b1033 0))]) (fun d11 i11 => i11.1 :: blk b1200 (.cells (A [(U d11.1), (O d11.2.1), (U d11.2.2.1), (U d11.2.2.2.1), (U d11.2.2.2.2.1), (U d11.2.2.2.2.2)]) 49 (0, 0)) :: slO i4.2.1 91 en_Vorder_Op i11.2 :: blk b1039 (.cells (A [(U x7.2.2.1), (O x7.2.2.2.1), (U x7.2.2.2.2.1), (U x7.2.2.2.2.2.1), (U x7.2.2.2.2.2.2.1), (U x7.2.2.2.2.2.2.2)]) 49 (0, 0)) :: slO i7.2.2 49 en_Vapi_Cell x7.2.1 :: blk b1033 (.cells (A [(U d1.1.AID), (O d1.1.Short), (I d1.1.Cursor), (V SV.nil)]) 56 (0, 0)) :: R) ?_ ?_
        ·refine c_cond (b := (((rd d4.1 x7.1).Kind) == 29)) J (fun hb1202 => ?_) (fun hb1202 => ?_)
         ·replace h := cond_t hb1202 h
          refine c_region ?_
          refine o1 J (o_build (fs := f_1) (ps := [(0, 1), (1, 1), (2, 1), (3, 1), (4, 1), (5, 1)]) (cs := [(U 0), (O true), (U 0), (U 0), (U 0), (U 0)]) J J J J J ?_)
          refine o1 J (o_fa (fd := ⟨ "FA", 5, 4, false, "", "", 18⟩) J J J J J ?_)
          refine o1 J (o_ld (b := b1198) (off := 4) (v := (U ((rd d4.1 x7.1).FA))) J rm1 J J ?_)
          refine o1 J (o_build (fs := f_0) (ps := [(0, 1), (1, 1)]) (cs := [(U 192), (U ((rd d4.1 x7.1).FA))]) J J J J J ?_)
          refine o1 J (o_bs (e := en_Vattr_Pair) (l := [(⟨192, (rd d4.1 x7.1).FA⟩ : Vattr_Pair)]) (zs := [(U 0), (U 0)]) J J J J J J J J J J (fun s1203 => ?_))
          refine o_fz rm0 rm2 (fun X1205 hx1206 hs1207 => ?_)
          replace h := bsome h
          obtain ⟨d12, h12, h⟩ := h
          refine o1 J (o_call has32 J (c_entry_look hg X1205 (⟨0, true, 0, 0, 0, 0⟩ : Vapi_Cell) [(⟨192, (rd d4.1 x7.1).FA⟩ : Vattr_Pair)] s1203 hs1207 _ h12) (pc rm0 pn) ?_)
          refine o0 (o_st (b := b1200) (off := 0) (vs := [(U d12.Char), (O d12.Attr), (U d12.FA), (U d12.High), (U d12.Color), (U d12.f_Set)]) (cs' := [(U d12.Char), (O d12.Attr), (U d12.FA), (U d12.High), (U d12.Color), (U d12.f_Set)]) J J rp1 J J J J J J ?_)
          refine o_end ?_
          obtain rfl := si h
          exact ej (d12.Char, d12.Attr, d12.FA, d12.High, d12.Color, d12.f_Set) (X1205, i7.2.1) ⟨J, (NL.mono f7_0 (D_Vorder_Op.ext hx1206)), (Ext.trans f7_1 hx1206)⟩ (sc J (sc J (sc J (sc J (sc J (sc J (sc J sn))))))) (kc rm0 (kc rm0 (kc rm1 (kc rm1 (kc rm1 (kc rm1 (kd kr)))))))
         ·replace h := cond_f hb1202 h
          refine cr ?_
          refine o1 J (o_p (v := (O (((rd d4.1 x7.1).Kind) == 41))) J ?_)
          refine op J J (oe ?_)
          refine c_cond (b := (((rd d4.1 x7.1).Kind) == 41)) J (fun hb1208 => ?_) (fun hb1208 => ?_)
          ·replace h := cond_t hb1208 h
           refine c_region ?_
           refine o1 J (o_build (fs := f_1) (ps := [(0, 1), (1, 1), (2, 1), (3, 1), (4, 1), (5, 1)]) (cs := [(U 0), (O true), (U 0), (U 0), (U 0), (U 0)]) J J J J J ?_)
           refine o1 J (o_fa (fd := ⟨ "Pairs", 89, 5, false, "", "", 24⟩) J J J J J ?_)
           refine o1 J (o_ld (b := b1198) (off := 5) (v := (V sv1195.1)) J rm1 J J ?_)
           replace h := bsome h
           obtain ⟨d13, h13, h⟩ := h
           refine o1 J (o_call has32 J (c_entry_look hg i7.1 (⟨0, true, 0, 0, 0, 0⟩ : Vapi_Cell) ((rd d4.1 x7.1).Pairs) sv1195.1 hr1196 _ h13) (pc rm2 pn) ?_)
           refine o0 (o_st (b := b1200) (off := 0) (vs := [(U d13.Char), (O d13.Attr), (U d13.FA), (U d13.High), (U d13.Color), (U d13.f_Set)]) (cs' := [(U d13.Char), (O d13.Attr), (U d13.FA), (U d13.High), (U d13.Color), (U d13.f_Set)]) J J rp1 J J J J J J ?_)
           refine o_end ?_
           obtain rfl := si h
           exact ej (d13.Char, d13.Attr, d13.FA, d13.High, d13.Color, d13.f_Set) (i7.1, i7.2.1) ⟨J, f7_0, f7_1⟩ (sc J (sc J (sc J (sc J (sc J (sc J (sc J sn))))))) (kc rm0 (kc rm0 (kc rm1 (kc rm1 (kc rm1 (kc rm1 (kd kr)))))))
          ·replace h := cond_f hb1208 h
           refine cr ?_
           refine o1 J (o_p (v := (O (((rd d4.1 x7.1).Kind) == 8))) J ?_)
           refine op J J (oe ?_)
           refine c_cond (b := (((rd d4.1 x7.1).Kind) == 8)) J (fun hb1209 => ?_) (fun hb1209 => ?_)
           ·replace h := cond_t hb1209 h
            refine c_region ?_
            refine o1 J (o_fa (fd := ⟨ "Code", 5, 2, false, "", "", 16⟩) J J J J J ?_)
            refine o1 J (o_ld (b := b1198) (off := 2) (v := (U ((rd d4.1 x7.1).Code))) J rm1 J J ?_)
            refine o1 J (o_fa (fd := ⟨ "Char", 5, 0, false, "", "", 0⟩) J J J J J ?_)
            refine o0 (o_st (b := b1200) (off := 0) (vs := [(U ((rd d4.1 x7.1).Code))]) (cs' := [(U ((rd d4.1 x7.1).Code)), (O x7.2.2.2.1), (U x7.2.2.2.2.1), (U x7.2.2.2.2.2.1), (U x7.2.2.2.2.2.2.1), (U x7.2.2.2.2.2.2.2)]) J J rp0 J J J J J J ?_)
            refine o1 J (o_fa (fd := ⟨ "Set", 5, 5, false, "", "", 5⟩) J J J J J ?_)
            refine o0 (o_st (b := b1200) (off := 5) (vs := [(U 241)]) (cs' := [(U ((rd d4.1 x7.1).Code)), (O x7.2.2.2.1), (U x7.2.2.2.2.1), (U x7.2.2.2.2.2.1), (U x7.2.2.2.2.2.2.1), (U 241)]) J J rp0 J J J J J J ?_)
            refine o_end ?_
            obtain rfl := si h
            exact ej ((rd d4.1 x7.1).Code, x7.2.2.2.1, x7.2.2.2.2.1, x7.2.2.2.2.2.1, x7.2.2.2.2.2.2.1, 241) (i7.1, i7.2.1) ⟨J, f7_0, f7_1⟩ (sc J (sc J (sc J (sc J (sc J (sc J (sc J sn))))))) (kc rm2 (kc rm0 (kc rm1 (kc rm1 (kc rm1 (kc rm1 (kd kr)))))))
           ·replace h := cond_f hb1209 h
            refine cr ?_
            refine o1 J (o_p (v := (O (((rd d4.1 x7.1).Kind) == 40))) J ?_)
            refine op J J (oe ?_)
            refine c_cond (b := (((rd d4.1 x7.1).Kind) == 40)) J (fun hb1210 => ?_) (fun hb1210 => ?_)
            ·replace h := cond_t hb1210 h
             refine cr ?_
             refine o1 J (o_ld (b := b1039) (off := 0) (v := (.agg (A [(U x7.2.2.1), (O x7.2.2.2.1), (U x7.2.2.2.2.1), (U x7.2.2.2.2.2.1), (U x7.2.2.2.2.2.2.1), (U x7.2.2.2.2.2.2.2)]))) J rm4 J J ?_)
             refine o1 J (o_fa (fd := ⟨ "Pairs", 89, 5, false, "", "", 24⟩) J J J J J ?_)
             refine o1 J (o_ld (b := b1198) (off := 5) (v := (V sv1195.1)) J rm1 J J ?_)
             replace h := bsome h
             obtain ⟨d14, h14, h⟩ := h
             refine o1 J (o_call has32 J (c_entry_look hg i7.1 (⟨x7.2.2.1, x7.2.2.2.1, x7.2.2.2.2.1, x7.2.2.2.2.2.1, x7.2.2.2.2.2.2.1, x7.2.2.2.2.2.2.2⟩ : Vapi_Cell) ((rd d4.1 x7.1).Pairs) sv1195.1 hr1196 _ h14) (pc rm2 pn) ?_)
             refine o0 (o_st (b := b1039) (off := 0) (vs := [(U d14.Char), (O d14.Attr), (U d14.FA), (U d14.High), (U d14.Color), (U d14.f_Set)]) (cs' := [(U d14.Char), (O d14.Attr), (U d14.FA), (U d14.High), (U d14.Color), (U d14.f_Set)]) J J rp4 J J J J J J ?_)
             refine oe (c_exit (ej_exit ?_))
             replace h := esc_some h
             obtain ⟨z11, h, rfl⟩ := h
             obtain rfl := (hk11 : z11 = _)
             refine e_blk_exit_ne J ?_
             refine ej_exit ?_
             replace h := esc_some h
             obtain ⟨z10, h, rfl⟩ := h
             obtain rfl := (hk10 : z10 = _)
             refine e_then_exit (e_blk_exit ?_)
             obtain rfl := si h
             exact ej (x7.2.1, d14.Char, d14.Attr, d14.FA, d14.High, d14.Color, d14.f_Set) (i7.1, i7.2.1, i7.2.2) ⟨J, f7_0, f7_1⟩ (sc J (sc J (sc J (sc J (sc J (sc J sn)))))) (kc rm0 (kc rm2 (kc rm2 (kc rm2 (kc rm2 (kd (kd kr)))))))
            ·replace h := cond_f hb1210 h
             refine cr ?_
             refine o1 J (o_p (v := (O (((rd d4.1 x7.1).Kind) == 0))) J ?_)
             refine op J J (oe ?_)
             refine c_cond (b := (((rd d4.1 x7.1).Kind) == 0)) J (fun hb1211 => ?_) (fun hb1211 => ?_)
             ·replace h := cond_t hb1211 h
              refine c_seq (cr ?_)
              refine o1 J (o_fa (fd := ⟨ "Text", 28, 6, false, "", "", 48⟩) J J J J J ?_)
              refine o1 J (o_ld (b := b1198) (off := 6) (v := (V sv1195.2)) J rm1 J J ?_)
              refine o1 J (o_len (s := sv1195.2) J J J rm2 hr1197 ?_)
              refine op J J (oe ?_)
              replace h := bsome h
              obtain ⟨d15, h, hk15⟩ := h
              refine cj (D := Unit) (ι := SV) (fun _ i15 => True) (fun _ i15 => [(42, (I x7.1)), (41, (I (d4.1.length : Int))), (40, (V i4.2.1)), (11, (F b1039 0)), (10, (V i15)), (5, (F b1033 0))]) (fun _ i15 => i7.1 :: slO i4.2.1 91 en_Vorder_Op i7.2.1 :: blk b1039 (.cells (A [(U x7.2.2.1), (O x7.2.2.2.1), (U x7.2.2.2.2.1), (U x7.2.2.2.2.2.1), (U x7.2.2.2.2.2.2.1), (U x7.2.2.2.2.2.2.2)]) 49 (0, 0)) :: slO i15 49 en_Vapi_Cell d15 :: blk b1033 (.cells (A [(U d1.1.AID), (O d1.1.Short), (I d1.1.Cursor), (V SV.nil)]) 56 (0, 0)) :: R) ?_ ?_
              ·refine c_block ?_
               refine c_loop (l_sub (sc J (sc J (sc J (sc J (sc J (sc J (sc J (sc J (sc J (sc J sn)))))))))) (l_keep (kc rm2 (kc rm0 (kc rm1 (kc rm1 (kc rm1 (kc rm1 (kd kr))))))) (lf (X := Int × (List Vapi_Cell) × Int) (ι := SV) (fun k x => entry_Buffer_l16 d4 x7 k x) _ (fun x16 i16 => True) (fun x16 i16 => [(80, (I x16.1)), (79, (I (((rd d4.1 x7.1).Text).length : Int))), (78, (V sv1195.2)), (14, (F b1200 0)), (42, (I x7.1)), (41, (I (d4.1.length : Int))), (40, (V i4.2.1)), (11, (F b1039 0)), (10, (V i16)), (5, (F b1033 0))]) (fun x16 i16 => i7.1 :: blk b1200 (.cells (A [(U x16.2.2), (O x7.2.2.2.1), (U x7.2.2.2.2.1), (U x7.2.2.2.2.2.1), (U x7.2.2.2.2.2.2.1), (U x7.2.2.2.2.2.2.2)]) 49 (0, 0)) :: slO i4.2.1 91 en_Vorder_Op i7.2.1 :: blk b1039 (.cells (A [(U x7.2.2.1), (O x7.2.2.2.1), (U x7.2.2.2.2.1), (U x7.2.2.2.2.2.1), (U x7.2.2.2.2.2.2.1), (U x7.2.2.2.2.2.2.2)]) 49 (0, 0)) :: slO i16 49 en_Vapi_Cell x16.2.1 :: blk b1033 (.cells (A [(U d1.1.AID), (O d1.1.Short), (I d1.1.Cursor), (V SV.nil)]) 56 (0, 0)) :: R) (fun _ => J) ?_ fuel (0, x7.2.1, x7.2.2.1) i7.2.2 trivial h)))
               clear h
               rintro k16 ih16 x16 i16 _ h
               rw [entry_Buffer_l16.eq_2] at h
               refine l_round (cr ?_)
               refine o1 J (o_p (v := (O (decide (x16.1 < (((rd d4.1 x7.1).Text).length : Int))))) J ?_)
               refine oe (c_seq ?_)
               refine c_cond (b := (decide (x16.1 < (((rd d4.1 x7.1).Text).length : Int)))) J (fun hb1228 => ?_) (fun hb1228 => ?_)
               ·replace h := cond_t hb1228 h
                refine c_skip (e_seq (c_seq (c_block (cr ?_))))
                replace h := gsome h
                obtain ⟨hg1229, h⟩ := h
                refine o1 J (o_ix (s := sv1195.2) (n := x16.1) (e := (enI .u8)) J J J J J J rm0 hr1197 hg1229 ?_)
                refine o1 J (o_ldE (s := sv1195.2) (e := (enI .u8)) (n := x16.1) (f := 0) (v := (U (rd ((rd d4.1 x7.1).Text) x16.1))) J rm0 hr1197 hg1229 J J ?_)
                refine op J J (oe (cr (op J J ?_)))
                refine o1 J (o_fa (fd := ⟨ "Char", 5, 0, false, "", "", 0⟩) J J J J J ?_)
                refine o0 (o_st (b := b1200) (off := 0) (vs := [(U (rd ((rd d4.1 x7.1).Text) x16.1))]) (cs' := [(U (rd ((rd d4.1 x7.1).Text) x16.1)), (O x7.2.2.2.1), (U x7.2.2.2.2.1), (U x7.2.2.2.2.2.1), (U x7.2.2.2.2.2.2.1), (U x7.2.2.2.2.2.2.2)]) J J rp1 J J J J J J ?_)
                refine oe (c_region (op J J ?_))
                refine o1 J (o_ld (b := b1200) (off := 0) (v := (.agg (A [(U (rd ((rd d4.1 x7.1).Text) x16.1)), (O x7.2.2.2.1), (U x7.2.2.2.2.1), (U x7.2.2.2.2.2.1), (U x7.2.2.2.2.2.2.1), (U x7.2.2.2.2.2.2.2)]))) J rm1 J J ?_)
                refine o1 J (o_bs (e := en_Vapi_Cell) (l := [(⟨(rd ((rd d4.1 x7.1).Text) x16.1), x7.2.2.2.1, x7.2.2.2.2.1, x7.2.2.2.2.2.1, x7.2.2.2.2.2.2.1, x7.2.2.2.2.2.2.2⟩ : Vapi_Cell)]) (zs := [(U 0), (O false), (U 0), (U 0), (U 0), (U 0)]) J J J J J J J J J J (fun s1230 => ?_))
                replace h := gsome h
                obtain ⟨hg1232, h⟩ := h
                refine o1 J (o_app (s := i16) (r := s1230) (e := en_Vapi_Cell) (l := x16.2.1) (l2 := [(⟨(rd ((rd d4.1 x7.1).Text) x16.1), x7.2.2.2.1, x7.2.2.2.2.1, x7.2.2.2.2.2.1, x7.2.2.2.2.2.2.1, x7.2.2.2.2.2.2.2⟩ : Vapi_Cell)]) (zs := [(U 0), (O false), (U 0), (U 0), (U 0), (U 0)]) J J J J J J J J J J J rm5 rm0 (rd_own _ _ _ _) hg1232 (fun s1233 => ?_))
                refine op J J (o_end (e_blk (e_seq (c_region ?_))))
                refine o1 J (o_p (v := (I (w64 (x16.1 + 1)))) J ?_)
                refine op J J (o_end ?_)
                exact e_loop (l_sub (sc J (sc J (sc J (sc J (sc J (sc J (sc J (sc J (sc J (sc J sn)))))))))) (l_keep (kc rm2 (kc rm2 (kc rm2 (kc rm2 (kc rm0 (kc rm1 (kd kr))))))) (ih16 (w64 (x16.1 + 1), (x16.2.1 ++ [(⟨(rd ((rd d4.1 x7.1).Text) x16.1), x7.2.2.2.1, x7.2.2.2.2.1, x7.2.2.2.2.2.1, x7.2.2.2.2.2.2.1, x7.2.2.2.2.2.2.2⟩ : Vapi_Cell)]), (rd ((rd d4.1 x7.1).Text) x16.1)) s1233 trivial h)))
               ·replace h := cond_f hb1228 h
                refine c_exit (e_then_exit (e_then_exit (e_blk_exit ?_)))
                obtain rfl := si h
                exact ej () i16 trivial (sc J (sc J (sc J (sc J (sc J (sc J sn)))))) (kc rm0 (kc rm1 (kc rm1 (kc rm1 (kc rm1 (kd kr))))))
              ·rintro _ i15 _
               replace h := hk15
               clear hk15
               refine e_seq (c_exit (ej_exit ?_))
               replace h := esc_some h
               obtain ⟨z11, h, rfl⟩ := h
               obtain rfl := (hk11 : z11 = _)
               refine e_blk_exit_ne J ?_
               refine ej_exit ?_
               replace h := esc_some h
               obtain ⟨z10, h, rfl⟩ := h
               obtain rfl := (hk10 : z10 = _)
               refine e_then_exit (e_blk_exit ?_)
               obtain rfl := si h
               exact ej (d15, x7.2.2.1, x7.2.2.2.1, x7.2.2.2.2.1, x7.2.2.2.2.2.1, x7.2.2.2.2.2.2.1, x7.2.2.2.2.2.2.2) (i7.1, i7.2.1, i15) ⟨J, f7_0, f7_1⟩ (sc J (sc J (sc J (sc J (sc J (sc J sn)))))) (kc rm0 (kc rm0 (kc rm0 (kc rm0 (kc rm0 kr)))))
             ·replace h := cond_f hb1211 h
              refine cr (op J J (op J J (op J J (o_end ?_))))
              refine e_seq (c_ret (ej_ret ?_))
              replace h := esc_some h
              obtain ⟨z11, h, rfl⟩ := h
              obtain rfl := (hk11 : z11 = _)
              refine e_blk_ret (ej_ret ?_)
              replace h := esc_some h
              obtain ⟨z10, h, rfl⟩ := h
              obtain rfl := (hk10 : z10 = _)
              refine e_then_ret (e_blk_ret (ej_ret ?_))
              replace h := esc_some h
              obtain ⟨z9, h, rfl⟩ := h
              obtain rfl := (hk9 : z9 = _)
              refine e_then_ret (e_then_ret (e_blk_ret (ej_ret ?_)))
              replace h := esc_some h
              obtain ⟨z6, h, rfl⟩ := h
              obtain rfl := (hk6 : z6 = _)
              refine e_then_ret (e_ret ?_)
              refine r_add (slO SV.nil 49 en_Vapi_Cell []) (slO_nil _ _ _) ?_
              refine r_endt J J (kc rm3 (kc rm0 (kd (kd (kd (kd (kd (kd kr)))))))) ?_
              obtain rfl := si h
              exact hk (i7.1, SV.nil) f7_1
        ·rintro d11 i11 ⟨rfl, f11_0, f11_1⟩
         replace h := JK_inl hk11
         clear hk11
         refine e_blk ?_
         obtain rfl := si h
         exact ej (d11.1, d11.2.1, d11.2.2.1, d11.2.2.2.1, d11.2.2.2.2.1, d11.2.2.2.2.2) (i11.1, i11.2) ⟨J, f11_0, f11_1⟩ (sc J (sc J (sc J (sc J (sc J (sc J (sc J sn))))))) (kc rm0 (kc rm0 (kc rm0 (kc rm0 (kc rm0 (kc rm0 kr))))))
       ·rintro d10 i10 ⟨rfl, f10_0, f10_1⟩
        replace h := JK_inl hk10
        clear hk10
        refine e_seq (c_region (op J J ?_))
        refine o1 J (o_ld (b := b1200) (off := 0) (v := (.agg (A [(U d10.1), (O d10.2.1), (U d10.2.2.1), (U d10.2.2.2.1), (U d10.2.2.2.2.1), (U d10.2.2.2.2.2)]))) J rm1 J J ?_)
        refine o1 J (o_bs (e := en_Vapi_Cell) (l := [(⟨d10.1, d10.2.1, d10.2.2.1, d10.2.2.2.1, d10.2.2.2.2.1, d10.2.2.2.2.2⟩ : Vapi_Cell)]) (zs := [(U 0), (O false), (U 0), (U 0), (U 0), (U 0)]) J J J J J J J J J J (fun s1239 => ?_))
        replace h := gsome h
        obtain ⟨hg1241, h⟩ := h
        refine o1 J (o_app (s := i7.2.2) (r := s1239) (e := en_Vapi_Cell) (l := x7.2.1) (l2 := [(⟨d10.1, d10.2.1, d10.2.2.1, d10.2.2.2.1, d10.2.2.2.2.1, d10.2.2.2.2.2⟩ : Vapi_Cell)]) (zs := [(U 0), (O false), (U 0), (U 0), (U 0), (U 0)]) J J J J J J J J J J J rm5 rm0 (rd_own _ _ _ _) hg1241 (fun s1242 => ?_))
        refine op J J (o_end (e_blk ?_))
        obtain rfl := si h
        exact ej ((x7.2.1 ++ [(⟨d10.1, d10.2.1, d10.2.2.1, d10.2.2.2.1, d10.2.2.2.2.1, d10.2.2.2.2.2⟩ : Vapi_Cell)]), x7.2.2.1, x7.2.2.2.1, x7.2.2.2.2.1, x7.2.2.2.2.2.1, x7.2.2.2.2.2.2.1, x7.2.2.2.2.2.2.2) (i10.1, i10.2, s1242) ⟨J, f10_0, f10_1⟩ (sc J (sc J (sc J (sc J (sc J (sc J sn)))))) (kc rm2 (kc rm3 (kc rm3 (kc rm0 (kc rm2 (kd (kd kr)))))))
      ·rintro d9 i9 ⟨rfl, f9_0, f9_1⟩
       replace h := JK_inl hk9
       clear hk9
       refine e_seq (c_region ?_)
       refine o1 J (o_p (v := (I (w64 (x7.1 + 1)))) J ?_)
       refine op J J (o_end ?_)
       exact e_loop (l_sub (sc J (sc J (sc J (sc J (sc J (sc J sn)))))) (l_keep (kc rm0 (kc rm0 (kc rm0 (kc rm0 (kc rm0 kr))))) (ih7 (w64 (x7.1 + 1), d9.1, d9.2.1, d9.2.2.1, d9.2.2.2.1, d9.2.2.2.2.1, d9.2.2.2.2.2.1, d9.2.2.2.2.2.2) (i9.1, i9.2.1, i9.2.2) ⟨f9_0, f9_1⟩ h)))
     ·replace h := cond_f hb1193 h
      refine c_exit (e_then_exit (e_then_exit (e_blk_exit ?_)))
      obtain rfl := si h
      exact ej x7.2.1 (i7.1, i7.2.2) ⟨J, f7_1⟩ (sc J (sc J sn)) (kc rm0 (kc rm2 (kc rm2 (kd (kd kr)))))
    ·rintro d6 i6 ⟨rfl, f6_0⟩
     replace h := JK_inl hk6
     clear hk6
     refine e_seq (c_seq ?_)
     refine c_draw (n := 0) (q := [(0, 96, (V i6.2)), (1, 97, (F b1033 2)), (2, 98, (I d1.1.Cursor)), (3, 2, (V i6.2)), (4, 3, (I d1.1.Cursor)), (5, 4, (I 0))]) (pend := [0, 1, 2, 3, 4, 5]) J J J ?_
     refine ⟨⟨fun _ => ⟨J, J, J, .inl ⟨J, (o_p J ⟨J, J⟩)⟩⟩, fun _ => ⟨J, J, J, .inl ⟨J, (o_fa (fd := ⟨ "Cursor", 3, 2, false, "", "", 8⟩) J J J J J ⟨J, J⟩)⟩⟩, fun _ => ⟨J, J, J, .inl ⟨J, (o_ld (b := b1033) (off := 2) (v := (I d1.1.Cursor)) J rm2 J J ⟨J, J⟩)⟩⟩, fun _ => ⟨J, J, J, .inl ⟨J, (o_p J ⟨J, J⟩)⟩⟩, fun _ => ⟨J, J, J, .inl ⟨J, (o_p J ⟨J, J⟩)⟩⟩, fun _ => ⟨J, J, J, .inl ⟨J, (o_p J ⟨J, J⟩)⟩⟩, trivial⟩, J, J, J, ?_⟩
     refine e_seq (c_ret (e_ret ?_))
     refine r_endt J J (kc rm0 (kc rm0 (kd kr))) ?_
     obtain rfl := si h
     exact hk (i6.1, i6.2) f6_0

theorem c_entry_Replay {g : Gw} (hg : GK g) (X : HP) (p0 : List Int) (s0 : SV) (q0 : Rd X s0 5 (enI .u8) p0) (p1 : Bool) (r : (List Int) × Int) (h : m_entry_Replay p0 p1 = some r) : Tri env g 9 (A [(V s0), (O p1)]) [X] (fun K R => ∀ (i0 : HP × SV), (Ext X i0.1) → K (.tuple (A [(V i0.2), (I r.2)])) (i0.1 :: slO i0.2 5 (enI .u8) r.1 :: R)) := by
 refine tri_of (fn := Tryz.f9) (N := 43) Tryz.func9 J J J ?_
 intro R K hk
 unfold m_entry_Replay at h
 change GC _ none _ [] [(0, (V s0)), (1, (O p1))] (X :: R) g _ _
 refine cr (op J J (op J J (oe ?_)))
 refine cr (op J J ?_)
 replace h := bsome h
 obtain ⟨d1, h1, h⟩ := h
 refine o1 J (o_call has8 J (c_entry_Buffer hg X p0 s0 q0 _ h1) (pc rm0 pn) (fun i1 f1_0 => ?_))
 refine op J J (op J J (op J J (op J J (op J J (op J J ?_)))))
 refine op J J (oe (c_seq (cr ?_)))
 refine op J J ?_
 refine o1 J (o_p (v := (O (d1.2.2 != 0))) J ?_)
 refine oe ?_
 refine c_cond (b := (d1.2.2 != 0)) J (fun hb1257 => ?_) (fun hb1257 => ?_)
 ·replace h := cond_t hb1257 h
  refine cr (op J J (op J J (op J J (o_end ?_))))
  refine e_seq (c_ret (e_then_ret (e_ret ?_)))
  refine r_add (slO SV.nil 5 (enI .u8) []) (slO_nil _ _ _) ?_
  refine r_endt J J (kc rm1 (kc rm0 (kd kr))) ?_
  obtain rfl := si h
  exact hk (i1.1, SV.nil) f1_0
 ·replace h := cond_f hb1257 h
  refine c_skip (e_seq (cr (op J J (o_end ?_))))
  refine e_seq (c_seq (cr (op J J (o_end ?_))))
  refine e_seq ?_
  replace h := bsome h
  obtain ⟨d3, h, hk3⟩ := h
  refine cj (D := Unit) (ι := Unit) (fun _ i3 => True) (fun _ i3 => [(9, (U d3)), (7, (I d1.2.1)), (0, (V s0))]) (fun _ i3 => i1.1 :: R) ?_ ?_
  ·refine c_cond (b := p1) J (fun hb1258 => ?_) (fun hb1258 => ?_)
   ·replace h := cond_t hb1258 h
    refine c_region (op J J (o_end ?_))
    obtain rfl := si h
    exact ej () () trivial (sc J (sc J (sc J sn))) (kc rm0 (kd kr))
   ·replace h := cond_f hb1258 h
    refine c_skip ?_
    obtain rfl := si h
    exact ej () () trivial (sc J (sc J (sc J sn))) (kc rm0 (kd kr))
  ·rintro _ i3 _
   replace h := hk3
   clear hk3
   refine e_seq (cr (op J J ?_))
   replace h := bsome h
   obtain ⟨d4, h4, h⟩ := h
   refine o1 J (o_call has33 J (c_addr_Encode hg i1.1 12 d1.2.1 _ h4) (pc rm0 pn) (fun i4 => ?_))
   refine op J J (op J J (op J J (op J J (op J J (o_end ?_)))))
   refine e_seq (c_seq (cr (op J J ?_)))
   refine o1 J (o_p (v := (O (d4.2 != 0))) J ?_)
   refine oe ?_
   refine c_cond (b := (d4.2 != 0)) J (fun hb1260 => ?_) (fun hb1260 => ?_)
   ·replace h := cond_t hb1260 h
    refine cr (op J J (op J J (op J J (o_end ?_))))
    refine e_seq (c_ret (e_then_ret (e_ret ?_)))
    refine r_add (slO SV.nil 5 (enI .u8) []) (slO_nil _ _ _) ?_
    refine r_endt J J (kc rm1 (kc rm0 (kd kr))) ?_
    obtain rfl := si h
    exact hk (i1.1, SV.nil) f1_0
   ·replace h := cond_f hb1260 h
    refine c_skip (e_seq (cr (op J J ?_)))
    refine o1 J (o_bs (e := (enI .u8)) (l := [d3, 64]) (zs := [(U 0)]) J J J J J J J J J J (fun s1261 => ?_))
    refine op J J ?_
    replace h := gsome h
    obtain ⟨hg1263, h⟩ := h
    refine o1 rfl (o_sl (a := 3) (b := (p0.length : Int)) (m := none) rfl rfl rfl rfl rfl rm1 (Rd.ext q0 f1_0) rfl rfl rfl (by decide) hg1263 mx_none (fun s1265 hr1264 => ?_))
    replace hr1264 := rd_tk hr1264
    replace h := bsome h
    obtain ⟨d6, h6, h⟩ := h
    refine o1 J (o_call has34 J (c_bytes_Clone hg i1.1 (List.drop 3 p0) s1265 hr1264 _ h6) (pc rm1 pn) (fun i6 => ?_))
    replace h := gsome h
    obtain ⟨hg1267, h⟩ := h
    refine o1 J (o_app (s := s1261) (r := i6) (e := (enI .u8)) (l := [d3, 64]) (l2 := d6) (zs := [(U 0)]) J J J J J J J J J J J rm2 rm1 (rd_own _ _ _ _) hg1267 (fun s1268 => ?_))
    refine op J J (oe (cr (op J J ?_)))
    refine o1 J (o_bs (e := (enI .u8)) (l := [17]) (zs := [(U 0)]) J J J J J J J J J J (fun s1270 => ?_))
    replace h := gsome h
    obtain ⟨hg1272, h⟩ := h
    refine o1 J (o_app (s := s1268) (r := s1270) (e := (enI .u8)) (l := ([d3, 64] ++ d6)) (l2 := [17]) (zs := [(U 0)]) J J J J J J J J J J J rm1 rm0 (rd_own _ _ _ _) hg1272 (fun s1273 => ?_))
    refine op J J ?_
    replace h := gsome h
    obtain ⟨hg1275, h⟩ := h
    refine o1 J (o_app (s := s1273) (r := i4) (e := (enI .u8)) (l := (([d3, 64] ++ d6) ++ [17])) (l2 := d4.1) (zs := [(U 0)]) J J J J J J J J J J J rm0 rm3 (rd_own _ _ _ _) hg1275 (fun s1276 => ?_))
    refine o1 J (o_bs (e := (enI .u8)) (l := [19]) (zs := [(U 0)]) J J J J J J J J J J (fun s1278 => ?_))
    replace h := gsome h
    obtain ⟨hg1280, h⟩ := h
    refine o1 J (o_app (s := s1276) (r := s1278) (e := (enI .u8)) (l := ((([d3, 64] ++ d6) ++ [17]) ++ d4.1)) (l2 := [19]) (zs := [(U 0)]) J J J J J J J J J J J rm1 rm0 (rd_own _ _ _ _) hg1280 (fun s1281 => ?_))
    refine op J J (op J J (oe (c_ret (e_ret ?_))))
    refine r_endt J J (kc rm3 (kc rm0 (kd (kd (kd (kd kr)))))) ?_
    obtain rfl := si h
    exact hk (i1.1, s1281) f1_0

theorem c_vitrineref01_Num {g : Gw} (hg : GK g) (X : HP) (p0 : ByteArray) (r : Int) (h : m_vitrineref01_Num p0 = some r) : Tri env g 98 (A [(.string p0)]) [X] (fun K R => K (I r) (X :: R)) := by
 refine tri_of (fn := Tryz.f98) (N := 32) Tryz.func98 J J J ?_
 intro R K hk
 unfold m_vitrineref01_Num at h
 change GC _ none _ [] [(0, (.string p0))] (X :: R) g _ _
 refine cr (op J J (oe (c_seq ?_)))
 refine c_region (op J J (oe (c_seq (c_seq ?_))))
 refine c_region (op J J (oe ?_))
 replace h := bsome h
 obtain ⟨d1, h, hk1⟩ := h
 refine cj (D := Unit) (ι := Unit) (fun _ i1 => True) (fun _ i1 => [(3, (I d1))]) (fun _ i1 => X :: R) ?_ ?_
 ·refine c_block ?_
  refine c_loop (l_sub (sc J (sc J (sc J sn))) (l_keep (kc rm0 kr) (lf (X := Int × Int) (ι := Unit) (fun k x => vitrineref01_Num_l2 p0 k x) _ (fun x2 i2 => True) (fun x2 i2 => [(4, (I x2.1)), (3, (I x2.2)), (0, (.string p0))]) (fun x2 i2 => X :: R) (fun _ => J) ?_ fuel (0, 0) () trivial h)))
  clear h
  rintro k2 ih2 x2 i2 _ h
  rw [vitrineref01_Num_l2.eq_2] at h
  refine l_round (c_seq (cr (op J J (op J J ?_))))
  refine o1 J (o_lens (s := p0) J J J ?_)
  refine o1 J (o_p (v := (O (decide (x2.1 < (p0.size : Int))))) J ?_)
  refine oe ?_
  refine c_cond (b := (decide (x2.1 < (p0.size : Int)))) J (fun hb1317 => ?_) (fun hb1317 => ?_)
  ·replace h := cond_t hb1317 h
   refine c_skip (e_seq (c_seq (c_block (cr ?_))))
   refine op J J (op J J ?_)
   replace h := gsome h
   obtain ⟨hg1318, h⟩ := h
   refine o1 J (o_sidx (s := p0) (n := x2.1) J J J J hg1318 ?_)
   refine o1 J (o_p (v := (U (IntKind.wrap .u8 ((sbyte p0 x2.1) - 48)))) J ?_)
   refine o1 J (o_p (v := (I (w64 (IntKind.wrap .u8 ((sbyte p0 x2.1) - 48))))) J ?_)
   refine op J J (oe (c_seq (cr ?_)))
   refine op J J (op J J ?_)
   replace h := gsome h
   obtain ⟨hg1319, h⟩ := h
   refine o1 J (o_sidx (s := p0) (n := x2.1) J J J J hg1319 ?_)
   refine o1 J (o_p (v := (O (decide ((sbyte p0 x2.1) ≥ 97)))) J ?_)
   refine oe ?_
   replace h := bsome h
   obtain ⟨d5, h, hk5⟩ := h
   refine cj (D := Unit) (ι := Unit) (fun _ i5 => True) (fun _ i5 => [(5, (I d5)), (4, (I x2.1)), (3, (I x2.2)), (0, (.string p0))]) (fun _ i5 => X :: R) ?_ ?_
   ·refine c_cond (b := (decide ((sbyte p0 x2.1) ≥ 97))) J (fun hb1320 => ?_) (fun hb1320 => ?_)
    ·replace h := cond_t hb1320 h
     refine c_region (op J J (op J J ?_))
     replace h := gsome h
     obtain ⟨hg1321, h⟩ := h
     refine o1 J (o_sidx (s := p0) (n := x2.1) J J J J hg1321 ?_)
     refine o1 J (o_p (v := (U (IntKind.wrap .u8 ((sbyte p0 x2.1) - 97)))) J ?_)
     refine o1 J (o_p (v := (I (w64 (IntKind.wrap .u8 ((sbyte p0 x2.1) - 97))))) J ?_)
     refine o1 J (o_p (v := (I (w64 ((w64 (IntKind.wrap .u8 ((sbyte p0 x2.1) - 97))) + 10)))) J ?_)
     refine op J J (o_end ?_)
     obtain rfl := si h
     exact ej () () trivial (sc J (sc J (sc J (sc J sn)))) (kc rm0 kr)
    ·replace h := cond_f hb1320 h
     refine c_skip ?_
     obtain rfl := si h
     exact ej () () trivial (sc J (sc J (sc J (sc J sn)))) (kc rm0 kr)
   ·rintro _ i5 _
    replace h := hk5
    clear hk5
    refine e_seq (c_region (op J J ?_))
    refine o1 J (o_p (v := (I (w64 (16 * x2.2)))) J ?_)
    refine op J J ?_
    refine o1 J (o_p (v := (I (w64 ((w64 (16 * x2.2)) + d5)))) J ?_)
    refine op J J (o_end (e_blk (e_seq (c_region (op J J ?_)))))
    refine o1 J (o_p (v := (I (w64 (x2.1 + 1)))) J ?_)
    refine op J J (o_end ?_)
    exact e_loop (l_sub (sc J (sc J (sc J sn))) (l_keep (kc rm0 kr) (ih2 (w64 (x2.1 + 1), w64 ((w64 (16 * x2.2)) + d5)) () trivial h)))
  ·replace h := cond_f hb1317 h
   refine c_exit (e_then_exit (e_then_exit (e_blk_exit ?_)))
   obtain rfl := si h
   exact ej () () trivial (sc J sn) (kc rm0 kr)
 ·rintro _ i1 _
  replace h := hk1
  clear hk1
  refine e_seq (cr (op J J (op J J (o_end ?_))))
  refine e_seq (c_ret (e_ret ?_))
  refine r_endt J J (kc rm0 kr) ?_
  obtain rfl := si h
  exact hk

theorem c_vitrineref04_Six {g : Gw} (hg : GK g) (X : HP) (p0 : Int) (r : Int) (h : m_vitrineref04_Six p0 = some r) : Tri env g 65 (A [(I p0)]) [X] (fun K R => K (U r) (X :: R)) := by
 refine tri_of (fn := Tryz.f65) (N := 13) Tryz.func65 J J J ?_
 intro R K hk
 unfold m_vitrineref04_Six at h
 change GC _ none _ [] [(0, (I p0))] (X :: R) g _ _
 refine cr (op J J (oe (c_seq ?_)))
 refine c_region (op J J ?_)
 replace h := bsome h
 obtain ⟨d1, h1, h⟩ := h
 refine o1 J (o_call has97 J (c_vitrineref04_Mod hg X p0 64 _ h1) (pc rm0 pn) ?_)
 refine o1 J (o_p (v := (I (w64 (2 * d1)))) J ?_)
 refine op J J (oe (cr (op J J ?_)))
 refine op J J ?_
 refine o1 J (o_p (v := (I (w64 ((w64 (2 * d1)) + 2)))) J ?_)
 replace h := gsome h
 obtain ⟨hg1306, h⟩ := h
 refine o1 J (o_ssl (s := (ByteArray.mk (A [52, 48, 99, 49, 99, 50, 99, 51, 99, 52, 99, 53, 99, 54, 99, 55, 99, 56, 99, 57, 52, 97, 52, 98, 52, 99, 52, 100, 52, 101, 52, 102, 53, 48, 100, 49, 100, 50, 100, 51, 100, 52, 100, 53, 100, 54, 100, 55, 100, 56, 100, 57, 53, 97, 53, 98, 53, 99, 53, 100, 53, 101, 53, 102, 54, 48, 54, 49, 101, 50, 101, 51, 101, 52, 101, 53, 101, 54, 101, 55, 101, 56, 101, 57, 54, 97, 54, 98, 54, 99, 54, 100, 54, 101, 54, 102, 102, 48, 102, 49, 102, 50, 102, 51, 102, 52, 102, 53, 102, 54, 102, 55, 102, 56, 102, 57, 55, 97, 55, 98, 55, 99, 55, 100, 55, 101, 55, 102]))) (a := w64 (2 * d1)) (b := w64 ((w64 (2 * d1)) + 2)) J J J J J hg1306 ?_)
 replace h := bsome h
 obtain ⟨d2, h2, h⟩ := h
 refine o1 J (o_call has98 J (c_vitrineref01_Num hg X (ByteArray.extract (ByteArray.mk (A [52, 48, 99, 49, 99, 50, 99, 51, 99, 52, 99, 53, 99, 54, 99, 55, 99, 56, 99, 57, 52, 97, 52, 98, 52, 99, 52, 100, 52, 101, 52, 102, 53, 48, 100, 49, 100, 50, 100, 51, 100, 52, 100, 53, 100, 54, 100, 55, 100, 56, 100, 57, 53, 97, 53, 98, 53, 99, 53, 100, 53, 101, 53, 102, 54, 48, 54, 49, 101, 50, 101, 51, 101, 52, 101, 53, 101, 54, 101, 55, 101, 56, 101, 57, 54, 97, 54, 98, 54, 99, 54, 100, 54, 101, 54, 102, 102, 48, 102, 49, 102, 50, 102, 51, 102, 52, 102, 53, 102, 54, 102, 55, 102, 56, 102, 57, 55, 97, 55, 98, 55, 99, 55, 100, 55, 101, 55, 102])) (Int.toNat (w64 (2 * d1))) (Int.toNat (w64 ((w64 (2 * d1)) + 2)))) _ h2) (pc rm0 pn) ?_)
 refine o1 J (o_p (v := (U (IntKind.wrap .u8 (d2)))) J ?_)
 refine op J J (oe (c_ret (e_ret ?_)))
 refine r_endt J J (kc rm0 kr) ?_
 obtain rfl := si h
 exact hk

theorem c_vitrineref04_Unsix {g : Gw} (hg : GK g) (X : HP) (p0 : Int) (r : Int) (h : m_vitrineref04_Unsix p0 = some r) : Tri env g 109 (A [(U p0)]) [X] (fun K R => K (I r) (X :: R)) := by
 refine tri_of (fn := Tryz.f109) (N := 16) Tryz.func109 J J J ?_
 intro R K hk
 unfold m_vitrineref04_Unsix at h
 change GC _ none _ [] [(0, (U p0))] (X :: R) g _ _
 refine cr (op J J (oe (c_seq ?_)))
 refine cr (op J J (oe ?_))
 replace h := jn_some h
 obtain ⟨y1, h, hk1⟩ := h
 refine cj (D := Unit) (ι := Unit) (fun d1 i1 => y1 = Sum.inl d1) (fun d1 i1 => [(0, (U p0))]) (fun d1 i1 => X :: R) ?_ ?_
 ·refine c_block ?_
  refine c_loop (l_sub (sc J (sc J sn)) (l_keep (kc rm0 kr) (lf (X := Int) (ι := Unit) (fun k x => vitrineref04_Unsix_l2 p0 k x) _ (fun x2 i2 => True) (fun x2 i2 => [(3, (I x2)), (0, (U p0))]) (fun x2 i2 => X :: R) (fun _ => J) ?_ fuel 0 () trivial h)))
  clear h
  rintro k2 ih2 x2 i2 _ h
  rw [vitrineref04_Unsix_l2.eq_2] at h
  refine l_round (c_seq (cr (op J J ?_)))
  refine o1 J (o_p (v := (O (decide (x2 < 64)))) J ?_)
  refine oe ?_
  refine c_cond (b := (decide (x2 < 64))) J (fun hb1325 => ?_) (fun hb1325 => ?_)
  ·replace h := cond_t hb1325 h
   refine c_skip (e_seq (c_seq (c_block (cr ?_))))
   refine op J J ?_
   replace h := bsome h
   obtain ⟨d5, h5, h⟩ := h
   refine o1 J (o_call has65 J (c_vitrineref04_Six hg X x2 _ h5) (pc rm0 pn) ?_)
   refine op J J ?_
   refine o1 J (o_p (v := (O (d5 == p0))) J ?_)
   refine oe ?_
   refine c_cond (b := (d5 == p0)) J (fun hb1326 => ?_) (fun hb1326 => ?_)
   ·replace h := cond_t hb1326 h
    refine cr (op J J (op J J (oe ?_)))
    refine c_ret (e_blk_ret (e_then_ret (e_then_ret (e_blk_ret (ej_ret ?_)))))
    replace h := esc_some h
    obtain ⟨z1, h, rfl⟩ := h
    obtain rfl := (hk1 : z1 = _)
    refine e_then_ret (e_ret ?_)
    refine r_endt J J (kc rm0 kr) ?_
    obtain rfl := si h
    exact hk
   ·replace h := cond_f hb1326 h
    refine c_skip (e_blk (e_seq (c_region (op J J ?_))))
    refine o1 J (o_p (v := (I (w64 (x2 + 1)))) J ?_)
    refine op J J (o_end ?_)
    exact e_loop (l_sub (sc J (sc J sn)) (l_keep (kc rm0 kr) (ih2 (w64 (x2 + 1)) () trivial h)))
  ·replace h := cond_f hb1325 h
   refine c_exit (e_then_exit (e_then_exit (e_blk_exit ?_)))
   obtain rfl := si h
   exact ej () () J (sc J sn) (kc rm0 kr)
 ·rintro d1 i1 rfl
  replace h := JK_inl hk1
  clear hk1
  refine e_seq (cr (op J J ?_))
  refine o1 J (o_p (v := (I (w64 (p0)))) J ?_)
  refine o1 rfl (o_rem (m := w64 (p0)) (n := 64) rfl rfl (by decide) ?_)
  refine op J J (oe (c_ret (e_ret ?_)))
  refine r_endt J J (kc rm0 kr) ?_
  obtain rfl := si h
  exact hk

theorem c_vitrineref04_Decode {g : Gw} (hg : GK g) (X : HP) (p0 : Int) (p1 : List Int) (s0 : SV) (q0 : Rd X s0 5 (enI .u8) p1) (r : Int × Int) (h : m_vitrineref04_Decode p0 p1 = some r) : Tri env g 92 (A [(I p0), (V s0)]) [X] (fun K R => K (.tuple (A [(I r.1), (I r.2)])) (X :: R)) := by
 refine tri_of (fn := Tryz.f92) (N := 59) Tryz.func92 J J J ?_
 intro R K hk
 unfold m_vitrineref04_Decode at h
 change GC _ none _ [] [(0, (I p0)), (1, (V s0))] (X :: R) g _ _
 refine cr (op J J (op J J (oe ?_)))
 refine c_seq (c_seq ?_)
 replace h := bsome h
 obtain ⟨d1, h, hk1⟩ := h
 refine cj (D := Unit) (ι := Unit) (fun _ i1 => True) (fun _ i1 => [(16, (O d1)), (0, (I p0)), (1, (V s0))]) (fun _ i1 => X :: R) ?_ ?_
 ·refine c_region (op J J ?_)
  refine o1 J (o_p (v := (O (p0 != 12))) J ?_)
  refine op J J ?_
  rcases bool_or ((p0 != 12)) with hb1291 | hb1291
  ·replace h := cond_t hb1291 h
   refine oy J J J hb1291 (o_p J ?_)
   refine oy J J J hb1291 (o_p (v := (O (p0 != 14))) J ?_)
   refine o1 J (o_pick_t J hb1291 J ?_)
   refine op J J ?_
   rcases bool_or ((p0 != 14)) with hb1292 | hb1292
   ·replace h := cond_t hb1292 h
    refine oy J J J hb1292 (o_p J ?_)
    refine oy J J J hb1292 (o_p (v := (O (p0 != 16))) J ?_)
    refine o1 J (o_pick_t J hb1292 J ?_)
    refine o_end ?_
    obtain rfl := si h
    exact ej () () trivial (sc J (sc J (sc J sn))) (kc rm0 kr)
   ·replace h := cond_f hb1292 h
    refine on J J J hb1292 ?_
    refine on J J J hb1292 ?_
    refine o1 J (o_pick_f J hb1292 J ?_)
    refine o_end ?_
    obtain rfl := si h
    exact ej () () trivial (sc J (sc J (sc J sn))) (kc rm0 kr)
  ·replace h := cond_f hb1291 h
   refine on J J J hb1291 ?_
   refine on J J J hb1291 ?_
   refine o1 J (o_pick_f J hb1291 J ?_)
   refine op J J ?_
   refine on J J J J ?_
   refine on J J J J ?_
   refine o1 J (o_pick_f J J J ?_)
   refine o_end ?_
   obtain rfl := si h
   exact ej () () trivial (sc J (sc J (sc J sn))) (kc rm0 kr)
 ·rintro _ i1 _
  replace h := hk1
  clear hk1
  refine e_seq ?_
  refine c_cond (b := d1) J (fun hb1293 => ?_) (fun hb1293 => ?_)
  ·replace h := cond_t hb1293 h
   refine cr (op J J (op J J (oe ?_)))
   refine c_ret (e_then_ret (e_ret ?_))
   refine r_endt J J (kc rm0 kr) ?_
   obtain rfl := si h
   exact hk
  ·replace h := cond_f hb1293 h
   refine c_skip (e_seq (c_seq (cr (op J J ?_))))
   refine o1 J (o_len (s := s0) J J J rm0 q0 ?_)
   refine o1 J (o_p (v := (O (decide ((p1.length : Int) < 2)))) J ?_)
   refine oe ?_
   refine c_cond (b := (decide ((p1.length : Int) < 2))) J (fun hb1294 => ?_) (fun hb1294 => ?_)
   ·replace h := cond_t hb1294 h
    refine cr (op J J (op J J (oe ?_)))
    refine c_ret (e_then_ret (e_ret ?_))
    refine r_endt J J (kc rm0 kr) ?_
    obtain rfl := si h
    exact hk
   ·replace h := cond_f hb1294 h
    refine c_skip (e_seq (c_seq ?_))
    replace h := gsome h
    obtain ⟨hg1295, h⟩ := h
    replace h := gsome h
    obtain ⟨hg1296, h⟩ := h
    refine c_draw (n := 0) (q := [(0, 20, (V s0)), (1, 21, (F (SV.blk s0) (SV.off s0 + Int.toNat 0 * 1))), (2, 22, (U (rd p1 0))), (3, 23, (I (w64 ((rd p1 0))))), (4, 24, (I (w64 (256 * (w64 ((rd p1 0))))))), (5, 25, (V s0)), (6, 26, (F (SV.blk s0) (SV.off s0 + Int.toNat 1 * 1))), (7, 27, (U (rd p1 1))), (8, 28, (I (w64 ((rd p1 1))))), (9, 29, (I (w64 ((w64 (256 * (w64 ((rd p1 0))))) + (w64 ((rd p1 1))))))), (10, 6, (I (w64 ((w64 (256 * (w64 ((rd p1 0))))) + (w64 ((rd p1 1)))))))]) (pend := [0, 1, 2, 3, 4, 5, 6, 7, 8, 9, 10]) J J J ?_
    refine ⟨⟨fun _ => ⟨J, J, J, .inl ⟨J, (o_p J ⟨J, J⟩)⟩⟩, fun _ => ⟨J, J, J, .inl ⟨J, (o_ix (s := s0) (n := 0) (e := (enI .u8)) J J J J J J rm0 q0 hg1295 ⟨J, J⟩)⟩⟩, fun _ => ⟨J, J, J, .inl ⟨J, (o_ldE (s := s0) (e := (enI .u8)) (n := 0) (f := 0) (v := (U (rd p1 0))) J rm0 q0 hg1295 J J ⟨J, J⟩)⟩⟩, fun _ => ⟨J, J, J, .inl ⟨J, (o_p (v := (I (w64 ((rd p1 0))))) J ⟨J, J⟩)⟩⟩, fun _ => ⟨J, J, J, .inl ⟨J, (o_p (v := (I (w64 (256 * (w64 ((rd p1 0))))))) J ⟨J, J⟩)⟩⟩, fun _ => ⟨J, J, J, .inl ⟨J, (o_p J ⟨J, J⟩)⟩⟩, fun _ => ⟨J, J, J, .inl ⟨J, (o_ix (s := s0) (n := 1) (e := (enI .u8)) J J J J J J rm0 q0 hg1296 ⟨J, J⟩)⟩⟩, fun _ => ⟨J, J, J, .inl ⟨J, (o_ldE (s := s0) (e := (enI .u8)) (n := 1) (f := 0) (v := (U (rd p1 1))) J rm0 q0 hg1296 J J ⟨J, J⟩)⟩⟩, fun _ => ⟨J, J, J, .inl ⟨J, (o_p (v := (I (w64 ((rd p1 1))))) J ⟨J, J⟩)⟩⟩, fun _ => ⟨J, J, J, .inl ⟨J, (o_p (v := (I (w64 ((w64 (256 * (w64 ((rd p1 0))))) + (w64 ((rd p1 1))))))) J ⟨J, J⟩)⟩⟩, fun _ => ⟨J, J, J, .inl ⟨J, (o_p J ⟨J, J⟩)⟩⟩, trivial⟩, J, J, J, ?_⟩
    refine e_seq (c_seq (c_seq ?_))
    replace h := bsome h
    obtain ⟨d5, h, hk5⟩ := h
    refine cj (D := Unit) (ι := Unit) (fun _ i5 => True) (fun _ i5 => [(37, (O d5)), (6, (I (w64 ((w64 (256 * (w64 ((rd p1 0))))) + (w64 ((rd p1 1))))))), (1, (V s0))]) (fun _ i5 => X :: R) ?_ ?_
    ·refine c_region (op J J ?_)
     refine o1 J (o_p (v := (O (p0 == 16))) J ?_)
     refine op J J ?_
     rcases bool_or ((p0 == 16)) with hb1297 | hb1297
     ·replace h := cond_t hb1297 h
      refine on J J J hb1297 ?_
      refine on J J J hb1297 ?_
      refine on J J J hb1297 ?_
      refine on J J J hb1297 ?_
      refine o1 J (o_pick_t J hb1297 J ?_)
      refine o_end ?_
      obtain rfl := si h
      exact ej () () trivial (sc J (sc J (sc J sn))) (kc rm0 kr)
     ·replace h := cond_f hb1297 h
      refine oy J J J hb1297 (o_p J ?_)
      replace h := gsome h
      obtain ⟨hg1298, h⟩ := h
      refine oy J J J hb1297 (o_ix (s := s0) (n := 0) (e := (enI .u8)) J J J J J J rm0 q0 hg1298 ?_)
      refine oy J J J hb1297 (o_ldE (s := s0) (e := (enI .u8)) (n := 0) (f := 0) (v := (U (rd p1 0))) J rm0 q0 hg1298 J J ?_)
      refine oy J J J hb1297 (o_p (v := (O (decide ((rd p1 0) < 64)))) J ?_)
      refine o1 J (o_pick_f J hb1297 J ?_)
      refine o_end ?_
      obtain rfl := si h
      exact ej () () trivial (sc J (sc J (sc J sn))) (kc rm0 kr)
    ·rintro _ i5 _
     replace h := hk5
     clear hk5
     refine e_seq ?_
     refine c_cond (b := d5) J (fun hb1299 => ?_) (fun hb1299 => ?_)
     ·replace h := cond_t hb1299 h
      refine cr (op J J (op J J (op J J (o_end ?_))))
      refine e_seq (c_ret (e_then_ret (e_ret ?_)))
      refine r_endt J J (kc rm0 kr) ?_
      obtain rfl := si h
      exact hk
     ·replace h := cond_f hb1299 h
      refine c_skip (e_seq (c_seq (c_seq ?_)))
      replace h := bsome h
      obtain ⟨d7, h, hk7⟩ := h
      refine cj (D := Unit) (ι := Unit) (fun _ i7 => True) (fun _ i7 => [(48, (O d7)), (1, (V s0))]) (fun _ i7 => X :: R) ?_ ?_
      ·refine c_region (op J J ?_)
       replace h := gsome h
       obtain ⟨hg1300, h⟩ := h
       refine o1 J (o_ix (s := s0) (n := 0) (e := (enI .u8)) J J J J J J rm0 q0 hg1300 ?_)
       refine o1 J (o_ldE (s := s0) (e := (enI .u8)) (n := 0) (f := 0) (v := (U (rd p1 0))) J rm0 q0 hg1300 J J ?_)
       refine o1 J (o_p (v := (O (decide ((rd p1 0) ≥ 128)))) J ?_)
       refine op J J ?_
       rcases bool_or ((decide ((rd p1 0) ≥ 128))) with hb1301 | hb1301
       ·replace h := cond_t hb1301 h
        refine oy J J J hb1301 (o_p J ?_)
        replace h := gsome h
        obtain ⟨hg1302, h⟩ := h
        refine oy J J J hb1301 (o_ix (s := s0) (n := 0) (e := (enI .u8)) J J J J J J rm0 q0 hg1302 ?_)
        refine oy J J J hb1301 (o_ldE (s := s0) (e := (enI .u8)) (n := 0) (f := 0) (v := (U (rd p1 0))) J rm0 q0 hg1302 J J ?_)
        refine oy J J J hb1301 (o_p (v := (O (decide ((rd p1 0) < 192)))) J ?_)
        refine o1 J (o_pick_t J hb1301 J ?_)
        refine o_end ?_
        obtain rfl := si h
        exact ej () () trivial (sc J (sc J sn)) (kc rm0 kr)
       ·replace h := cond_f hb1301 h
        refine on J J J hb1301 ?_
        refine on J J J hb1301 ?_
        refine on J J J hb1301 ?_
        refine on J J J hb1301 ?_
        refine o1 J (o_pick_f J hb1301 J ?_)
        refine o_end ?_
        obtain rfl := si h
        exact ej () () trivial (sc J (sc J sn)) (kc rm0 kr)
      ·rintro _ i7 _
       replace h := hk7
       clear hk7
       refine e_seq ?_
       refine c_cond (b := d7) J (fun hb1303 => ?_) (fun hb1303 => ?_)
       ·replace h := cond_t hb1303 h
        refine cr (op J J (op J J (oe ?_)))
        refine c_ret (e_then_ret (e_ret ?_))
        refine r_endt J J (kc rm0 kr) ?_
        obtain rfl := si h
        exact hk
       ·replace h := cond_f hb1303 h
        refine c_skip (e_seq (c_seq ?_))
        replace h := gsome h
        obtain ⟨hg1304, h⟩ := h
        replace h := gsome h
        obtain ⟨hg1305, h⟩ := h
        refine c_draw (n := 2) (q := [(0, 49, (V s0)), (1, 50, (F (SV.blk s0) (SV.off s0 + Int.toNat 0 * 1))), (2, 51, (U (rd p1 0))), (5, 54, (V s0)), (6, 55, (F (SV.blk s0) (SV.off s0 + Int.toNat 1 * 1))), (7, 56, (U (rd p1 1)))]) (pend := [0, 1, 2, 5, 6, 7]) J J J ?_
        replace h := bsome h
        obtain ⟨d10, h10, h⟩ := h
        refine ⟨⟨fun _ => ⟨J, J, J, .inl ⟨J, (o_p J ⟨J, J⟩)⟩⟩, fun _ => ⟨J, J, J, .inl ⟨J, (o_ix (s := s0) (n := 0) (e := (enI .u8)) J J J J J J rm0 q0 hg1304 ⟨J, J⟩)⟩⟩, fun _ => ⟨J, J, J, .inl ⟨J, (o_ldE (s := s0) (e := (enI .u8)) (n := 0) (f := 0) (v := (U (rd p1 0))) J rm0 q0 hg1304 J J ⟨J, J⟩)⟩⟩, fun _ => ⟨J, J, J, .inl ⟨J, (o_p J ⟨J, J⟩)⟩⟩, fun _ => ⟨J, J, J, .inl ⟨J, (o_ix (s := s0) (n := 1) (e := (enI .u8)) J J J J J J rm0 q0 hg1305 ⟨J, J⟩)⟩⟩, fun _ => ⟨J, J, J, .inl ⟨J, (o_ldE (s := s0) (e := (enI .u8)) (n := 1) (f := 0) (v := (U (rd p1 1))) J rm0 q0 hg1305 J J ⟨J, J⟩)⟩⟩, trivial⟩, J, .inr ⟨[3], J, J, ⟨J, .inl J, ?_⟩, trivial⟩⟩
        refine (o_call has109 J (c_vitrineref04_Unsix hg X (rd p1 0) _ h10) (pc rm0 pn) ?_)
        refine ⟨[(4, 53, (I (w64 (64 * d10))))], [5, 6, 7, 4], J, J, J, J, ?_⟩
        replace h := bsome h
        obtain ⟨d11, h11, h⟩ := h
        refine ⟨⟨fun _ => ⟨J, J, J, .inl ⟨J, (o_p (v := (I (w64 (64 * d10)))) J ⟨J, J⟩)⟩⟩, (fun h => nomatch h), (fun h => nomatch h), (fun h => nomatch h), fun _ => ⟨J, J, J, .inl ⟨J, (o_p J ⟨J, J⟩)⟩⟩, fun _ => ⟨J, J, J, .inl ⟨J, (o_ix (s := s0) (n := 1) (e := (enI .u8)) J J J J J J rm0 q0 hg1305 ⟨J, J⟩)⟩⟩, fun _ => ⟨J, J, J, .inl ⟨J, (o_ldE (s := s0) (e := (enI .u8)) (n := 1) (f := 0) (v := (U (rd p1 1))) J rm0 q0 hg1305 J J ⟨J, J⟩)⟩⟩, trivial⟩, J, .inr ⟨[8], J, J, ⟨J, .inl J, ?_⟩, trivial⟩⟩
        refine (o_call has109 J (c_vitrineref04_Unsix hg X (rd p1 1) _ h11) (pc rm0 pn) ?_)
        refine ⟨[(9, 58, (I (w64 ((w64 (64 * d10)) + d11)))), (10, 4, (I (w64 ((w64 (64 * d10)) + d11)))), (11, 5, (I 0))], [4, 9, 10, 11], J, J, J, J, ?_⟩
        refine ⟨⟨fun _ => ⟨J, J, J, .inl ⟨J, (o_p (v := (I (w64 ((w64 (64 * d10)) + d11)))) J ⟨J, J⟩)⟩⟩, fun _ => ⟨J, J, J, .inl ⟨J, (o_p J ⟨J, J⟩)⟩⟩, fun _ => ⟨J, J, J, .inl ⟨J, (o_p J ⟨J, J⟩)⟩⟩, fun _ => ⟨J, J, J, .inl ⟨J, (o_p (v := (I (w64 (64 * d10)))) J ⟨J, J⟩)⟩⟩, (fun h => nomatch h), (fun h => nomatch h), (fun h => nomatch h), (fun h => nomatch h), (fun h => nomatch h), (fun h => nomatch h), trivial⟩, J, J, J, ?_⟩
        refine e_seq (c_ret (e_ret ?_))
        refine r_endt J J (kc rm0 kr) ?_
        obtain rfl := si h
        exact hk

theorem c_vitrineref16_Name {g : Gw} (hg : GK g) (X : HP) (p0 : Int) (r : ByteArray) (h : m_vitrineref16_Name p0 = some r) : Tri env g 76 (A [(I p0)]) [X] (fun K R => K (.string r) (X :: R)) := by
 refine tri_of (fn := Tryz.f76) (N := 22) Tryz.func76 J J J ?_
 intro R K hk
 unfold m_vitrineref16_Name at h
 change GC _ none _ [] [(0, (I p0))] (X :: R) g _ _
 refine cr (op J J (oe (c_seq ?_)))
 refine c_region ?_
 refine o1 J (o_bs (e := enS) (l := [(ByteArray.mk (A [84, 101, 120, 116])), (ByteArray.mk (A [80, 84])), (ByteArray.mk (A [71, 69])), (ByteArray.mk (A [83, 66, 65])), (ByteArray.mk (A [69, 85, 65])), (ByteArray.mk (A [73, 67])), (ByteArray.mk (A [83, 70])), (ByteArray.mk (A [83, 65])), (ByteArray.mk (A [83, 70, 69])), (ByteArray.mk (A [77, 70])), (ByteArray.mk (A [82, 65]))]) (zs := [(.string ByteArray.empty)]) J J J J J J J J J J (fun s1342 => ?_))
 refine op J J (oe (c_seq (cr ?_)))
 refine o1 J (o_bs (e := (enI .i64)) (l := [0, 5, 8, 17, 18, 19, 29, 40, 41, 44, 60]) (zs := [(I 0)]) J J J J J J J J J J (fun s1344 => ?_))
 refine o1 J (o_len (s := s1344) J J J rm0 (rd_own _ _ _ _) ?_)
 refine op J J (oe ?_)
 replace h := jn_some h
 obtain ⟨y1, h, hk1⟩ := h
 refine cj (D := Unit) (ι := Unit) (fun d1 i1 => y1 = Sum.inl d1) (fun d1 i1 => []) (fun d1 i1 => X :: R) ?_ ?_
 ·refine c_block ?_
  refine c_loop (l_sub (sc J (sc J (sc J (sc J (sc J sn))))) (l_keep (kc rm2 (kc rm0 (kc rm0 kr))) (lf (X := Int) (ι := Unit) (fun k x => vitrineref16_Name_l2 p0 k x) _ (fun x2 i2 => True) (fun x2 i2 => [(9, (I x2)), (8, (I ([0, 5, 8, 17, 18, 19, 29, 40, 41, 44, 60].length : Int))), (7, (V s1344)), (3, (V s1342)), (0, (I p0))]) (fun x2 i2 => X :: slO s1344 3 (enI .i64) [0, 5, 8, 17, 18, 19, 29, 40, 41, 44, 60] :: slO s1342 9 enS [(ByteArray.mk (A [84, 101, 120, 116])), (ByteArray.mk (A [80, 84])), (ByteArray.mk (A [71, 69])), (ByteArray.mk (A [83, 66, 65])), (ByteArray.mk (A [69, 85, 65])), (ByteArray.mk (A [73, 67])), (ByteArray.mk (A [83, 70])), (ByteArray.mk (A [83, 65])), (ByteArray.mk (A [83, 70, 69])), (ByteArray.mk (A [77, 70])), (ByteArray.mk (A [82, 65]))] :: R) (fun _ => J) ?_ fuel 0 () trivial h)))
  clear h
  rintro k2 ih2 x2 i2 _ h
  rw [vitrineref16_Name_l2.eq_2] at h
  refine l_round (cr ?_)
  refine o1 J (o_p (v := (O (decide (x2 < ([0, 5, 8, 17, 18, 19, 29, 40, 41, 44, 60].length : Int))))) J ?_)
  refine oe (c_seq ?_)
  refine c_cond (b := (decide (x2 < ([0, 5, 8, 17, 18, 19, 29, 40, 41, 44, 60].length : Int)))) J (fun hb1354 => ?_) (fun hb1354 => ?_)
  ·replace h := cond_t hb1354 h
   refine c_skip (e_seq (c_seq (c_block (cr ?_))))
   refine op J J ?_
   replace h := gsome h
   obtain ⟨hg1355, h⟩ := h
   refine o1 J (o_ix (s := s1344) (n := x2) (e := (enI .i64)) J J J J J J rm1 (rd_own _ _ _ _) hg1355 ?_)
   refine o1 J (o_ldE (s := s1344) (e := (enI .i64)) (n := x2) (f := 0) (v := (I (rd [0, 5, 8, 17, 18, 19, 29, 40, 41, 44, 60] x2))) J rm1 (rd_own _ _ _ _) hg1355 J J ?_)
   refine op J J (op J J (oe (cr ?_)))
   refine op J J (op J J ?_)
   refine o1 J (o_p (v := (O ((rd [0, 5, 8, 17, 18, 19, 29, 40, 41, 44, 60] x2) == p0))) J ?_)
   refine oe ?_
   refine c_cond (b := ((rd [0, 5, 8, 17, 18, 19, 29, 40, 41, 44, 60] x2) == p0)) J (fun hb1356 => ?_) (fun hb1356 => ?_)
   ·replace h := cond_t hb1356 h
    refine cr (op J J (op J J ?_))
    replace h := gsome h
    obtain ⟨hg1357, h⟩ := h
    refine o1 J (o_ix (s := s1342) (n := x2) (e := enS) J J J J J J rm2 (rd_own _ _ _ _) hg1357 ?_)
    refine o1 J (o_ldE (s := s1342) (e := enS) (n := x2) (f := 0) (v := (.string (rd [(ByteArray.mk (A [84, 101, 120, 116])), (ByteArray.mk (A [80, 84])), (ByteArray.mk (A [71, 69])), (ByteArray.mk (A [83, 66, 65])), (ByteArray.mk (A [69, 85, 65])), (ByteArray.mk (A [73, 67])), (ByteArray.mk (A [83, 70])), (ByteArray.mk (A [83, 65])), (ByteArray.mk (A [83, 70, 69])), (ByteArray.mk (A [77, 70])), (ByteArray.mk (A [82, 65]))] x2))) J rm2 (rd_own _ _ _ _) hg1357 J J ?_)
    refine op J J (oe (c_ret (e_blk_ret (e_then_ret ?_))))
    refine e_then_ret (e_blk_ret (ej_ret ?_))
    replace h := esc_some h
    obtain ⟨z1, h, rfl⟩ := h
    obtain rfl := (hk1 : z1 = _)
    refine e_then_ret (e_ret ?_)
    refine r_endt J J (kc rm0 (kd (kd kr))) ?_
    obtain rfl := si h
    exact hk
   ·replace h := cond_f hb1356 h
    refine c_skip (e_blk (e_seq (c_region ?_)))
    refine o1 J (o_p (v := (I (w64 (x2 + 1)))) J ?_)
    refine op J J (o_end ?_)
    exact e_loop (l_sub (sc J (sc J (sc J (sc J (sc J sn))))) (l_keep (kc rm0 (kc rm0 (kc rm0 kr))) (ih2 (w64 (x2 + 1)) () trivial h)))
  ·replace h := cond_f hb1354 h
   refine c_exit (e_then_exit (e_then_exit (e_blk_exit ?_)))
   obtain rfl := si h
   exact ej () () J sn (kc rm0 (kd (kd kr)))
 ·rintro d1 i1 rfl
  replace h := JK_inl hk1
  clear hk1
  refine e_seq (cr (op J J (oe ?_)))
  refine c_ret (e_ret ?_)
  refine r_endt J J (kc rm0 kr) ?_
  obtain rfl := si h
  exact hk

theorem c_vitrineref16_Is {g : Gw} (hg : GK g) (X : HP) (p0 : Int) (r : Bool) (h : m_vitrineref16_Is p0 = some r) : Tri env g 41 (A [(U p0)]) [X] (fun K R => K (O r) (X :: R)) := by
 refine tri_of (fn := Tryz.f41) (N := 11) Tryz.func41 J J J ?_
 intro R K hk
 unfold m_vitrineref16_Is at h
 change GC _ none _ [] [(0, (U p0))] (X :: R) g _ _
 refine cr (op J J (oe (c_seq ?_)))
 replace h := bsome h
 obtain ⟨d1, h, hk1⟩ := h
 refine cj (D := Unit) (ι := Unit) (fun _ i1 => True) (fun _ i1 => [(2, (O d1))]) (fun _ i1 => X :: R) ?_ ?_
 ·refine c_region (op J J ?_)
  refine o1 J (o_p (v := (O (p0 != 0))) J ?_)
  refine op J J ?_
  rcases bool_or ((p0 != 0)) with hb1341 | hb1341
  ·replace h := cond_t hb1341 h
   refine oy J J J hb1341 (o_p J ?_)
   refine oy J J J hb1341 (o_p (v := (I (w64 (p0)))) J ?_)
   replace h := bsome h
   obtain ⟨d2, h2, h⟩ := h
   refine oy J J J hb1341 (o_call has76 J (c_vitrineref16_Name hg X (w64 (p0)) _ h2) (pc rm0 pn) ?_)
   refine oy J J J hb1341 (o_p (v := (O (!(d2.data.toList == (ByteArray.mk (A [])).data.toList)))) J ?_)
   refine o1 J (o_pick_t J hb1341 J ?_)
   refine op J J (o_end ?_)
   obtain rfl := si h
   exact ej () () trivial (sc J sn) (kc rm0 kr)
  ·replace h := cond_f hb1341 h
   refine on J J J hb1341 ?_
   refine on J J J hb1341 ?_
   refine on J J J hb1341 ?_
   refine on J J J hb1341 ?_
   refine o1 J (o_pick_f J hb1341 J ?_)
   refine op J J (o_end ?_)
   obtain rfl := si h
   exact ej () () trivial (sc J sn) (kc rm0 kr)
 ·rintro _ i1 _
  replace h := hk1
  clear hk1
  refine e_seq (c_ret (e_ret ?_))
  refine r_endt J J (kc rm0 kr) ?_
  obtain rfl := si h
  exact hk

theorem c_vitrineref01_Copy {g : Gw} (hg : GK g) (X : HP) (p0 : List Int) (s0 : SV) (q0 : Rd X s0 5 (enI .u8) p0) (r : (List Int)) (h : m_vitrineref01_Copy p0 = some r) : Tri env g 120 (A [(V s0)]) [X] (fun K R => ∀ (i0 : SV), K (V i0) (X :: slO i0 5 (enI .u8) r :: R)) := by
 refine tri_of (fn := Tryz.f120) (N := 6) Tryz.func120 J J J ?_
 intro R K hk
 unfold m_vitrineref01_Copy at h
 change GC _ none _ [] [(0, (V s0))] (X :: R) g _ _
 refine cr (op J J (oe (c_seq ?_)))
 refine c_region ?_
 refine o1 J (o_bs (e := (enI .u8)) (l := ([] : List Int)) (zs := [(U 0)]) J J J J J J J J J J (fun s1371 => ?_))
 refine op J J ?_
 replace h := gsome h
 obtain ⟨hg1373, h⟩ := h
 refine o1 J (o_app (s := s1371) (r := s0) (e := (enI .u8)) (l := ([] : List Int)) (l2 := p0) (zs := [(U 0)]) J J J J J J J J J J J rm0 rm0 q0 hg1373 (fun s1374 => ?_))
 refine op J J (oe (c_ret (e_ret ?_)))
 refine r_endt J J (kc rm1 (kc rm0 kr)) ?_
 obtain rfl := si h
 exact hk s1374

theorem c_vitrineref05_Parse {g : Gw} (hg : GK g) (X : HP) (p0 : List Int) (s0 : SV) (q0 : Rd X s0 5 (enI .u8) p0) (r : (List Vvitrineref05_Pair) × Int × Int) (h : m_vitrineref05_Parse p0 = some r) : Tri env g 121 (A [(V s0)]) [X] (fun K R => ∀ (i0 : SV), K (.tuple (A [(V i0), (I r.2.1), (I r.2.2)])) (X :: slO i0 82 en_Vvitrineref05_Pair r.1 :: R)) := by
 refine tri_of (fn := Tryz.f121) (N := 55) Tryz.func121 J J J ?_
 intro R K hk
 unfold m_vitrineref05_Parse at h
 change GC _ none _ [] [(0, (V s0))] (X :: R) g _ _
 refine cr (op J J (op J J (op J J (o_end ?_))))
 refine e_seq (c_seq (c_seq ?_))
 replace h := bsome h
 obtain ⟨d1, h, hk1⟩ := h
 refine cj (D := Unit) (ι := Unit) (fun _ i1 => True) (fun _ i1 => [(21, (O d1)), (0, (V s0))]) (fun _ i1 => X :: R) ?_ ?_
 ·refine c_region (op J J ?_)
  refine o1 J (o_len (s := s0) J J J rm0 q0 ?_)
  refine o1 J (o_p (v := (O ((p0.length : Int) == 0))) J ?_)
  refine op J J ?_
  rcases bool_or (((p0.length : Int) == 0)) with hb1389 | hb1389
  ·replace h := cond_t hb1389 h
   refine on J J J hb1389 ?_
   refine on J J J hb1389 ?_
   refine on J J J hb1389 ?_
   refine on J J J hb1389 ?_
   refine on J J J hb1389 ?_
   refine on J J J hb1389 ?_
   refine on J J J hb1389 ?_
   refine on J J J hb1389 ?_
   refine on J J J hb1389 ?_
   refine o1 J (o_pick_t J hb1389 J ?_)
   refine o_end ?_
   obtain rfl := si h
   exact ej () () trivial (sc J (sc J sn)) (kc rm0 kr)
  ·replace h := cond_f hb1389 h
   refine oy J J J hb1389 (o_p J ?_)
   refine oy J J J hb1389 (o_len (s := s0) J J J rm0 q0 ?_)
   refine oy J J J hb1389 (o_p (v := (I (w64 ((p0.length : Int) - 1)))) J ?_)
   refine oy J J J hb1389 (o_p J ?_)
   replace h := gsome h
   obtain ⟨hg1390, h⟩ := h
   refine oy J J J hb1389 (o_ix (s := s0) (n := 0) (e := (enI .u8)) J J J J J J rm0 q0 hg1390 ?_)
   refine oy J J J hb1389 (o_ldE (s := s0) (e := (enI .u8)) (n := 0) (f := 0) (v := (U (rd p0 0))) J rm0 q0 hg1390 J J ?_)
   refine oy J J J hb1389 (o_p (v := (I (w64 ((rd p0 0))))) J ?_)
   refine oy J J J hb1389 (o_p (v := (I (w64 (2 * (w64 ((rd p0 0))))))) J ?_)
   refine oy J J J hb1389 (o_p (v := (O (decide ((w64 ((p0.length : Int) - 1)) < (w64 (2 * (w64 ((rd p0 0))))))))) J ?_)
   refine o1 J (o_pick_f J hb1389 J ?_)
   refine o_end ?_
   obtain rfl := si h
   exact ej () () trivial (sc J (sc J sn)) (kc rm0 kr)
 ·rintro _ i1 _
  replace h := hk1
  clear hk1
  refine e_seq ?_
  refine c_cond (b := d1) J (fun hb1391 => ?_) (fun hb1391 => ?_)
  ·replace h := cond_t hb1391 h
   refine cr (op J J (op J J (op J J (o_end ?_))))
   refine e_seq (c_ret (e_then_ret (e_ret ?_)))
   refine r_add (slO SV.nil 82 en_Vvitrineref05_Pair []) (slO_nil _ _ _) ?_
   refine r_endt J J (kc rm1 (kc rm0 kr)) ?_
   obtain rfl := si h
   exact hk SV.nil
  ·replace h := cond_f hb1391 h
   refine c_skip (e_seq (cr (op J J (o_end ?_))))
   refine e_seq (c_seq (cr (op J J (o_end ?_))))
   refine e_seq ?_
   replace h := jn_some h
   obtain ⟨y3, h, hk3⟩ := h
   refine cj (D := (List Vvitrineref05_Pair)) (ι := SV) (fun d3 i3 => y3 = Sum.inl d3) (fun d3 i3 => [(5, (V i3))]) (fun d3 i3 => X :: slO i3 82 en_Vvitrineref05_Pair d3 :: R) ?_ ?_
   ·refine c_block ?_
    refine c_add (slO SV.nil 82 en_Vvitrineref05_Pair []) (slO_nil _ _ _) ?_
    refine c_loop (l_sub (sc J (sc J (sc J sn))) (l_keep (kc rm1 (kc rm0 kr)) (lf (X := Int × (List Vvitrineref05_Pair)) (ι := SV) (fun k x => vitrineref05_Parse_l4 p0 k x) _ (fun x4 i4 => True) (fun x4 i4 => [(6, (I x4.1)), (5, (V i4)), (0, (V s0))]) (fun x4 i4 => X :: slO i4 82 en_Vvitrineref05_Pair x4.2 :: R) (fun _ => J) ?_ fuel (0, ([] : List Vvitrineref05_Pair)) SV.nil trivial h)))
    clear h
    rintro k4 ih4 x4 i4 _ h
    rw [vitrineref05_Parse_l4.eq_2] at h
    refine l_round (c_seq (cr (op J J (op J J ?_))))
    replace h := gsome h
    obtain ⟨hg1419, h⟩ := h
    refine o1 J (o_ix (s := s0) (n := 0) (e := (enI .u8)) J J J J J J rm0 q0 hg1419 ?_)
    refine o1 J (o_ldE (s := s0) (e := (enI .u8)) (n := 0) (f := 0) (v := (U (rd p0 0))) J rm0 q0 hg1419 J J ?_)
    refine o1 J (o_p (v := (I (w64 ((rd p0 0))))) J ?_)
    refine o1 J (o_p (v := (O (decide (x4.1 < (w64 ((rd p0 0))))))) J ?_)
    refine oe ?_
    refine c_cond (b := (decide (x4.1 < (w64 ((rd p0 0)))))) J (fun hb1420 => ?_) (fun hb1420 => ?_)
    ·replace h := cond_t hb1420 h
     refine c_skip (e_seq (c_seq (c_block (c_seq ?_))))
     replace h := gsome h
     obtain ⟨hg1421, h⟩ := h
     replace h := gsome h
     obtain ⟨hg1422, h⟩ := h
     refine c_draw (n := 2) (q := [(0, 30, (V s0)), (1, 31, (I x4.1)), (2, 32, (I (w64 (2 * x4.1)))), (3, 33, (I (w64 (1 + (w64 (2 * x4.1)))))), (4, 34, (F (SV.blk s0) (SV.off s0 + Int.toNat (w64 (1 + (w64 (2 * x4.1)))) * 1))), (5, 35, (U (rd p0 (w64 (1 + (w64 (2 * x4.1))))))), (6, 36, (V s0)), (7, 37, (I x4.1)), (8, 38, (I (w64 (2 * x4.1)))), (9, 39, (I (w64 (2 + (w64 (2 * x4.1)))))), (10, 40, (F (SV.blk s0) (SV.off s0 + Int.toNat (w64 (2 + (w64 (2 * x4.1)))) * 1))), (11, 41, (U (rd p0 (w64 (2 + (w64 (2 * x4.1))))))), (12, 42, (.agg (A [(U (rd p0 (w64 (1 + (w64 (2 * x4.1)))))), (U (rd p0 (w64 (2 + (w64 (2 * x4.1))))))])))]) (pend := [0, 1, 2, 3, 4, 5, 6, 7, 8, 9, 10, 11, 12]) J J J ?_
     refine ⟨⟨fun _ => ⟨J, J, J, .inl ⟨J, (o_p J ⟨J, J⟩)⟩⟩, fun _ => ⟨J, J, J, .inl ⟨J, (o_p J ⟨J, J⟩)⟩⟩, fun _ => ⟨J, J, J, .inl ⟨J, (o_p (v := (I (w64 (2 * x4.1)))) J ⟨J, J⟩)⟩⟩, fun _ => ⟨J, J, J, .inl ⟨J, (o_p (v := (I (w64 (1 + (w64 (2 * x4.1)))))) J ⟨J, J⟩)⟩⟩, fun _ => ⟨J, J, J, .inl ⟨J, (o_ix (s := s0) (n := w64 (1 + (w64 (2 * x4.1)))) (e := (enI .u8)) J J J J J J rm0 q0 hg1421 ⟨J, J⟩)⟩⟩, fun _ => ⟨J, J, J, .inl ⟨J, (o_ldE (s := s0) (e := (enI .u8)) (n := w64 (1 + (w64 (2 * x4.1)))) (f := 0) (v := (U (rd p0 (w64 (1 + (w64 (2 * x4.1))))))) J rm0 q0 hg1421 J J ⟨J, J⟩)⟩⟩, fun _ => ⟨J, J, J, .inl ⟨J, (o_p J ⟨J, J⟩)⟩⟩, fun _ => ⟨J, J, J, .inl ⟨J, (o_p J ⟨J, J⟩)⟩⟩, fun _ => ⟨J, J, J, .inl ⟨J, (o_p (v := (I (w64 (2 * x4.1)))) J ⟨J, J⟩)⟩⟩, fun _ => ⟨J, J, J, .inl ⟨J, (o_p (v := (I (w64 (2 + (w64 (2 * x4.1)))))) J ⟨J, J⟩)⟩⟩, fun _ => ⟨J, J, J, .inl ⟨J, (o_ix (s := s0) (n := w64 (2 + (w64 (2 * x4.1)))) (e := (enI .u8)) J J J J J J rm0 q0 hg1422 ⟨J, J⟩)⟩⟩, fun _ => ⟨J, J, J, .inl ⟨J, (o_ldE (s := s0) (e := (enI .u8)) (n := w64 (2 + (w64 (2 * x4.1)))) (f := 0) (v := (U (rd p0 (w64 (2 + (w64 (2 * x4.1))))))) J rm0 q0 hg1422 J J ⟨J, J⟩)⟩⟩, fun _ => ⟨J, J, J, .inl ⟨J, (o_build (fs := f_0) (ps := [(0, 1), (1, 1)]) (cs := [(U (rd p0 (w64 (1 + (w64 (2 * x4.1)))))), (U (rd p0 (w64 (2 + (w64 (2 * x4.1))))))]) J J J J J ⟨J, J⟩)⟩⟩, trivial⟩, J, .inr ⟨[13], J, J, ⟨J, .inl J, ?_⟩, trivial⟩⟩
     refine (o_alloc (cs := [(U 0), (U 0)]) J J (fun b1423 => ?_))
     refine ⟨[], [0, 1, 2, 3, 4, 5, 6, 7, 8, 9, 10, 11, 12], J, J, J, J, ?_⟩
     refine ⟨⟨fun _ => ⟨J, J, J, .inl ⟨J, (o_p J ⟨J, J⟩)⟩⟩, fun _ => ⟨J, J, J, .inl ⟨J, (o_p J ⟨J, J⟩)⟩⟩, fun _ => ⟨J, J, J, .inl ⟨J, (o_p (v := (I (w64 (2 * x4.1)))) J ⟨J, J⟩)⟩⟩, fun _ => ⟨J, J, J, .inl ⟨J, (o_p (v := (I (w64 (1 + (w64 (2 * x4.1)))))) J ⟨J, J⟩)⟩⟩, fun _ => ⟨J, J, J, .inl ⟨J, (o_ix (s := s0) (n := w64 (1 + (w64 (2 * x4.1)))) (e := (enI .u8)) J J J J J J rm1 q0 hg1421 ⟨J, J⟩)⟩⟩, fun _ => ⟨J, J, J, .inl ⟨J, (o_ldE (s := s0) (e := (enI .u8)) (n := w64 (1 + (w64 (2 * x4.1)))) (f := 0) (v := (U (rd p0 (w64 (1 + (w64 (2 * x4.1))))))) J rm1 q0 hg1421 J J ⟨J, J⟩)⟩⟩, fun _ => ⟨J, J, J, .inl ⟨J, (o_p J ⟨J, J⟩)⟩⟩, fun _ => ⟨J, J, J, .inl ⟨J, (o_p J ⟨J, J⟩)⟩⟩, fun _ => ⟨J, J, J, .inl ⟨J, (o_p (v := (I (w64 (2 * x4.1)))) J ⟨J, J⟩)⟩⟩, fun _ => ⟨J, J, J, .inl ⟨J, (o_p (v := (I (w64 (2 + (w64 (2 * x4.1)))))) J ⟨J, J⟩)⟩⟩, fun _ => ⟨J, J, J, .inl ⟨J, (o_ix (s := s0) (n := w64 (2 + (w64 (2 * x4.1)))) (e := (enI .u8)) J J J J J J rm1 q0 hg1422 ⟨J, J⟩)⟩⟩, fun _ => ⟨J, J, J, .inl ⟨J, (o_ldE (s := s0) (e := (enI .u8)) (n := w64 (2 + (w64 (2 * x4.1)))) (f := 0) (v := (U (rd p0 (w64 (2 + (w64 (2 * x4.1))))))) J rm1 q0 hg1422 J J ⟨J, J⟩)⟩⟩, fun _ => ⟨J, J, J, .inl ⟨J, (o_build (fs := f_0) (ps := [(0, 1), (1, 1)]) (cs := [(U (rd p0 (w64 (1 + (w64 (2 * x4.1)))))), (U (rd p0 (w64 (2 + (w64 (2 * x4.1))))))]) J J J J J ⟨J, J⟩)⟩⟩, trivial⟩, J, .inr ⟨[14], J, J, ⟨J, .inl J, ?_⟩, trivial⟩⟩
     refine (o_st (b := b1423) (off := 0) (vs := [(U (rd p0 (w64 (1 + (w64 (2 * x4.1)))))), (U (rd p0 (w64 (2 + (w64 (2 * x4.1))))))]) (cs' := [(U (rd p0 (w64 (1 + (w64 (2 * x4.1)))))), (U (rd p0 (w64 (2 + (w64 (2 * x4.1))))))]) J J rp0 J J J J J J ?_)
     refine ⟨[], [], J, J, ?_⟩
     refine ⟨⟨(fun h => nomatch h), (fun h => nomatch h), (fun h => nomatch h), (fun h => nomatch h), (fun h => nomatch h), (fun h => nomatch h), (fun h => nomatch h), (fun h => nomatch h), (fun h => nomatch h), (fun h => nomatch h), (fun h => nomatch h), (fun h => nomatch h), (fun h => nomatch h), trivial⟩, J, J, J, ?_⟩
     refine e_seq (c_seq (cr ?_))
     refine o1 J (o_ld (b := b1423) (off := 0) (v := (.agg (A [(U (rd p0 (w64 (1 + (w64 (2 * x4.1)))))), (U (rd p0 (w64 (2 + (w64 (2 * x4.1))))))]))) J rm0 J J ?_)
     replace h := bsome h
     obtain ⟨d8, h8, h⟩ := h
     refine o1 J (o_call has29 J (c_vitrineref05_Right hg X (⟨(rd p0 (w64 (1 + (w64 (2 * x4.1))))), (rd p0 (w64 (2 + (w64 (2 * x4.1)))))⟩ : Vvitrineref05_Pair) _ h8) (pc rm1 pn) ?_)
     refine o1 J (o_p (v := (O (!d8))) J ?_)
     refine oe ?_
     refine c_cond (b := (!d8)) J (fun hb1425 => ?_) (fun hb1425 => ?_)
     ·replace h := cond_t hb1425 h
      refine cr (op J J (op J J (op J J (o_end ?_))))
      refine e_seq (c_ret (e_then_ret (e_blk_ret (e_then_ret (e_then_ret ?_)))))
      refine e_blk_ret (ej_ret ?_)
      replace h := esc_some h
      obtain ⟨z3, h, rfl⟩ := h
      obtain rfl := (hk3 : z3 = _)
      refine e_then_ret (e_ret ?_)
      refine r_add (slO SV.nil 82 en_Vvitrineref05_Pair []) (slO_nil _ _ _) ?_
      refine r_endt J J (kc rm1 (kc rm0 (kd (kd kr)))) ?_
      obtain rfl := si h
      exact hk SV.nil
     ·replace h := cond_f hb1425 h
      refine c_skip (e_seq (c_region (op J J ?_)))
      refine o1 J (o_ld (b := b1423) (off := 0) (v := (.agg (A [(U (rd p0 (w64 (1 + (w64 (2 * x4.1)))))), (U (rd p0 (w64 (2 + (w64 (2 * x4.1))))))]))) J rm1 J J ?_)
      refine o1 J (o_bs (e := en_Vvitrineref05_Pair) (l := [(⟨(rd p0 (w64 (1 + (w64 (2 * x4.1))))), (rd p0 (w64 (2 + (w64 (2 * x4.1)))))⟩ : Vvitrineref05_Pair)]) (zs := [(U 0), (U 0)]) J J J J J J J J J J (fun s1426 => ?_))
      replace h := gsome h
      obtain ⟨hg1428, h⟩ := h
      refine o1 J (o_app (s := i4) (r := s1426) (e := en_Vvitrineref05_Pair) (l := x4.2) (l2 := [(⟨(rd p0 (w64 (1 + (w64 (2 * x4.1))))), (rd p0 (w64 (2 + (w64 (2 * x4.1)))))⟩ : Vvitrineref05_Pair)]) (zs := [(U 0), (U 0)]) J J J J J J J J J J J rm3 rm0 (rd_own _ _ _ _) hg1428 (fun s1429 => ?_))
      refine op J J (o_end (e_blk (e_seq (c_region (op J J ?_)))))
      refine o1 J (o_p (v := (I (w64 (x4.1 + 1)))) J ?_)
      refine op J J (o_end ?_)
      exact e_loop (l_sub (sc J (sc J (sc J sn))) (l_keep (kc rm2 (kc rm0 (kd (kd kr)))) (ih4 (w64 (x4.1 + 1), (x4.2 ++ [(⟨(rd p0 (w64 (1 + (w64 (2 * x4.1))))), (rd p0 (w64 (2 + (w64 (2 * x4.1)))))⟩ : Vvitrineref05_Pair)])) s1429 trivial h)))
    ·replace h := cond_f hb1420 h
     refine c_exit (e_then_exit (e_then_exit (e_blk_exit ?_)))
     obtain rfl := si h
     exact ej x4.2 i4 J (sc J sn) (kc rm0 (kc rm0 kr))
   ·rintro d3 i3 rfl
    replace h := JK_inl hk3
    clear hk3
    refine e_seq (cr (op J J (op J J ?_)))
    refine o1 J (o_len (s := i3) J J J rm1 (rd_own _ _ _ _) ?_)
    refine o1 J (o_p (v := (I (w64 (2 * (d3.length : Int))))) J ?_)
    refine o1 J (o_p (v := (I (w64 (1 + (w64 (2 * (d3.length : Int))))))) J ?_)
    refine op J J (op J J (op J J (oe (c_ret ?_))))
    refine e_ret ?_
    refine r_endt J J (kc rm0 (kc rm0 kr)) ?_
    obtain rfl := si h
    exact hk i3

theorem c_vitrineref16_next {g : Gw} (hg : GK g) (X : HP) (p0 : List Int) (s0 : SV) (q0 : Rd X s0 5 (enI .u8) p0) (r : Vvitrineref16_Op × Int × Int) (h : m_vitrineref16_next p0 = some r) : Tri env g 110 (A [(V s0)]) [X] (fun K R => ∀ (i0 : SV × SV), K (.tuple (A [(.agg (A [(I r.1.Kind), (I r.1.Addr), (U r.1.Code), (O r.1.Graph), (U r.1.FA), (V i0.1), (V i0.2)])), (I r.2.1), (I r.2.2)])) (X :: slO i0.1 82 en_Vvitrineref05_Pair r.1.Pairs :: slO i0.2 5 (enI .u8) r.1.Text :: R)) := by
 refine tri_of (fn := Tryz.f110) (N := 161) Tryz.func110 J J J ?_
 intro R K hk
 unfold m_vitrineref16_next at h
 change GC _ none _ [] [(0, (V s0))] (X :: R) g _ _
 refine cr ?_
 refine o1 J (o_alloc (cs := [(I 0), (I 0), (U 0), (O false), (U 0), (V SV.nil), (V SV.nil)]) J J (fun b1335 => ?_))
 refine op J J (op J J (oe (cr ?_)))
 refine op J J ?_
 replace h := gsome h
 obtain ⟨hg1337, h⟩ := h
 refine o1 J (o_ix (s := s0) (n := 0) (e := (enI .u8)) J J J J J J rm1 q0 hg1337 ?_)
 refine o1 J (o_ldE (s := s0) (e := (enI .u8)) (n := 0) (f := 0) (v := (U (rd p0 0))) J rm1 q0 hg1337 J J ?_)
 refine o1 J (o_p (v := (I (w64 ((rd p0 0))))) J ?_)
 refine o1 J (o_build (fs := f_4) (ps := [(0, 1), (1, 1), (2, 1), (3, 1), (4, 1), (5, 1), (6, 1)]) (cs := [(I (w64 ((rd p0 0)))), (I 0), (U 0), (O false), (U 0), (V SV.nil), (V SV.nil)]) J J J J J ?_)
 refine o1 J (o_alloc (cs := [(I 0), (I 0), (U 0), (O false), (U 0), (V SV.nil), (V SV.nil)]) J J (fun b1338 => ?_))
 refine o0 (o_st (b := b1338) (off := 0) (vs := [(I (w64 ((rd p0 0)))), (I 0), (U 0), (O false), (U 0), (V SV.nil), (V SV.nil)]) (cs' := [(I (w64 ((rd p0 0)))), (I 0), (U 0), (O false), (U 0), (V SV.nil), (V SV.nil)]) J J rp0 J J J J J J ?_)
 refine oe (c_seq (cr (op J J ?_)))
 replace h := gsome h
 obtain ⟨hg1340, h⟩ := h
 refine o1 J (o_ix (s := s0) (n := 0) (e := (enI .u8)) J J J J J J rm2 q0 hg1340 ?_)
 refine o1 J (o_ldE (s := s0) (e := (enI .u8)) (n := 0) (f := 0) (v := (U (rd p0 0))) J rm2 q0 hg1340 J J ?_)
 replace h := bsome h
 obtain ⟨d1, h1, h⟩ := h
 refine o1 J (o_call has41 J (c_vitrineref16_Is hg X (rd p0 0) _ h1) (pc rm2 pn) ?_)
 refine o1 J (o_p (v := (O (!d1))) J ?_)
 refine oe ?_
 refine c_cond (b := (!d1)) J (fun hb1358 => ?_) (fun hb1358 => ?_)
 ·replace h := cond_t hb1358 h
  refine cr (op J J (oe (c_seq ?_)))
  replace h := bsome h
  obtain ⟨d3, h, hk3⟩ := h
  refine cj (D := Unit) (ι := Unit) (fun _ i3 => True) (fun _ i3 => [(6, (I d3)), (2, (F b1335 0)), (0, (V s0))]) (fun _ i3 => X :: blk b1335 (.cells (A [(I 0), (I 0), (U 0), (O false), (U 0), (V SV.nil), (V SV.nil)]) 137 (0, 0)) :: R) ?_ ?_
  ·refine c_block ?_
   refine c_loop (l_sub (sc J (sc J (sc J sn))) (l_keep (kc rm0 (kc rm1 (kd kr))) (lf (X := Int) (ι := Unit) (fun k x => vitrineref16_next_l4 p0 k x) _ (fun x4 i4 => True) (fun x4 i4 => [(6, (I x4)), (2, (F b1335 0)), (0, (V s0))]) (fun x4 i4 => X :: blk b1335 (.cells (A [(I 0), (I 0), (U 0), (O false), (U 0), (V SV.nil), (V SV.nil)]) 137 (0, 0)) :: R) (fun _ => J) ?_ fuel 0 () trivial h)))
   clear h
   rintro k4 ih4 x4 i4 _ h
   rw [vitrineref16_next_l4.eq_2] at h
   refine l_round (c_seq (c_seq ?_))
   replace h := bsome h
   obtain ⟨d5, h, hk5⟩ := h
   refine cj (D := Unit) (ι := Unit) (fun _ i5 => True) (fun _ i5 => [(35, (O d5)), (6, (I x4)), (2, (F b1335 0)), (0, (V s0))]) (fun _ i5 => X :: blk b1335 (.cells (A [(I 0), (I 0), (U 0), (O false), (U 0), (V SV.nil), (V SV.nil)]) 137 (0, 0)) :: R) ?_ ?_
   ·refine c_region (op J J (op J J ?_))
    refine o1 J (o_len (s := s0) J J J rm0 q0 ?_)
    refine o1 J (o_p (v := (O (decide (x4 < (p0.length : Int))))) J ?_)
    refine op J J ?_
    rcases bool_or ((decide (x4 < (p0.length : Int)))) with hb1365 | hb1365
    ·replace h := cond_t hb1365 h
     refine oy J J J hb1365 (o_p J ?_)
     refine oy J J J hb1365 (o_p J ?_)
     replace h := gsome h
     obtain ⟨hg1366, h⟩ := h
     refine oy J J J hb1365 (o_ix (s := s0) (n := x4) (e := (enI .u8)) J J J J J J rm0 q0 hg1366 ?_)
     refine oy J J J hb1365 (o_ldE (s := s0) (e := (enI .u8)) (n := x4) (f := 0) (v := (U (rd p0 x4))) J rm0 q0 hg1366 J J ?_)
     replace h := bsome h
     obtain ⟨d6, h6, h⟩ := h
     refine oy J J J hb1365 (o_call has41 J (c_vitrineref16_Is hg X (rd p0 x4) _ h6) (pc rm0 pn) ?_)
     refine oy J J J hb1365 (o_p (v := (O (!d6))) J ?_)
     refine o1 J (o_pick_t J hb1365 J ?_)
     refine o_end ?_
     obtain rfl := si h
     exact ej () () trivial (sc J (sc J (sc J (sc J sn)))) (kc rm0 (kc rm0 kr))
    ·replace h := cond_f hb1365 h
     refine on J J J hb1365 ?_
     refine on J J J hb1365 ?_
     refine on J J J hb1365 ?_
     refine on J J J hb1365 ?_
     refine on J J J hb1365 ?_
     refine on J J J hb1365 ?_
     refine o1 J (o_pick_f J hb1365 J ?_)
     refine o_end ?_
     obtain rfl := si h
     exact ej () () trivial (sc J (sc J (sc J (sc J sn)))) (kc rm0 (kc rm0 kr))
   ·rintro _ i5 _
    replace h := hk5
    clear hk5
    refine e_seq ?_
    refine c_cond (b := d5) J (fun hb1367 => ?_) (fun hb1367 => ?_)
    ·replace h := cond_t hb1367 h
     refine c_skip (e_seq (c_block (c_region (op J J ?_))))
     refine o1 J (o_p (v := (I (w64 (x4 + 1)))) J ?_)
     refine op J J (o_end (e_blk ?_))
     exact e_loop (l_sub (sc J (sc J (sc J sn))) (l_keep (kc rm0 (kc rm0 kr)) (ih4 (w64 (x4 + 1)) () trivial h)))
    ·replace h := cond_f hb1367 h
     refine c_exit (e_then_exit (e_then_exit (e_blk_exit ?_)))
     obtain rfl := si h
     exact ej () () trivial (sc J (sc J (sc J sn))) (kc rm0 (kc rm0 kr))
  ·rintro _ i3 _
   replace h := hk3
   clear hk3
   refine e_seq (cr (op J J (op J J ?_)))
   replace h := gsome h
   obtain ⟨hg1368, h⟩ := h
   refine o1 rfl (o_sl (a := 0) (b := d3) (m := none) rfl rfl rfl rfl rfl rm0 q0 rfl rfl rfl (by decide) hg1368 mx_none (fun s1370 hr1369 => ?_))
   replace h := bsome h
   obtain ⟨d8, h8, h⟩ := h
   refine o1 J (o_call has120 J (c_vitrineref01_Copy hg X (List.take (Int.toNat d3) p0) s1370 hr1369 _ h8) (pc rm0 pn) (fun i8 => ?_))
   refine o1 J (o_build (fs := f_4) (ps := [(0, 1), (1, 1), (2, 1), (3, 1), (4, 1), (5, 1), (6, 1)]) (cs := [(I 0), (I 0), (U 0), (O false), (U 0), (V SV.nil), (V i8)]) J J J J J ?_)
   refine op J J ?_
   refine o0 (o_st (b := b1335) (off := 0) (vs := [(I 0), (I 0), (U 0), (O false), (U 0), (V SV.nil), (V i8)]) (cs' := [(I 0), (I 0), (U 0), (O false), (U 0), (V SV.nil), (V i8)]) J J rp2 J J J J J J ?_)
   refine op J J (op J J (oe (c_ret (e_then_ret ?_))))
   refine e_ret ?_
   refine r_add (slO SV.nil 82 en_Vvitrineref05_Pair []) (slO_nil _ _ _) ?_
   refine r_endc (B := [[(I 0), (I 0), (U 0), (O false), (U 0), (V SV.nil), (V i8)]]) J ⟨⟨_, _, _, _, J, rm3⟩, trivial⟩ J (kc rm1 (kc rm0 (kc rm0 (kd kr)))) ?_
   obtain rfl := si h
   exact hk (SV.nil, i8)
 ·replace h := cond_f hb1358 h
  refine c_skip (e_seq (cr (op J J (o_end ?_))))
  refine e_seq (c_seq (cr ?_))
  refine o1 J (o_fa (fd := ⟨ "Kind", 3, 0, false, "", "", 0⟩) J J J J J ?_)
  refine o1 J (o_ld (b := b1338) (off := 0) (v := (I (w64 ((rd p0 0))))) J rm1 J J ?_)
  refine oe (c_block (c_seq (cr ?_)))
  refine o1 J (o_p (v := (O ((w64 ((rd p0 0))) == 17))) J ?_)
  refine op J J (oe ?_)
  replace h := bsome h
  obtain ⟨d10, h, hk10⟩ := h
  refine cj (D := Unit) (ι := Unit) (fun _ i10 => True) (fun _ i10 => [(46, (O d10)), (45, (I (w64 ((rd p0 0))))), (7, (I 1)), (5, (F b1338 0)), (2, (F b1335 0)), (0, (V s0))]) (fun _ i10 => X :: blk b1338 (.cells (A [(I (w64 ((rd p0 0)))), (I 0), (U 0), (O false), (U 0), (V SV.nil), (V SV.nil)]) 137 (0, 0)) :: blk b1335 (.cells (A [(I 0), (I 0), (U 0), (O false), (U 0), (V SV.nil), (V SV.nil)]) 137 (0, 0)) :: R) ?_ ?_
  ·refine c_cond (b := ((w64 ((rd p0 0))) == 17)) J (fun hb1378 => ?_) (fun hb1378 => ?_)
   ·replace h := cond_t hb1378 h
    refine c_skip ?_
    obtain rfl := si h
    exact ej () () trivial (sc J (sc J (sc J (sc J (sc J (sc J sn)))))) (kc rm0 (kc rm0 (kc rm0 kr)))
   ·replace h := cond_f hb1378 h
    refine cr ?_
    refine o1 J (o_p (v := (O ((w64 ((rd p0 0))) == 18))) J ?_)
    refine op J J (oe ?_)
    refine c_cond (b := ((w64 ((rd p0 0))) == 18)) J (fun hb1379 => ?_) (fun hb1379 => ?_)
    ·replace h := cond_t hb1379 h
     refine c_skip ?_
     obtain rfl := si h
     exact ej () () trivial (sc J (sc J (sc J (sc J (sc J (sc J sn)))))) (kc rm0 (kc rm0 (kc rm0 kr)))
    ·replace h := cond_f hb1379 h
     refine c_region ?_
     refine o1 J (o_p (v := (O ((w64 ((rd p0 0))) == 40))) J ?_)
     refine op J J (o_end ?_)
     obtain rfl := si h
     exact ej () () trivial (sc J (sc J (sc J (sc J (sc J (sc J sn)))))) (kc rm0 (kc rm0 (kc rm0 kr)))
  ·rintro _ i10 _
   replace h := hk10
   clear hk10
   refine e_seq ?_
   replace h := jn_some h
   obtain ⟨y11, h, hk11⟩ := h
   refine cj (D := Int) (ι := Unit) (fun d11 i11 => y11 = Sum.inl d11) (fun d11 i11 => [(7, (I d11)), (5, (F b1338 0)), (2, (F b1335 0)), (0, (V s0))]) (fun d11 i11 => X :: blk b1338 (.cells (A [(I (w64 ((rd p0 0)))), (I 0), (U 0), (O false), (U 0), (V SV.nil), (V SV.nil)]) 137 (0, 0)) :: blk b1335 (.cells (A [(I 0), (I 0), (U 0), (O false), (U 0), (V SV.nil), (V SV.nil)]) 137 (0, 0)) :: R) ?_ ?_
   ·refine c_cond (b := d10) J (fun hb1380 => ?_) (fun hb1380 => ?_)
    ·replace h := cond_t hb1380 h
     refine c_region (op J J (o_end ?_))
     obtain rfl := si h
     exact ej 3 () J (sc J (sc J (sc J (sc J sn)))) (kc rm0 (kc rm0 (kc rm0 kr)))
    ·replace h := cond_f hb1380 h
     refine cr ?_
     refine o1 J (o_p (v := (O ((w64 ((rd p0 0))) == 60))) J ?_)
     refine op J J (oe ?_)
     refine c_cond (b := ((w64 ((rd p0 0))) == 60)) J (fun hb1381 => ?_) (fun hb1381 => ?_)
     ·replace h := cond_t hb1381 h
      refine c_region (op J J (o_end ?_))
      obtain rfl := si h
      exact ej 4 () J (sc J (sc J (sc J (sc J sn)))) (kc rm0 (kc rm0 (kc rm0 kr)))
     ·replace h := cond_f hb1381 h
      refine c_seq (cr ?_)
      refine o1 J (o_p (v := (O ((w64 ((rd p0 0))) == 29))) J ?_)
      refine op J J (oe ?_)
      replace h := bsome h
      obtain ⟨d12, h, hk12⟩ := h
      refine cj (D := Unit) (ι := Unit) (fun _ i12 => True) (fun _ i12 => [(52, (O d12)), (45, (I (w64 ((rd p0 0))))), (7, (I 1)), (5, (F b1338 0)), (2, (F b1335 0)), (0, (V s0))]) (fun _ i12 => X :: blk b1338 (.cells (A [(I (w64 ((rd p0 0)))), (I 0), (U 0), (O false), (U 0), (V SV.nil), (V SV.nil)]) 137 (0, 0)) :: blk b1335 (.cells (A [(I 0), (I 0), (U 0), (O false), (U 0), (V SV.nil), (V SV.nil)]) 137 (0, 0)) :: R) ?_ ?_
      ·refine c_cond (b := ((w64 ((rd p0 0))) == 29)) J (fun hb1382 => ?_) (fun hb1382 => ?_)
       ·replace h := cond_t hb1382 h
        refine c_skip ?_
        obtain rfl := si h
        exact ej () () trivial (sc J (sc J (sc J (sc J (sc J (sc J sn)))))) (kc rm0 (kc rm0 (kc rm0 kr)))
       ·replace h := cond_f hb1382 h
        refine c_region ?_
        refine o1 J (o_p (v := (O ((w64 ((rd p0 0))) == 8))) J ?_)
        refine op J J (o_end ?_)
        obtain rfl := si h
        exact ej () () trivial (sc J (sc J (sc J (sc J (sc J (sc J sn)))))) (kc rm0 (kc rm0 (kc rm0 kr)))
      ·rintro _ i12 _
       replace h := hk12
       clear hk12
       refine e_seq ?_
       refine c_cond (b := d12) J (fun hb1383 => ?_) (fun hb1383 => ?_)
       ·replace h := cond_t hb1383 h
        refine c_region (op J J (o_end ?_))
        obtain rfl := si h
        exact ej 2 () J (sc J (sc J (sc J (sc J sn)))) (kc rm0 (kc rm0 (kc rm0 kr)))
       ·replace h := cond_f hb1383 h
        refine c_seq (cr ?_)
        refine o1 J (o_p (v := (O ((w64 ((rd p0 0))) == 41))) J ?_)
        refine op J J (oe ?_)
        replace h := bsome h
        obtain ⟨d13, h, hk13⟩ := h
        refine cj (D := Unit) (ι := Unit) (fun _ i13 => True) (fun _ i13 => [(55, (O d13)), (7, (I 1)), (5, (F b1338 0)), (2, (F b1335 0)), (0, (V s0))]) (fun _ i13 => X :: blk b1338 (.cells (A [(I (w64 ((rd p0 0)))), (I 0), (U 0), (O false), (U 0), (V SV.nil), (V SV.nil)]) 137 (0, 0)) :: blk b1335 (.cells (A [(I 0), (I 0), (U 0), (O false), (U 0), (V SV.nil), (V SV.nil)]) 137 (0, 0)) :: R) ?_ ?_
        ·refine c_cond (b := ((w64 ((rd p0 0))) == 41)) J (fun hb1384 => ?_) (fun hb1384 => ?_)
         ·replace h := cond_t hb1384 h
          refine c_skip ?_
          obtain rfl := si h
          exact ej () () trivial (sc J (sc J (sc J (sc J (sc J sn))))) (kc rm0 (kc rm0 (kc rm0 kr)))
         ·replace h := cond_f hb1384 h
          refine c_region ?_
          refine o1 J (o_p (v := (O ((w64 ((rd p0 0))) == 44))) J ?_)
          refine op J J (o_end ?_)
          obtain rfl := si h
          exact ej () () trivial (sc J (sc J (sc J (sc J (sc J sn))))) (kc rm0 (kc rm0 (kc rm0 kr)))
        ·rintro _ i13 _
         replace h := hk13
         clear hk13
         refine e_seq ?_
         refine c_cond (b := d13) J (fun hb1385 => ?_) (fun hb1385 => ?_)
         ·replace h := cond_t hb1385 h
          refine cr (op J J ?_)
          replace h := gsome h
          obtain ⟨hg1386, h⟩ := h
          refine o1 rfl (o_sl (a := 1) (b := (p0.length : Int)) (m := none) rfl rfl rfl rfl rfl rm0 q0 rfl rfl rfl (by decide) hg1386 mx_none (fun s1388 hr1387 => ?_))
          replace hr1387 := rd_tk hr1387
          replace h := bsome h
          obtain ⟨d14, h14, h⟩ := h
          refine o1 J (o_call has121 J (c_vitrineref05_Parse hg X (List.drop 1 p0) s1388 hr1387 _ h14) (pc rm0 pn) (fun i14 => ?_))
          refine op J J (op J J (op J J (op J J (op J J (op J J ?_)))))
          refine op J J (oe (cr (op J J ?_)))
          refine o1 J (o_fa (fd := ⟨ "Pairs", 79, 5, false, "", "", 24⟩) J J J J J ?_)
          refine o0 (o_st (b := b1338) (off := 5) (vs := [(V i14)]) (cs' := [(I (w64 ((rd p0 0)))), (I 0), (U 0), (O false), (U 0), (V i14), (V SV.nil)]) J J rp2 J J J J J J ?_)
          refine oe (cr ?_)
          refine o1 J (o_ld (b := b1338) (off := 0) (v := (.agg (A [(I (w64 ((rd p0 0)))), (I 0), (U 0), (O false), (U 0), (V i14), (V SV.nil)]))) J rm2 J J ?_)
          refine op J J ?_
          refine o1 J (o_p (v := (I (w64 (1 + d14.2.1)))) J ?_)
          refine op J J ?_
          refine o0 (o_st (b := b1335) (off := 0) (vs := [(I (w64 ((rd p0 0)))), (I 0), (U 0), (O false), (U 0), (V i14), (V SV.nil)]) (cs' := [(I (w64 ((rd p0 0)))), (I 0), (U 0), (O false), (U 0), (V i14), (V SV.nil)]) J J rp3 J J J J J J ?_)
          refine op J J (op J J (oe (c_ret (ej_ret ?_))))
          replace h := esc_some h
          obtain ⟨z11, h, rfl⟩ := h
          obtain rfl := (hk11 : z11 = _)
          refine e_blk_ret (e_then_ret (e_ret ?_))
          refine r_add (slO SV.nil 5 (enI .u8) []) (slO_nil _ _ _) ?_
          refine r_endc (B := [[(I (w64 ((rd p0 0)))), (I 0), (U 0), (O false), (U 0), (V i14), (V SV.nil)]]) J ⟨⟨_, _, _, _, J, rm4⟩, trivial⟩ J (kc rm1 (kc rm1 (kc rm0 (kd (kd kr))))) ?_
          obtain rfl := si h
          exact hk (i14, SV.nil)
         ·replace h := cond_f hb1385 h
          refine c_skip ?_
          obtain rfl := si h
          exact ej 1 () J (sc J (sc J (sc J (sc J sn)))) (kc rm0 (kc rm0 (kc rm0 kr)))
   ·rintro d11 i11 rfl
    replace h := JK_inl hk11
    clear hk11
    refine e_blk (e_seq (c_seq (c_seq ?_)))
    replace h := bsome h
    obtain ⟨d15, h, hk15⟩ := h
    refine cj (D := Unit) (ι := Unit) (fun _ i15 => True) (fun _ i15 => [(83, (O d15)), (7, (I d11)), (5, (F b1338 0)), (2, (F b1335 0)), (0, (V s0))]) (fun _ i15 => X :: blk b1338 (.cells (A [(I (w64 ((rd p0 0)))), (I 0), (U 0), (O false), (U 0), (V SV.nil), (V SV.nil)]) 137 (0, 0)) :: blk b1335 (.cells (A [(I 0), (I 0), (U 0), (O false), (U 0), (V SV.nil), (V SV.nil)]) 137 (0, 0)) :: R) ?_ ?_
    ·refine c_region ?_
     refine o1 J (o_fa (fd := ⟨ "Kind", 3, 0, false, "", "", 0⟩) J J J J J ?_)
     refine o1 J (o_ld (b := b1338) (off := 0) (v := (I (w64 ((rd p0 0))))) J rm1 J J ?_)
     refine o1 J (o_p (v := (O ((w64 ((rd p0 0))) == 17))) J ?_)
     refine op J J ?_
     rcases bool_or (((w64 ((rd p0 0))) == 17)) with hb1438 | hb1438
     ·replace h := cond_t hb1438 h
      refine on J J J hb1438 ?_
      refine on J J J hb1438 ?_
      refine on J J J hb1438 ?_
      refine o1 J (o_pick_t J hb1438 J ?_)
      refine op J J ?_
      refine on J J J J ?_
      refine on J J J J ?_
      refine on J J J J ?_
      refine o1 J (o_pick_t J J J ?_)
      refine o_end ?_
      obtain rfl := si h
      exact ej () () trivial (sc J (sc J (sc J (sc J (sc J sn))))) (kc rm0 (kc rm0 (kc rm0 kr)))
     ·replace h := cond_f hb1438 h
      refine oy J J J hb1438 (o_fa (fd := ⟨ "Kind", 3, 0, false, "", "", 0⟩) J J J J J ?_)
      refine oy J J J hb1438 (o_ld (b := b1338) (off := 0) (v := (I (w64 ((rd p0 0))))) J rm1 J J ?_)
      refine oy J J J hb1438 (o_p (v := (O ((w64 ((rd p0 0))) == 18))) J ?_)
      refine o1 J (o_pick_f J hb1438 J ?_)
      refine op J J ?_
      rcases bool_or (((w64 ((rd p0 0))) == 18)) with hb1439 | hb1439
      ·replace h := cond_t hb1439 h
       refine on J J J hb1439 ?_
       refine on J J J hb1439 ?_
       refine on J J J hb1439 ?_
       refine o1 J (o_pick_t J hb1439 J ?_)
       refine o_end ?_
       obtain rfl := si h
       exact ej () () trivial (sc J (sc J (sc J (sc J (sc J sn))))) (kc rm0 (kc rm0 (kc rm0 kr)))
      ·replace h := cond_f hb1439 h
       refine oy J J J hb1439 (o_fa (fd := ⟨ "Kind", 3, 0, false, "", "", 0⟩) J J J J J ?_)
       refine oy J J J hb1439 (o_ld (b := b1338) (off := 0) (v := (I (w64 ((rd p0 0))))) J rm1 J J ?_)
       refine oy J J J hb1439 (o_p (v := (O ((w64 ((rd p0 0))) == 60))) J ?_)
       refine o1 J (o_pick_f J hb1439 J ?_)
       refine o_end ?_
       obtain rfl := si h
       exact ej () () trivial (sc J (sc J (sc J (sc J (sc J sn))))) (kc rm0 (kc rm0 (kc rm0 kr)))
    ·rintro _ i15 _
     replace h := hk15
     clear hk15
     refine e_seq ?_
     refine c_cond (b := d15) J (fun hb1440 => ?_) (fun hb1440 => ?_)
     ·replace h := cond_t hb1440 h
      refine cr (op J J ?_)
      replace h := gsome h
      obtain ⟨hg1441, h⟩ := h
      refine o1 rfl (o_sl (a := 1) (b := (p0.length : Int)) (m := none) rfl rfl rfl rfl rfl rm0 q0 rfl rfl rfl (by decide) hg1441 mx_none (fun s1443 hr1442 => ?_))
      replace hr1442 := rd_tk hr1442
      cases h
     ·replace h := cond_f hb1440 h
      refine c_skip (e_seq (c_seq (cr (op J J ?_))))
      refine o1 J (o_len (s := s0) J J J rm0 q0 ?_)
      refine op J J ?_
      refine o1 J (o_p (v := (O (decide ((p0.length : Int) < d11)))) J ?_)
      refine oe ?_
      refine c_cond (b := (decide ((p0.length : Int) < d11))) J (fun hb1444 => ?_) (fun hb1444 => ?_)
      ·replace h := cond_t hb1444 h
       refine cr ?_
       refine o1 J (o_build (fs := f_4) (ps := [(0, 1), (1, 1), (2, 1), (3, 1), (4, 1), (5, 1), (6, 1)]) (cs := [(I 0), (I 0), (U 0), (O false), (U 0), (V SV.nil), (V SV.nil)]) J J J J J ?_)
       refine o0 (o_st (b := b1335) (off := 0) (vs := [(I 0), (I 0), (U 0), (O false), (U 0), (V SV.nil), (V SV.nil)]) (cs' := [(I 0), (I 0), (U 0), (O false), (U 0), (V SV.nil), (V SV.nil)]) J J rp2 J J J J J J ?_)
       refine op J J (op J J (oe (c_ret (e_then_ret ?_))))
       refine e_ret ?_
       refine r_add (slO SV.nil 82 en_Vvitrineref05_Pair []) (slO_nil _ _ _) ?_
       refine r_add (slO SV.nil 5 (enI .u8) []) (slO_nil _ _ _) ?_
       refine r_endc (B := [[(I 0), (I 0), (U 0), (O false), (U 0), (V SV.nil), (V SV.nil)]]) J ⟨⟨_, _, _, _, J, rm4⟩, trivial⟩ J (kc rm2 (kc rm1 (kc rm0 (kd (kd kr))))) ?_
       obtain rfl := si h
       exact hk (SV.nil, SV.nil)
      ·replace h := cond_f hb1444 h
       refine c_skip (e_seq (c_seq (cr ?_)))
       refine o1 J (o_fa (fd := ⟨ "Kind", 3, 0, false, "", "", 0⟩) J J J J J ?_)
       refine o1 J (o_ld (b := b1338) (off := 0) (v := (I (w64 ((rd p0 0))))) J rm1 J J ?_)
       refine oe (c_block (cr ?_))
       refine o1 J (o_p (v := (O ((w64 ((rd p0 0))) == 60))) J ?_)
       refine op J J (oe ?_)
       replace h := jn_some h
       obtain ⟨y19, h, hk19⟩ := h
       refine cj (D := Int × Int × Bool × Int × (List Vvitrineref05_Pair)) (ι := SV) (fun d19 i19 => y19 = Sum.inl d19) (fun d19 i19 => [(7, (I d19.1)), (5, (F b1338 0)), (2, (F b1335 0))]) (fun d19 i19 => X :: blk b1338 (.cells (A [(I (w64 ((rd p0 0)))), (I 0), (U d19.2.1), (O d19.2.2.1), (U d19.2.2.2.1), (V i19), (V SV.nil)]) 137 (0, 0)) :: blk b1335 (.cells (A [(I 0), (I 0), (U 0), (O false), (U 0), (V SV.nil), (V SV.nil)]) 137 (0, 0)) :: slO i19 82 en_Vvitrineref05_Pair d19.2.2.2.2 :: R) ?_ ?_
       ·refine c_cond (b := ((w64 ((rd p0 0))) == 60)) J (fun hb1445 => ?_) (fun hb1445 => ?_)
        ·replace h := cond_t hb1445 h
         refine cr (op J J ?_)
         replace h := gsome h
         obtain ⟨hg1446, h⟩ := h
         refine o1 J (o_ix (s := s0) (n := 3) (e := (enI .u8)) J J J J J J rm0 q0 hg1446 ?_)
         refine o1 J (o_ldE (s := s0) (e := (enI .u8)) (n := 3) (f := 0) (v := (U (rd p0 3))) J rm0 q0 hg1446 J J ?_)
         refine o1 J (o_fa (fd := ⟨ "Code", 5, 2, false, "", "", 16⟩) J J J J J ?_)
         refine o0 (o_st (b := b1338) (off := 2) (vs := [(U (rd p0 3))]) (cs' := [(I (w64 ((rd p0 0)))), (I 0), (U (rd p0 3)), (O false), (U 0), (V SV.nil), (V SV.nil)]) J J rp1 J J J J J J ?_)
         refine oe (c_seq (cr (op J J ?_)))
         replace h := gsome h
         obtain ⟨hg1447, h⟩ := h
         refine o1 J (o_ix (s := s0) (n := 3) (e := (enI .u8)) J J J J J J rm0 q0 hg1447 ?_)
         refine o1 J (o_ldE (s := s0) (e := (enI .u8)) (n := 3) (f := 0) (v := (U (rd p0 3))) J rm0 q0 hg1447 J J ?_)
         refine o1 J (o_p (v := (O ((rd p0 3) == 8))) J ?_)
         refine oe ?_
         replace h := jn_some h
         obtain ⟨y20, h, hk20⟩ := h
         refine cj (D := Int × Int × Bool) (ι := Unit) (fun d20 i20 => y20 = Sum.inl d20) (fun d20 i20 => [(7, (I d20.1)), (5, (F b1338 0)), (2, (F b1335 0))]) (fun d20 i20 => X :: blk b1338 (.cells (A [(I (w64 ((rd p0 0)))), (I 0), (U d20.2.1), (O d20.2.2), (U 0), (V SV.nil), (V SV.nil)]) 137 (0, 0)) :: blk b1335 (.cells (A [(I 0), (I 0), (U 0), (O false), (U 0), (V SV.nil), (V SV.nil)]) 137 (0, 0)) :: R) ?_ ?_
         ·refine c_cond (b := ((rd p0 3) == 8)) J (fun hb1448 => ?_) (fun hb1448 => ?_)
          ·replace h := cond_t hb1448 h
           refine c_seq (cr (op J J ?_))
           refine o1 J (o_len (s := s0) J J J rm0 q0 ?_)
           refine o1 J (o_p (v := (O (decide ((p0.length : Int) < 5)))) J ?_)
           refine oe ?_
           refine c_cond (b := (decide ((p0.length : Int) < 5))) J (fun hb1449 => ?_) (fun hb1449 => ?_)
           ·replace h := cond_t hb1449 h
            refine cr ?_
            refine o1 J (o_build (fs := f_4) (ps := [(0, 1), (1, 1), (2, 1), (3, 1), (4, 1), (5, 1), (6, 1)]) (cs := [(I 0), (I 0), (U 0), (O false), (U 0), (V SV.nil), (V SV.nil)]) J J J J J ?_)
            refine o0 (o_st (b := b1335) (off := 0) (vs := [(I 0), (I 0), (U 0), (O false), (U 0), (V SV.nil), (V SV.nil)]) (cs' := [(I 0), (I 0), (U 0), (O false), (U 0), (V SV.nil), (V SV.nil)]) J J rp2 J J J J J J ?_)
            refine op J J (op J J (oe (c_ret (e_then_ret ?_))))
            refine ej_ret ?_
            replace h := esc_some h
            obtain ⟨z20, h, rfl⟩ := h
            obtain rfl := (hk20 : z20 = _)
            refine e_then_ret (ej_ret ?_)
            replace h := esc_some h
            obtain ⟨z19, h, rfl⟩ := h
            obtain rfl := (hk19 : z19 = _)
            refine e_blk_ret (e_then_ret (e_ret ?_))
            refine r_add (slO SV.nil 82 en_Vvitrineref05_Pair []) (slO_nil _ _ _) ?_
            refine r_add (slO SV.nil 5 (enI .u8) []) (slO_nil _ _ _) ?_
            refine r_endc (B := [[(I 0), (I 0), (U 0), (O false), (U 0), (V SV.nil), (V SV.nil)]]) J ⟨⟨_, _, _, _, J, rm4⟩, trivial⟩ J (kc rm2 (kc rm1 (kc rm0 (kd (kd kr))))) ?_
            obtain rfl := si h
            exact hk (SV.nil, SV.nil)
           ·replace h := cond_f hb1449 h
            refine c_skip (e_seq (c_region (op J J ?_)))
            replace h := gsome h
            obtain ⟨hg1450, h⟩ := h
            refine o1 J (o_ix (s := s0) (n := 4) (e := (enI .u8)) J J J J J J rm0 q0 hg1450 ?_)
            refine o1 J (o_ldE (s := s0) (e := (enI .u8)) (n := 4) (f := 0) (v := (U (rd p0 4))) J rm0 q0 hg1450 J J ?_)
            refine o1 J (o_fa (fd := ⟨ "Code", 5, 2, false, "", "", 16⟩) J J J J J ?_)
            refine o0 (o_st (b := b1338) (off := 2) (vs := [(U (rd p0 4))]) (cs' := [(I (w64 ((rd p0 0)))), (I 0), (U (rd p0 4)), (O false), (U 0), (V SV.nil), (V SV.nil)]) J J rp1 J J J J J J ?_)
            refine o1 J (o_fa (fd := ⟨ "Graph", 4, 3, false, "", "", 17⟩) J J J J J ?_)
            refine o0 (o_st (b := b1338) (off := 3) (vs := [(O true)]) (cs' := [(I (w64 ((rd p0 0)))), (I 0), (U (rd p0 4)), (O true), (U 0), (V SV.nil), (V SV.nil)]) J J rp1 J J J J J J ?_)
            refine op J J (o_end ?_)
            obtain rfl := si h
            exact ej (5, (rd p0 4), true) () J (sc J (sc J (sc J sn))) (kc rm0 (kc rm0 (kc rm0 kr)))
          ·replace h := cond_f hb1448 h
           refine c_skip ?_
           obtain rfl := si h
           exact ej (d11, (rd p0 3), false) () J (sc J (sc J (sc J sn))) (kc rm0 (kc rm0 (kc rm0 kr)))
         ·rintro d20 i20 rfl
          replace h := JK_inl hk20
          clear hk20
          refine e_seq (cr ?_)
          refine o1 J (o_fa (fd := ⟨ "Code", 5, 2, false, "", "", 16⟩) J J J J J ?_)
          refine o1 J (o_ld (b := b1338) (off := 2) (v := (U d20.2.1)) J rm1 J J ?_)
          replace h := bsome h
          obtain ⟨d22, h22, h⟩ := h
          refine o1 J (o_call has41 J (c_vitrineref16_Is hg X d20.2.1 _ h22) (pc rm0 pn) ?_)
          refine oe ?_
          refine c_cond (b := d22) J (fun hb1451 => ?_) (fun hb1451 => ?_)
          ·replace h := cond_t hb1451 h
           refine cr ?_
           refine o1 J (o_build (fs := f_4) (ps := [(0, 1), (1, 1), (2, 1), (3, 1), (4, 1), (5, 1), (6, 1)]) (cs := [(I 0), (I 0), (U 0), (O false), (U 0), (V SV.nil), (V SV.nil)]) J J J J J ?_)
           refine o0 (o_st (b := b1335) (off := 0) (vs := [(I 0), (I 0), (U 0), (O false), (U 0), (V SV.nil), (V SV.nil)]) (cs' := [(I 0), (I 0), (U 0), (O false), (U 0), (V SV.nil), (V SV.nil)]) J J rp2 J J J J J J ?_)
           refine op J J (op J J (oe (c_ret (ej_ret ?_))))
           replace h := esc_some h
           obtain ⟨z19, h, rfl⟩ := h
           obtain rfl := (hk19 : z19 = _)
           refine e_blk_ret (e_then_ret (e_ret ?_))
           refine r_add (slO SV.nil 82 en_Vvitrineref05_Pair []) (slO_nil _ _ _) ?_
           refine r_add (slO SV.nil 5 (enI .u8) []) (slO_nil _ _ _) ?_
           refine r_endc (B := [[(I 0), (I 0), (U 0), (O false), (U 0), (V SV.nil), (V SV.nil)]]) J ⟨⟨_, _, _, _, J, rm4⟩, trivial⟩ J (kc rm2 (kc rm1 (kc rm0 (kd (kd kr))))) ?_
           obtain rfl := si h
           exact hk (SV.nil, SV.nil)
          ·replace h := cond_f hb1451 h
           refine c_skip ?_
           refine e_add (slO SV.nil 82 en_Vvitrineref05_Pair []) (slO_nil _ _ _) ?_
           obtain rfl := si h
           exact ej (d20.1, d20.2.1, d20.2.2, 0, ([] : List Vvitrineref05_Pair)) SV.nil J (sc J (sc J (sc J sn))) (kc rm1 (kc rm1 (kc rm1 (kc rm0 kr))))
        ·replace h := cond_f hb1445 h
         refine cr ?_
         refine o1 J (o_p (v := (O ((w64 ((rd p0 0))) == 29))) J ?_)
         refine op J J (oe ?_)
         refine c_cond (b := ((w64 ((rd p0 0))) == 29)) J (fun hb1452 => ?_) (fun hb1452 => ?_)
         ·replace h := cond_t hb1452 h
          refine c_region (op J J ?_)
          replace h := gsome h
          obtain ⟨hg1453, h⟩ := h
          refine o1 J (o_ix (s := s0) (n := 1) (e := (enI .u8)) J J J J J J rm0 q0 hg1453 ?_)
          refine o1 J (o_ldE (s := s0) (e := (enI .u8)) (n := 1) (f := 0) (v := (U (rd p0 1))) J rm0 q0 hg1453 J J ?_)
          refine o1 J (o_fa (fd := ⟨ "FA", 5, 4, false, "", "", 18⟩) J J J J J ?_)
          refine o0 (o_st (b := b1338) (off := 4) (vs := [(U (rd p0 1))]) (cs' := [(I (w64 ((rd p0 0)))), (I 0), (U 0), (O false), (U (rd p0 1)), (V SV.nil), (V SV.nil)]) J J rp1 J J J J J J ?_)
          refine o_end ?_
          refine e_add (slO SV.nil 82 en_Vvitrineref05_Pair []) (slO_nil _ _ _) ?_
          obtain rfl := si h
          exact ej (d11, 0, false, (rd p0 1), ([] : List Vvitrineref05_Pair)) SV.nil J (sc J (sc J (sc J sn))) (kc rm1 (kc rm1 (kc rm1 (kc rm0 kr))))
         ·replace h := cond_f hb1452 h
          refine cr ?_
          refine o1 J (o_p (v := (O ((w64 ((rd p0 0))) == 8))) J ?_)
          refine op J J (oe ?_)
          refine c_cond (b := ((w64 ((rd p0 0))) == 8)) J (fun hb1454 => ?_) (fun hb1454 => ?_)
          ·replace h := cond_t hb1454 h
           refine c_seq (cr (op J J ?_))
           replace h := gsome h
           obtain ⟨hg1455, h⟩ := h
           refine o1 J (o_ix (s := s0) (n := 1) (e := (enI .u8)) J J J J J J rm0 q0 hg1455 ?_)
           refine o1 J (o_ldE (s := s0) (e := (enI .u8)) (n := 1) (f := 0) (v := (U (rd p0 1))) J rm0 q0 hg1455 J J ?_)
           replace h := bsome h
           obtain ⟨d23, h23, h⟩ := h
           refine o1 J (o_call has41 J (c_vitrineref16_Is hg X (rd p0 1) _ h23) (pc rm0 pn) ?_)
           refine oe ?_
           refine c_cond (b := d23) J (fun hb1456 => ?_) (fun hb1456 => ?_)
           ·replace h := cond_t hb1456 h
            refine cr ?_
            refine o1 J (o_build (fs := f_4) (ps := [(0, 1), (1, 1), (2, 1), (3, 1), (4, 1), (5, 1), (6, 1)]) (cs := [(I 0), (I 0), (U 0), (O false), (U 0), (V SV.nil), (V SV.nil)]) J J J J J ?_)
            refine o0 (o_st (b := b1335) (off := 0) (vs := [(I 0), (I 0), (U 0), (O false), (U 0), (V SV.nil), (V SV.nil)]) (cs' := [(I 0), (I 0), (U 0), (O false), (U 0), (V SV.nil), (V SV.nil)]) J J rp2 J J J J J J ?_)
            refine op J J (op J J (oe (c_ret (e_then_ret ?_))))
            refine ej_ret ?_
            replace h := esc_some h
            obtain ⟨z19, h, rfl⟩ := h
            obtain rfl := (hk19 : z19 = _)
            refine e_blk_ret (e_then_ret (e_ret ?_))
            refine r_add (slO SV.nil 82 en_Vvitrineref05_Pair []) (slO_nil _ _ _) ?_
            refine r_add (slO SV.nil 5 (enI .u8) []) (slO_nil _ _ _) ?_
            refine r_endc (B := [[(I 0), (I 0), (U 0), (O false), (U 0), (V SV.nil), (V SV.nil)]]) J ⟨⟨_, _, _, _, J, rm4⟩, trivial⟩ J (kc rm2 (kc rm1 (kc rm0 (kd (kd kr))))) ?_
            obtain rfl := si h
            exact hk (SV.nil, SV.nil)
           ·replace h := cond_f hb1456 h
            refine c_skip (e_seq (c_region (op J J ?_)))
            replace h := gsome h
            obtain ⟨hg1457, h⟩ := h
            refine o1 J (o_ix (s := s0) (n := 1) (e := (enI .u8)) J J J J J J rm0 q0 hg1457 ?_)
            refine o1 J (o_ldE (s := s0) (e := (enI .u8)) (n := 1) (f := 0) (v := (U (rd p0 1))) J rm0 q0 hg1457 J J ?_)
            refine o1 J (o_fa (fd := ⟨ "Code", 5, 2, false, "", "", 16⟩) J J J J J ?_)
            refine o0 (o_st (b := b1338) (off := 2) (vs := [(U (rd p0 1))]) (cs' := [(I (w64 ((rd p0 0)))), (I 0), (U (rd p0 1)), (O false), (U 0), (V SV.nil), (V SV.nil)]) J J rp1 J J J J J J ?_)
            refine o_end ?_
            refine e_add (slO SV.nil 82 en_Vvitrineref05_Pair []) (slO_nil _ _ _) ?_
            obtain rfl := si h
            exact ej (d11, (rd p0 1), false, 0, ([] : List Vvitrineref05_Pair)) SV.nil J (sc J (sc J (sc J sn))) (kc rm1 (kc rm1 (kc rm1 (kc rm0 kr))))
          ·replace h := cond_f hb1454 h
           refine cr ?_
           refine o1 J (o_p (v := (O ((w64 ((rd p0 0))) == 40))) J ?_)
           refine op J J (oe ?_)
           refine c_cond (b := ((w64 ((rd p0 0))) == 40)) J (fun hb1458 => ?_) (fun hb1458 => ?_)
           ·replace h := cond_t hb1458 h
            refine c_seq ?_
            replace h := gsome h
            obtain ⟨hg1459, h⟩ := h
            replace h := gsome h
            obtain ⟨hg1460, h⟩ := h
            refine c_draw (n := 2) (q := [(0, 145, (V s0)), (1, 146, (F (SV.blk s0) (SV.off s0 + Int.toNat 1 * 1))), (2, 147, (U (rd p0 1))), (3, 148, (V s0)), (4, 149, (F (SV.blk s0) (SV.off s0 + Int.toNat 2 * 1))), (5, 150, (U (rd p0 2))), (6, 151, (.agg (A [(U (rd p0 1)), (U (rd p0 2))])))]) (pend := [0, 1, 2, 3, 4, 5, 6]) J J J ?_
            refine ⟨⟨fun _ => ⟨J, J, J, .inl ⟨J, (o_p J ⟨J, J⟩)⟩⟩, fun _ => ⟨J, J, J, .inl ⟨J, (o_ix (s := s0) (n := 1) (e := (enI .u8)) J J J J J J rm0 q0 hg1459 ⟨J, J⟩)⟩⟩, fun _ => ⟨J, J, J, .inl ⟨J, (o_ldE (s := s0) (e := (enI .u8)) (n := 1) (f := 0) (v := (U (rd p0 1))) J rm0 q0 hg1459 J J ⟨J, J⟩)⟩⟩, fun _ => ⟨J, J, J, .inl ⟨J, (o_p J ⟨J, J⟩)⟩⟩, fun _ => ⟨J, J, J, .inl ⟨J, (o_ix (s := s0) (n := 2) (e := (enI .u8)) J J J J J J rm0 q0 hg1460 ⟨J, J⟩)⟩⟩, fun _ => ⟨J, J, J, .inl ⟨J, (o_ldE (s := s0) (e := (enI .u8)) (n := 2) (f := 0) (v := (U (rd p0 2))) J rm0 q0 hg1460 J J ⟨J, J⟩)⟩⟩, fun _ => ⟨J, J, J, .inl ⟨J, (o_build (fs := f_0) (ps := [(0, 1), (1, 1)]) (cs := [(U (rd p0 1)), (U (rd p0 2))]) J J J J J ⟨J, J⟩)⟩⟩, trivial⟩, J, .inr ⟨[7], J, J, ⟨J, .inl J, ?_⟩, trivial⟩⟩
            refine (o_alloc (cs := [(U 0), (U 0)]) J J (fun b1461 => ?_))
            refine ⟨[], [0, 1, 2, 3, 4, 5, 6], J, J, J, J, ?_⟩
            refine ⟨⟨fun _ => ⟨J, J, J, .inl ⟨J, (o_p J ⟨J, J⟩)⟩⟩, fun _ => ⟨J, J, J, .inl ⟨J, (o_ix (s := s0) (n := 1) (e := (enI .u8)) J J J J J J rm1 q0 hg1459 ⟨J, J⟩)⟩⟩, fun _ => ⟨J, J, J, .inl ⟨J, (o_ldE (s := s0) (e := (enI .u8)) (n := 1) (f := 0) (v := (U (rd p0 1))) J rm1 q0 hg1459 J J ⟨J, J⟩)⟩⟩, fun _ => ⟨J, J, J, .inl ⟨J, (o_p J ⟨J, J⟩)⟩⟩, fun _ => ⟨J, J, J, .inl ⟨J, (o_ix (s := s0) (n := 2) (e := (enI .u8)) J J J J J J rm1 q0 hg1460 ⟨J, J⟩)⟩⟩, fun _ => ⟨J, J, J, .inl ⟨J, (o_ldE (s := s0) (e := (enI .u8)) (n := 2) (f := 0) (v := (U (rd p0 2))) J rm1 q0 hg1460 J J ⟨J, J⟩)⟩⟩, fun _ => ⟨J, J, J, .inl ⟨J, (o_build (fs := f_0) (ps := [(0, 1), (1, 1)]) (cs := [(U (rd p0 1)), (U (rd p0 2))]) J J J J J ⟨J, J⟩)⟩⟩, trivial⟩, J, .inr ⟨[8], J, J, ⟨J, .inl J, ?_⟩, trivial⟩⟩
            refine (o_st (b := b1461) (off := 0) (vs := [(U (rd p0 1)), (U (rd p0 2))]) (cs' := [(U (rd p0 1)), (U (rd p0 2))]) J J rp0 J J J J J J ?_)
            refine ⟨[], [], J, J, ?_⟩
            refine ⟨⟨(fun h => nomatch h), (fun h => nomatch h), (fun h => nomatch h), (fun h => nomatch h), (fun h => nomatch h), (fun h => nomatch h), (fun h => nomatch h), trivial⟩, J, J, J, ?_⟩
            refine e_seq (c_seq (cr ?_))
            refine o1 J (o_ld (b := b1461) (off := 0) (v := (.agg (A [(U (rd p0 1)), (U (rd p0 2))]))) J rm0 J J ?_)
            replace h := bsome h
            obtain ⟨d26, h26, h⟩ := h
            refine o1 J (o_call has29 J (c_vitrineref05_Right hg X (⟨(rd p0 1), (rd p0 2)⟩ : Vvitrineref05_Pair) _ h26) (pc rm1 pn) ?_)
            refine o1 J (o_p (v := (O (!d26))) J ?_)
            refine oe ?_
            refine c_cond (b := (!d26)) J (fun hb1463 => ?_) (fun hb1463 => ?_)
            ·replace h := cond_t hb1463 h
             refine cr ?_
             refine o1 J (o_build (fs := f_4) (ps := [(0, 1), (1, 1), (2, 1), (3, 1), (4, 1), (5, 1), (6, 1)]) (cs := [(I 0), (I 0), (U 0), (O false), (U 0), (V SV.nil), (V SV.nil)]) J J J J J ?_)
             refine o0 (o_st (b := b1335) (off := 0) (vs := [(I 0), (I 0), (U 0), (O false), (U 0), (V SV.nil), (V SV.nil)]) (cs' := [(I 0), (I 0), (U 0), (O false), (U 0), (V SV.nil), (V SV.nil)]) J J rp3 J J J J J J ?_)
             refine op J J (op J J (oe (c_ret (e_then_ret ?_))))
             refine ej_ret ?_
             replace h := esc_some h
             obtain ⟨z19, h, rfl⟩ := h
             obtain rfl := (hk19 : z19 = _)
             refine e_blk_ret (e_then_ret (e_ret ?_))
             refine r_add (slO SV.nil 82 en_Vvitrineref05_Pair []) (slO_nil _ _ _) ?_
             refine r_add (slO SV.nil 5 (enI .u8) []) (slO_nil _ _ _) ?_
             refine r_endc (B := [[(I 0), (I 0), (U 0), (O false), (U 0), (V SV.nil), (V SV.nil)]]) J ⟨⟨_, _, _, _, J, rm5⟩, trivial⟩ J (kc rm2 (kc rm1 (kc rm0 (kd (kd (kd kr)))))) ?_
             obtain rfl := si h
             exact hk (SV.nil, SV.nil)
            ·replace h := cond_f hb1463 h
             refine c_skip (e_seq (c_region ?_))
             refine o1 J (o_ld (b := b1461) (off := 0) (v := (.agg (A [(U (rd p0 1)), (U (rd p0 2))]))) J rm1 J J ?_)
             refine o1 J (o_bs (e := en_Vvitrineref05_Pair) (l := [(⟨(rd p0 1), (rd p0 2)⟩ : Vvitrineref05_Pair)]) (zs := [(U 0), (U 0)]) J J J J J J J J J J (fun s1464 => ?_))
             refine o1 J (o_fa (fd := ⟨ "Pairs", 79, 5, false, "", "", 24⟩) J J J J J ?_)
             refine o0 (o_st (b := b1338) (off := 5) (vs := [(V s1464)]) (cs' := [(I (w64 ((rd p0 0)))), (I 0), (U 0), (O false), (U 0), (V s1464), (V SV.nil)]) J J rp3 J J J J J J ?_)
             refine o_end ?_
             obtain rfl := si h
             exact ej (d11, 0, false, 0, [(⟨(rd p0 1), (rd p0 2)⟩ : Vvitrineref05_Pair)]) s1464 J (sc J (sc J (sc J sn))) (kc rm1 (kc rm2 (kc rm2 (kc rm0 (kd kr)))))
           ·replace h := cond_f hb1458 h
            refine c_skip ?_
            refine e_add (slO SV.nil 82 en_Vvitrineref05_Pair []) (slO_nil _ _ _) ?_
            obtain rfl := si h
            exact ej (d11, 0, false, 0, ([] : List Vvitrineref05_Pair)) SV.nil J (sc J (sc J (sc J sn))) (kc rm1 (kc rm1 (kc rm1 (kc rm0 kr))))
       ·rintro d19 i19 rfl
        replace h := JK_inl hk19
        clear hk19
        refine e_blk (e_seq (cr ?_))
        refine o1 J (o_ld (b := b1338) (off := 0) (v := (.agg (A [(I (w64 ((rd p0 0)))), (I 0), (U d19.2.1), (O d19.2.2.1), (U d19.2.2.2.1), (V i19), (V SV.nil)]))) J rm1 J J ?_)
        refine op J J ?_
        refine o0 (o_st (b := b1335) (off := 0) (vs := [(I (w64 ((rd p0 0)))), (I 0), (U d19.2.1), (O d19.2.2.1), (U d19.2.2.2.1), (V i19), (V SV.nil)]) (cs' := [(I (w64 ((rd p0 0)))), (I 0), (U d19.2.1), (O d19.2.2.1), (U d19.2.2.2.1), (V i19), (V SV.nil)]) J J rp2 J J J J J J ?_)
        refine op J J (op J J (oe (c_ret (e_ret ?_))))
        refine r_add (slO SV.nil 5 (enI .u8) []) (slO_nil _ _ _) ?_
        refine r_endc (B := [[(I (w64 ((rd p0 0)))), (I 0), (U d19.2.1), (O d19.2.2.1), (U d19.2.2.2.1), (V i19), (V SV.nil)]]) J ⟨⟨_, _, _, _, J, rm3⟩, trivial⟩ J (kc rm1 (kc rm3 (kc rm0 (kd (kd kr))))) ?_
        obtain rfl := si h
        exact hk (i19, SV.nil)

theorem c_vitrineref16_All {g : Gw} (hg : GK g) (X : HP) (p0 : List Int) (s0 : SV) (q0 : Rd X s0 5 (enI .u8) p0) (r : (List Vvitrineref16_Op) × Int × Int) (h : m_vitrineref16_All p0 = some r) : Tri env g 93 (A [(V s0)]) [X] (fun K R => ∀ (i0 : HP × SV × (List (Vvitrineref16_Op × SV × SV))), (NL (D_Vvitrineref16_Op i0.1) i0.2.2 r.1) → (Ext X i0.1) → K (.tuple (A [(V i0.2.1), (I r.2.1), (I r.2.2)])) (i0.1 :: slO i0.2.1 137 en_Vvitrineref16_Op i0.2.2 :: R)) := by
 refine tri_of (fn := Tryz.f93) (N := 36) Tryz.func93 J J J ?_
 intro R K hk
 unfold m_vitrineref16_All at h
 change GC _ none _ [] [(0, (V s0))] (X :: R) g _ _
 refine cr (op J J (op J J (op J J (o_end ?_))))
 refine e_seq (cr (op J J (oe ?_)))
 refine cr (op J J (oe (c_seq ?_)))
 replace h := jn_some h
 obtain ⟨y1, h, hk1⟩ := h
 refine cj (D := Int × (List Vvitrineref16_Op)) (ι := HP × SV × (List (Vvitrineref16_Op × SV × SV))) (fun d1 i1 => (y1 = Sum.inl d1) ∧ (NL (D_Vvitrineref16_Op i1.1) i1.2.2 d1.2) ∧ (Ext X i1.1)) (fun d1 i1 => [(6, (I d1.1)), (5, (V i1.2.1))]) (fun d1 i1 => i1.1 :: slO i1.2.1 137 en_Vvitrineref16_Op i1.2.2 :: R) ?_ ?_
 ·refine c_block ?_
  refine c_add (slO SV.nil 137 en_Vvitrineref16_Op []) (slO_nil _ _ _) ?_
  refine c_loop (l_sub (sc J (sc J (sc J sn))) (l_keep (kc rm1 (kc rm0 kr)) (lf (X := Int × (List Vvitrineref16_Op)) (ι := HP × SV × (List (Vvitrineref16_Op × SV × SV))) (fun k x => vitrineref16_All_l2 p0 k x) _ (fun x2 i2 => (NL (D_Vvitrineref16_Op i2.1) i2.2.2 x2.2) ∧ (Rd i2.1 s0 5 (enI .u8) p0) ∧ (Ext X i2.1)) (fun x2 i2 => [(6, (I x2.1)), (5, (V i2.2.1)), (0, (V s0))]) (fun x2 i2 => i2.1 :: slO i2.2.1 137 en_Vvitrineref16_Op i2.2.2 :: R) (fun _ => J) ?_ fuel (0, ([] : List Vvitrineref16_Op)) (X, SV.nil, []) ⟨NL.nil, q0, (Ext.refl _)⟩ h)))
  clear h
  rintro k2 ih2 x2 i2 ⟨f2_0, f2_1, f2_2⟩ h
  rw [vitrineref16_All_l2.eq_2] at h
  refine l_round (c_seq (cr (op J J (op J J ?_))))
  refine o1 J (o_len (s := s0) J J J rm0 f2_1 ?_)
  refine o1 J (o_p (v := (O (decide (x2.1 < (p0.length : Int))))) J ?_)
  refine oe ?_
  refine c_cond (b := (decide (x2.1 < (p0.length : Int)))) J (fun hb1525 => ?_) (fun hb1525 => ?_)
  ·replace h := cond_t hb1525 h
   refine c_skip (e_seq (c_block (cr (op J J ?_))))
   refine op J J ?_
   replace h := gsome h
   obtain ⟨hg1526, h⟩ := h
   refine o1 rfl (o_sl (a := x2.1) (b := (p0.length : Int)) (m := none) rfl rfl rfl rfl rfl rm0 f2_1 rfl rfl rfl (by decide) hg1526 mx_none (fun s1528 hr1527 => ?_))
   replace hr1527 := rd_tk hr1527
   replace h := bsome h
   obtain ⟨d4, h4, h⟩ := h
   refine o1 J (o_call has110 J (c_vitrineref16_next hg i2.1 (List.drop (Int.toNat x2.1) p0) s1528 hr1527 _ h4) (pc rm0 pn) (fun i4 => ?_))
   refine op J J (op J J (op J J (op J J ?_)))
   refine o1 J (o_alloc (cs := [(I 0), (I 0), (U 0), (O false), (U 0), (V SV.nil), (V SV.nil)]) J J (fun b1531 => ?_))
   refine o0 (o_st (b := b1531) (off := 0) (vs := [(I d4.1.Kind), (I d4.1.Addr), (U d4.1.Code), (O d4.1.Graph), (U d4.1.FA), (V i4.1), (V i4.2)]) (cs' := [(I d4.1.Kind), (I d4.1.Addr), (U d4.1.Code), (O d4.1.Graph), (U d4.1.FA), (V i4.1), (V i4.2)]) J J rp0 J J J J J J ?_)
   refine op J J (op J J (oe (c_seq (c_seq ?_))))
   refine c_region (op J J ?_)
   refine o1 J (o_p (v := (O (d4.2.2 != 0))) J ?_)
   refine oe ?_
   refine c_cond (b := (d4.2.2 != 0)) J (fun hb1533 => ?_) (fun hb1533 => ?_)
   ·replace h := cond_t hb1533 h
    refine cr (op J J (op J J (op J J (op J J ?_))))
    refine op J J (op J J (oe (c_ret (e_then_ret ?_))))
    refine e_blk_ret (e_then_ret (e_blk_ret (ej_ret ?_)))
    replace h := esc_some h
    obtain ⟨z1, h, rfl⟩ := h
    obtain rfl := (hk1 : z1 = _)
    refine e_then_ret (e_ret ?_)
    refine r_endt J J (kc rm1 (kc rm3 (kd (kd (kd kr))))) ?_
    obtain rfl := si h
    exact hk (i2.1, i2.2.1, i2.2.2) f2_0 f2_2
   ·replace h := cond_f hb1533 h
    refine c_skip (e_seq (cr (op J J ?_)))
    refine o1 J (o_ld (b := b1531) (off := 0) (v := (.agg (A [(I d4.1.Kind), (I d4.1.Addr), (U d4.1.Code), (O d4.1.Graph), (U d4.1.FA), (V i4.1), (V i4.2)]))) J rm0 J J ?_)
    refine o_fz rm2 rm1 (fun X1534 hx1535 hs1536 => ?_)
    refine o_fz rm2 rm0 (fun X1537 hx1538 hs1539 => ?_)
    refine o1 J (o_bs (e := en_Vvitrineref16_Op) (l := [(d4.1, (i4.1, i4.2))]) (zs := [(I 0), (I 0), (U 0), (O false), (U 0), (V SV.nil), (V SV.nil)]) J J J J J J J J J J (fun s1540 => ?_))
    replace h := gsome h
    obtain ⟨hg1542, h⟩ := h
    refine o1 J (o_app (s := i2.2.1) (r := s1540) (e := en_Vvitrineref16_Op) (l := i2.2.2) (l2 := [(d4.1, (i4.1, i4.2))]) (zs := [(I 0), (I 0), (U 0), (O false), (U 0), (V SV.nil), (V SV.nil)]) J J J J J J J J J J J rm3 rm0 (rd_own _ _ _ _) (len2 (D := D_Vvitrineref16_Op X1537) (D' := D_Vvitrineref16_Op X1537) (NL.mono f2_0 (D_Vvitrineref16_Op.ext (Ext.trans hx1535 hx1538))) (NL.cons (D := D_Vvitrineref16_Op X1537) (x := d4.1) (s := (i4.1, i4.2)) ⟨(Rd.ext hs1536 hx1538), hs1539⟩ NL.nil) hg1542) (fun s1543 => ?_))
    refine op J J (oe (c_region (op J J (op J J ?_))))
    refine o1 J (o_p (v := (I (w64 (x2.1 + d4.2.1)))) J ?_)
    refine op J J (o_end (e_blk ?_))
    exact e_loop (l_sub (sc J (sc J (sc J sn))) (l_keep (kc rm2 (kc rm0 (kd (kd kr)))) (ih2 (w64 (x2.1 + d4.2.1), (x2.2 ++ [d4.1])) (X1537, s1543, (i2.2.2 ++ [(d4.1, (i4.1, i4.2))])) ⟨(NL.app (NL.mono f2_0 (D_Vvitrineref16_Op.ext (Ext.trans hx1535 hx1538))) (NL.cons (D := D_Vvitrineref16_Op X1537) (x := d4.1) (s := (i4.1, i4.2)) ⟨(Rd.ext hs1536 hx1538), hs1539⟩ NL.nil)), (Rd.ext f2_1 (Ext.trans hx1535 hx1538)), (Ext.trans (Ext.trans f2_2 hx1535) hx1538)⟩ h)))
  ·replace h := cond_f hb1525 h
   refine c_exit (e_then_exit (e_then_exit (e_blk_exit ?_)))
   obtain rfl := si h
   exact ej (x2.1, x2.2) (i2.1, i2.2.1, i2.2.2) ⟨J, f2_0, f2_2⟩ (sc J (sc J sn)) (kc rm0 (kc rm0 kr))
 ·rintro d1 i1 ⟨rfl, f1_0, f1_1⟩
  replace h := JK_inl hk1
  clear hk1
  refine e_seq (cr (op J J (op J J (op J J ?_))))
  refine op J J (op J J (oe (c_ret (e_ret ?_))))
  refine r_endt J J (kc rm0 (kc rm0 kr)) ?_
  obtain rfl := si h
  exact hk (i1.1, i1.2.1, i1.2.2) f1_0 f1_1

theorem c_vitrineref20_pieces {g : Gw} (hg : GK g) (X : HP) (p0 : List Int) (s0 : SV) (q0 : Rd X s0 5 (enI .u8) p0) (r : Int × (List Vvitrineref16_Op) × Int) (h : m_vitrineref20_pieces p0 = some r) : Tri env g 62 (A [(V s0)]) [X] (fun K R => ∀ (i0 : HP × SV × (List (Vvitrineref16_Op × SV × SV))), (NL (D_Vvitrineref16_Op i0.1) i0.2.2 r.2.1) → (Ext X i0.1) → K (.tuple (A [(I r.1), (V i0.2.1), (I r.2.2)])) (i0.1 :: slO i0.2.1 137 en_Vvitrineref16_Op i0.2.2 :: R)) := by
 refine tri_of (fn := Tryz.f62) (N := 32) Tryz.func62 J J J ?_
 intro R K hk
 unfold m_vitrineref20_pieces at h
 change GC _ none _ [] [(0, (V s0))] (X :: R) g _ _
 refine cr (op J J (op J J (op J J (o_end ?_))))
 refine e_seq (c_seq (cr (op J J ?_)))
 refine o1 J (o_len (s := s0) J J J rm0 q0 ?_)
 refine o1 J (o_p (v := (O (decide ((p0.length : Int) < 3)))) J ?_)
 refine oe ?_
 refine c_cond (b := (decide ((p0.length : Int) < 3))) J (fun hb1287 => ?_) (fun hb1287 => ?_)
 ·replace h := cond_t hb1287 h
  refine cr (op J J (op J J (op J J (o_end ?_))))
  refine e_seq (c_ret (e_then_ret (e_ret ?_)))
  refine r_add (slO SV.nil 137 en_Vvitrineref16_Op []) (slO_nil _ _ _) ?_
  refine r_endt J J (kc rm1 (kc rm0 kr)) ?_
  obtain rfl := si h
  exact hk (X, SV.nil, []) NL.nil (Ext.refl _)
 ·replace h := cond_f hb1287 h
  refine c_skip (e_seq (cr (op J J ?_)))
  replace h := gsome h
  obtain ⟨hg1288, h⟩ := h
  refine o1 rfl (o_sl (a := 1) (b := 3) (m := none) rfl rfl rfl rfl rfl rm0 q0 rfl rfl rfl (by decide) hg1288 mx_none (fun s1290 hr1289 => ?_))
  replace h := bsome h
  obtain ⟨d2, h2, h⟩ := h
  refine o1 J (o_call has92 J (c_vitrineref04_Decode hg X 12 (List.drop 1 (List.take 3 p0)) s1290 hr1289 _ h2) (pc rm0 pn) ?_)
  refine op J J (op J J (op J J (op J J (op J J (o_end ?_)))))
  refine e_seq (c_seq (cr (op J J ?_)))
  refine o1 J (o_p (v := (O (d2.2 != 0))) J ?_)
  refine oe ?_
  refine c_cond (b := (d2.2 != 0)) J (fun hb1327 => ?_) (fun hb1327 => ?_)
  ·replace h := cond_t hb1327 h
   refine cr (op J J (op J J (op J J (op J J ?_))))
   refine oe (c_ret (e_then_ret (e_ret ?_)))
   refine r_add (slO SV.nil 137 en_Vvitrineref16_Op []) (slO_nil _ _ _) ?_
   refine r_endt J J (kc rm1 (kc rm0 kr)) ?_
   obtain rfl := si h
   exact hk (X, SV.nil, []) NL.nil (Ext.refl _)
  ·replace h := cond_f hb1327 h
   refine c_skip (e_seq (cr (op J J ?_)))
   replace h := gsome h
   obtain ⟨hg1328, h⟩ := h
   refine o1 rfl (o_sl (a := 3) (b := (p0.length : Int)) (m := none) rfl rfl rfl rfl rfl rm0 q0 rfl rfl rfl (by decide) hg1328 mx_none (fun s1330 hr1329 => ?_))
   replace hr1329 := rd_tk hr1329
   replace h := bsome h
   obtain ⟨d4, h4, h⟩ := h
   refine o1 J (o_call has93 J (c_vitrineref16_All hg X (List.drop 3 p0) s1330 hr1329 _ h4) (pc rm0 pn) (fun i4 f4_0 f4_1 => ?_))
   refine op J J (op J J (op J J (op J J (op J J (op J J ?_)))))
   refine op J J (oe (cr (op J J ?_)))
   refine op J J (op J J (op J J (op J J (op J J (o_end ?_)))))
   refine e_seq (c_ret (e_ret ?_))
   refine r_endt J J (kc rm0 (kc rm0 kr)) ?_
   obtain rfl := si h
   exact hk (i4.1, i4.2.1, i4.2.2) f4_0 f4_1

theorem c_vitrineref05_Apply {g : Gw} (hg : GK g) (X : HP) (p0 : Vvitrineref05_Pair) (p1 : Vapi_Cell) (r : Vapi_Cell × Int) (h : m_vitrineref05_Apply p0 p1 = some r) : Tri env g 96 (A [(.agg (A [(U p0.f_Type), (U p0.Value)])), (.agg (A [(U p1.Char), (O p1.Attr), (U p1.FA), (U p1.High), (U p1.Color), (U p1.f_Set)]))]) [X] (fun K R => K (.tuple (A [(.agg (A [(U r.1.Char), (O r.1.Attr), (U r.1.FA), (U r.1.High), (U r.1.Color), (U r.1.f_Set)])), (I r.2)])) (X :: R)) := by
 refine tri_of (fn := Tryz.f96) (N := 57) Tryz.func96 J J J ?_
 intro R K hk
 unfold m_vitrineref05_Apply at h
 change GC _ none _ [] [(0, (.agg (A [(U p0.f_Type), (U p0.Value)]))), (1, (.agg (A [(U p1.Char), (O p1.Attr), (U p1.FA), (U p1.High), (U p1.Color), (U p1.f_Set)])))] (X :: R) g _ _
 refine cr ?_
 refine o1 J (o_box (cs := [(U p0.f_Type), (U p0.Value)]) J J (fun b1617 => ?_))
 refine o1 J (o_box (cs := [(U p1.Char), (O p1.Attr), (U p1.FA), (U p1.High), (U p1.Color), (U p1.f_Set)]) J J (fun b1619 => ?_))
 refine o1 J (o_alloc (cs := [(U 0), (O false), (U 0), (U 0), (U 0), (U 0)]) J J (fun b1621 => ?_))
 refine op J J (oe (c_seq (cr ?_)))
 refine o1 J (o_ld (b := b1617) (off := 0) (v := (.agg (A [(U p0.f_Type), (U p0.Value)]))) J rm2 J J ?_)
 replace h := bsome h
 obtain ⟨d1, h1, h⟩ := h
 refine o1 J (o_call has29 J (c_vitrineref05_Right hg X p0 _ h1) (pc rm3 pn) ?_)
 refine o1 J (o_p (v := (O (!d1))) J ?_)
 refine oe ?_
 refine c_cond (b := (!d1)) J (fun hb1623 => ?_) (fun hb1623 => ?_)
 ·replace h := cond_t hb1623 h
  refine cr ?_
  refine o1 J (o_build (fs := f_1) (ps := [(0, 1), (1, 1), (2, 1), (3, 1), (4, 1), (5, 1)]) (cs := [(U 0), (O false), (U 0), (U 0), (U 0), (U 0)]) J J J J J ?_)
  refine o0 (o_st (b := b1621) (off := 0) (vs := [(U 0), (O false), (U 0), (U 0), (U 0), (U 0)]) (cs' := [(U 0), (O false), (U 0), (U 0), (U 0), (U 0)]) J J rp1 J J J J J J ?_)
  refine op J J (oe (c_ret (e_then_ret (e_ret ?_))))
  refine r_endc (B := [[(U 0), (O false), (U 0), (U 0), (U 0), (U 0)]]) J ⟨⟨_, _, _, _, J, rm1⟩, trivial⟩ J (kc rm0 (kd (kd (kd kr)))) ?_
  obtain rfl := si h
  exact hk
 ·replace h := cond_f hb1623 h
  refine c_skip (e_seq (cr ?_))
  refine o1 J (o_ld (b := b1619) (off := 0) (v := (.agg (A [(U p1.Char), (O p1.Attr), (U p1.FA), (U p1.High), (U p1.Color), (U p1.f_Set)]))) J rm2 J J ?_)
  refine o1 J (o_alloc (cs := [(U 0), (O false), (U 0), (U 0), (U 0), (U 0)]) J J (fun b1624 => ?_))
  refine o0 (o_st (b := b1624) (off := 0) (vs := [(U p1.Char), (O p1.Attr), (U p1.FA), (U p1.High), (U p1.Color), (U p1.f_Set)]) (cs' := [(U p1.Char), (O p1.Attr), (U p1.FA), (U p1.High), (U p1.Color), (U p1.f_Set)]) J J rp0 J J J J J J ?_)
  refine oe (c_seq (c_seq ?_))
  replace h := bsome h
  obtain ⟨d3, h, hk3⟩ := h
  refine cj (D := Unit) (ι := Unit) (fun _ i3 => True) (fun _ i3 => [(18, (O d3)), (6, (F b1624 0)), (4, (F b1621 0)), (2, (F b1617 0))]) (fun _ i3 => X :: blk b1624 (.cells (A [(U p1.Char), (O p1.Attr), (U p1.FA), (U p1.High), (U p1.Color), (U p1.f_Set)]) 49 (0, 0)) :: blk b1621 (.cells (A [(U 0), (O false), (U 0), (U 0), (U 0), (U 0)]) 49 (0, 0)) :: blk b1617 (.cells (A [(U p0.f_Type), (U p0.Value)]) 82 (0, 0)) :: R) ?_ ?_
  ·refine c_region ?_
   refine o1 J (o_fa (fd := ⟨ "Type", 5, 0, false, "", "", 0⟩) J J J J J ?_)
   refine o1 J (o_ld (b := b1617) (off := 0) (v := (U p0.f_Type)) J rm4 J J ?_)
   refine o1 J (o_p (v := (O (p0.f_Type == 192))) J ?_)
   refine op J J ?_
   rcases bool_or ((p0.f_Type == 192)) with hb1626 | hb1626
   ·replace h := cond_t hb1626 h
    refine oy J J J hb1626 (o_fa (fd := ⟨ "Attr", 4, 1, false, "", "", 1⟩) J J J J J ?_)
    refine oy J J J hb1626 (o_ld (b := b1619) (off := 1) (v := (O p1.Attr)) J rm3 J J ?_)
    refine o1 J (o_pick_t J hb1626 J ?_)
    refine o_end ?_
    obtain rfl := si h
    exact ej () () trivial (sc J (sc J (sc J (sc J sn)))) (kc rm1 (kc rm0 (kc rm0 (kc rm1 (kd kr)))))
   ·replace h := cond_f hb1626 h
    refine on J J J hb1626 ?_
    refine on J J J hb1626 ?_
    refine o1 J (o_pick_f J hb1626 J ?_)
    refine o_end ?_
    obtain rfl := si h
    exact ej () () trivial (sc J (sc J (sc J (sc J sn)))) (kc rm1 (kc rm0 (kc rm0 (kc rm1 (kd kr)))))
  ·rintro _ i3 _
   replace h := hk3
   clear hk3
   refine e_seq ?_
   replace h := bsome h
   obtain ⟨d4, h, hk4⟩ := h
   refine cj (D := Unit) (ι := Unit) (fun _ i4 => True) (fun _ i4 => [(6, (F b1624 0)), (4, (F b1621 0)), (2, (F b1617 0))]) (fun _ i4 => X :: blk b1624 (.cells (A [(U p1.Char), (O p1.Attr), (U d4), (U p1.High), (U p1.Color), (U p1.f_Set)]) 49 (0, 0)) :: blk b1621 (.cells (A [(U 0), (O false), (U 0), (U 0), (U 0), (U 0)]) 49 (0, 0)) :: blk b1617 (.cells (A [(U p0.f_Type), (U p0.Value)]) 82 (0, 0)) :: R) ?_ ?_
   ·refine c_cond (b := d3) J (fun hb1627 => ?_) (fun hb1627 => ?_)
    ·replace h := cond_t hb1627 h
     refine c_region ?_
     refine o1 J (o_fa (fd := ⟨ "Value", 5, 1, false, "", "", 1⟩) J J J J J ?_)
     refine o1 J (o_ld (b := b1617) (off := 1) (v := (U p0.Value)) J rm3 J J ?_)
     replace h := bsome h
     obtain ⟨d5, h5, h⟩ := h
     refine o1 J (o_call has63 J (c_vitrineref05_Six hg X p0.Value _ h5) (pc rm0 pn) ?_)
     refine o1 J (o_fa (fd := ⟨ "FA", 5, 2, false, "", "", 2⟩) J J J J J ?_)
     refine o0 (o_st (b := b1624) (off := 2) (vs := [(U d5)]) (cs' := [(U p1.Char), (O p1.Attr), (U d5), (U p1.High), (U p1.Color), (U p1.f_Set)]) J J rp1 J J J J J J ?_)
     refine o_end ?_
     obtain rfl := si h
     exact ej () () trivial (sc J (sc J (sc J sn))) (kc rm0 (kc rm0 (kc rm0 (kc rm0 kr))))
    ·replace h := cond_f hb1627 h
     refine c_skip ?_
     obtain rfl := si h
     exact ej () () trivial (sc J (sc J (sc J sn))) (kc rm0 (kc rm0 (kc rm0 (kc rm0 kr))))
   ·rintro _ i4 _
    replace h := hk4
    clear hk4
    refine e_seq (c_seq (c_seq ?_))
    replace h := bsome h
    obtain ⟨d6, h, hk6⟩ := h
    refine cj (D := Unit) (ι := Unit) (fun _ i6 => True) (fun _ i6 => [(30, (O d6)), (6, (F b1624 0)), (4, (F b1621 0)), (2, (F b1617 0))]) (fun _ i6 => X :: blk b1624 (.cells (A [(U p1.Char), (O p1.Attr), (U d4), (U p1.High), (U p1.Color), (U p1.f_Set)]) 49 (0, 0)) :: blk b1621 (.cells (A [(U 0), (O false), (U 0), (U 0), (U 0), (U 0)]) 49 (0, 0)) :: blk b1617 (.cells (A [(U p0.f_Type), (U p0.Value)]) 82 (0, 0)) :: R) ?_ ?_
    ·refine c_region ?_
     refine o1 J (o_fa (fd := ⟨ "Type", 5, 0, false, "", "", 0⟩) J J J J J ?_)
     refine o1 J (o_ld (b := b1617) (off := 0) (v := (U p0.f_Type)) J rm3 J J ?_)
     refine o1 J (o_p (v := (O (p0.f_Type == 65))) J ?_)
     refine op J J ?_
     rcases bool_or ((p0.f_Type == 65)) with hb1628 | hb1628
     ·replace h := cond_t hb1628 h
      refine on J J J hb1628 ?_
      refine on J J J hb1628 ?_
      refine on J J J hb1628 ?_
      refine o1 J (o_pick_t J hb1628 J ?_)
      refine o_end ?_
      obtain rfl := si h
      exact ej () () trivial (sc J (sc J (sc J (sc J sn)))) (kc rm0 (kc rm0 (kc rm0 (kc rm0 kr))))
     ·replace h := cond_f hb1628 h
      refine oy J J J hb1628 (o_fa (fd := ⟨ "Type", 5, 0, false, "", "", 0⟩) J J J J J ?_)
      refine oy J J J hb1628 (o_ld (b := b1617) (off := 0) (v := (U p0.f_Type)) J rm3 J J ?_)
      refine oy J J J hb1628 (o_p (v := (O (p0.f_Type == 0))) J ?_)
      refine o1 J (o_pick_f J hb1628 J ?_)
      refine o_end ?_
      obtain rfl := si h
      exact ej () () trivial (sc J (sc J (sc J (sc J sn)))) (kc rm0 (kc rm0 (kc rm0 (kc rm0 kr))))
    ·rintro _ i6 _
     replace h := hk6
     clear hk6
     refine e_seq ?_
     replace h := bsome h
     obtain ⟨d7, h, hk7⟩ := h
     refine cj (D := Unit) (ι := Unit) (fun _ i7 => True) (fun _ i7 => [(6, (F b1624 0)), (4, (F b1621 0)), (2, (F b1617 0))]) (fun _ i7 => X :: blk b1624 (.cells (A [(U p1.Char), (O p1.Attr), (U d4), (U d7), (U p1.Color), (U p1.f_Set)]) 49 (0, 0)) :: blk b1621 (.cells (A [(U 0), (O false), (U 0), (U 0), (U 0), (U 0)]) 49 (0, 0)) :: blk b1617 (.cells (A [(U p0.f_Type), (U p0.Value)]) 82 (0, 0)) :: R) ?_ ?_
     ·refine c_cond (b := d6) J (fun hb1629 => ?_) (fun hb1629 => ?_)
      ·replace h := cond_t hb1629 h
       refine c_region ?_
       refine o1 J (o_fa (fd := ⟨ "Value", 5, 1, false, "", "", 1⟩) J J J J J ?_)
       refine o1 J (o_ld (b := b1617) (off := 1) (v := (U p0.Value)) J rm3 J J ?_)
       refine o1 J (o_fa (fd := ⟨ "High", 5, 3, false, "", "", 3⟩) J J J J J ?_)
       refine o0 (o_st (b := b1624) (off := 3) (vs := [(U p0.Value)]) (cs' := [(U p1.Char), (O p1.Attr), (U d4), (U p0.Value), (U p1.Color), (U p1.f_Set)]) J J rp1 J J J J J J ?_)
       refine o_end ?_
       obtain rfl := si h
       exact ej () () trivial (sc J (sc J (sc J sn))) (kc rm0 (kc rm0 (kc rm0 (kc rm0 kr))))
      ·replace h := cond_f hb1629 h
       refine c_skip ?_
       obtain rfl := si h
       exact ej () () trivial (sc J (sc J (sc J sn))) (kc rm0 (kc rm0 (kc rm0 (kc rm0 kr))))
     ·rintro _ i7 _
      replace h := hk7
      clear hk7
      refine e_seq (c_seq (c_seq ?_))
      replace h := bsome h
      obtain ⟨d8, h, hk8⟩ := h
      refine cj (D := Unit) (ι := Unit) (fun _ i8 => True) (fun _ i8 => [(41, (O d8)), (6, (F b1624 0)), (4, (F b1621 0)), (2, (F b1617 0))]) (fun _ i8 => X :: blk b1624 (.cells (A [(U p1.Char), (O p1.Attr), (U d4), (U d7), (U p1.Color), (U p1.f_Set)]) 49 (0, 0)) :: blk b1621 (.cells (A [(U 0), (O false), (U 0), (U 0), (U 0), (U 0)]) 49 (0, 0)) :: blk b1617 (.cells (A [(U p0.f_Type), (U p0.Value)]) 82 (0, 0)) :: R) ?_ ?_
      ·refine c_region ?_
       refine o1 J (o_fa (fd := ⟨ "Type", 5, 0, false, "", "", 0⟩) J J J J J ?_)
       refine o1 J (o_ld (b := b1617) (off := 0) (v := (U p0.f_Type)) J rm3 J J ?_)
       refine o1 J (o_p (v := (O (p0.f_Type == 66))) J ?_)
       refine op J J ?_
       rcases bool_or ((p0.f_Type == 66)) with hb1630 | hb1630
       ·replace h := cond_t hb1630 h
        refine on J J J hb1630 ?_
        refine on J J J hb1630 ?_
        refine on J J J hb1630 ?_
        refine o1 J (o_pick_t J hb1630 J ?_)
        refine o_end ?_
        obtain rfl := si h
        exact ej () () trivial (sc J (sc J (sc J (sc J sn)))) (kc rm0 (kc rm0 (kc rm0 (kc rm0 kr))))
       ·replace h := cond_f hb1630 h
        refine oy J J J hb1630 (o_fa (fd := ⟨ "Type", 5, 0, false, "", "", 0⟩) J J J J J ?_)
        refine oy J J J hb1630 (o_ld (b := b1617) (off := 0) (v := (U p0.f_Type)) J rm3 J J ?_)
        refine oy J J J hb1630 (o_p (v := (O (p0.f_Type == 0))) J ?_)
        refine o1 J (o_pick_f J hb1630 J ?_)
        refine o_end ?_
        obtain rfl := si h
        exact ej () () trivial (sc J (sc J (sc J (sc J sn)))) (kc rm0 (kc rm0 (kc rm0 (kc rm0 kr))))
      ·rintro _ i8 _
       replace h := hk8
       clear hk8
       refine e_seq ?_
       replace h := bsome h
       obtain ⟨d9, h, hk9⟩ := h
       refine cj (D := Unit) (ι := Unit) (fun _ i9 => True) (fun _ i9 => [(6, (F b1624 0)), (4, (F b1621 0)), (2, (F b1617 0))]) (fun _ i9 => X :: blk b1624 (.cells (A [(U p1.Char), (O p1.Attr), (U d4), (U d7), (U d9), (U p1.f_Set)]) 49 (0, 0)) :: blk b1621 (.cells (A [(U 0), (O false), (U 0), (U 0), (U 0), (U 0)]) 49 (0, 0)) :: blk b1617 (.cells (A [(U p0.f_Type), (U p0.Value)]) 82 (0, 0)) :: R) ?_ ?_
       ·refine c_cond (b := d8) J (fun hb1631 => ?_) (fun hb1631 => ?_)
        ·replace h := cond_t hb1631 h
         refine c_region ?_
         refine o1 J (o_fa (fd := ⟨ "Value", 5, 1, false, "", "", 1⟩) J J J J J ?_)
         refine o1 J (o_ld (b := b1617) (off := 1) (v := (U p0.Value)) J rm3 J J ?_)
         refine o1 J (o_fa (fd := ⟨ "Color", 5, 4, false, "", "", 4⟩) J J J J J ?_)
         refine o0 (o_st (b := b1624) (off := 4) (vs := [(U p0.Value)]) (cs' := [(U p1.Char), (O p1.Attr), (U d4), (U d7), (U p0.Value), (U p1.f_Set)]) J J rp1 J J J J J J ?_)
         refine o_end ?_
         obtain rfl := si h
         exact ej () () trivial (sc J (sc J (sc J sn))) (kc rm0 (kc rm0 (kc rm0 (kc rm0 kr))))
        ·replace h := cond_f hb1631 h
         refine c_skip ?_
         obtain rfl := si h
         exact ej () () trivial (sc J (sc J (sc J sn))) (kc rm0 (kc rm0 (kc rm0 (kc rm0 kr))))
       ·rintro _ i9 _
        replace h := hk9
        clear hk9
        refine e_seq (c_seq (c_seq ?_))
        replace h := bsome h
        obtain ⟨d10, h, hk10⟩ := h
        refine cj (D := Unit) (ι := Unit) (fun _ i10 => True) (fun _ i10 => [(52, (O d10)), (6, (F b1624 0)), (4, (F b1621 0)), (2, (F b1617 0))]) (fun _ i10 => X :: blk b1624 (.cells (A [(U p1.Char), (O p1.Attr), (U d4), (U d7), (U d9), (U p1.f_Set)]) 49 (0, 0)) :: blk b1621 (.cells (A [(U 0), (O false), (U 0), (U 0), (U 0), (U 0)]) 49 (0, 0)) :: blk b1617 (.cells (A [(U p0.f_Type), (U p0.Value)]) 82 (0, 0)) :: R) ?_ ?_
        ·refine c_region ?_
         refine o1 J (o_fa (fd := ⟨ "Type", 5, 0, false, "", "", 0⟩) J J J J J ?_)
         refine o1 J (o_ld (b := b1617) (off := 0) (v := (U p0.f_Type)) J rm3 J J ?_)
         refine o1 J (o_p (v := (O (p0.f_Type == 67))) J ?_)
         refine op J J ?_
         rcases bool_or ((p0.f_Type == 67)) with hb1632 | hb1632
         ·replace h := cond_t hb1632 h
          refine on J J J hb1632 ?_
          refine on J J J hb1632 ?_
          refine on J J J hb1632 ?_
          refine o1 J (o_pick_t J hb1632 J ?_)
          refine o_end ?_
          obtain rfl := si h
          exact ej () () trivial (sc J (sc J (sc J (sc J sn)))) (kc rm0 (kc rm0 (kc rm0 (kc rm0 kr))))
         ·replace h := cond_f hb1632 h
          refine oy J J J hb1632 (o_fa (fd := ⟨ "Type", 5, 0, false, "", "", 0⟩) J J J J J ?_)
          refine oy J J J hb1632 (o_ld (b := b1617) (off := 0) (v := (U p0.f_Type)) J rm3 J J ?_)
          refine oy J J J hb1632 (o_p (v := (O (p0.f_Type == 0))) J ?_)
          refine o1 J (o_pick_f J hb1632 J ?_)
          refine o_end ?_
          obtain rfl := si h
          exact ej () () trivial (sc J (sc J (sc J (sc J sn)))) (kc rm0 (kc rm0 (kc rm0 (kc rm0 kr))))
        ·rintro _ i10 _
         replace h := hk10
         clear hk10
         refine e_seq ?_
         replace h := bsome h
         obtain ⟨d11, h, hk11⟩ := h
         refine cj (D := Unit) (ι := Unit) (fun _ i11 => True) (fun _ i11 => [(6, (F b1624 0)), (4, (F b1621 0))]) (fun _ i11 => X :: blk b1624 (.cells (A [(U p1.Char), (O p1.Attr), (U d4), (U d7), (U d9), (U d11)]) 49 (0, 0)) :: blk b1621 (.cells (A [(U 0), (O false), (U 0), (U 0), (U 0), (U 0)]) 49 (0, 0)) :: R) ?_ ?_
         ·refine c_cond (b := d10) J (fun hb1633 => ?_) (fun hb1633 => ?_)
          ·replace h := cond_t hb1633 h
           refine c_region ?_
           refine o1 J (o_fa (fd := ⟨ "Value", 5, 1, false, "", "", 1⟩) J J J J J ?_)
           refine o1 J (o_ld (b := b1617) (off := 1) (v := (U p0.Value)) J rm3 J J ?_)
           refine o1 J (o_fa (fd := ⟨ "Set", 5, 5, false, "", "", 5⟩) J J J J J ?_)
           refine o0 (o_st (b := b1624) (off := 5) (vs := [(U p0.Value)]) (cs' := [(U p1.Char), (O p1.Attr), (U d4), (U d7), (U d9), (U p0.Value)]) J J rp1 J J J J J J ?_)
           refine o_end ?_
           obtain rfl := si h
           exact ej () () trivial (sc J (sc J sn)) (kc rm0 (kc rm0 (kc rm0 (kd kr))))
          ·replace h := cond_f hb1633 h
           refine c_skip ?_
           obtain rfl := si h
           exact ej () () trivial (sc J (sc J sn)) (kc rm0 (kc rm0 (kc rm0 (kd kr))))
         ·rintro _ i11 _
          replace h := hk11
          clear hk11
          refine e_seq (cr ?_)
          refine o1 J (o_ld (b := b1624) (off := 0) (v := (.agg (A [(U p1.Char), (O p1.Attr), (U d4), (U d7), (U d9), (U d11)]))) J rm1 J J ?_)
          refine o0 (o_st (b := b1621) (off := 0) (vs := [(U p1.Char), (O p1.Attr), (U d4), (U d7), (U d9), (U d11)]) (cs' := [(U p1.Char), (O p1.Attr), (U d4), (U d7), (U d9), (U d11)]) J J rp2 J J J J J J ?_)
          refine op J J (oe (c_ret (e_ret ?_)))
          refine r_endc (B := [[(U p1.Char), (O p1.Attr), (U d4), (U d7), (U d9), (U d11)]]) J ⟨⟨_, _, _, _, J, rm2⟩, trivial⟩ J (kc rm0 (kd (kd kr))) ?_
          obtain rfl := si h
          exact hk

end Go.Vt
