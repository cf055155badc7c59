/- The walks: each function does what its model says. No conditions. -/
import Derived.Test.YteebpkekdkkmhaaGreatDoorVwERd
set_option linter.unusedVariables false
set_option maxRecDepth 100000
set_option maxHeartbeats 4000000
namespace Go.Vt
open Go.Proofs
theorem c_vitrinelaw20_EntryReplays {g : Gw} (hg : GK g) (X : HP) (p0 : Int) (p1 : List Vvitrineref12_Act) (s0 : SV) (q0r : RdN X s0 65 en_Vvitrineref12_Act D_Vvitrineref12_Act p1) (p2 : List Vvitrineref12_Act) (s1 : SV) (q1r : RdN X s1 65 en_Vvitrineref12_Act D_Vvitrineref12_Act p2) (p3 : Int) (p4 : Int) (r : Bool) (h : m_vitrinelaw20_EntryReplays p0 p1 p2 p3 p4 = some r) : Tri env g 3 (A [(U p0), (V s0), (V s1), (U p3), (U p4)]) [X] (fun K R => ∀ (i0 : HP), (Ext X i0) → K (O r) (i0 :: R)) := by
 refine tri_of (fn := Tryz.f3) (N := 212) Tryz.func3 J J J ?_
 intro R K hk
 obtain ⟨L_q0, q0, n_q0⟩ := q0r
 obtain ⟨L_q1, q1, n_q1⟩ := q1r
 unfold m_vitrinelaw20_EntryReplays at h
 change GC _ none _ [] [(0, (U p0)), (1, (V s0)), (2, (V s1)), (3, (U p3)), (4, (U p4))] (X :: R) g _ _
 refine cr (op J J (oe (c_seq ?_)))
 refine cr ?_
 replace h := bsome h
 obtain ⟨d1, h1, h⟩ := h
 refine o1 J (o_call has4 J (c_vitrinelaw20_awake hg X _ h1) (pc rm0 pn) (fun i1 f1_0 => ?_))
 refine o1 J (o_p (v := (O (!d1))) J ?_)
 refine oe ?_
 refine c_cond (b := (!d1)) J (fun hb382 => ?_) (fun hb382 => ?_)
 ·replace h := cond_t hb382 h
  refine cr (op J J (oe (c_ret ?_)))
  refine e_then_ret (e_ret ?_)
  refine r_endt J J (kc rm0 kr) ?_
  obtain rfl := si h
  exact hk i1 f1_0
 ·replace h := cond_f hb382 h
  refine c_skip (e_seq (cr (op J J (op J J ?_))))
  replace h := bsome h
  obtain ⟨d4, h4, h⟩ := h
  refine o1 J (o_call has5 J (c_vitrinelaw20_lay hg i1 p0 p1 s0 ⟨_, (Rd.ext q0 f1_0), (NL.mono n_q0 (D_Vvitrineref12_Act.ext f1_0))⟩ _ h4) (pc rm0 pn) (fun i4 => ?_))
  refine op J J (op J J (op J J (op J J (op J J (o_end ?_)))))
  refine e_seq (cr (op J J ?_))
  refine o1 rfl (o_rem (m := p4) (n := 3) rfl rfl (by decide) ?_)
  refine o1 J (o_p (v := (I (w64 (Int.tmod p4 3)))) J ?_)
  refine op J J (oe (cr (op J J ?_)))
  refine op J J (op J J ?_)
  replace h := bsome h
  obtain ⟨d5, h5, h⟩ := h
  refine o1 J (o_call has6 J (c_read_Buffer hg i1 (⟨d4.1.model, d4.1.alternate, d4.1.size, d4.1.cells, d4.1.cursor, d4.1.attrs⟩ : Vspace_Space) i4.1 i4.2.1 p3 (w64 (Int.tmod p4 3)) _ h5) (pc rm0 (pc rm0 (pc rm0 pn))) (fun i5 f5_0 => ?_))
  refine op J J (op J J (op J J (op J J (op J J (o_end ?_)))))
  refine e_seq (c_seq (cr (op J J ?_)))
  refine o1 J (o_p (v := (O (d5.2.2 != 0))) J ?_)
  refine oe ?_
  refine c_cond (b := (d5.2.2 != 0)) J (fun hb914 => ?_) (fun hb914 => ?_)
  ·replace h := cond_t hb914 h
   refine cr (op J J (oe (c_ret ?_)))
   refine e_then_ret (e_ret ?_)
   refine r_endt J J (kc rm0 (kd (kd (kd (kd (kd kr)))))) ?_
   obtain rfl := si h
   exact hk i5.1 (Ext.trans f1_0 f5_0)
  ·replace h := cond_f hb914 h
   refine c_skip (e_seq (c_seq (cr (op J J ?_))))
   replace h := bsome h
   obtain ⟨d7, h7, h⟩ := h
   refine o1 J (o_call has7 J (c_vitrinelaw20_looks hg i5.1 d4.2 i4.2.2.1 i4.2.2.2 _ h7) (pc rm0 (pc rm3 (pc rm3 pn))) ?_)
   refine o1 J (o_p (v := (O (!d7))) J ?_)
   refine oe ?_
   refine c_cond (b := (!d7)) J (fun hb1029 => ?_) (fun hb1029 => ?_)
   ·replace h := cond_t hb1029 h
    refine cr (op J J (oe (c_ret ?_)))
    refine e_then_ret (e_ret ?_)
    refine r_endt J J (kc rm0 (kd (kd (kd (kd (kd kr)))))) ?_
    obtain rfl := si h
    exact hk i5.1 (Ext.trans f1_0 f5_0)
   ·replace h := cond_f hb1029 h
    refine c_skip (e_seq (cr (op J J ?_)))
    refine o_fz rm5 rm0 (fun X1030 hx1031 hs1032 => ?_)
    replace h := bsome h
    obtain ⟨d9, h9, h⟩ := h
    refine o1 J (o_call has8 J (c_entry_Buffer hg X1030 d5.2.1 i5.2 hs1032 _ h9) (pc rm0 pn) (fun i9 f9_0 => ?_))
    refine op J J (op J J (op J J (op J J (op J J (op J J ?_)))))
    refine op J J (oe (cr (op J J ?_)))
    refine op J J (op J J ?_)
    refine o1 J (o_fa (fd := ⟨ "Alt", 4, 1, false, "", "", 8⟩) J J J J J ?_)
    refine o1 J (o_ld (b := i4.2.2.1) (off := 1) (v := (O d4.2.Alt)) J rm2 J J ?_)
    replace h := bsome h
    obtain ⟨d10, h10, h⟩ := h
    refine o1 J (o_call has9 J (c_entry_Replay hg i9.1 d5.2.1 i5.2 (Rd.ext hs1032 f9_0) d4.2.Alt _ h10) (pc rm0 pn) (fun i10 f10_0 => ?_))
    refine op J J (op J J (op J J (op J J (op J J (o_end ?_)))))
    refine e_seq (cr (op J J (op J J (op J J ?_))))
    refine o1 J (o_fa (fd := ⟨ "Alt", 4, 1, false, "", "", 8⟩) J J J J J ?_)
    refine o1 J (o_ld (b := i4.2.2.1) (off := 1) (v := (O d4.2.Alt)) J rm3 J J ?_)
    replace h := bsome h
    obtain ⟨d11, h11, h⟩ := h
    refine o1 J (o_call has10 J (c_vitrineref20_Replay hg i10.1 d5.2.1 i5.2 (Rd.ext hs1032 (Ext.trans f9_0 f10_0)) d4.2.Alt _ h11) (pc rm0 pn) (fun i11 f11_0 => ?_))
    refine op J J (op J J (op J J (op J J (op J J (o_end ?_)))))
    refine e_seq (cr (op J J (op J J ?_)))
    replace h := bsome h
    obtain ⟨d13, h13, h⟩ := h
    refine o1 J (o_call has5 J (c_vitrinelaw20_lay hg i11.1 p0 p2 s1 ⟨_, (Rd.ext q1 (Ext.trans (Ext.trans (Ext.trans (Ext.trans (Ext.trans f1_0 f5_0) hx1031) f9_0) f10_0) f11_0)), (NL.mono n_q1 (D_Vvitrineref12_Act.ext (Ext.trans (Ext.trans (Ext.trans (Ext.trans (Ext.trans f1_0 f5_0) hx1031) f9_0) f10_0) f11_0)))⟩ _ h13) (pc rm0 pn) (fun i13 => ?_))
    refine op J J (op J J (op J J (op J J (op J J (o_end ?_)))))
    refine e_seq (cr (op J J (op J J ?_)))
    refine o_fz rm6 rm0 (fun X1824 hx1825 hs1826 => ?_)
    replace h := bsome h
    obtain ⟨d14, h14, h⟩ := h
    refine o1 J (o_call has11 J (c_write_Run hg X1824 (⟨d13.1.model, d13.1.alternate, d13.1.size, d13.1.cells, d13.1.cursor, d13.1.attrs⟩ : Vspace_Space) i13.1 i13.2.1 d10.1 i10.2 hs1826 _ h14) (pc rm0 (pc rm0 (pc rm0 pn))) (fun i14 f14_0 f14_1 => ?_))
    refine op J J (op J J (op J J ?_))
    refine o1 J (o_alloc (cs := [(I 0), (O false), (O false), (O false), (I 0), (V SV.nil)]) J J (fun b2056 => ?_))
    refine o0 (o_st (b := b2056) (off := 0) (vs := [(I d14.2.1.Command), (O d14.2.1.Restore), (O d14.2.1.Alarm), (O d14.2.1.Reset), (I d14.2.1.Pieces), (V i14.2.2)]) (cs' := [(I d14.2.1.Command), (O d14.2.1.Restore), (O d14.2.1.Alarm), (O d14.2.1.Reset), (I d14.2.1.Pieces), (V i14.2.2)]) J J rp0 J J J J J J ?_)
    refine op J J (oe (c_seq (c_seq ?_)))
    replace h := bsome h
    obtain ⟨d15, h, hk15⟩ := h
    refine cj (D := Unit) (ι := HP) (fun _ i15 => Ext X i15) (fun _ i15 => [(135, (O d15)), (23, (F i13.1 0)), (16, (V i9.2)), (13, (I (w64 (Int.tmod p4 3)))), (12, (F i4.2.2.1 0))]) (fun _ i15 => i15 :: blk i13.1 (.cells (A [(I d14.1.model), (O d14.1.alternate), (I d14.1.size.Rows), (I d14.1.size.Cols), (V i14.2.1), (I d14.1.cursor), (I d14.1.attrs)]) 105 (0, 0)) :: slO i9.2 49 en_Vapi_Cell d9.1 :: blk i4.2.2.1 (.cells (A [(I d4.2.Model), (O d4.2.Alt), (I d4.2.Size.Rows), (I d4.2.Size.Cols), (V i4.2.2.2), (I d4.2.Cursor)]) 40 (0, 0)) :: slO i14.2.1 49 en_Vapi_Cell d14.1.cells :: slO i4.2.2.2 49 en_Vapi_Cell d4.2.L :: R) ?_ ?_
    ·refine c_region (op J J ?_)
     refine o1 J (o_p (v := (O (d9.2.2 != 0))) J ?_)
     refine op J J ?_
     rcases bool_or ((d9.2.2 != 0)) with hb2058 | hb2058
     ·replace h := cond_t hb2058 h
      refine on J J J hb2058 ?_
      refine on J J J hb2058 ?_
      refine on J J J hb2058 ?_
      refine on J J J hb2058 ?_
      refine on J J J hb2058 ?_
      refine on J J J hb2058 ?_
      refine o1 J (o_pick_t J hb2058 J ?_)
      refine op J J ?_
      refine on J J J J ?_
      refine on J J J J ?_
      refine on J J J J ?_
      refine on J J J J ?_
      refine on J J J J ?_
      refine on J J J J ?_
      refine on J J J J ?_
      refine on J J J J ?_
      refine o1 J (o_pick_t J J J ?_)
      refine op J J ?_
      refine on J J J J ?_
      refine on J J J J ?_
      refine on J J J J ?_
      refine on J J J J ?_
      refine o1 J (o_pick_t J J J ?_)
      refine op J J ?_
      refine on J J J J ?_
      refine on J J J J ?_
      refine on J J J J ?_
      refine o1 J (o_pick_t J J J ?_)
      refine op J J ?_
      refine on J J J J ?_
      refine on J J J J ?_
      refine o1 J (o_pick_t J J J ?_)
      refine op J J ?_
      refine on J J J J ?_
      refine on J J J J ?_
      refine on J J J J ?_
      refine on J J J J ?_
      refine ou J J J ?_
      refine ou J J J ?_
      refine ou J J J ?_
      refine ou J J J ?_
      refine ou J J J ?_
      refine on J J J J ?_
      refine o1 J (o_pick_t J J J ?_)
      refine o_end ?_
      obtain rfl := si h
      exact ej () i14.1 (Ext.trans (Ext.trans (Ext.trans (Ext.trans (Ext.trans (Ext.trans (Ext.trans f1_0 f5_0) hx1031) f9_0) f10_0) f11_0) hx1825) f14_1) (sc J (sc J (sc J (sc J (sc J sn))))) (kc rm1 (kc rm1 (kc rm5 (kc rm5 (kc rm1 (kc rm4 (kd (kd (kd (kd (kd (kd kr))))))))))))
     ·replace h := cond_f hb2058 h
      refine oy J J J hb2058 (o_p J ?_)
      refine oy J J J hb2058 (o_p J ?_)
      refine oy J J J hb2058 (o_p J ?_)
      refine oy J J J hb2058 (o_fa (fd := ⟨ "Cursor", 3, 5, false, "", "", 56⟩) J J J J J ?_)
      refine oy J J J hb2058 (o_ld (b := i4.2.2.1) (off := 5) (v := (I d4.2.Cursor)) J rm8 J J ?_)
      refine oy J J J hb2058 (o_p (v := (O (d9.2.1 != d4.2.Cursor))) J ?_)
      refine o1 J (o_pick_f J hb2058 J ?_)
      refine op J J ?_
      rcases bool_or ((d9.2.1 != d4.2.Cursor)) with hb2059 | hb2059
      ·replace h := cond_t hb2059 h
       refine on J J J hb2059 ?_
       refine on J J J hb2059 ?_
       refine on J J J hb2059 ?_
       refine on J J J hb2059 ?_
       refine on J J J hb2059 ?_
       refine on J J J hb2059 ?_
       refine on J J J hb2059 ?_
       refine on J J J hb2059 ?_
       refine o1 J (o_pick_t J hb2059 J ?_)
       refine op J J ?_
       refine on J J J J ?_
       refine on J J J J ?_
       refine on J J J J ?_
       refine on J J J J ?_
       refine o1 J (o_pick_t J J J ?_)
       refine op J J ?_
       refine on J J J J ?_
       refine on J J J J ?_
       refine on J J J J ?_
       refine o1 J (o_pick_t J J J ?_)
       refine op J J ?_
       refine on J J J J ?_
       refine on J J J J ?_
       refine o1 J (o_pick_t J J J ?_)
       refine op J J ?_
       refine on J J J J ?_
       refine on J J J J ?_
       refine on J J J J ?_
       refine on J J J J ?_
       refine ou J J J ?_
       refine ou J J J ?_
       refine ou J J J ?_
       refine ou J J J ?_
       refine ou J J J ?_
       refine on J J J J ?_
       refine o1 J (o_pick_t J J J ?_)
       refine o_end ?_
       obtain rfl := si h
       exact ej () i14.1 (Ext.trans (Ext.trans (Ext.trans (Ext.trans (Ext.trans (Ext.trans (Ext.trans f1_0 f5_0) hx1031) f9_0) f10_0) f11_0) hx1825) f14_1) (sc J (sc J (sc J (sc J (sc J sn))))) (kc rm1 (kc rm1 (kc rm5 (kc rm5 (kc rm1 (kc rm4 (kd (kd (kd (kd (kd (kd kr))))))))))))
      ·replace h := cond_f hb2059 h
       refine oy J J J hb2059 (o_p J ?_)
       refine oy J J J hb2059 (o_len (s := i9.2) J J J rm7 (rd_own _ _ _ _) ?_)
       refine oy J J J hb2059 (o_p J ?_)
       refine oy J J J hb2059 (o_p J ?_)
       refine oy J J J hb2059 (o_fa (fd := ⟨ "L", 33, 4, false, "", "", 32⟩) J J J J J ?_)
       refine oy J J J hb2059 (o_ld (b := i4.2.2.1) (off := 4) (v := (V i4.2.2.2)) J rm8 J J ?_)
       refine oy J J J hb2059 (o_len (s := i4.2.2.2) J J J rm9 (rd_own _ _ _ _) ?_)
       refine oy J J J hb2059 (o_p (v := (O ((d9.1.length : Int) != (d4.2.L.length : Int)))) J ?_)
       refine o1 J (o_pick_f J hb2059 J ?_)
       refine op J J ?_
       rcases bool_or (((d9.1.length : Int) != (d4.2.L.length : Int))) with hb2060 | hb2060
       ·replace h := cond_t hb2060 h
        refine on J J J hb2060 ?_
        refine on J J J hb2060 ?_
        refine on J J J hb2060 ?_
        refine on J J J hb2060 ?_
        refine o1 J (o_pick_t J hb2060 J ?_)
        refine op J J ?_
        refine on J J J J ?_
        refine on J J J J ?_
        refine on J J J J ?_
        refine o1 J (o_pick_t J J J ?_)
        refine op J J ?_
        refine on J J J J ?_
        refine on J J J J ?_
        refine o1 J (o_pick_t J J J ?_)
        refine op J J ?_
        refine on J J J J ?_
        refine on J J J J ?_
        refine on J J J J ?_
        refine on J J J J ?_
        refine ou J J J ?_
        refine ou J J J ?_
        refine ou J J J ?_
        refine ou J J J ?_
        refine ou J J J ?_
        refine on J J J J ?_
        refine o1 J (o_pick_t J J J ?_)
        refine o_end ?_
        obtain rfl := si h
        exact ej () i14.1 (Ext.trans (Ext.trans (Ext.trans (Ext.trans (Ext.trans (Ext.trans (Ext.trans f1_0 f5_0) hx1031) f9_0) f10_0) f11_0) hx1825) f14_1) (sc J (sc J (sc J (sc J (sc J sn))))) (kc rm1 (kc rm1 (kc rm5 (kc rm5 (kc rm1 (kc rm4 (kd (kd (kd (kd (kd (kd kr))))))))))))
       ·replace h := cond_f hb2060 h
        refine oy J J J hb2060 (o_p J ?_)
        refine oy J J J hb2060 (o_p J ?_)
        refine o_fz rm6 rm1 (fun X2061 hx2062 hs2063 => ?_)
        replace h := bsome h
        obtain ⟨d16, h16, h⟩ := h
        refine oy J J J hb2060 (o_call has12 J (c_vitrineref01_Same hg X2061 d10.1 i10.2 (Rd.ext hs1826 (Ext.trans f14_1 hx2062)) d11.1 i11.2 hs2063 _ h16) (pc rm0 pn) ?_)
        refine oy J J J hb2060 (o_p (v := (O (!d16))) J ?_)
        refine o1 J (o_pick_f J hb2060 J ?_)
        refine op J J ?_
        rcases bool_or ((!d16)) with hb2064 | hb2064
        ·replace h := cond_t hb2064 h
         refine on J J J hb2064 ?_
         refine on J J J hb2064 ?_
         refine on J J J hb2064 ?_
         refine o1 J (o_pick_t J hb2064 J ?_)
         refine op J J ?_
         refine on J J J J ?_
         refine on J J J J ?_
         refine o1 J (o_pick_t J J J ?_)
         refine op J J ?_
         refine on J J J J ?_
         refine on J J J J ?_
         refine on J J J J ?_
         refine on J J J J ?_
         refine ou J J J ?_
         refine ou J J J ?_
         refine ou J J J ?_
         refine ou J J J ?_
         refine ou J J J ?_
         refine on J J J J ?_
         refine o1 J (o_pick_t J J J ?_)
         refine o_end ?_
         obtain rfl := si h
         exact ej () X2061 (Ext.trans (Ext.trans (Ext.trans (Ext.trans (Ext.trans (Ext.trans (Ext.trans (Ext.trans f1_0 f5_0) hx1031) f9_0) f10_0) f11_0) hx1825) f14_1) hx2062) (sc J (sc J (sc J (sc J (sc J sn))))) (kc rm0 (kc rm1 (kc rm4 (kc rm4 (kc rm1 (kc rm3 (kd (kd (kd (kd (kd kr)))))))))))
        ·replace h := cond_f hb2064 h
         refine oy J J J hb2064 (o_p J ?_)
         refine oy J J J hb2064 (o_p J ?_)
         refine oy J J J hb2064 (o_p (v := (O (d10.2 != d11.2))) J ?_)
         refine o1 J (o_pick_f J hb2064 J ?_)
         refine op J J ?_
         rcases bool_or ((d10.2 != d11.2)) with hb2065 | hb2065
         ·replace h := cond_t hb2065 h
          refine on J J J hb2065 ?_
          refine on J J J hb2065 ?_
          refine o1 J (o_pick_t J hb2065 J ?_)
          refine op J J ?_
          refine on J J J J ?_
          refine on J J J J ?_
          refine on J J J J ?_
          refine on J J J J ?_
          refine ou J J J ?_
          refine ou J J J ?_
          refine ou J J J ?_
          refine ou J J J ?_
          refine ou J J J ?_
          refine on J J J J ?_
          refine o1 J (o_pick_t J J J ?_)
          refine o_end ?_
          obtain rfl := si h
          exact ej () X2061 (Ext.trans (Ext.trans (Ext.trans (Ext.trans (Ext.trans (Ext.trans (Ext.trans (Ext.trans f1_0 f5_0) hx1031) f9_0) f10_0) f11_0) hx1825) f14_1) hx2062) (sc J (sc J (sc J (sc J (sc J sn))))) (kc rm0 (kc rm1 (kc rm4 (kc rm4 (kc rm1 (kc rm3 (kd (kd (kd (kd (kd kr)))))))))))
         ·replace h := cond_f hb2065 h
          refine oy J J J hb2065 (o_p J ?_)
          refine oy J J J hb2065 (o_p (v := (O (d14.2.2 != 0))) J ?_)
          refine o1 J (o_pick_f J hb2065 J ?_)
          refine op J J ?_
          rcases bool_or ((d14.2.2 != 0)) with hb2066 | hb2066
          ·replace h := cond_t hb2066 h
           refine on J J J hb2066 ?_
           refine on J J J hb2066 ?_
           refine on J J J hb2066 ?_
           refine on J J J hb2066 ?_
           refine ou J J J ?_
           refine ou J J J ?_
           refine ou J J J ?_
           refine ou J J J ?_
           refine ou J J J ?_
           refine on J J J hb2066 ?_
           refine o1 J (o_pick_t J hb2066 J ?_)
           refine o_end ?_
           obtain rfl := si h
           exact ej () X2061 (Ext.trans (Ext.trans (Ext.trans (Ext.trans (Ext.trans (Ext.trans (Ext.trans (Ext.trans f1_0 f5_0) hx1031) f9_0) f10_0) f11_0) hx1825) f14_1) hx2062) (sc J (sc J (sc J (sc J (sc J sn))))) (kc rm0 (kc rm1 (kc rm4 (kc rm4 (kc rm1 (kc rm3 (kd (kd (kd (kd (kd kr)))))))))))
          ·replace h := cond_f hb2066 h
           refine oy J J J hb2066 (o_fa (fd := ⟨ "Command", 3, 0, false, "", "", 0⟩) J J J J J ?_)
           refine oy J J J hb2066 (o_ld (b := b2056) (off := 0) (v := (I d14.2.1.Command)) J rm1 J J ?_)
           refine oy J J J hb2066 (o_p (v := (O (d14.2.1.Command != 2))) J ?_)
           refine oy J J J hb2066 (o_p J ?_)
           rcases bool_or ((d14.2.1.Command != 2)) with hb2067 | hb2067
           ·replace h := cond_t hb2067 h
            refine oy J J J hb2067 (o_p J ?_)
            refine oy J J J hb2067 (o_p J ?_)
            refine oy J J J hb2067 (o_fa (fd := ⟨ "Alt", 4, 1, false, "", "", 8⟩) J J J J J ?_)
            refine oy J J J hb2067 (o_ld (b := i4.2.2.1) (off := 1) (v := (O d4.2.Alt)) J rm7 J J ?_)
            refine oy J J J hb2067 (o_p (v := (O (!d4.2.Alt))) J ?_)
            refine oy J J J hb2066 (o_pick_t J hb2067 J ?_)
            refine o1 J (o_pick_f J hb2066 J ?_)
            refine o_end ?_
            obtain rfl := si h
            exact ej () X2061 (Ext.trans (Ext.trans (Ext.trans (Ext.trans (Ext.trans (Ext.trans (Ext.trans (Ext.trans f1_0 f5_0) hx1031) f9_0) f10_0) f11_0) hx1825) f14_1) hx2062) (sc J (sc J (sc J (sc J (sc J sn))))) (kc rm0 (kc rm1 (kc rm4 (kc rm4 (kc rm1 (kc rm3 (kd (kd (kd (kd (kd kr)))))))))))
           ·replace h := cond_f hb2067 h
            refine on J J J hb2067 ?_
            refine on J J J hb2067 ?_
            refine on J J J hb2067 ?_
            refine on J J J hb2067 ?_
            refine on J J J hb2067 ?_
            refine oy J J J hb2066 (o_pick_f J hb2067 J ?_)
            refine o1 J (o_pick_f J hb2066 J ?_)
            refine o_end ?_
            obtain rfl := si h
            exact ej () X2061 (Ext.trans (Ext.trans (Ext.trans (Ext.trans (Ext.trans (Ext.trans (Ext.trans (Ext.trans f1_0 f5_0) hx1031) f9_0) f10_0) f11_0) hx1825) f14_1) hx2062) (sc J (sc J (sc J (sc J (sc J sn))))) (kc rm0 (kc rm1 (kc rm4 (kc rm4 (kc rm1 (kc rm3 (kd (kd (kd (kd (kd kr)))))))))))
    ·rintro _ i15 f15_0
     replace h := hk15
     clear hk15
     refine e_seq ?_
     refine c_cond (b := d15) J (fun hb2068 => ?_) (fun hb2068 => ?_)
     ·replace h := cond_t hb2068 h
      refine cr (op J J (oe (c_ret ?_)))
      refine e_then_ret (e_ret ?_)
      refine r_endt J J (kc rm0 (kd (kd (kd (kd (kd kr)))))) ?_
      obtain rfl := si h
      exact hk i15 f15_0
     ·replace h := cond_f hb2068 h
      refine c_skip (e_seq (c_seq (cr (op J J ?_))))
      refine op J J ?_
      refine o1 J (o_fa (fd := ⟨ "L", 33, 4, false, "", "", 32⟩) J J J J J ?_)
      refine o1 J (o_ld (b := i4.2.2.1) (off := 4) (v := (V i4.2.2.2)) J rm3 J J ?_)
      refine o1 J (o_len (s := i4.2.2.2) J J J rm5 (rd_own _ _ _ _) ?_)
      refine op J J (oe ?_)
      replace h := jn_some h
      obtain ⟨y18, h, hk18⟩ := h
      refine cj (D := Unit) (ι := Unit) (fun d18 i18 => y18 = Sum.inl d18) (fun d18 i18 => [(23, (F i13.1 0)), (12, (F i4.2.2.1 0))]) (fun d18 i18 => i15 :: blk i13.1 (.cells (A [(I d14.1.model), (O d14.1.alternate), (I d14.1.size.Rows), (I d14.1.size.Cols), (V i14.2.1), (I d14.1.cursor), (I d14.1.attrs)]) 105 (0, 0)) :: blk i4.2.2.1 (.cells (A [(I d4.2.Model), (O d4.2.Alt), (I d4.2.Size.Rows), (I d4.2.Size.Cols), (V i4.2.2.2), (I d4.2.Cursor)]) 40 (0, 0)) :: slO i14.2.1 49 en_Vapi_Cell d14.1.cells :: slO i4.2.2.2 49 en_Vapi_Cell d4.2.L :: R) ?_ ?_
      ·refine c_block ?_
       refine c_loop (l_sub (sc J (sc J (sc J (sc J (sc J (sc J (sc J sn))))))) (l_keep (kc rm0 (kc rm4 (kc rm0 (kc rm0 (kc rm0 (kc rm0 kr)))))) (lf (X := Int) (ι := Unit) (fun k x => vitrinelaw20_EntryReplays_l19 p4 d4 d9 d14 k x) _ (fun x19 i19 => True) (fun x19 i19 => [(141, (I x19)), (140, (I (d4.2.L.length : Int))), (139, (V i4.2.2.2)), (23, (F i13.1 0)), (16, (V i9.2)), (13, (I (w64 (Int.tmod p4 3)))), (12, (F i4.2.2.1 0))]) (fun x19 i19 => i15 :: slO i4.2.2.2 49 en_Vapi_Cell d4.2.L :: blk i13.1 (.cells (A [(I d14.1.model), (O d14.1.alternate), (I d14.1.size.Rows), (I d14.1.size.Cols), (V i14.2.1), (I d14.1.cursor), (I d14.1.attrs)]) 105 (0, 0)) :: slO i9.2 49 en_Vapi_Cell d9.1 :: blk i4.2.2.1 (.cells (A [(I d4.2.Model), (O d4.2.Alt), (I d4.2.Size.Rows), (I d4.2.Size.Cols), (V i4.2.2.2), (I d4.2.Cursor)]) 40 (0, 0)) :: slO i14.2.1 49 en_Vapi_Cell d14.1.cells :: R) (fun _ => J) ?_ fuel 0 () trivial h)))
       clear h
       rintro k19 ih19 x19 i19 _ h
       rw [vitrinelaw20_EntryReplays_l19.eq_2] at h
       refine l_round (cr ?_)
       refine o1 J (o_p (v := (O (decide (x19 < (d4.2.L.length : Int))))) J ?_)
       refine oe (c_seq ?_)
       refine c_cond (b := (decide (x19 < (d4.2.L.length : Int)))) J (fun hb2102 => ?_) (fun hb2102 => ?_)
       ·replace h := cond_t hb2102 h
        refine c_skip (e_seq (c_seq (c_block (cr ?_))))
        refine op J J ?_
        replace h := gsome h
        obtain ⟨hg2103, h⟩ := h
        refine o1 J (o_ix (s := i4.2.2.2) (n := x19) (e := en_Vapi_Cell) J J J J J J rm1 (rd_own _ _ _ _) hg2103 ?_)
        refine o1 J (o_ldE (s := i4.2.2.2) (e := en_Vapi_Cell) (n := x19) (f := 0) (v := (.agg (A [(U ((rd d4.2.L x19).Char)), (O ((rd d4.2.L x19).Attr)), (U ((rd d4.2.L x19).FA)), (U ((rd d4.2.L x19).High)), (U ((rd d4.2.L x19).Color)), (U ((rd d4.2.L x19).f_Set))]))) J rm1 (rd_own _ _ _ _) hg2103 J J ?_)
        refine o1 J (o_alloc (cs := [(U 0), (O false), (U 0), (U 0), (U 0), (U 0)]) J J (fun b2104 => ?_))
        refine op J J ?_
        refine o0 (o_st (b := b2104) (off := 0) (vs := [(U ((rd d4.2.L x19).Char)), (O ((rd d4.2.L x19).Attr)), (U ((rd d4.2.L x19).FA)), (U ((rd d4.2.L x19).High)), (U ((rd d4.2.L x19).Color)), (U ((rd d4.2.L x19).f_Set))]) (cs' := [(U ((rd d4.2.L x19).Char)), (O ((rd d4.2.L x19).Attr)), (U ((rd d4.2.L x19).FA)), (U ((rd d4.2.L x19).High)), (U ((rd d4.2.L x19).Color)), (U ((rd d4.2.L x19).f_Set))]) J J rp0 J J J J J J ?_)
        refine oe (cr (op J J (op J J ?_)))
        replace h := bsome h
        obtain ⟨d22, h22, h⟩ := h
        refine o1 J (o_call has13 J (c_space_Space_At hg i15 d14.1 i13.1 i14.2.1 x19 _ h22) (pc rm1 (pc rm2 (pc rm4 pn))) ?_)
        refine o1 J (o_alloc (cs := [(U 0), (O false), (U 0), (U 0), (U 0), (U 0)]) J J (fun b2106 => ?_))
        refine o0 (o_st (b := b2106) (off := 0) (vs := [(U d22.Char), (O d22.Attr), (U d22.FA), (U d22.High), (U d22.Color), (U d22.f_Set)]) (cs' := [(U d22.Char), (O d22.Attr), (U d22.FA), (U d22.High), (U d22.Color), (U d22.f_Set)]) J J rp0 J J J J J J ?_)
        refine oe (cr ?_)
        refine o1 J (o_fa (fd := ⟨ "Char", 5, 0, false, "", "", 0⟩) J J J J J ?_)
        refine o1 J (o_ld (b := b2104) (off := 0) (v := (U ((rd d4.2.L x19).Char))) J rm4 J J ?_)
        replace h := bsome h
        obtain ⟨d23, h23, h⟩ := h
        refine o1 J (o_call has14 J (c_vitrinelaw20_sent hg i15 ((rd d4.2.L x19).Char) _ h23) (pc rm1 pn) ?_)
        refine o1 J (o_fa (fd := ⟨ "Char", 5, 0, false, "", "", 0⟩) J J J J J ?_)
        refine o0 (o_st (b := b2104) (off := 0) (vs := [(U d23)]) (cs' := [(U d23), (O ((rd d4.2.L x19).Attr)), (U ((rd d4.2.L x19).FA)), (U ((rd d4.2.L x19).High)), (U ((rd d4.2.L x19).Color)), (U ((rd d4.2.L x19).f_Set))]) J J rp4 J J J J J J ?_)
        refine oe (c_seq (cr ?_))
        refine o1 J (o_fa (fd := ⟨ "Attr", 4, 1, false, "", "", 1⟩) J J J J J ?_)
        refine o1 J (o_ld (b := b2104) (off := 1) (v := (O ((rd d4.2.L x19).Attr))) J rm4 J J ?_)
        refine oe ?_
        replace h := bsome h
        obtain ⟨d24, h, hk24⟩ := h
        refine cj (D := Unit) (ι := Unit) (fun _ i24 => True) (fun _ i24 => [(29, (F b2106 0)), (27, (I x19)), (28, (F b2104 0)), (141, (I x19)), (140, (I (d4.2.L.length : Int))), (139, (V i4.2.2.2)), (23, (F i13.1 0)), (16, (V i9.2)), (13, (I (w64 (Int.tmod p4 3)))), (12, (F i4.2.2.1 0))]) (fun _ i24 => i15 :: blk b2106 (.cells (A [(U d22.Char), (O d22.Attr), (U d22.FA), (U d22.High), (U d22.Color), (U d22.f_Set)]) 49 (0, 0)) :: blk b2104 (.cells (A [(U d24), (O ((rd d4.2.L x19).Attr)), (U ((rd d4.2.L x19).FA)), (U ((rd d4.2.L x19).High)), (U ((rd d4.2.L x19).Color)), (U ((rd d4.2.L x19).f_Set))]) 49 (0, 0)) :: slO i4.2.2.2 49 en_Vapi_Cell d4.2.L :: blk i13.1 (.cells (A [(I d14.1.model), (O d14.1.alternate), (I d14.1.size.Rows), (I d14.1.size.Cols), (V i14.2.1), (I d14.1.cursor), (I d14.1.attrs)]) 105 (0, 0)) :: slO i9.2 49 en_Vapi_Cell d9.1 :: blk i4.2.2.1 (.cells (A [(I d4.2.Model), (O d4.2.Alt), (I d4.2.Size.Rows), (I d4.2.Size.Cols), (V i4.2.2.2), (I d4.2.Cursor)]) 40 (0, 0)) :: slO i14.2.1 49 en_Vapi_Cell d14.1.cells :: R) ?_ ?_
        ·refine c_cond (b := (rd d4.2.L x19).Attr) J (fun hb2108 => ?_) (fun hb2108 => ?_)
         ·replace h := cond_t hb2108 h
          refine c_region ?_
          refine o1 J (o_fa (fd := ⟨ "Char", 5, 0, false, "", "", 0⟩) J J J J J ?_)
          refine o0 (o_st (b := b2104) (off := 0) (vs := [(U 0)]) (cs' := [(U 0), (O ((rd d4.2.L x19).Attr)), (U ((rd d4.2.L x19).FA)), (U ((rd d4.2.L x19).High)), (U ((rd d4.2.L x19).Color)), (U ((rd d4.2.L x19).f_Set))]) J J rp4 J J J J J J ?_)
          refine o_end ?_
          obtain rfl := si h
          exact ej () () trivial (sc J (sc J (sc J (sc J (sc J (sc J (sc J (sc J (sc J (sc J sn)))))))))) (kc rm0 (kc rm0 (kc rm2 (kc rm2 (kc rm0 (kc rm1 (kc rm1 (kc rm0 kr))))))))
         ·replace h := cond_f hb2108 h
          refine c_skip ?_
          obtain rfl := si h
          exact ej () () trivial (sc J (sc J (sc J (sc J (sc J (sc J (sc J (sc J (sc J (sc J sn)))))))))) (kc rm0 (kc rm0 (kc rm2 (kc rm2 (kc rm0 (kc rm1 (kc rm1 (kc rm0 kr))))))))
        ·rintro _ i24 _
         replace h := hk24
         clear hk24
         refine e_seq (c_seq (c_seq ?_))
         replace h := bsome h
         obtain ⟨d25, h, hk25⟩ := h
         refine cj (D := Unit) (ι := Unit) (fun _ i25 => True) (fun _ i25 => [(162, (O d25)), (29, (F b2106 0)), (27, (I x19)), (28, (F b2104 0)), (141, (I x19)), (140, (I (d4.2.L.length : Int))), (139, (V i4.2.2.2)), (23, (F i13.1 0)), (16, (V i9.2)), (13, (I (w64 (Int.tmod p4 3)))), (12, (F i4.2.2.1 0))]) (fun _ i25 => i15 :: blk b2106 (.cells (A [(U d22.Char), (O d22.Attr), (U d22.FA), (U d22.High), (U d22.Color), (U d22.f_Set)]) 49 (0, 0)) :: blk b2104 (.cells (A [(U d24), (O ((rd d4.2.L x19).Attr)), (U ((rd d4.2.L x19).FA)), (U ((rd d4.2.L x19).High)), (U ((rd d4.2.L x19).Color)), (U ((rd d4.2.L x19).f_Set))]) 49 (0, 0)) :: slO i4.2.2.2 49 en_Vapi_Cell d4.2.L :: blk i13.1 (.cells (A [(I d14.1.model), (O d14.1.alternate), (I d14.1.size.Rows), (I d14.1.size.Cols), (V i14.2.1), (I d14.1.cursor), (I d14.1.attrs)]) 105 (0, 0)) :: slO i9.2 49 en_Vapi_Cell d9.1 :: blk i4.2.2.1 (.cells (A [(I d4.2.Model), (O d4.2.Alt), (I d4.2.Size.Rows), (I d4.2.Size.Cols), (V i4.2.2.2), (I d4.2.Cursor)]) 40 (0, 0)) :: slO i14.2.1 49 en_Vapi_Cell d14.1.cells :: R) ?_ ?_
         ·refine c_region (op J J ?_)
          refine o1 J (o_p (v := (O (decide ((w64 (Int.tmod p4 3)) < 2)))) J ?_)
          refine op J J ?_
          rcases bool_or ((decide ((w64 (Int.tmod p4 3)) < 2))) with hb2109 | hb2109
          ·replace h := cond_t hb2109 h
           refine oy J J J hb2109 (o_fa (fd := ⟨ "Attr", 4, 1, false, "", "", 1⟩) J J J J J ?_)
           refine oy J J J hb2109 (o_ld (b := b2104) (off := 1) (v := (O ((rd d4.2.L x19).Attr))) J rm2 J J ?_)
           refine oy J J J hb2109 (o_p (v := (O (!((rd d4.2.L x19).Attr)))) J ?_)
           refine o1 J (o_pick_t J hb2109 J ?_)
           refine o_end ?_
           obtain rfl := si h
           exact ej () () trivial (sc J (sc J (sc J (sc J (sc J (sc J (sc J (sc J (sc J (sc J (sc J sn))))))))))) (kc rm0 (kc rm0 (kc rm0 (kc rm0 (kc rm0 (kc rm0 (kc rm0 (kc rm0 kr))))))))
          ·replace h := cond_f hb2109 h
           refine on J J J hb2109 ?_
           refine on J J J hb2109 ?_
           refine on J J J hb2109 ?_
           refine o1 J (o_pick_f J hb2109 J ?_)
           refine o_end ?_
           obtain rfl := si h
           exact ej () () trivial (sc J (sc J (sc J (sc J (sc J (sc J (sc J (sc J (sc J (sc J (sc J sn))))))))))) (kc rm0 (kc rm0 (kc rm0 (kc rm0 (kc rm0 (kc rm0 (kc rm0 (kc rm0 kr))))))))
         ·rintro _ i25 _
          replace h := hk25
          clear hk25
          refine e_seq ?_
          replace h := bsome h
          obtain ⟨d26, h, hk26⟩ := h
          refine cj (D := Unit) (ι := Unit) (fun _ i26 => True) (fun _ i26 => [(29, (F b2106 0)), (27, (I x19)), (28, (F b2104 0)), (141, (I x19)), (140, (I (d4.2.L.length : Int))), (139, (V i4.2.2.2)), (23, (F i13.1 0)), (16, (V i9.2)), (13, (I (w64 (Int.tmod p4 3)))), (12, (F i4.2.2.1 0))]) (fun _ i26 => i15 :: blk b2106 (.cells (A [(U d22.Char), (O d22.Attr), (U d22.FA), (U d26.1), (U d26.2.1), (U d22.f_Set)]) 49 (0, 0)) :: blk b2104 (.cells (A [(U d24), (O ((rd d4.2.L x19).Attr)), (U ((rd d4.2.L x19).FA)), (U d26.2.2.1), (U d26.2.2.2), (U ((rd d4.2.L x19).f_Set))]) 49 (0, 0)) :: slO i4.2.2.2 49 en_Vapi_Cell d4.2.L :: blk i13.1 (.cells (A [(I d14.1.model), (O d14.1.alternate), (I d14.1.size.Rows), (I d14.1.size.Cols), (V i14.2.1), (I d14.1.cursor), (I d14.1.attrs)]) 105 (0, 0)) :: slO i9.2 49 en_Vapi_Cell d9.1 :: blk i4.2.2.1 (.cells (A [(I d4.2.Model), (O d4.2.Alt), (I d4.2.Size.Rows), (I d4.2.Size.Cols), (V i4.2.2.2), (I d4.2.Cursor)]) 40 (0, 0)) :: slO i14.2.1 49 en_Vapi_Cell d14.1.cells :: R) ?_ ?_
          ·refine c_cond (b := d25) J (fun hb2110 => ?_) (fun hb2110 => ?_)
           ·replace h := cond_t hb2110 h
            refine c_region ?_
            refine o1 J (o_fa (fd := ⟨ "High", 5, 3, false, "", "", 3⟩) J J J J J ?_)
            refine o0 (o_st (b := b2104) (off := 3) (vs := [(U 0)]) (cs' := [(U d24), (O ((rd d4.2.L x19).Attr)), (U ((rd d4.2.L x19).FA)), (U 0), (U ((rd d4.2.L x19).Color)), (U ((rd d4.2.L x19).f_Set))]) J J rp2 J J J J J J ?_)
            refine o1 J (o_fa (fd := ⟨ "Color", 5, 4, false, "", "", 4⟩) J J J J J ?_)
            refine o0 (o_st (b := b2104) (off := 4) (vs := [(U 0)]) (cs' := [(U d24), (O ((rd d4.2.L x19).Attr)), (U ((rd d4.2.L x19).FA)), (U 0), (U 0), (U ((rd d4.2.L x19).f_Set))]) J J rp2 J J J J J J ?_)
            refine o1 J (o_fa (fd := ⟨ "High", 5, 3, false, "", "", 3⟩) J J J J J ?_)
            refine o0 (o_st (b := b2106) (off := 3) (vs := [(U 0)]) (cs' := [(U d22.Char), (O d22.Attr), (U d22.FA), (U 0), (U d22.Color), (U d22.f_Set)]) J J rp1 J J J J J J ?_)
            refine o1 J (o_fa (fd := ⟨ "Color", 5, 4, false, "", "", 4⟩) J J J J J ?_)
            refine o0 (o_st (b := b2106) (off := 4) (vs := [(U 0)]) (cs' := [(U d22.Char), (O d22.Attr), (U d22.FA), (U 0), (U 0), (U d22.f_Set)]) J J rp1 J J J J J J ?_)
            refine o_end ?_
            obtain rfl := si h
            exact ej () () trivial (sc J (sc J (sc J (sc J (sc J (sc J (sc J (sc J (sc J (sc J sn)))))))))) (kc rm0 (kc rm0 (kc rm0 (kc rm0 (kc rm0 (kc rm0 (kc rm0 (kc rm0 kr))))))))
           ·replace h := cond_f hb2110 h
            refine c_skip ?_
            obtain rfl := si h
            exact ej () () trivial (sc J (sc J (sc J (sc J (sc J (sc J (sc J (sc J (sc J (sc J sn)))))))))) (kc rm0 (kc rm0 (kc rm0 (kc rm0 (kc rm0 (kc rm0 (kc rm0 (kc rm0 kr))))))))
          ·rintro _ i26 _
           replace h := hk26
           clear hk26
           refine e_seq (c_seq (c_seq ?_))
           replace h := bsome h
           obtain ⟨d27, h, hk27⟩ := h
           refine cj (D := Unit) (ι := Unit) (fun _ i27 => True) (fun _ i27 => [(172, (O d27)), (29, (F b2106 0)), (27, (I x19)), (28, (F b2104 0)), (141, (I x19)), (140, (I (d4.2.L.length : Int))), (139, (V i4.2.2.2)), (23, (F i13.1 0)), (16, (V i9.2)), (13, (I (w64 (Int.tmod p4 3)))), (12, (F i4.2.2.1 0))]) (fun _ i27 => i15 :: blk b2106 (.cells (A [(U d22.Char), (O d22.Attr), (U d22.FA), (U d26.1), (U d26.2.1), (U d22.f_Set)]) 49 (0, 0)) :: blk b2104 (.cells (A [(U d24), (O ((rd d4.2.L x19).Attr)), (U ((rd d4.2.L x19).FA)), (U d26.2.2.1), (U d26.2.2.2), (U ((rd d4.2.L x19).f_Set))]) 49 (0, 0)) :: slO i4.2.2.2 49 en_Vapi_Cell d4.2.L :: blk i13.1 (.cells (A [(I d14.1.model), (O d14.1.alternate), (I d14.1.size.Rows), (I d14.1.size.Cols), (V i14.2.1), (I d14.1.cursor), (I d14.1.attrs)]) 105 (0, 0)) :: slO i9.2 49 en_Vapi_Cell d9.1 :: blk i4.2.2.1 (.cells (A [(I d4.2.Model), (O d4.2.Alt), (I d4.2.Size.Rows), (I d4.2.Size.Cols), (V i4.2.2.2), (I d4.2.Cursor)]) 40 (0, 0)) :: slO i14.2.1 49 en_Vapi_Cell d14.1.cells :: R) ?_ ?_
           ·refine c_region (op J J ?_)
            refine o1 J (o_p (v := (O ((w64 (Int.tmod p4 3)) == 0))) J ?_)
            refine op J J ?_
            rcases bool_or (((w64 (Int.tmod p4 3)) == 0)) with hb2111 | hb2111
            ·replace h := cond_t hb2111 h
             refine oy J J J hb2111 (o_fa (fd := ⟨ "Attr", 4, 1, false, "", "", 1⟩) J J J J J ?_)
             refine oy J J J hb2111 (o_ld (b := b2104) (off := 1) (v := (O ((rd d4.2.L x19).Attr))) J rm2 J J ?_)
             refine o1 J (o_pick_t J hb2111 J ?_)
             refine o_end ?_
             obtain rfl := si h
             exact ej () () trivial (sc J (sc J (sc J (sc J (sc J (sc J (sc J (sc J (sc J (sc J (sc J sn))))))))))) (kc rm0 (kc rm0 (kc rm0 (kc rm0 (kc rm0 (kc rm0 (kc rm0 (kc rm0 kr))))))))
            ·replace h := cond_f hb2111 h
             refine on J J J hb2111 ?_
             refine on J J J hb2111 ?_
             refine o1 J (o_pick_f J hb2111 J ?_)
             refine o_end ?_
             obtain rfl := si h
             exact ej () () trivial (sc J (sc J (sc J (sc J (sc J (sc J (sc J (sc J (sc J (sc J (sc J sn))))))))))) (kc rm0 (kc rm0 (kc rm0 (kc rm0 (kc rm0 (kc rm0 (kc rm0 (kc rm0 kr))))))))
           ·rintro _ i27 _
            replace h := hk27
            clear hk27
            refine e_seq ?_
            replace h := bsome h
            obtain ⟨d28, h, hk28⟩ := h
            refine cj (D := Unit) (ι := Unit) (fun _ i28 => True) (fun _ i28 => [(29, (F b2106 0)), (27, (I x19)), (28, (F b2104 0)), (141, (I x19)), (140, (I (d4.2.L.length : Int))), (139, (V i4.2.2.2)), (23, (F i13.1 0)), (16, (V i9.2)), (13, (I (w64 (Int.tmod p4 3)))), (12, (F i4.2.2.1 0))]) (fun _ i28 => i15 :: blk b2106 (.cells (A [(U d22.Char), (O d22.Attr), (U d22.FA), (U d26.1), (U d26.2.1), (U d22.f_Set)]) 49 (0, 0)) :: blk b2104 (.cells (A [(U d24), (O ((rd d4.2.L x19).Attr)), (U ((rd d4.2.L x19).FA)), (U d28.1), (U d28.2.1), (U d28.2.2)]) 49 (0, 0)) :: slO i4.2.2.2 49 en_Vapi_Cell d4.2.L :: blk i13.1 (.cells (A [(I d14.1.model), (O d14.1.alternate), (I d14.1.size.Rows), (I d14.1.size.Cols), (V i14.2.1), (I d14.1.cursor), (I d14.1.attrs)]) 105 (0, 0)) :: slO i9.2 49 en_Vapi_Cell d9.1 :: blk i4.2.2.1 (.cells (A [(I d4.2.Model), (O d4.2.Alt), (I d4.2.Size.Rows), (I d4.2.Size.Cols), (V i4.2.2.2), (I d4.2.Cursor)]) 40 (0, 0)) :: slO i14.2.1 49 en_Vapi_Cell d14.1.cells :: R) ?_ ?_
            ·refine c_cond (b := d27) J (fun hb2112 => ?_) (fun hb2112 => ?_)
             ·replace h := cond_t hb2112 h
              refine c_region ?_
              refine o1 J (o_fa (fd := ⟨ "High", 5, 3, false, "", "", 3⟩) J J J J J ?_)
              refine o0 (o_st (b := b2104) (off := 3) (vs := [(U 0)]) (cs' := [(U d24), (O ((rd d4.2.L x19).Attr)), (U ((rd d4.2.L x19).FA)), (U 0), (U d26.2.2.2), (U ((rd d4.2.L x19).f_Set))]) J J rp2 J J J J J J ?_)
              refine o1 J (o_fa (fd := ⟨ "Color", 5, 4, false, "", "", 4⟩) J J J J J ?_)
              refine o0 (o_st (b := b2104) (off := 4) (vs := [(U 0)]) (cs' := [(U d24), (O ((rd d4.2.L x19).Attr)), (U ((rd d4.2.L x19).FA)), (U 0), (U 0), (U ((rd d4.2.L x19).f_Set))]) J J rp2 J J J J J J ?_)
              refine o1 J (o_fa (fd := ⟨ "Set", 5, 5, false, "", "", 5⟩) J J J J J ?_)
              refine o0 (o_st (b := b2104) (off := 5) (vs := [(U 0)]) (cs' := [(U d24), (O ((rd d4.2.L x19).Attr)), (U ((rd d4.2.L x19).FA)), (U 0), (U 0), (U 0)]) J J rp2 J J J J J J ?_)
              refine o_end ?_
              obtain rfl := si h
              exact ej () () trivial (sc J (sc J (sc J (sc J (sc J (sc J (sc J (sc J (sc J (sc J sn)))))))))) (kc rm0 (kc rm0 (kc rm0 (kc rm0 (kc rm0 (kc rm0 (kc rm0 (kc rm0 kr))))))))
             ·replace h := cond_f hb2112 h
              refine c_skip ?_
              obtain rfl := si h
              exact ej () () trivial (sc J (sc J (sc J (sc J (sc J (sc J (sc J (sc J (sc J (sc J sn)))))))))) (kc rm0 (kc rm0 (kc rm0 (kc rm0 (kc rm0 (kc rm0 (kc rm0 (kc rm0 kr))))))))
            ·rintro _ i28 _
             replace h := hk28
             clear hk28
             refine e_seq (c_seq ?_)
             replace h := bsome h
             obtain ⟨d29, h, hk29⟩ := h
             refine cj (D := Unit) (ι := Unit) (fun _ i29 => True) (fun _ i29 => [(194, (O d29)), (141, (I x19)), (140, (I (d4.2.L.length : Int))), (139, (V i4.2.2.2)), (23, (F i13.1 0)), (16, (V i9.2)), (13, (I (w64 (Int.tmod p4 3)))), (12, (F i4.2.2.1 0))]) (fun _ i29 => i15 :: slO i4.2.2.2 49 en_Vapi_Cell d4.2.L :: blk i13.1 (.cells (A [(I d14.1.model), (O d14.1.alternate), (I d14.1.size.Rows), (I d14.1.size.Cols), (V i14.2.1), (I d14.1.cursor), (I d14.1.attrs)]) 105 (0, 0)) :: slO i9.2 49 en_Vapi_Cell d9.1 :: blk i4.2.2.1 (.cells (A [(I d4.2.Model), (O d4.2.Alt), (I d4.2.Size.Rows), (I d4.2.Size.Cols), (V i4.2.2.2), (I d4.2.Cursor)]) 40 (0, 0)) :: slO i14.2.1 49 en_Vapi_Cell d14.1.cells :: R) ?_ ?_
             ·rcases bool_or ((!((d24 == d22.Char) && ((((rd d4.2.L x19).Attr) == d22.Attr) && ((((rd d4.2.L x19).FA) == d22.FA) && ((d28.1 == d26.1) && ((d28.2.1 == d26.2.1) && ((d28.2.2 == d22.f_Set) && true)))))))) with hb2113 | hb2113
              ·replace h := cond_t hb2113 h
               refine c_draw (n := 0) (q := [(0, 176, (.agg (A [(U d24), (O ((rd d4.2.L x19).Attr)), (U ((rd d4.2.L x19).FA)), (U d28.1), (U d28.2.1), (U d28.2.2)]))), (1, 177, (.agg (A [(U d22.Char), (O d22.Attr), (U d22.FA), (U d26.1), (U d26.2.1), (U d22.f_Set)]))), (2, 178, (O (!((d24 == d22.Char) && ((((rd d4.2.L x19).Attr) == d22.Attr) && ((((rd d4.2.L x19).FA) == d22.FA) && ((d28.1 == d26.1) && ((d28.2.1 == d26.2.1) && ((d28.2.2 == d22.f_Set) && true))))))))), (3, 179, (O (!((d24 == d22.Char) && ((((rd d4.2.L x19).Attr) == d22.Attr) && ((((rd d4.2.L x19).FA) == d22.FA) && ((d28.1 == d26.1) && ((d28.2.1 == d26.2.1) && ((d28.2.2 == d22.f_Set) && true))))))))), (4, 180, undef), (5, 181, undef), (6, 182, undef), (7, 183, undef), (8, 184, undef), (9, 185, undef), (10, 186, undef), (11, 187, undef), (12, 188, undef), (13, 189, undef), (14, 190, undef), (15, 191, undef), (16, 192, undef), (17, 193, undef), (18, 194, (O true))]) (pend := [0, 1, 2, 3, 4, 5, 6, 7, 8, 9, 10, 11, 12, 13, 14, 15, 16, 17, 18]) J J J ?_
               refine ⟨⟨fun _ => ⟨rfl, rfl, rfl, .inl ⟨rfl, (o_ld (b := b2104) (off := 0) (v := (.agg (A [(U d24), (O ((rd d4.2.L x19).Attr)), (U ((rd d4.2.L x19).FA)), (U d28.1), (U d28.2.1), (U d28.2.2)]))) rfl rm2 rfl rfl ⟨rfl, rfl⟩)⟩⟩, fun _ => ⟨rfl, rfl, rfl, .inl ⟨rfl, (o_ld (b := b2106) (off := 0) (v := (.agg (A [(U d22.Char), (O d22.Attr), (U d22.FA), (U d26.1), (U d26.2.1), (U d22.f_Set)]))) rfl rm1 rfl rfl ⟨rfl, rfl⟩)⟩⟩, fun _ => ⟨rfl, rfl, rfl, .inl ⟨rfl, (o_neT (b := ((d24 == d22.Char) && ((((rd d4.2.L x19).Attr) == d22.Attr) && ((((rd d4.2.L x19).FA) == d22.FA) && ((d28.1 == d26.1) && ((d28.2.1 == d26.2.1) && ((d28.2.2 == d22.f_Set) && true))))))) (xs := [(U d24), (O ((rd d4.2.L x19).Attr)), (U ((rd d4.2.L x19).FA)), (U d28.1), (U d28.2.1), (U d28.2.2)]) (ys := [(U d22.Char), (O d22.Attr), (U d22.FA), (U d26.1), (U d26.2.1), (U d22.f_Set)]) rfl rfl (by kernel_rfl) stood rfl ⟨rfl, rfl⟩)⟩⟩, fun _ => ⟨rfl, rfl, rfl, .inl ⟨rfl, (o_p rfl ⟨rfl, rfl⟩)⟩⟩, fun _ => ⟨rfl, rfl, rfl, .inr ⟨_, _, _, _, rfl, rfl, rfl, .inr ⟨hb2113, rfl⟩⟩⟩, fun _ => ⟨rfl, rfl, rfl, .inr ⟨_, _, _, _, rfl, rfl, rfl, .inr ⟨hb2113, rfl⟩⟩⟩, fun _ => ⟨rfl, rfl, rfl, .inr ⟨_, _, _, _, rfl, rfl, rfl, .inr ⟨hb2113, rfl⟩⟩⟩, fun _ => ⟨rfl, rfl, rfl, .inr ⟨_, _, _, _, rfl, rfl, rfl, .inr ⟨hb2113, rfl⟩⟩⟩, fun _ => ⟨rfl, rfl, rfl, .inr ⟨_, _, _, _, rfl, rfl, rfl, .inr ⟨hb2113, rfl⟩⟩⟩, fun _ => ⟨rfl, rfl, rfl, .inr ⟨_, _, _, _, rfl, rfl, rfl, .inr ⟨hb2113, rfl⟩⟩⟩, fun _ => ⟨rfl, rfl, rfl, .inr ⟨_, _, _, _, rfl, rfl, rfl, .inr ⟨hb2113, rfl⟩⟩⟩, fun _ => ⟨rfl, rfl, rfl, .inr ⟨_, _, _, _, rfl, rfl, rfl, rfl, rfl⟩⟩, fun _ => ⟨rfl, rfl, rfl, .inr ⟨_, _, _, _, rfl, rfl, rfl, rfl, rfl⟩⟩, fun _ => ⟨rfl, rfl, rfl, .inr ⟨_, _, _, _, rfl, rfl, rfl, .inr ⟨hb2113, rfl⟩⟩⟩, fun _ => ⟨rfl, rfl, rfl, .inr ⟨_, _, _, _, rfl, rfl, rfl, .inr ⟨hb2113, rfl⟩⟩⟩, fun _ => ⟨rfl, rfl, rfl, .inr ⟨_, _, _, _, rfl, rfl, rfl, rfl, rfl⟩⟩, fun _ => ⟨rfl, rfl, rfl, .inr ⟨_, _, _, _, rfl, rfl, rfl, rfl, rfl⟩⟩, fun _ => ⟨rfl, rfl, rfl, .inr ⟨_, _, _, _, rfl, rfl, rfl, .inr ⟨hb2113, rfl⟩⟩⟩, fun _ => ⟨rfl, rfl, rfl, .inl ⟨rfl, (o_pick_t rfl hb2113 rfl ⟨rfl, rfl⟩)⟩⟩, trivial⟩, rfl, rfl, rfl, ?_⟩
               obtain rfl := si h
               exact ej () () trivial (sc J (sc J (sc J (sc J (sc J (sc J (sc J (sc J sn)))))))) (kc rm0 (kc rm2 (kc rm2 (kc rm2 (kc rm2 (kc rm2 (kd (kd kr))))))))
              ·replace h := cond_f hb2113 h
               replace h := gsome h
               obtain ⟨hg2114, h⟩ := h
               rcases bool_or ((!((d22.Char == ((rd d9.1 x19).Char)) && ((d22.Attr == ((rd d9.1 x19).Attr)) && ((d22.FA == ((rd d9.1 x19).FA)) && ((d26.1 == ((rd d9.1 x19).High)) && ((d26.2.1 == ((rd d9.1 x19).Color)) && ((d22.f_Set == ((rd d9.1 x19).f_Set)) && true)))))))) with hb2115 | hb2115
               ·replace h := cond_t hb2115 h
                rcases bool_or ((decide ((w64 (Int.tmod p4 3)) > 0))) with hb2116 | hb2116
                ·replace h := cond_t hb2116 h
                 refine c_draw (n := 0) (q := [(0, 176, (.agg (A [(U d24), (O ((rd d4.2.L x19).Attr)), (U ((rd d4.2.L x19).FA)), (U d28.1), (U d28.2.1), (U d28.2.2)]))), (1, 177, (.agg (A [(U d22.Char), (O d22.Attr), (U d22.FA), (U d26.1), (U d26.2.1), (U d22.f_Set)]))), (2, 178, (O (!((d24 == d22.Char) && ((((rd d4.2.L x19).Attr) == d22.Attr) && ((((rd d4.2.L x19).FA) == d22.FA) && ((d28.1 == d26.1) && ((d28.2.1 == d26.2.1) && ((d28.2.2 == d22.f_Set) && true))))))))), (3, 179, (O (!((d24 == d22.Char) && ((((rd d4.2.L x19).Attr) == d22.Attr) && ((((rd d4.2.L x19).FA) == d22.FA) && ((d28.1 == d26.1) && ((d28.2.1 == d26.2.1) && ((d28.2.2 == d22.f_Set) && true))))))))), (4, 180, (.agg (A [(U d22.Char), (O d22.Attr), (U d22.FA), (U d26.1), (U d26.2.1), (U d22.f_Set)]))), (5, 181, (V i9.2)), (6, 182, (I x19)), (7, 183, (F (SV.blk i9.2) (SV.off i9.2 + Int.toNat x19 * 6))), (8, 184, (.agg (A [(U ((rd d9.1 x19).Char)), (O ((rd d9.1 x19).Attr)), (U ((rd d9.1 x19).FA)), (U ((rd d9.1 x19).High)), (U ((rd d9.1 x19).Color)), (U ((rd d9.1 x19).f_Set))]))), (9, 185, (O (!((d22.Char == ((rd d9.1 x19).Char)) && ((d22.Attr == ((rd d9.1 x19).Attr)) && ((d22.FA == ((rd d9.1 x19).FA)) && ((d26.1 == ((rd d9.1 x19).High)) && ((d26.2.1 == ((rd d9.1 x19).Color)) && ((d22.f_Set == ((rd d9.1 x19).f_Set)) && true))))))))), (10, 186, (O (!((d22.Char == ((rd d9.1 x19).Char)) && ((d22.Attr == ((rd d9.1 x19).Attr)) && ((d22.FA == ((rd d9.1 x19).FA)) && ((d26.1 == ((rd d9.1 x19).High)) && ((d26.2.1 == ((rd d9.1 x19).Color)) && ((d22.f_Set == ((rd d9.1 x19).f_Set)) && true))))))))), (11, 187, (I (w64 (Int.tmod p4 3)))), (12, 188, (O (decide ((w64 (Int.tmod p4 3)) > 0)))), (13, 189, (O (decide ((w64 (Int.tmod p4 3)) > 0)))), (14, 190, (O (decide ((w64 (Int.tmod p4 3)) > 0)))), (15, 191, (F b2104 1)), (16, 192, (O ((rd d4.2.L x19).Attr))), (17, 193, (O ((rd d4.2.L x19).Attr))), (18, 194, (O ((rd d4.2.L x19).Attr)))]) (pend := [0, 1, 2, 3, 4, 5, 6, 7, 8, 9, 10, 11, 12, 13, 14, 15, 16, 17, 18]) J J J ?_
                 refine ⟨⟨fun _ => ⟨rfl, rfl, rfl, .inl ⟨rfl, (o_ld (b := b2104) (off := 0) (v := (.agg (A [(U d24), (O ((rd d4.2.L x19).Attr)), (U ((rd d4.2.L x19).FA)), (U d28.1), (U d28.2.1), (U d28.2.2)]))) rfl rm2 rfl rfl ⟨rfl, rfl⟩)⟩⟩, fun _ => ⟨rfl, rfl, rfl, .inl ⟨rfl, (o_ld (b := b2106) (off := 0) (v := (.agg (A [(U d22.Char), (O d22.Attr), (U d22.FA), (U d26.1), (U d26.2.1), (U d22.f_Set)]))) rfl rm1 rfl rfl ⟨rfl, rfl⟩)⟩⟩, fun _ => ⟨rfl, rfl, rfl, .inl ⟨rfl, (o_neT (b := ((d24 == d22.Char) && ((((rd d4.2.L x19).Attr) == d22.Attr) && ((((rd d4.2.L x19).FA) == d22.FA) && ((d28.1 == d26.1) && ((d28.2.1 == d26.2.1) && ((d28.2.2 == d22.f_Set) && true))))))) (xs := [(U d24), (O ((rd d4.2.L x19).Attr)), (U ((rd d4.2.L x19).FA)), (U d28.1), (U d28.2.1), (U d28.2.2)]) (ys := [(U d22.Char), (O d22.Attr), (U d22.FA), (U d26.1), (U d26.2.1), (U d22.f_Set)]) rfl rfl (by kernel_rfl) stood rfl ⟨rfl, rfl⟩)⟩⟩, fun _ => ⟨rfl, rfl, rfl, .inl ⟨rfl, (o_p rfl ⟨rfl, rfl⟩)⟩⟩, fun _ => ⟨rfl, rfl, rfl, .inr ⟨_, _, _, _, rfl, rfl, rfl, .inl ⟨hb2113, (o_ld (b := b2106) (off := 0) (v := (.agg (A [(U d22.Char), (O d22.Attr), (U d22.FA), (U d26.1), (U d26.2.1), (U d22.f_Set)]))) rfl rm1 rfl rfl ⟨rfl, rfl⟩)⟩⟩⟩, fun _ => ⟨rfl, rfl, rfl, .inr ⟨_, _, _, _, rfl, rfl, rfl, .inl ⟨hb2113, (o_p rfl ⟨rfl, rfl⟩)⟩⟩⟩, fun _ => ⟨rfl, rfl, rfl, .inr ⟨_, _, _, _, rfl, rfl, rfl, .inl ⟨hb2113, (o_p rfl ⟨rfl, rfl⟩)⟩⟩⟩, fun _ => ⟨rfl, rfl, rfl, .inr ⟨_, _, _, _, rfl, rfl, rfl, .inl ⟨hb2113, (o_ix (s := i9.2) (n := x19) (e := en_Vapi_Cell) rfl rfl rfl rfl rfl rfl rm5 (rd_own _ _ _ _) hg2114 ⟨rfl, rfl⟩)⟩⟩⟩, fun _ => ⟨rfl, rfl, rfl, .inr ⟨_, _, _, _, rfl, rfl, rfl, .inl ⟨hb2113, (o_ldE (s := i9.2) (e := en_Vapi_Cell) (n := x19) (f := 0) (v := (.agg (A [(U ((rd d9.1 x19).Char)), (O ((rd d9.1 x19).Attr)), (U ((rd d9.1 x19).FA)), (U ((rd d9.1 x19).High)), (U ((rd d9.1 x19).Color)), (U ((rd d9.1 x19).f_Set))]))) rfl rm5 (rd_own _ _ _ _) hg2114 rfl rfl ⟨rfl, rfl⟩)⟩⟩⟩, fun _ => ⟨rfl, rfl, rfl, .inr ⟨_, _, _, _, rfl, rfl, rfl, .inl ⟨hb2113, (o_neT (b := ((d22.Char == ((rd d9.1 x19).Char)) && ((d22.Attr == ((rd d9.1 x19).Attr)) && ((d22.FA == ((rd d9.1 x19).FA)) && ((d26.1 == ((rd d9.1 x19).High)) && ((d26.2.1 == ((rd d9.1 x19).Color)) && ((d22.f_Set == ((rd d9.1 x19).f_Set)) && true))))))) (xs := [(U d22.Char), (O d22.Attr), (U d22.FA), (U d26.1), (U d26.2.1), (U d22.f_Set)]) (ys := [(U ((rd d9.1 x19).Char)), (O ((rd d9.1 x19).Attr)), (U ((rd d9.1 x19).FA)), (U ((rd d9.1 x19).High)), (U ((rd d9.1 x19).Color)), (U ((rd d9.1 x19).f_Set))]) rfl rfl (by kernel_rfl) stood rfl ⟨rfl, rfl⟩)⟩⟩⟩, fun _ => ⟨rfl, rfl, rfl, .inr ⟨_, _, _, _, rfl, rfl, rfl, .inl ⟨hb2113, (o_p rfl ⟨rfl, rfl⟩)⟩⟩⟩, fun _ => ⟨rfl, rfl, rfl, .inr ⟨_, _, _, _, rfl, rfl, rfl, .inl ⟨hb2115, (o_p rfl ⟨rfl, rfl⟩)⟩⟩⟩, fun _ => ⟨rfl, rfl, rfl, .inr ⟨_, _, _, _, rfl, rfl, rfl, .inl ⟨hb2115, (o_p (v := (O (decide ((w64 (Int.tmod p4 3)) > 0)))) rfl ⟨rfl, rfl⟩)⟩⟩⟩, fun _ => ⟨rfl, rfl, rfl, .inr ⟨_, _, _, _, rfl, rfl, rfl, .inl ⟨hb2113, (o_pick_t rfl hb2115 rfl ⟨rfl, rfl⟩)⟩⟩⟩, fun _ => ⟨rfl, rfl, rfl, .inr ⟨_, _, _, _, rfl, rfl, rfl, .inl ⟨hb2113, (o_p rfl ⟨rfl, rfl⟩)⟩⟩⟩, fun _ => ⟨rfl, rfl, rfl, .inr ⟨_, _, _, _, rfl, rfl, rfl, .inl ⟨hb2116, (o_fa (fd := ⟨ "Attr", 4, 1, false, "", "", 1⟩) rfl rfl rfl rfl rfl ⟨rfl, rfl⟩)⟩⟩⟩, fun _ => ⟨rfl, rfl, rfl, .inr ⟨_, _, _, _, rfl, rfl, rfl, .inl ⟨hb2116, (o_ld (b := b2104) (off := 1) (v := (O ((rd d4.2.L x19).Attr))) rfl rm2 rfl rfl ⟨rfl, rfl⟩)⟩⟩⟩, fun _ => ⟨rfl, rfl, rfl, .inr ⟨_, _, _, _, rfl, rfl, rfl, .inl ⟨hb2113, (o_pick_t rfl hb2116 rfl ⟨rfl, rfl⟩)⟩⟩⟩, fun _ => ⟨rfl, rfl, rfl, .inl ⟨rfl, (o_pick_f rfl hb2113 rfl ⟨rfl, rfl⟩)⟩⟩, trivial⟩, rfl, rfl, rfl, ?_⟩
                 obtain rfl := si h
                 exact ej () () trivial (sc J (sc J (sc J (sc J (sc J (sc J (sc J (sc J sn)))))))) (kc rm0 (kc rm2 (kc rm2 (kc rm2 (kc rm2 (kc rm2 (kd (kd kr))))))))
                ·replace h := cond_f hb2116 h
                 refine c_draw (n := 0) (q := [(0, 176, (.agg (A [(U d24), (O ((rd d4.2.L x19).Attr)), (U ((rd d4.2.L x19).FA)), (U d28.1), (U d28.2.1), (U d28.2.2)]))), (1, 177, (.agg (A [(U d22.Char), (O d22.Attr), (U d22.FA), (U d26.1), (U d26.2.1), (U d22.f_Set)]))), (2, 178, (O (!((d24 == d22.Char) && ((((rd d4.2.L x19).Attr) == d22.Attr) && ((((rd d4.2.L x19).FA) == d22.FA) && ((d28.1 == d26.1) && ((d28.2.1 == d26.2.1) && ((d28.2.2 == d22.f_Set) && true))))))))), (3, 179, (O (!((d24 == d22.Char) && ((((rd d4.2.L x19).Attr) == d22.Attr) && ((((rd d4.2.L x19).FA) == d22.FA) && ((d28.1 == d26.1) && ((d28.2.1 == d26.2.1) && ((d28.2.2 == d22.f_Set) && true))))))))), (4, 180, (.agg (A [(U d22.Char), (O d22.Attr), (U d22.FA), (U d26.1), (U d26.2.1), (U d22.f_Set)]))), (5, 181, (V i9.2)), (6, 182, (I x19)), (7, 183, (F (SV.blk i9.2) (SV.off i9.2 + Int.toNat x19 * 6))), (8, 184, (.agg (A [(U ((rd d9.1 x19).Char)), (O ((rd d9.1 x19).Attr)), (U ((rd d9.1 x19).FA)), (U ((rd d9.1 x19).High)), (U ((rd d9.1 x19).Color)), (U ((rd d9.1 x19).f_Set))]))), (9, 185, (O (!((d22.Char == ((rd d9.1 x19).Char)) && ((d22.Attr == ((rd d9.1 x19).Attr)) && ((d22.FA == ((rd d9.1 x19).FA)) && ((d26.1 == ((rd d9.1 x19).High)) && ((d26.2.1 == ((rd d9.1 x19).Color)) && ((d22.f_Set == ((rd d9.1 x19).f_Set)) && true))))))))), (10, 186, (O (!((d22.Char == ((rd d9.1 x19).Char)) && ((d22.Attr == ((rd d9.1 x19).Attr)) && ((d22.FA == ((rd d9.1 x19).FA)) && ((d26.1 == ((rd d9.1 x19).High)) && ((d26.2.1 == ((rd d9.1 x19).Color)) && ((d22.f_Set == ((rd d9.1 x19).f_Set)) && true))))))))), (11, 187, (I (w64 (Int.tmod p4 3)))), (12, 188, (O (decide ((w64 (Int.tmod p4 3)) > 0)))), (13, 189, (O (decide ((w64 (Int.tmod p4 3)) > 0)))), (14, 190, (O (decide ((w64 (Int.tmod p4 3)) > 0)))), (15, 191, undef), (16, 192, undef), (17, 193, (O false)), (18, 194, (O false))]) (pend := [0, 1, 2, 3, 4, 5, 6, 7, 8, 9, 10, 11, 12, 13, 14, 15, 16, 17, 18]) J J J ?_
                 refine ⟨⟨fun _ => ⟨rfl, rfl, rfl, .inl ⟨rfl, (o_ld (b := b2104) (off := 0) (v := (.agg (A [(U d24), (O ((rd d4.2.L x19).Attr)), (U ((rd d4.2.L x19).FA)), (U d28.1), (U d28.2.1), (U d28.2.2)]))) rfl rm2 rfl rfl ⟨rfl, rfl⟩)⟩⟩, fun _ => ⟨rfl, rfl, rfl, .inl ⟨rfl, (o_ld (b := b2106) (off := 0) (v := (.agg (A [(U d22.Char), (O d22.Attr), (U d22.FA), (U d26.1), (U d26.2.1), (U d22.f_Set)]))) rfl rm1 rfl rfl ⟨rfl, rfl⟩)⟩⟩, fun _ => ⟨rfl, rfl, rfl, .inl ⟨rfl, (o_neT (b := ((d24 == d22.Char) && ((((rd d4.2.L x19).Attr) == d22.Attr) && ((((rd d4.2.L x19).FA) == d22.FA) && ((d28.1 == d26.1) && ((d28.2.1 == d26.2.1) && ((d28.2.2 == d22.f_Set) && true))))))) (xs := [(U d24), (O ((rd d4.2.L x19).Attr)), (U ((rd d4.2.L x19).FA)), (U d28.1), (U d28.2.1), (U d28.2.2)]) (ys := [(U d22.Char), (O d22.Attr), (U d22.FA), (U d26.1), (U d26.2.1), (U d22.f_Set)]) rfl rfl (by kernel_rfl) stood rfl ⟨rfl, rfl⟩)⟩⟩, fun _ => ⟨rfl, rfl, rfl, .inl ⟨rfl, (o_p rfl ⟨rfl, rfl⟩)⟩⟩, fun _ => ⟨rfl, rfl, rfl, .inr ⟨_, _, _, _, rfl, rfl, rfl, .inl ⟨hb2113, (o_ld (b := b2106) (off := 0) (v := (.agg (A [(U d22.Char), (O d22.Attr), (U d22.FA), (U d26.1), (U d26.2.1), (U d22.f_Set)]))) rfl rm1 rfl rfl ⟨rfl, rfl⟩)⟩⟩⟩, fun _ => ⟨rfl, rfl, rfl, .inr ⟨_, _, _, _, rfl, rfl, rfl, .inl ⟨hb2113, (o_p rfl ⟨rfl, rfl⟩)⟩⟩⟩, fun _ => ⟨rfl, rfl, rfl, .inr ⟨_, _, _, _, rfl, rfl, rfl, .inl ⟨hb2113, (o_p rfl ⟨rfl, rfl⟩)⟩⟩⟩, fun _ => ⟨rfl, rfl, rfl, .inr ⟨_, _, _, _, rfl, rfl, rfl, .inl ⟨hb2113, (o_ix (s := i9.2) (n := x19) (e := en_Vapi_Cell) rfl rfl rfl rfl rfl rfl rm5 (rd_own _ _ _ _) hg2114 ⟨rfl, rfl⟩)⟩⟩⟩, fun _ => ⟨rfl, rfl, rfl, .inr ⟨_, _, _, _, rfl, rfl, rfl, .inl ⟨hb2113, (o_ldE (s := i9.2) (e := en_Vapi_Cell) (n := x19) (f := 0) (v := (.agg (A [(U ((rd d9.1 x19).Char)), (O ((rd d9.1 x19).Attr)), (U ((rd d9.1 x19).FA)), (U ((rd d9.1 x19).High)), (U ((rd d9.1 x19).Color)), (U ((rd d9.1 x19).f_Set))]))) rfl rm5 (rd_own _ _ _ _) hg2114 rfl rfl ⟨rfl, rfl⟩)⟩⟩⟩, fun _ => ⟨rfl, rfl, rfl, .inr ⟨_, _, _, _, rfl, rfl, rfl, .inl ⟨hb2113, (o_neT (b := ((d22.Char == ((rd d9.1 x19).Char)) && ((d22.Attr == ((rd d9.1 x19).Attr)) && ((d22.FA == ((rd d9.1 x19).FA)) && ((d26.1 == ((rd d9.1 x19).High)) && ((d26.2.1 == ((rd d9.1 x19).Color)) && ((d22.f_Set == ((rd d9.1 x19).f_Set)) && true))))))) (xs := [(U d22.Char), (O d22.Attr), (U d22.FA), (U d26.1), (U d26.2.1), (U d22.f_Set)]) (ys := [(U ((rd d9.1 x19).Char)), (O ((rd d9.1 x19).Attr)), (U ((rd d9.1 x19).FA)), (U ((rd d9.1 x19).High)), (U ((rd d9.1 x19).Color)), (U ((rd d9.1 x19).f_Set))]) rfl rfl (by kernel_rfl) stood rfl ⟨rfl, rfl⟩)⟩⟩⟩, fun _ => ⟨rfl, rfl, rfl, .inr ⟨_, _, _, _, rfl, rfl, rfl, .inl ⟨hb2113, (o_p rfl ⟨rfl, rfl⟩)⟩⟩⟩, fun _ => ⟨rfl, rfl, rfl, .inr ⟨_, _, _, _, rfl, rfl, rfl, .inl ⟨hb2115, (o_p rfl ⟨rfl, rfl⟩)⟩⟩⟩, fun _ => ⟨rfl, rfl, rfl, .inr ⟨_, _, _, _, rfl, rfl, rfl, .inl ⟨hb2115, (o_p (v := (O (decide ((w64 (Int.tmod p4 3)) > 0)))) rfl ⟨rfl, rfl⟩)⟩⟩⟩, fun _ => ⟨rfl, rfl, rfl, .inr ⟨_, _, _, _, rfl, rfl, rfl, .inl ⟨hb2113, (o_pick_t rfl hb2115 rfl ⟨rfl, rfl⟩)⟩⟩⟩, fun _ => ⟨rfl, rfl, rfl, .inr ⟨_, _, _, _, rfl, rfl, rfl, .inl ⟨hb2113, (o_p rfl ⟨rfl, rfl⟩)⟩⟩⟩, fun _ => ⟨rfl, rfl, rfl, .inr ⟨_, _, _, _, rfl, rfl, rfl, .inr ⟨hb2116, rfl⟩⟩⟩, fun _ => ⟨rfl, rfl, rfl, .inr ⟨_, _, _, _, rfl, rfl, rfl, .inr ⟨hb2116, rfl⟩⟩⟩, fun _ => ⟨rfl, rfl, rfl, .inr ⟨_, _, _, _, rfl, rfl, rfl, .inl ⟨hb2113, (o_pick_f rfl hb2116 rfl ⟨rfl, rfl⟩)⟩⟩⟩, fun _ => ⟨rfl, rfl, rfl, .inl ⟨rfl, (o_pick_f rfl hb2113 rfl ⟨rfl, rfl⟩)⟩⟩, trivial⟩, rfl, rfl, rfl, ?_⟩
                 obtain rfl := si h
                 exact ej () () trivial (sc J (sc J (sc J (sc J (sc J (sc J (sc J (sc J sn)))))))) (kc rm0 (kc rm2 (kc rm2 (kc rm2 (kc rm2 (kc rm2 (kd (kd kr))))))))
               ·replace h := cond_f hb2115 h
                refine c_draw (n := 0) (q := [(0, 176, (.agg (A [(U d24), (O ((rd d4.2.L x19).Attr)), (U ((rd d4.2.L x19).FA)), (U d28.1), (U d28.2.1), (U d28.2.2)]))), (1, 177, (.agg (A [(U d22.Char), (O d22.Attr), (U d22.FA), (U d26.1), (U d26.2.1), (U d22.f_Set)]))), (2, 178, (O (!((d24 == d22.Char) && ((((rd d4.2.L x19).Attr) == d22.Attr) && ((((rd d4.2.L x19).FA) == d22.FA) && ((d28.1 == d26.1) && ((d28.2.1 == d26.2.1) && ((d28.2.2 == d22.f_Set) && true))))))))), (3, 179, (O (!((d24 == d22.Char) && ((((rd d4.2.L x19).Attr) == d22.Attr) && ((((rd d4.2.L x19).FA) == d22.FA) && ((d28.1 == d26.1) && ((d28.2.1 == d26.2.1) && ((d28.2.2 == d22.f_Set) && true))))))))), (4, 180, (.agg (A [(U d22.Char), (O d22.Attr), (U d22.FA), (U d26.1), (U d26.2.1), (U d22.f_Set)]))), (5, 181, (V i9.2)), (6, 182, (I x19)), (7, 183, (F (SV.blk i9.2) (SV.off i9.2 + Int.toNat x19 * 6))), (8, 184, (.agg (A [(U ((rd d9.1 x19).Char)), (O ((rd d9.1 x19).Attr)), (U ((rd d9.1 x19).FA)), (U ((rd d9.1 x19).High)), (U ((rd d9.1 x19).Color)), (U ((rd d9.1 x19).f_Set))]))), (9, 185, (O (!((d22.Char == ((rd d9.1 x19).Char)) && ((d22.Attr == ((rd d9.1 x19).Attr)) && ((d22.FA == ((rd d9.1 x19).FA)) && ((d26.1 == ((rd d9.1 x19).High)) && ((d26.2.1 == ((rd d9.1 x19).Color)) && ((d22.f_Set == ((rd d9.1 x19).f_Set)) && true))))))))), (10, 186, (O (!((d22.Char == ((rd d9.1 x19).Char)) && ((d22.Attr == ((rd d9.1 x19).Attr)) && ((d22.FA == ((rd d9.1 x19).FA)) && ((d26.1 == ((rd d9.1 x19).High)) && ((d26.2.1 == ((rd d9.1 x19).Color)) && ((d22.f_Set == ((rd d9.1 x19).f_Set)) && true))))))))), (11, 187, undef), (12, 188, undef), (13, 189, (O false)), (14, 190, (O false)), (15, 191, undef), (16, 192, undef), (17, 193, (O false)), (18, 194, (O false))]) (pend := [0, 1, 2, 3, 4, 5, 6, 7, 8, 9, 10, 11, 12, 13, 14, 15, 16, 17, 18]) J J J ?_
                refine ⟨⟨fun _ => ⟨rfl, rfl, rfl, .inl ⟨rfl, (o_ld (b := b2104) (off := 0) (v := (.agg (A [(U d24), (O ((rd d4.2.L x19).Attr)), (U ((rd d4.2.L x19).FA)), (U d28.1), (U d28.2.1), (U d28.2.2)]))) rfl rm2 rfl rfl ⟨rfl, rfl⟩)⟩⟩, fun _ => ⟨rfl, rfl, rfl, .inl ⟨rfl, (o_ld (b := b2106) (off := 0) (v := (.agg (A [(U d22.Char), (O d22.Attr), (U d22.FA), (U d26.1), (U d26.2.1), (U d22.f_Set)]))) rfl rm1 rfl rfl ⟨rfl, rfl⟩)⟩⟩, fun _ => ⟨rfl, rfl, rfl, .inl ⟨rfl, (o_neT (b := ((d24 == d22.Char) && ((((rd d4.2.L x19).Attr) == d22.Attr) && ((((rd d4.2.L x19).FA) == d22.FA) && ((d28.1 == d26.1) && ((d28.2.1 == d26.2.1) && ((d28.2.2 == d22.f_Set) && true))))))) (xs := [(U d24), (O ((rd d4.2.L x19).Attr)), (U ((rd d4.2.L x19).FA)), (U d28.1), (U d28.2.1), (U d28.2.2)]) (ys := [(U d22.Char), (O d22.Attr), (U d22.FA), (U d26.1), (U d26.2.1), (U d22.f_Set)]) rfl rfl (by kernel_rfl) stood rfl ⟨rfl, rfl⟩)⟩⟩, fun _ => ⟨rfl, rfl, rfl, .inl ⟨rfl, (o_p rfl ⟨rfl, rfl⟩)⟩⟩, fun _ => ⟨rfl, rfl, rfl, .inr ⟨_, _, _, _, rfl, rfl, rfl, .inl ⟨hb2113, (o_ld (b := b2106) (off := 0) (v := (.agg (A [(U d22.Char), (O d22.Attr), (U d22.FA), (U d26.1), (U d26.2.1), (U d22.f_Set)]))) rfl rm1 rfl rfl ⟨rfl, rfl⟩)⟩⟩⟩, fun _ => ⟨rfl, rfl, rfl, .inr ⟨_, _, _, _, rfl, rfl, rfl, .inl ⟨hb2113, (o_p rfl ⟨rfl, rfl⟩)⟩⟩⟩, fun _ => ⟨rfl, rfl, rfl, .inr ⟨_, _, _, _, rfl, rfl, rfl, .inl ⟨hb2113, (o_p rfl ⟨rfl, rfl⟩)⟩⟩⟩, fun _ => ⟨rfl, rfl, rfl, .inr ⟨_, _, _, _, rfl, rfl, rfl, .inl ⟨hb2113, (o_ix (s := i9.2) (n := x19) (e := en_Vapi_Cell) rfl rfl rfl rfl rfl rfl rm5 (rd_own _ _ _ _) hg2114 ⟨rfl, rfl⟩)⟩⟩⟩, fun _ => ⟨rfl, rfl, rfl, .inr ⟨_, _, _, _, rfl, rfl, rfl, .inl ⟨hb2113, (o_ldE (s := i9.2) (e := en_Vapi_Cell) (n := x19) (f := 0) (v := (.agg (A [(U ((rd d9.1 x19).Char)), (O ((rd d9.1 x19).Attr)), (U ((rd d9.1 x19).FA)), (U ((rd d9.1 x19).High)), (U ((rd d9.1 x19).Color)), (U ((rd d9.1 x19).f_Set))]))) rfl rm5 (rd_own _ _ _ _) hg2114 rfl rfl ⟨rfl, rfl⟩)⟩⟩⟩, fun _ => ⟨rfl, rfl, rfl, .inr ⟨_, _, _, _, rfl, rfl, rfl, .inl ⟨hb2113, (o_neT (b := ((d22.Char == ((rd d9.1 x19).Char)) && ((d22.Attr == ((rd d9.1 x19).Attr)) && ((d22.FA == ((rd d9.1 x19).FA)) && ((d26.1 == ((rd d9.1 x19).High)) && ((d26.2.1 == ((rd d9.1 x19).Color)) && ((d22.f_Set == ((rd d9.1 x19).f_Set)) && true))))))) (xs := [(U d22.Char), (O d22.Attr), (U d22.FA), (U d26.1), (U d26.2.1), (U d22.f_Set)]) (ys := [(U ((rd d9.1 x19).Char)), (O ((rd d9.1 x19).Attr)), (U ((rd d9.1 x19).FA)), (U ((rd d9.1 x19).High)), (U ((rd d9.1 x19).Color)), (U ((rd d9.1 x19).f_Set))]) rfl rfl (by kernel_rfl) stood rfl ⟨rfl, rfl⟩)⟩⟩⟩, fun _ => ⟨rfl, rfl, rfl, .inr ⟨_, _, _, _, rfl, rfl, rfl, .inl ⟨hb2113, (o_p rfl ⟨rfl, rfl⟩)⟩⟩⟩, fun _ => ⟨rfl, rfl, rfl, .inr ⟨_, _, _, _, rfl, rfl, rfl, .inr ⟨hb2115, rfl⟩⟩⟩, fun _ => ⟨rfl, rfl, rfl, .inr ⟨_, _, _, _, rfl, rfl, rfl, .inr ⟨hb2115, rfl⟩⟩⟩, fun _ => ⟨rfl, rfl, rfl, .inr ⟨_, _, _, _, rfl, rfl, rfl, .inl ⟨hb2113, (o_pick_f rfl hb2115 rfl ⟨rfl, rfl⟩)⟩⟩⟩, fun _ => ⟨rfl, rfl, rfl, .inr ⟨_, _, _, _, rfl, rfl, rfl, .inl ⟨hb2113, (o_p rfl ⟨rfl, rfl⟩)⟩⟩⟩, fun _ => ⟨rfl, rfl, rfl, .inr ⟨_, _, _, _, rfl, rfl, rfl, .inr ⟨rfl, rfl⟩⟩⟩, fun _ => ⟨rfl, rfl, rfl, .inr ⟨_, _, _, _, rfl, rfl, rfl, .inr ⟨rfl, rfl⟩⟩⟩, fun _ => ⟨rfl, rfl, rfl, .inr ⟨_, _, _, _, rfl, rfl, rfl, .inl ⟨hb2113, (o_pick_f rfl rfl rfl ⟨rfl, rfl⟩)⟩⟩⟩, fun _ => ⟨rfl, rfl, rfl, .inl ⟨rfl, (o_pick_f rfl hb2113 rfl ⟨rfl, rfl⟩)⟩⟩, trivial⟩, rfl, rfl, rfl, ?_⟩
                obtain rfl := si h
                exact ej () () trivial (sc J (sc J (sc J (sc J (sc J (sc J (sc J (sc J sn)))))))) (kc rm0 (kc rm2 (kc rm2 (kc rm2 (kc rm2 (kc rm2 (kd (kd kr))))))))
             ·rintro _ i29 _
              replace h := hk29
              clear hk29
              refine e_seq ?_
              refine c_cond (b := d29) J (fun hb2117 => ?_) (fun hb2117 => ?_)
              ·replace h := cond_t hb2117 h
               refine cr (op J J (oe (c_ret ?_)))
               refine e_blk_ret (e_then_ret (e_then_ret (e_blk_ret (ej_ret ?_))))
               replace h := esc_some h
               obtain ⟨z18, h, rfl⟩ := h
               obtain rfl := (hk18 : z18 = _)
               refine e_then_ret (e_ret ?_)
               refine r_endt J J (kc rm0 (kd (kd (kd (kd (kd kr)))))) ?_
               obtain rfl := si h
               exact hk i15 f15_0
              ·replace h := cond_f hb2117 h
               refine c_skip (e_blk (e_seq (c_region ?_)))
               refine o1 J (o_p (v := (I (w64 (x19 + 1)))) J ?_)
               refine op J J (o_end ?_)
               exact e_loop (l_sub (sc J (sc J (sc J (sc J (sc J (sc J (sc J sn))))))) (l_keep (kc rm0 (kc rm0 (kc rm0 (kc rm0 (kc rm0 (kc rm0 kr)))))) (ih19 (w64 (x19 + 1)) () trivial h)))
       ·replace h := cond_f hb2102 h
        refine c_exit (e_then_exit (e_then_exit (e_blk_exit ?_)))
        obtain rfl := si h
        exact ej () () J (sc J (sc J sn)) (kc rm0 (kc rm1 (kc rm2 (kc rm2 (kc rm0 (kd kr))))))
      ·rintro d18 i18 rfl
       replace h := JK_inl hk18
       clear hk18
       refine e_seq (c_seq ?_)
       replace h := bsome h
       obtain ⟨d31, h, hk31⟩ := h
       refine cj (D := Unit) (ι := Unit) (fun _ i31 => True) (fun _ i31 => [(10, (O d31))]) (fun _ i31 => i15 :: R) ?_ ?_
       ·refine c_draw (n := 2) (q := [(0, 196, (F i13.1 0)), (2, 198, (F i4.2.2.1 0)), (3, 199, (F i4.2.2.1 0)), (4, 200, (F i4.2.2.1 5)), (5, 201, (I d4.2.Cursor))]) (pend := [0, 2, 3, 4, 5]) J J J ?_
        replace h := bsome h
        obtain ⟨d32, h32, h⟩ := h
        refine ⟨⟨fun _ => ⟨J, J, J, .inl ⟨J, (o_p J ⟨J, J⟩)⟩⟩, fun _ => ⟨J, J, J, .inl ⟨J, (o_p J ⟨J, J⟩)⟩⟩, fun _ => ⟨J, J, J, .inl ⟨J, (o_p J ⟨J, J⟩)⟩⟩, fun _ => ⟨J, J, J, .inl ⟨J, (o_fa (fd := ⟨ "Cursor", 3, 5, false, "", "", 56⟩) J J J J J ⟨J, J⟩)⟩⟩, fun _ => ⟨J, J, J, .inl ⟨J, (o_ld (b := i4.2.2.1) (off := 5) (v := (I d4.2.Cursor)) J rm2 J J ⟨J, J⟩)⟩⟩, trivial⟩, J, .inr ⟨[1], J, J, ⟨J, .inl J, ?_⟩, trivial⟩⟩
        refine (o_call has15 J (c_space_Space_Cursor hg i15 d14.1 i13.1 i14.2.1 _ h32) (pc rm0 (pc rm0 (pc rm1 pn))) ?_)
        rcases bool_or ((d32 == d4.2.Cursor)) with hb2118 | hb2118
        ·replace h := cond_t hb2118 h
         refine ⟨[(6, 202, (O (d32 == d4.2.Cursor))), (7, 203, (O (d32 == d4.2.Cursor))), (8, 204, (F i13.1 0)), (10, 206, (F i4.2.2.1 0)), (11, 207, (F i4.2.2.1 0)), (12, 208, (F i4.2.2.1 1)), (13, 209, (O d4.2.Alt))], [2, 3, 4, 5, 6, 7, 8, 10, 11, 12, 13], J, J, J, J, ?_⟩
         replace h := bsome h
         obtain ⟨d33, h33, h⟩ := h
         refine ⟨⟨fun _ => ⟨J, J, J, .inl ⟨J, (o_p (v := (O (d32 == d4.2.Cursor))) J ⟨J, J⟩)⟩⟩, fun _ => ⟨J, J, J, .inl ⟨J, (o_p J ⟨J, J⟩)⟩⟩, fun _ => ⟨J, J, J, .inr ⟨_, _, _, _, J, J, J, .inl ⟨hb2118, (o_p J ⟨J, J⟩)⟩⟩⟩, fun _ => ⟨J, J, J, .inr ⟨_, _, _, _, J, J, J, .inl ⟨hb2118, (o_p J ⟨J, J⟩)⟩⟩⟩, fun _ => ⟨J, J, J, .inr ⟨_, _, _, _, J, J, J, .inl ⟨hb2118, (o_p J ⟨J, J⟩)⟩⟩⟩, fun _ => ⟨J, J, J, .inr ⟨_, _, _, _, J, J, J, .inl ⟨hb2118, (o_fa (fd := ⟨ "Alt", 4, 1, false, "", "", 8⟩) J J J J J ⟨J, J⟩)⟩⟩⟩, fun _ => ⟨J, J, J, .inr ⟨_, _, _, _, J, J, J, .inl ⟨hb2118, (o_ld (b := i4.2.2.1) (off := 1) (v := (O d4.2.Alt)) J rm3 J J ⟨J, J⟩)⟩⟩⟩, (fun h => nomatch h), fun _ => ⟨J, J, J, .inl ⟨J, (o_p J ⟨J, J⟩)⟩⟩, fun _ => ⟨J, J, J, .inl ⟨J, (o_p J ⟨J, J⟩)⟩⟩, fun _ => ⟨J, J, J, .inl ⟨J, (o_fa (fd := ⟨ "Cursor", 3, 5, false, "", "", 56⟩) J J J J J ⟨J, J⟩)⟩⟩, fun _ => ⟨J, J, J, .inl ⟨J, (o_ld (b := i4.2.2.1) (off := 5) (v := (I d4.2.Cursor)) J rm3 J J ⟨J, J⟩)⟩⟩, trivial⟩, J, .inr ⟨[9], J, J, ⟨J, .inr ⟨_, _, _, _, J, J, J, hb2118⟩, ?_⟩, trivial⟩⟩
         refine (o_call has16 J (c_space_Space_Alternate hg i15 d14.1 i13.1 i14.2.1 _ h33) (pc rm0 (pc rm0 (pc rm0 pn))) ?_)
         refine ⟨[(14, 210, (O (d33 == d4.2.Alt))), (15, 211, (O (d33 == d4.2.Alt))), (16, 10, (O (d33 == d4.2.Alt)))], [10, 11, 12, 13, 14, 15, 16], J, J, J, J, ?_⟩
         refine ⟨⟨fun _ => ⟨J, J, J, .inr ⟨_, _, _, _, J, J, J, .inl ⟨hb2118, (o_p (v := (O (d33 == d4.2.Alt))) J ⟨J, J⟩)⟩⟩⟩, fun _ => ⟨J, J, J, .inl ⟨J, (o_pick_t J hb2118 J ⟨J, J⟩)⟩⟩, fun _ => ⟨J, J, J, .inl ⟨J, (o_p J ⟨J, J⟩)⟩⟩, (fun h => nomatch h), (fun h => nomatch h), (fun h => nomatch h), fun _ => ⟨J, J, J, .inr ⟨_, _, _, _, J, J, J, .inl ⟨hb2118, (o_p J ⟨J, J⟩)⟩⟩⟩, fun _ => ⟨J, J, J, .inr ⟨_, _, _, _, J, J, J, .inl ⟨hb2118, (o_p J ⟨J, J⟩)⟩⟩⟩, fun _ => ⟨J, J, J, .inr ⟨_, _, _, _, J, J, J, .inl ⟨hb2118, (o_fa (fd := ⟨ "Alt", 4, 1, false, "", "", 8⟩) J J J J J ⟨J, J⟩)⟩⟩⟩, fun _ => ⟨J, J, J, .inr ⟨_, _, _, _, J, J, J, .inl ⟨hb2118, (o_ld (b := i4.2.2.1) (off := 1) (v := (O d4.2.Alt)) J rm3 J J ⟨J, J⟩)⟩⟩⟩, (fun h => nomatch h), (fun h => nomatch h), (fun h => nomatch h), (fun h => nomatch h), (fun h => nomatch h), trivial⟩, J, J, J, ?_⟩
         obtain rfl := si h
         exact ej () () trivial (sc J sn) (kc rm0 (kd (kd (kd (kd kr)))))
        ·replace h := cond_f hb2118 h
         refine ⟨[(6, 202, (O (d32 == d4.2.Cursor))), (7, 203, (O (d32 == d4.2.Cursor))), (8, 204, undef), (9, 205, undef), (10, 206, undef), (11, 207, undef), (12, 208, undef), (13, 209, undef), (14, 210, undef), (15, 211, (O false)), (16, 10, (O false))], [2, 3, 4, 5, 6, 7, 8, 9, 10, 11, 12, 13, 14, 15, 16], J, J, J, J, ?_⟩
         refine ⟨⟨fun _ => ⟨J, J, J, .inl ⟨J, (o_p (v := (O (d32 == d4.2.Cursor))) J ⟨J, J⟩)⟩⟩, fun _ => ⟨J, J, J, .inl ⟨J, (o_p J ⟨J, J⟩)⟩⟩, fun _ => ⟨J, J, J, .inr ⟨_, _, _, _, J, J, J, .inr ⟨hb2118, J⟩⟩⟩, fun _ => ⟨J, J, J, .inr ⟨_, _, _, _, J, J, J, .inr ⟨hb2118, J⟩⟩⟩, fun _ => ⟨J, J, J, .inr ⟨_, _, _, _, J, J, J, .inr ⟨hb2118, J⟩⟩⟩, fun _ => ⟨J, J, J, .inr ⟨_, _, _, _, J, J, J, .inr ⟨hb2118, J⟩⟩⟩, fun _ => ⟨J, J, J, .inr ⟨_, _, _, _, J, J, J, .inr ⟨hb2118, J⟩⟩⟩, fun _ => ⟨J, J, J, .inr ⟨_, _, _, _, J, J, J, .inr ⟨hb2118, J⟩⟩⟩, fun _ => ⟨J, J, J, .inr ⟨_, _, _, _, J, J, J, .inr ⟨hb2118, J⟩⟩⟩, fun _ => ⟨J, J, J, .inl ⟨J, (o_pick_f J hb2118 J ⟨J, J⟩)⟩⟩, fun _ => ⟨J, J, J, .inl ⟨J, (o_p J ⟨J, J⟩)⟩⟩, (fun h => nomatch h), fun _ => ⟨J, J, J, .inl ⟨J, (o_p J ⟨J, J⟩)⟩⟩, fun _ => ⟨J, J, J, .inl ⟨J, (o_p J ⟨J, J⟩)⟩⟩, fun _ => ⟨J, J, J, .inl ⟨J, (o_fa (fd := ⟨ "Cursor", 3, 5, false, "", "", 56⟩) J J J J J ⟨J, J⟩)⟩⟩, fun _ => ⟨J, J, J, .inl ⟨J, (o_ld (b := i4.2.2.1) (off := 5) (v := (I d4.2.Cursor)) J rm3 J J ⟨J, J⟩)⟩⟩, trivial⟩, J, .inl ⟨J, J, ?_⟩⟩
         obtain rfl := si h
         exact ej () () trivial (sc J sn) (kc rm0 (kd (kd (kd (kd kr)))))
       ·rintro _ i31 _
        replace h := hk31
        clear hk31
        refine e_seq (c_ret (e_ret ?_))
        refine r_endt J J (kc rm0 kr) ?_
        obtain rfl := si h
        exact hk i15 f15_0

end Go.Vt
