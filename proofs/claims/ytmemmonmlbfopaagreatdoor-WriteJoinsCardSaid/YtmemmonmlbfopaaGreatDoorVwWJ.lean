/- The walks: each function does what its model says. No conditions. -/
import Derived.Test.YtmemmonmlbfopaaGreatDoorVwWJc
set_option linter.unusedVariables false
set_option maxRecDepth 100000
set_option maxHeartbeats 4000000
namespace Go.Vt
open Go.Proofs
theorem c_vitrinelaw17_lay {g : Gw} (hg : GK g) (X : HP) (p0 : Int) (p1 : List Vvitrineref12_Act) (s0 : SV) (q0r : RdN X s0 92 en_Vvitrineref12_Act D_Vvitrineref12_Act p1) (r : Vspace_Space × Vvitrineref12_Space) (h : m_vitrinelaw17_lay p0 p1 = some r) : Tri env g 19 (List.toArray [(.int .u8 p0), (SV.val s0)]) [X] (fun K R => ∀ (i0 : Nat × SV × Nat × SV), K (.tuple (List.toArray [(.pointer (some ⟨i0.1, 0, none⟩)), (.pointer (some ⟨i0.2.2.1, 0, none⟩))])) (X :: blk i0.1 (.cells (List.toArray [(.int .i64 r.1.model), (.bool r.1.alternate), (.int .i64 r.1.size.Rows), (.int .i64 r.1.size.Cols), (SV.val i0.2.1), (.int .i64 r.1.cursor), (.int .i64 r.1.attrs)]) 116 (0, 0)) :: slO i0.2.1 80 en_Vapi_Cell r.1.cells :: blk i0.2.2.1 (.cells (List.toArray [(.int .i64 r.2.Model), (.bool r.2.Alt), (.int .i64 r.2.Size.Rows), (.int .i64 r.2.Size.Cols), (SV.val i0.2.2.2), (.int .i64 r.2.Cursor)]) 40 (0, 0)) :: slO i0.2.2.2 80 en_Vapi_Cell r.2.L :: R)) := by
 refine tri_of (fn := Tryz.f19) (N := 70) Tryz.func19 rfl rfl rfl ?_
 intro R K hk
 obtain ⟨L_q0, q0, n_q0⟩ := q0r
 unfold m_vitrinelaw17_lay at h
 change GC _ none _ [] [(0, (.int .u8 p0)), (1, (SV.val s0))] (X :: R) g _ _
 refine c_seq (c_region (o1 rfl (o_p rfl (o1 rfl (o_p rfl (o_end (e_seq ?_)))))))
 refine c_seq (c_region (o1 rfl (o_p rfl ?_)))
 refine o1 rfl (o_rem (m := p0) (n := 4) rfl rfl (by decide) ?_)
 refine o1 rfl (o_p (v := (.int .i64 (w64 (Int.tmod p0 4)))) rfl ?_)
 refine o1 rfl (o_p (v := (.int .i64 (w64 (2 + (w64 (Int.tmod p0 4)))))) rfl ?_)
 refine o1 rfl (o_p rfl (o_end (e_seq (c_seq (c_region (o1 rfl (o_p rfl ?_)))))))
 replace h := bsome h
 obtain ⟨d2, h2, h⟩ := h
 rcases d2 with d2 | d2
 ·cases h
 ·refine o1 rfl (o_call has44 rfl (c_space_New hg X (w64 (2 + (w64 (Int.tmod p0 4)))) _ h2) (pc rm0 pn) (fun i2 => ?_))
  refine o1 rfl (o_p rfl (o1 rfl (o_p rfl (o1 rfl (o_p rfl (o1 rfl (o_p rfl (o1 rfl (o_p rfl (o_end ?_))))))))))
  refine e_seq (c_seq (c_region (o1 rfl (o_p rfl ?_))))
  replace h := bsome h
  obtain ⟨d4, h4, h⟩ := h
  rcases d4 with d4 | d4
  ·cases h
  ·refine o1 rfl (o_call has45 rfl (c_vitrineref12_New hg X (w64 (2 + (w64 (Int.tmod p0 4)))) _ h4) (pc rm0 pn) (fun i4 => ?_))
   refine o1 rfl (o_p rfl (o_end (e_seq (c_seq (c_seq (c_region ?_))))))
   refine o1 rfl (o_p rfl ?_)
   refine o1 rfl (o_lenN (s := s0) rfl rfl rfl rm0 q0 n_q0 ?_)
   refine o1 rfl (o_p rfl (o_end (e_seq ?_)))
   replace h := bsome h
   obtain ⟨d5, h, hk5⟩ := h
   refine cj (D := Unit) (ι := SV) (fun _ i5 => True) (fun _ i5 => [(9, (.pointer (some ⟨i4.1, 0, none⟩))), (7, (.pointer (some ⟨i2.1, 0, none⟩)))]) (fun _ i5 => X :: blk i4.1 (.cells (List.toArray [(.int .i64 d5.1), (.bool d5.2.1), (.int .i64 d5.2.2.1), (.int .i64 d5.2.2.2.1), (SV.val i5), (.int .i64 d5.2.2.2.2.2.1)]) 40 (0, 0)) :: blk i2.1 (.cells (List.toArray [(.int .i64 d5.2.2.2.2.2.2.1), (.bool d5.2.2.2.2.2.2.2.1), (.int .i64 d5.2.2.2.2.2.2.2.2.1), (.int .i64 d5.2.2.2.2.2.2.2.2.2.1), (SV.val i2.2), (.int .i64 d5.2.2.2.2.2.2.2.2.2.2.2.1), (.int .i64 d5.2.2.2.2.2.2.2.2.2.2.2.2)]) 116 (0, 0)) :: slO i5 80 en_Vapi_Cell d5.2.2.2.2.1 :: slO i2.2 80 en_Vapi_Cell d5.2.2.2.2.2.2.2.2.2.2.1 :: R) ?_ ?_
   ·refine c_block ?_
    refine c_loop (l_sub (sc rfl (sc rfl (sc rfl (sc rfl (sc rfl sn))))) (l_keep (kc rm0 (kc rm0 (kc rm1 (kc rm0 (kc rm0 kr))))) (lf (X := Int × Int × Bool × Int × Int × (List Vapi_Cell) × Int × Int × Bool × Int × Int × (List Vapi_Cell) × Int × Int) (ι := SV) (fun k x => vitrinelaw17_lay_l6 p1 k x) _ (fun x6 i6 => True) (fun x6 i6 => [(27, (.int .i64 x6.1)), (26, (.int .i64 (p1.length : Int))), (25, (SV.val s0)), (9, (.pointer (some ⟨i4.1, 0, none⟩))), (7, (.pointer (some ⟨i2.1, 0, none⟩)))]) (fun x6 i6 => X :: blk i4.1 (.cells (List.toArray [(.int .i64 x6.2.1), (.bool x6.2.2.1), (.int .i64 x6.2.2.2.1), (.int .i64 x6.2.2.2.2.1), (SV.val i6), (.int .i64 x6.2.2.2.2.2.2.1)]) 40 (0, 0)) :: blk i2.1 (.cells (List.toArray [(.int .i64 x6.2.2.2.2.2.2.2.1), (.bool x6.2.2.2.2.2.2.2.2.1), (.int .i64 x6.2.2.2.2.2.2.2.2.2.1), (.int .i64 x6.2.2.2.2.2.2.2.2.2.2.1), (SV.val i2.2), (.int .i64 x6.2.2.2.2.2.2.2.2.2.2.2.2.1), (.int .i64 x6.2.2.2.2.2.2.2.2.2.2.2.2.2)]) 116 (0, 0)) :: slO i6 80 en_Vapi_Cell x6.2.2.2.2.2.1 :: slO i2.2 80 en_Vapi_Cell x6.2.2.2.2.2.2.2.2.2.2.2.1 :: R) (fun _ => rfl) ?_ fuel (0, d4.Model, d4.Alt, d4.Size.Rows, d4.Size.Cols, d4.L, d4.Cursor, d2.1.model, d2.1.alternate, d2.1.size.Rows, d2.1.size.Cols, d2.1.cells, d2.1.cursor, d2.1.attrs) i4.2 trivial h)))
    clear h
    rintro k6 ih6 x6 i6 _ h
    rw [vitrinelaw17_lay_l6.eq_2] at h
    refine l_round (c_seq (c_region ?_))
    refine o1 rfl (o_p (v := (.bool (decide (x6.1 < (p1.length : Int))))) rfl ?_)
    refine o_end (e_seq (c_seq ?_))
    refine c_cond (b := (decide (x6.1 < (p1.length : Int)))) rfl (fun hb902 => ?_) (fun hb902 => ?_)
    ·replace h := cond_t hb902 h
     refine c_skip (e_seq (c_seq (c_block (c_seq (c_region ?_)))))
     refine o1 rfl (o_p rfl ?_)
     replace h := gsome h
     obtain ⟨hg903, h⟩ := h
     refine o1 rfl (o_ix (s := s0) (n := x6.1) (e := en_Vvitrineref12_Act) rfl rfl rfl rfl rfl rfl rm0 q0 (NL.lt n_q0 hg903) ?_)
     obtain ⟨sv904, he_sv904, hd_sv904⟩ := NL.rd n_q0 hg903
     have hr905 : Rd X sv904 5 (enI .u8) ((rd p1 x6.1).Text) := hd_sv904
     refine o1 rfl (o_ldE (s := s0) (e := en_Vvitrineref12_Act) (n := x6.1) (f := 0) (v := (.agg (List.toArray [(.int .u8 ((rd p1 x6.1).Do)), (.int .i64 ((rd p1 x6.1).N)), (.bool ((rd p1 x6.1).On)), (.int .u8 ((rd p1 x6.1).Code)), (.int .u8 (((rd p1 x6.1).C).Char)), (.bool (((rd p1 x6.1).C).Attr)), (.int .u8 (((rd p1 x6.1).C).FA)), (.int .u8 (((rd p1 x6.1).C).High)), (.int .u8 (((rd p1 x6.1).C).Color)), (.int .u8 (((rd p1 x6.1).C).f_Set)), (SV.val sv904)]))) rfl rm0 q0 (NL.lt n_q0 hg903) rfl (by rw [he_sv904]; rfl) ?_)
     refine o1 rfl (o_alloc (cs := [(.int .u8 0), (.int .i64 0), (.bool false), (.int .u8 0), (.int .u8 0), (.bool false), (.int .u8 0), (.int .u8 0), (.int .u8 0), (.int .u8 0), (SV.val SV.nil)]) rfl rfl (fun b906 => ?_))
     refine o1 rfl (o_p rfl ?_)
     refine o0 (o_st (b := b906) (off := 0) (vs := [(.int .u8 ((rd p1 x6.1).Do)), (.int .i64 ((rd p1 x6.1).N)), (.bool ((rd p1 x6.1).On)), (.int .u8 ((rd p1 x6.1).Code)), (.int .u8 (((rd p1 x6.1).C).Char)), (.bool (((rd p1 x6.1).C).Attr)), (.int .u8 (((rd p1 x6.1).C).FA)), (.int .u8 (((rd p1 x6.1).C).High)), (.int .u8 (((rd p1 x6.1).C).Color)), (.int .u8 (((rd p1 x6.1).C).f_Set)), (SV.val sv904)]) (cs' := [(.int .u8 ((rd p1 x6.1).Do)), (.int .i64 ((rd p1 x6.1).N)), (.bool ((rd p1 x6.1).On)), (.int .u8 ((rd p1 x6.1).Code)), (.int .u8 (((rd p1 x6.1).C).Char)), (.bool (((rd p1 x6.1).C).Attr)), (.int .u8 (((rd p1 x6.1).C).FA)), (.int .u8 (((rd p1 x6.1).C).High)), (.int .u8 (((rd p1 x6.1).C).Color)), (.int .u8 (((rd p1 x6.1).C).f_Set)), (SV.val sv904)]) rfl rfl rp0 rfl rfl rfl rfl rfl rfl ?_)
     refine o_end (e_seq (c_seq (c_region (o1 rfl (o_p rfl ?_)))))
     refine o1 rfl (o_p (v := (.bool (decide (x6.1 < 30)))) rfl ?_)
     refine o_end (e_seq ?_)
     replace h := bsome h
     obtain ⟨d9, h, hk9⟩ := h
     refine cj (D := Unit) (ι := SV) (fun _ i9 => True) (fun _ i9 => [(27, (.int .i64 x6.1)), (26, (.int .i64 (p1.length : Int))), (25, (SV.val s0)), (9, (.pointer (some ⟨i4.1, 0, none⟩))), (7, (.pointer (some ⟨i2.1, 0, none⟩)))]) (fun _ i9 => X :: blk i4.1 (.cells (List.toArray [(.int .i64 d9.1), (.bool d9.2.1), (.int .i64 d9.2.2.1), (.int .i64 d9.2.2.2.1), (SV.val i9), (.int .i64 d9.2.2.2.2.2)]) 40 (0, 0)) :: blk i2.1 (.cells (List.toArray [(.int .i64 x6.2.2.2.2.2.2.2.1), (.bool x6.2.2.2.2.2.2.2.2.1), (.int .i64 x6.2.2.2.2.2.2.2.2.2.1), (.int .i64 x6.2.2.2.2.2.2.2.2.2.2.1), (SV.val i2.2), (.int .i64 x6.2.2.2.2.2.2.2.2.2.2.2.2.1), (.int .i64 x6.2.2.2.2.2.2.2.2.2.2.2.2.2)]) 116 (0, 0)) :: slO i9 80 en_Vapi_Cell d9.2.2.2.2.1 :: slO i2.2 80 en_Vapi_Cell x6.2.2.2.2.2.2.2.2.2.2.2.1 :: R) ?_ ?_
     ·refine c_cond (b := (decide (x6.1 < 30))) rfl (fun hb908 => ?_) (fun hb908 => ?_)
      ·replace h := cond_t hb908 h
       refine c_region (o1 rfl (o_p rfl ?_))
       refine o1 rfl (o_ld (b := b906) (off := 0) (v := (.agg (List.toArray [(.int .u8 ((rd p1 x6.1).Do)), (.int .i64 ((rd p1 x6.1).N)), (.bool ((rd p1 x6.1).On)), (.int .u8 ((rd p1 x6.1).Code)), (.int .u8 (((rd p1 x6.1).C).Char)), (.bool (((rd p1 x6.1).C).Attr)), (.int .u8 (((rd p1 x6.1).C).FA)), (.int .u8 (((rd p1 x6.1).C).High)), (.int .u8 (((rd p1 x6.1).C).Color)), (.int .u8 (((rd p1 x6.1).C).f_Set)), (SV.val sv904)]))) rfl rm0 rfl rfl ?_)
       replace h := bsome h
       obtain ⟨d10, h10, h⟩ := h
       refine o1 rfl (o_call has46 rfl (c_vitrineref12_Do hg X (⟨x6.2.1, x6.2.2.1, (⟨x6.2.2.2.1, x6.2.2.2.2.1⟩ : Vvitrineref04_Size), x6.2.2.2.2.2.1, x6.2.2.2.2.2.2.1⟩ : Vvitrineref12_Space) i4.1 i6 { (rd p1 x6.1) with C := ((rd p1 x6.1).C) } sv904 hr905 _ h10) (pc rm1 (pc rm1 (pc rm2 pn))) (fun i10 => ?_))
       refine o_end ?_
       obtain rfl := Option.some.inj h
       exact ej () i10 trivial (sc rfl (sc rfl (sc rfl (sc rfl (sc rfl sn))))) (kc rm0 (kc rm0 (kc rm2 (kc rm0 (kc rm1 (kd kr))))))
      ·replace h := cond_f hb908 h
       refine c_skip ?_
       obtain rfl := Option.some.inj h
       exact ej () i6 trivial (sc rfl (sc rfl (sc rfl (sc rfl (sc rfl sn))))) (kc rm1 (kc rm1 (kc rm1 (kc rm1 (kc rm1 (kd kr))))))
     ·rintro _ i9 _
      replace h := hk9
      clear hk9
      refine e_blk (e_seq (c_region ?_))
      refine o1 rfl (o_p (v := (.int .i64 (w64 (x6.1 + 1)))) rfl ?_)
      refine o1 rfl (o_p rfl (o_end ?_))
      exact e_loop (l_sub (sc rfl (sc rfl (sc rfl (sc rfl (sc rfl sn))))) (l_keep (kc rm0 (kc rm0 (kc rm0 (kc rm0 (kc rm0 kr))))) (ih6 (w64 (x6.1 + 1), d9.1, d9.2.1, d9.2.2.1, d9.2.2.2.1, d9.2.2.2.2.1, d9.2.2.2.2.2, x6.2.2.2.2.2.2.2.1, x6.2.2.2.2.2.2.2.2.1, x6.2.2.2.2.2.2.2.2.2.1, x6.2.2.2.2.2.2.2.2.2.2.1, x6.2.2.2.2.2.2.2.2.2.2.2.1, x6.2.2.2.2.2.2.2.2.2.2.2.2.1, x6.2.2.2.2.2.2.2.2.2.2.2.2.2) i9 trivial h)))
    ·replace h := cond_f hb902 h
     refine c_exit (e_then_exit (e_then_exit (e_blk_exit ?_)))
     obtain rfl := Option.some.inj h
     exact ej () i6 trivial (sc rfl (sc rfl sn)) (kc rm0 (kc rm0 (kc rm0 (kc rm0 (kc rm0 kr)))))
   ·rintro _ i5 _
    replace h := hk5
    clear hk5
    refine e_seq (c_seq (c_seq (c_region (o1 rfl (o_p rfl (o1 rfl (o_p rfl ?_)))))))
    refine o1 rfl (o_fa (fd := ⟨ "Alt", 4, 1, false, "", "", 8⟩) rfl rfl rfl rfl rfl ?_)
    refine o1 rfl (o_ld (b := i4.1) (off := 1) (v := (.bool d5.2.1)) rfl rm1 rfl rfl ?_)
    refine o_end (e_seq ?_)
    replace h := bsome h
    obtain ⟨d11, h, hk11⟩ := h
    refine cj (D := Unit) (ι := SV) (fun _ i11 => True) (fun _ i11 => [(9, (.pointer (some ⟨i4.1, 0, none⟩))), (7, (.pointer (some ⟨i2.1, 0, none⟩)))]) (fun _ i11 => X :: blk i4.1 (.cells (List.toArray [(.int .i64 d5.1), (.bool d5.2.1), (.int .i64 d5.2.2.1), (.int .i64 d5.2.2.2.1), (SV.val i5), (.int .i64 d5.2.2.2.2.2.1)]) 40 (0, 0)) :: blk i2.1 (.cells (List.toArray [(.int .i64 d11.1), (.bool d11.2.1), (.int .i64 d11.2.2.1), (.int .i64 d11.2.2.2.1), (SV.val i11), (.int .i64 d11.2.2.2.2.2.1), (.int .i64 d11.2.2.2.2.2.2)]) 116 (0, 0)) :: slO i5 80 en_Vapi_Cell d5.2.2.2.2.1 :: slO i11 80 en_Vapi_Cell d11.2.2.2.2.1 :: R) ?_ ?_
    ·refine c_cond (b := d5.2.1) rfl (fun hb915 => ?_) (fun hb915 => ?_)
     ·replace h := cond_t hb915 h
      refine c_region (o1 rfl (o_p rfl ?_))
      replace h := bsome h
      obtain ⟨d12, h12, h⟩ := h
      refine o1 rfl (o_call has47 rfl (c_space_Space_Clear_2 hg X (⟨d5.2.2.2.2.2.2.1, d5.2.2.2.2.2.2.2.1, (⟨d5.2.2.2.2.2.2.2.2.1, d5.2.2.2.2.2.2.2.2.2.1⟩ : Vaddr_Size), d5.2.2.2.2.2.2.2.2.2.2.1, d5.2.2.2.2.2.2.2.2.2.2.2.1, d5.2.2.2.2.2.2.2.2.2.2.2.2⟩ : Vspace_Space) i2.1 i2.2 true _ h12) (pc rm0 (pc rm1 (pc rm2 pn))) (fun i12 => ?_))
      refine o_end ?_
      obtain rfl := Option.some.inj h
      exact ej () i12 trivial (sc rfl (sc rfl sn)) (kc rm0 (kc rm3 (kc rm0 (kc rm2 (kc rm0 (kd kr))))))
     ·replace h := cond_f hb915 h
      refine c_skip ?_
      obtain rfl := Option.some.inj h
      exact ej () i2.2 trivial (sc rfl (sc rfl sn)) (kc rm0 (kc rm0 (kc rm0 (kc rm0 (kc rm0 kr)))))
    ·rintro _ i11 _
     replace h := hk11
     clear hk11
     refine e_seq (c_seq (c_seq (c_region (o1 rfl (o_p rfl (o1 rfl (o_p rfl ?_)))))))
     refine o1 rfl (o_fa (fd := ⟨ "L", 38, 4, false, "", "", 32⟩) rfl rfl rfl rfl rfl ?_)
     refine o1 rfl (o_ld (b := i4.1) (off := 4) (v := (SV.val i5)) rfl rm1 rfl rfl ?_)
     refine o1 rfl (o_len (s := i5) rfl rfl rfl rm3 (rd_own _ _ _ _) ?_)
     refine o1 rfl (o_p rfl (o_end (e_seq ?_)))
     replace h := bsome h
     obtain ⟨d13, h, hk13⟩ := h
     refine cj (D := Unit) (ι := Unit) (fun _ i13 => True) (fun _ i13 => [(9, (.pointer (some ⟨i4.1, 0, none⟩))), (7, (.pointer (some ⟨i2.1, 0, none⟩)))]) (fun _ i13 => X :: blk i4.1 (.cells (List.toArray [(.int .i64 d5.1), (.bool d5.2.1), (.int .i64 d5.2.2.1), (.int .i64 d5.2.2.2.1), (SV.val i5), (.int .i64 d5.2.2.2.2.2.1)]) 40 (0, 0)) :: blk i2.1 (.cells (List.toArray [(.int .i64 d13.1), (.bool d13.2.1), (.int .i64 d13.2.2.1), (.int .i64 d13.2.2.2.1), (SV.val i11), (.int .i64 d13.2.2.2.2.2.1), (.int .i64 d13.2.2.2.2.2.2)]) 116 (0, 0)) :: slO i5 80 en_Vapi_Cell d5.2.2.2.2.1 :: slO i11 80 en_Vapi_Cell d13.2.2.2.2.1 :: R) ?_ ?_
     ·refine c_block ?_
      refine c_loop (l_sub (sc rfl (sc rfl (sc rfl (sc rfl (sc rfl sn))))) (l_keep (kc rm0 (kc rm2 (kc rm0 (kc rm0 (kc rm0 kr))))) (lf (X := Int × Int × Bool × Int × Int × (List Vapi_Cell) × Int × Int) (ι := Unit) (fun k x => vitrinelaw17_lay_l14 d5 k x) _ (fun x14 i14 => True) (fun x14 i14 => [(49, (.int .i64 x14.1)), (48, (.int .i64 (d5.2.2.2.2.1.length : Int))), (47, (SV.val i5)), (9, (.pointer (some ⟨i4.1, 0, none⟩))), (7, (.pointer (some ⟨i2.1, 0, none⟩)))]) (fun x14 i14 => X :: slO i5 80 en_Vapi_Cell d5.2.2.2.2.1 :: blk i4.1 (.cells (List.toArray [(.int .i64 d5.1), (.bool d5.2.1), (.int .i64 d5.2.2.1), (.int .i64 d5.2.2.2.1), (SV.val i5), (.int .i64 d5.2.2.2.2.2.1)]) 40 (0, 0)) :: blk i2.1 (.cells (List.toArray [(.int .i64 x14.2.1), (.bool x14.2.2.1), (.int .i64 x14.2.2.2.1), (.int .i64 x14.2.2.2.2.1), (SV.val i11), (.int .i64 x14.2.2.2.2.2.2.1), (.int .i64 x14.2.2.2.2.2.2.2)]) 116 (0, 0)) :: slO i11 80 en_Vapi_Cell x14.2.2.2.2.2.1 :: R) (fun _ => rfl) ?_ fuel (0, d11.1, d11.2.1, d11.2.2.1, d11.2.2.2.1, d11.2.2.2.2.1, d11.2.2.2.2.2.1, d11.2.2.2.2.2.2) () trivial h)))
      clear h
      rintro k14 ih14 x14 i14 _ h
      rw [vitrinelaw17_lay_l14.eq_2] at h
      refine l_round (c_seq (c_region ?_))
      refine o1 rfl (o_p (v := (.bool (decide (x14.1 < (d5.2.2.2.2.1.length : Int))))) rfl ?_)
      refine o_end (e_seq (c_seq ?_))
      refine c_cond (b := (decide (x14.1 < (d5.2.2.2.2.1.length : Int)))) rfl (fun hb934 => ?_) (fun hb934 => ?_)
      ·replace h := cond_t hb934 h
       refine c_skip (e_seq (c_seq (c_block (c_seq (c_region ?_)))))
       refine o1 rfl (o_p rfl ?_)
       replace h := gsome h
       obtain ⟨hg935, h⟩ := h
       refine o1 rfl (o_ix (s := i5) (n := x14.1) (e := en_Vapi_Cell) rfl rfl rfl rfl rfl rfl rm1 (rd_own _ _ _ _) hg935 ?_)
       refine o1 rfl (o_ldE (s := i5) (e := en_Vapi_Cell) (n := x14.1) (f := 0) (v := (.agg (List.toArray [(.int .u8 ((rd d5.2.2.2.2.1 x14.1).Char)), (.bool ((rd d5.2.2.2.2.1 x14.1).Attr)), (.int .u8 ((rd d5.2.2.2.2.1 x14.1).FA)), (.int .u8 ((rd d5.2.2.2.2.1 x14.1).High)), (.int .u8 ((rd d5.2.2.2.2.1 x14.1).Color)), (.int .u8 ((rd d5.2.2.2.2.1 x14.1).f_Set))]))) rfl rm1 (rd_own _ _ _ _) hg935 rfl rfl ?_)
       refine o1 rfl (o_alloc (cs := [(.int .u8 0), (.bool false), (.int .u8 0), (.int .u8 0), (.int .u8 0), (.int .u8 0)]) rfl rfl (fun b936 => ?_))
       refine o1 rfl (o_p rfl ?_)
       refine o0 (o_st (b := b936) (off := 0) (vs := [(.int .u8 ((rd d5.2.2.2.2.1 x14.1).Char)), (.bool ((rd d5.2.2.2.2.1 x14.1).Attr)), (.int .u8 ((rd d5.2.2.2.2.1 x14.1).FA)), (.int .u8 ((rd d5.2.2.2.2.1 x14.1).High)), (.int .u8 ((rd d5.2.2.2.2.1 x14.1).Color)), (.int .u8 ((rd d5.2.2.2.2.1 x14.1).f_Set))]) (cs' := [(.int .u8 ((rd d5.2.2.2.2.1 x14.1).Char)), (.bool ((rd d5.2.2.2.2.1 x14.1).Attr)), (.int .u8 ((rd d5.2.2.2.2.1 x14.1).FA)), (.int .u8 ((rd d5.2.2.2.2.1 x14.1).High)), (.int .u8 ((rd d5.2.2.2.2.1 x14.1).Color)), (.int .u8 ((rd d5.2.2.2.2.1 x14.1).f_Set))]) rfl rfl rp0 rfl rfl rfl rfl rfl rfl ?_)
       refine o_end (e_seq (c_seq (c_region ?_)))
       refine o1 rfl (o_ld (b := b936) (off := 0) (v := (.agg (List.toArray [(.int .u8 ((rd d5.2.2.2.2.1 x14.1).Char)), (.bool ((rd d5.2.2.2.2.1 x14.1).Attr)), (.int .u8 ((rd d5.2.2.2.2.1 x14.1).FA)), (.int .u8 ((rd d5.2.2.2.2.1 x14.1).High)), (.int .u8 ((rd d5.2.2.2.2.1 x14.1).Color)), (.int .u8 ((rd d5.2.2.2.2.1 x14.1).f_Set))]))) rfl rm0 rfl rfl ?_)
       refine o1 rfl (o_build (fs := [⟨ "Char", 5, 0, false, "", "", 0⟩, ⟨ "Attr", 4, 1, false, "", "", 1⟩, ⟨ "FA", 5, 2, false, "", "", 2⟩, ⟨ "High", 5, 3, false, "", "", 3⟩, ⟨ "Color", 5, 4, false, "", "", 4⟩, ⟨ "Set", 5, 5, false, "", "", 5⟩]) (ps := [(0, 1), (1, 1), (2, 1), (3, 1), (4, 1), (5, 1)]) (cs := [(.int .u8 0), (.bool false), (.int .u8 0), (.int .u8 0), (.int .u8 0), (.int .u8 0)]) rfl rfl rfl rfl rfl ?_)
       refine o1 rfl (o_neT (b := ((((rd d5.2.2.2.2.1 x14.1).Char) == 0) && ((((rd d5.2.2.2.2.1 x14.1).Attr) == false) && ((((rd d5.2.2.2.2.1 x14.1).FA) == 0) && ((((rd d5.2.2.2.2.1 x14.1).High) == 0) && ((((rd d5.2.2.2.2.1 x14.1).Color) == 0) && ((((rd d5.2.2.2.2.1 x14.1).f_Set) == 0) && true))))))) (xs := [(.int .u8 ((rd d5.2.2.2.2.1 x14.1).Char)), (.bool ((rd d5.2.2.2.2.1 x14.1).Attr)), (.int .u8 ((rd d5.2.2.2.2.1 x14.1).FA)), (.int .u8 ((rd d5.2.2.2.2.1 x14.1).High)), (.int .u8 ((rd d5.2.2.2.2.1 x14.1).Color)), (.int .u8 ((rd d5.2.2.2.2.1 x14.1).f_Set))]) (ys := [(.int .u8 0), (.bool false), (.int .u8 0), (.int .u8 0), (.int .u8 0), (.int .u8 0)]) rfl rfl (by kernel_rfl) stood rfl ?_)
       refine o_end (e_seq ?_)
       replace h := bsome h
       obtain ⟨d17, h, hk17⟩ := h
       refine cj (D := Unit) (ι := Unit) (fun _ i17 => True) (fun _ i17 => [(49, (.int .i64 x14.1)), (48, (.int .i64 (d5.2.2.2.2.1.length : Int))), (47, (SV.val i5)), (9, (.pointer (some ⟨i4.1, 0, none⟩))), (7, (.pointer (some ⟨i2.1, 0, none⟩)))]) (fun _ i17 => X :: slO i5 80 en_Vapi_Cell d5.2.2.2.2.1 :: blk i4.1 (.cells (List.toArray [(.int .i64 d5.1), (.bool d5.2.1), (.int .i64 d5.2.2.1), (.int .i64 d5.2.2.2.1), (SV.val i5), (.int .i64 d5.2.2.2.2.2.1)]) 40 (0, 0)) :: blk i2.1 (.cells (List.toArray [(.int .i64 d17.1), (.bool d17.2.1), (.int .i64 d17.2.2.1), (.int .i64 d17.2.2.2.1), (SV.val i11), (.int .i64 d17.2.2.2.2.2.1), (.int .i64 d17.2.2.2.2.2.2)]) 116 (0, 0)) :: slO i11 80 en_Vapi_Cell d17.2.2.2.2.1 :: R) ?_ ?_
       ·refine c_cond (b := (!((((rd d5.2.2.2.2.1 x14.1).Char) == 0) && ((((rd d5.2.2.2.2.1 x14.1).Attr) == false) && ((((rd d5.2.2.2.2.1 x14.1).FA) == 0) && ((((rd d5.2.2.2.2.1 x14.1).High) == 0) && ((((rd d5.2.2.2.2.1 x14.1).Color) == 0) && ((((rd d5.2.2.2.2.1 x14.1).f_Set) == 0) && true)))))))) rfl (fun hb938 => ?_) (fun hb938 => ?_)
        ·replace h := cond_t hb938 h
         refine c_region (o1 rfl (o_p rfl (o1 rfl (o_p rfl ?_))))
         refine o1 rfl (o_ld (b := b936) (off := 0) (v := (.agg (List.toArray [(.int .u8 ((rd d5.2.2.2.2.1 x14.1).Char)), (.bool ((rd d5.2.2.2.2.1 x14.1).Attr)), (.int .u8 ((rd d5.2.2.2.2.1 x14.1).FA)), (.int .u8 ((rd d5.2.2.2.2.1 x14.1).High)), (.int .u8 ((rd d5.2.2.2.2.1 x14.1).Color)), (.int .u8 ((rd d5.2.2.2.2.1 x14.1).f_Set))]))) rfl rm0 rfl rfl ?_)
         replace h := bsome h
         obtain ⟨d18, h18, h⟩ := h
         refine o1 rfl (o_call has48 rfl (c_space_Space_Set hg X (⟨x14.2.1, x14.2.2.1, (⟨x14.2.2.2.1, x14.2.2.2.2.1⟩ : Vaddr_Size), x14.2.2.2.2.2.1, x14.2.2.2.2.2.2.1, x14.2.2.2.2.2.2.2⟩ : Vspace_Space) i2.1 i11 x14.1 (rd d5.2.2.2.2.1 x14.1) _ h18) (pc rm1 (pc rm3 (pc rm3 pn))) ?_)
         refine o_end ?_
         obtain rfl := Option.some.inj h
         exact ej () () trivial (sc rfl (sc rfl (sc rfl (sc rfl (sc rfl sn))))) (kc rm0 (kc rm3 (kc rm3 (kc rm0 (kc rm0 (kd kr))))))
        ·replace h := cond_f hb938 h
         refine c_skip ?_
         obtain rfl := Option.some.inj h
         exact ej () () trivial (sc rfl (sc rfl (sc rfl (sc rfl (sc rfl sn))))) (kc rm1 (kc rm1 (kc rm1 (kc rm1 (kc rm1 (kd kr))))))
       ·rintro _ i17 _
        replace h := hk17
        clear hk17
        refine e_blk (e_seq (c_region ?_))
        refine o1 rfl (o_p (v := (.int .i64 (w64 (x14.1 + 1)))) rfl ?_)
        refine o1 rfl (o_p rfl (o_end ?_))
        exact e_loop (l_sub (sc rfl (sc rfl (sc rfl (sc rfl (sc rfl sn))))) (l_keep (kc rm0 (kc rm0 (kc rm0 (kc rm0 (kc rm0 kr))))) (ih14 (w64 (x14.1 + 1), d17.1, d17.2.1, d17.2.2.1, d17.2.2.2.1, d17.2.2.2.2.1, d17.2.2.2.2.2.1, d17.2.2.2.2.2.2) () trivial h)))
      ·replace h := cond_f hb934 h
       refine c_exit (e_then_exit (e_then_exit (e_blk_exit ?_)))
       obtain rfl := Option.some.inj h
       exact ej () () trivial (sc rfl (sc rfl sn)) (kc rm0 (kc rm1 (kc rm1 (kc rm0 (kc rm0 kr)))))
     ·rintro _ i13 _
      replace h := hk13
      clear hk13
      refine e_seq (c_seq (c_region (o1 rfl (o_p rfl (o1 rfl (o_p rfl (o1 rfl (o_p rfl ?_))))))))
      refine o1 rfl (o_fa (fd := ⟨ "Cursor", 3, 5, false, "", "", 56⟩) rfl rfl rfl rfl rfl ?_)
      refine o1 rfl (o_ld (b := i4.1) (off := 5) (v := (.int .i64 d5.2.2.2.2.2.1)) rfl rm1 rfl rfl ?_)
      replace h := bsome h
      obtain ⟨d19, h19, h⟩ := h
      refine o1 rfl (o_call has58 rfl (c_space_Space_Place hg X (⟨d13.1, d13.2.1, (⟨d13.2.2.1, d13.2.2.2.1⟩ : Vaddr_Size), d13.2.2.2.2.1, d13.2.2.2.2.2.1, d13.2.2.2.2.2.2⟩ : Vspace_Space) i2.1 i11 d5.2.2.2.2.2.1 _ h19) (pc rm0 (pc rm1 (pc rm2 pn))) ?_)
      refine o_end (e_seq (c_seq (c_region (o1 rfl (o_p rfl (o1 rfl (o_p rfl ?_)))))))
      refine o1 rfl (o_p rfl (o1 rfl (o_p rfl (o_end (e_seq (c_ret (e_ret ?_)))))))
      refine r_endt rfl rfl (kc rm0 (kc rm0 (kc rm0 (kc rm0 (kc rm0 kr))))) ?_
      obtain rfl := Option.some.inj h
      exact hk (i2.1, i11, i4.1, i5)

theorem c_slices_Clone {g : Gw} (hg : GK g) (X : HP) (p0 : List Vapi_Cell) (s0 : SV) (r : (List Vapi_Cell)) (h : m_slices_Clone p0 = some r) : Tri env g 59 (List.toArray [(SV.val s0)]) [X, slO s0 80 en_Vapi_Cell p0] (fun K R => ∀ (i0 : SV), K (SV.val i0) (X :: slO i0 80 en_Vapi_Cell r :: slO s0 80 en_Vapi_Cell p0 :: R)) := by
 refine tri_of (fn := Tryz.f59) (N := 8) Tryz.func59 rfl rfl rfl ?_
 intro R K hk
 unfold m_slices_Clone at h
 change GC _ none _ [] [(0, (SV.val s0))] (X :: slO s0 80 en_Vapi_Cell p0 :: R) g _ _
 refine c_seq (c_region (o1 rfl (o_p rfl (o_end (e_seq (c_seq ?_))))))
 refine c_seq (c_region (o1 rfl (o_p rfl ?_)))
 refine o1 rfl (o_eqnil rfl rfl rfl ?_)
 refine o_end (e_seq ?_)
 refine c_nilq rm1 (rd_own _ _ _ _) (fun h1 h2 => ?_) (fun h1 => ?_)
 ·subst h1
  subst h2
  refine c_cond_t rfl rfl ?_
  refine c_seq (c_region (o1 rfl (o_p rfl (o_end (e_seq (c_ret ?_))))))
  refine e_then_ret (e_ret ?_)
  obtain ⟨_, h⟩ := gsome h
  obtain rfl := Option.some.inj h
  refine r_add (slO SV.nil 80 en_Vapi_Cell []) (slO_nil _ _ _) ?_
  refine r_endt rfl rfl (kc rm1 (kc rm0 (kc rm0 kr))) ?_
  exact hk SV.nil
 ·refine c_cond_f rfl h1 ?_
  refine c_skip (e_seq (c_seq (c_region ?_)))
  refine o1 rfl (o_bs (e := en_Vapi_Cell) (l := ([] : List Vapi_Cell)) (zs := [(.int .u8 0), (.bool false), (.int .u8 0), (.int .u8 0), (.int .u8 0), (.int .u8 0)]) rfl rfl rfl rfl rfl rfl rfl rfl rfl rfl (fun s954 => ?_))
  refine o1 rfl (o_p rfl ?_)
  replace h := gsome h
  obtain ⟨hg956, h⟩ := h
  refine o1 rfl (o_app (s := s954) (r := s0) (e := en_Vapi_Cell) (l := ([] : List Vapi_Cell)) (l2 := p0) (zs := [(.int .u8 0), (.bool false), (.int .u8 0), (.int .u8 0), (.int .u8 0), (.int .u8 0)]) rfl rfl rfl rfl rfl rfl rfl rfl rfl rfl rfl rm0 rm1 (rd_own _ _ _ _) hg956 (fun s957 => ?_))
  refine o1 rfl (o_p rfl (o_end (e_seq (c_ret (e_ret ?_)))))
  refine r_endt rfl rfl (kc rm1 (kc rm0 (kc rm0 kr))) ?_
  obtain rfl := Option.some.inj h
  exact hk s957

theorem c_space_Space_Copy {g : Gw} (hg : GK g) (X : HP) (p0 : Vspace_Space) (b0 : Nat) (s0 : SV) (r : Vspace_Space) (h : m_space_Space_Copy p0 = some r) : Tri env g 20 (List.toArray [(.pointer (some ⟨b0, 0, none⟩))]) [X, blk b0 (.cells (List.toArray [(.int .i64 p0.model), (.bool p0.alternate), (.int .i64 p0.size.Rows), (.int .i64 p0.size.Cols), (SV.val s0), (.int .i64 p0.cursor), (.int .i64 p0.attrs)]) 116 (0, 0)), slO s0 80 en_Vapi_Cell p0.cells] (fun K R => ∀ (i0 : Nat × SV), K (.pointer (some ⟨i0.1, 0, none⟩)) (X :: blk b0 (.cells (List.toArray [(.int .i64 p0.model), (.bool p0.alternate), (.int .i64 p0.size.Rows), (.int .i64 p0.size.Cols), (SV.val s0), (.int .i64 p0.cursor), (.int .i64 p0.attrs)]) 116 (0, 0)) :: slO s0 80 en_Vapi_Cell p0.cells :: blk i0.1 (.cells (List.toArray [(.int .i64 r.model), (.bool r.alternate), (.int .i64 r.size.Rows), (.int .i64 r.size.Cols), (SV.val i0.2), (.int .i64 r.cursor), (.int .i64 r.attrs)]) 116 (0, 0)) :: slO i0.2 80 en_Vapi_Cell r.cells :: R)) := by
 refine tri_of (fn := Tryz.f20) (N := 15) Tryz.func20 rfl rfl rfl ?_
 intro R K hk
 unfold m_space_Space_Copy at h
 change GC _ none _ [] [(0, (.pointer (some ⟨b0, 0, none⟩)))] (X :: blk b0 (.cells (List.toArray [(.int .i64 p0.model), (.bool p0.alternate), (.int .i64 p0.size.Rows), (.int .i64 p0.size.Cols), (SV.val s0), (.int .i64 p0.cursor), (.int .i64 p0.attrs)]) 116 (0, 0)) :: slO s0 80 en_Vapi_Cell p0.cells :: R) g _ _
 refine c_seq (c_region (o1 rfl (o_p rfl (o_end (e_seq (c_seq ?_))))))
 refine c_seq (c_region (o1 rfl (o_p rfl ?_)))
 refine o1 rfl (o_p (v := (.bool false)) rfl ?_)
 refine o_end (e_seq ?_)
 refine c_cond_f rfl rfl ?_
 refine c_skip (e_seq (c_seq (c_region (o1 rfl (o_p rfl (o1 rfl (o_p rfl ?_)))))))
 refine o1 rfl (o_ld (b := b0) (off := 0) (v := (.agg (List.toArray [(.int .i64 p0.model), (.bool p0.alternate), (.int .i64 p0.size.Rows), (.int .i64 p0.size.Cols), (SV.val s0), (.int .i64 p0.cursor), (.int .i64 p0.attrs)]))) rfl rm1 rfl rfl ?_)
 refine o1 rfl (o_alloc (cs := [(.int .i64 0), (.bool false), (.int .i64 0), (.int .i64 0), (SV.val SV.nil), (.int .i64 0), (.int .i64 0)]) rfl rfl (fun b952 => ?_))
 refine o0 (o_st (b := b952) (off := 0) (vs := [(.int .i64 p0.model), (.bool p0.alternate), (.int .i64 p0.size.Rows), (.int .i64 p0.size.Cols), (SV.val s0), (.int .i64 p0.cursor), (.int .i64 p0.attrs)]) (cs' := [(.int .i64 p0.model), (.bool p0.alternate), (.int .i64 p0.size.Rows), (.int .i64 p0.size.Cols), (SV.val s0), (.int .i64 p0.cursor), (.int .i64 p0.attrs)]) rfl rfl rp0 rfl rfl rfl rfl rfl rfl ?_)
 refine o_end (e_seq (c_seq (c_region (o1 rfl (o_p rfl (o1 rfl (o_p rfl ?_)))))))
 refine o1 rfl (o_fa (fd := ⟨ "cells", 38, 4, false, "", "vitrine/space", 32⟩) rfl rfl rfl rfl rfl ?_)
 refine o1 rfl (o_ld (b := b0) (off := 4) (v := (SV.val s0)) rfl rm2 rfl rfl ?_)
 replace h := bsome h
 obtain ⟨d1, h1, h⟩ := h
 refine o1 rfl (o_call has59 rfl (c_slices_Clone hg X p0.cells s0 _ h1) (pc rm1 (pc rm2 pn)) (fun i1 => ?_))
 refine o1 rfl (o_fa (fd := ⟨ "cells", 38, 4, false, "", "vitrine/space", 32⟩) rfl rfl rfl rfl rfl ?_)
 refine o0 (o_st (b := b952) (off := 4) (vs := [(SV.val i1)]) (cs' := [(.int .i64 p0.model), (.bool p0.alternate), (.int .i64 p0.size.Rows), (.int .i64 p0.size.Cols), (SV.val i1), (.int .i64 p0.cursor), (.int .i64 p0.attrs)]) rfl rfl rp3 rfl rfl rfl rfl rfl rfl ?_)
 refine o_end (e_seq (c_seq (c_region (o1 rfl (o_p rfl (o_end ?_))))))
 refine e_seq (c_ret (e_ret ?_))
 refine r_endt rfl rfl (kc rm0 (kc rm3 (kc rm1 (kc rm1 (kc rm0 kr))))) ?_
 obtain rfl := Option.some.inj h
 exact hk (b952, i1)

theorem c_vitrineref01_Copy {g : Gw} (hg : GK g) (X : HP) (p0 : List Int) (s0 : SV) (q0 : Rd X s0 5 (enI .u8) p0) (r : (List Int)) (h : m_vitrineref01_Copy p0 = some r) : Tri env g 24 (List.toArray [(SV.val s0)]) [X] (fun K R => ∀ (i0 : SV), K (SV.val i0) (X :: slO i0 5 (enI .u8) r :: R)) := by
 refine tri_of (fn := Tryz.f24) (N := 6) Tryz.func24 rfl rfl rfl ?_
 intro R K hk
 unfold m_vitrineref01_Copy at h
 change GC _ none _ [] [(0, (SV.val s0))] (X :: R) g _ _
 refine c_seq (c_region (o1 rfl (o_p rfl (o_end (e_seq (c_seq ?_))))))
 refine c_region ?_
 refine o1 rfl (o_bs (e := (enI .u8)) (l := ([] : List Int)) (zs := [(.int .u8 0)]) rfl rfl rfl rfl rfl rfl rfl rfl rfl rfl (fun s969 => ?_))
 refine o1 rfl (o_p rfl ?_)
 replace h := gsome h
 obtain ⟨hg971, h⟩ := h
 refine o1 rfl (o_app (s := s969) (r := s0) (e := (enI .u8)) (l := ([] : List Int)) (l2 := p0) (zs := [(.int .u8 0)]) rfl rfl rfl rfl rfl rfl rfl rfl rfl rfl rfl rm0 rm0 q0 hg971 (fun s972 => ?_))
 refine o1 rfl (o_p rfl (o_end (e_seq (c_ret (e_ret ?_)))))
 refine r_endt rfl rfl (kc rm1 (kc rm0 kr)) ?_
 obtain rfl := Option.some.inj h
 exact hk s972

theorem c_vitrineref01_Cut {g : Gw} (hg : GK g) (X : HP) (p0 : List Int) (s0 : SV) (q0 : Rd X s0 5 (enI .u8) p0) (p1 : Int) (r : (List Int)) (h : m_vitrineref01_Cut p0 p1 = some r) : Tri env g 21 (List.toArray [(SV.val s0), (.int .i64 p1)]) [X] (fun K R => ∀ (i0 : SV), K (SV.val i0) (X :: slO i0 5 (enI .u8) r :: R)) := by
 refine tri_of (fn := Tryz.f21) (N := 14) Tryz.func21 rfl rfl rfl ?_
 intro R K hk
 unfold m_vitrineref01_Cut at h
 change GC _ none _ [] [(0, (SV.val s0)), (1, (.int .i64 p1))] (X :: R) g _ _
 refine c_seq (c_region (o1 rfl (o_p rfl (o_end (e_seq (c_seq ?_))))))
 refine c_seq (c_region (o1 rfl (o_p rfl ?_)))
 refine o1 rfl (o_len (s := s0) rfl rfl rfl rm0 q0 ?_)
 refine o1 rfl (o_p rfl ?_)
 refine o1 rfl (o_p (v := (.bool (decide ((p0.length : Int) > p1)))) rfl ?_)
 refine o_end (e_seq ?_)
 replace h := bsome h
 obtain ⟨d1, h, hk1⟩ := h
 refine cj (D := Unit) (ι := SV) (fun _ i1 => Rd X i1 5 (enI .u8) d1) (fun _ i1 => [(0, (SV.val i1))]) (fun _ i1 => X :: R) ?_ ?_
 ·refine c_cond (b := (decide ((p0.length : Int) > p1))) rfl (fun hb965 => ?_) (fun hb965 => ?_)
  ·replace h := cond_t hb965 h
   refine c_region (o1 rfl (o_p rfl (o1 rfl (o_p rfl ?_))))
   replace h := gsome h
   obtain ⟨hg966, h⟩ := h
   refine o1 rfl (o_sl (a := 0) (b := p1) (m := none) rfl rfl rfl rfl rfl rm0 q0 rfl rfl rfl (by decide) hg966 mx_none (fun s968 hr967 => ?_))
   refine o1 rfl (o_p rfl (o_end ?_))
   obtain rfl := Option.some.inj h
   exact ej () s968 hr967 (sc rfl sn) (kc rm0 kr)
  ·replace h := cond_f hb965 h
   refine c_skip ?_
   obtain rfl := Option.some.inj h
   exact ej () s0 q0 (sc rfl sn) (kc rm0 kr)
 ·rintro _ i1 f1_0
  replace h := hk1
  clear hk1
  refine e_seq (c_seq (c_region (o1 rfl (o_p rfl ?_))))
  replace h := bsome h
  obtain ⟨d2, h2, h⟩ := h
  refine o1 rfl (o_call has24 rfl (c_vitrineref01_Copy hg X d1 i1 f1_0 _ h2) (pc rm0 pn) (fun i2 => ?_))
  refine o1 rfl (o_p rfl (o_end (e_seq (c_ret (e_ret ?_)))))
  refine r_endt rfl rfl (kc rm0 (kc rm0 kr)) ?_
  obtain rfl := Option.some.inj h
  exact hk i2

theorem c_vitrineref16_Name {g : Gw} (hg : GK g) (X : HP) (p0 : Int) (r : ByteArray) (h : m_vitrineref16_Name p0 = some r) : Tri env g 146 (List.toArray [(.int .i64 p0)]) [X] (fun K R => K (.string r) (X :: R)) := by
 refine tri_of (fn := Tryz.f146) (N := 22) Tryz.func146 rfl rfl rfl ?_
 intro R K hk
 unfold m_vitrineref16_Name at h
 change GC _ none _ [] [(0, (.int .i64 p0))] (X :: R) g _ _
 refine c_seq (c_region (o1 rfl (o_p rfl (o_end (e_seq (c_seq ?_))))))
 refine c_region ?_
 refine o1 rfl (o_bs (e := enS) (l := [(ByteArray.mk (List.toArray [84, 101, 120, 116])), (ByteArray.mk (List.toArray [80, 84])), (ByteArray.mk (List.toArray [71, 69])), (ByteArray.mk (List.toArray [83, 66, 65])), (ByteArray.mk (List.toArray [69, 85, 65])), (ByteArray.mk (List.toArray [73, 67])), (ByteArray.mk (List.toArray [83, 70])), (ByteArray.mk (List.toArray [83, 65])), (ByteArray.mk (List.toArray [83, 70, 69])), (ByteArray.mk (List.toArray [77, 70])), (ByteArray.mk (List.toArray [82, 65]))]) (zs := [(.string ByteArray.empty)]) rfl rfl rfl rfl rfl rfl rfl rfl rfl rfl (fun s993 => ?_))
 refine o1 rfl (o_p rfl (o_end (e_seq (c_seq (c_seq (c_region ?_))))))
 refine o1 rfl (o_bs (e := (enI .i64)) (l := [0, 5, 8, 17, 18, 19, 29, 40, 41, 44, 60]) (zs := [(.int .i64 0)]) rfl rfl rfl rfl rfl rfl rfl rfl rfl rfl (fun s995 => ?_))
 refine o1 rfl (o_len (s := s995) rfl rfl rfl rm0 (rd_own _ _ _ _) ?_)
 refine o1 rfl (o_p rfl (o_end (e_seq ?_)))
 replace h := jn_some h
 obtain ⟨y1, h, hk1⟩ := h
 refine cj (D := Unit) (ι := Unit) (fun d1 i1 => y1 = Sum.inl d1) (fun d1 i1 => []) (fun d1 i1 => X :: R) ?_ ?_
 ·refine c_block ?_
  refine c_loop (l_sub (sc rfl (sc rfl (sc rfl (sc rfl (sc rfl sn))))) (l_keep (kc rm2 (kc rm0 (kc rm0 kr))) (lf (X := Int) (ι := Unit) (fun k x => vitrineref16_Name_l2 p0 k x) _ (fun x2 i2 => True) (fun x2 i2 => [(9, (.int .i64 x2)), (8, (.int .i64 ([0, 5, 8, 17, 18, 19, 29, 40, 41, 44, 60].length : Int))), (7, (SV.val s995)), (3, (SV.val s993)), (0, (.int .i64 p0))]) (fun x2 i2 => X :: slO s995 3 (enI .i64) [0, 5, 8, 17, 18, 19, 29, 40, 41, 44, 60] :: slO s993 9 enS [(ByteArray.mk (List.toArray [84, 101, 120, 116])), (ByteArray.mk (List.toArray [80, 84])), (ByteArray.mk (List.toArray [71, 69])), (ByteArray.mk (List.toArray [83, 66, 65])), (ByteArray.mk (List.toArray [69, 85, 65])), (ByteArray.mk (List.toArray [73, 67])), (ByteArray.mk (List.toArray [83, 70])), (ByteArray.mk (List.toArray [83, 65])), (ByteArray.mk (List.toArray [83, 70, 69])), (ByteArray.mk (List.toArray [77, 70])), (ByteArray.mk (List.toArray [82, 65]))] :: R) (fun _ => rfl) ?_ fuel 0 () trivial h)))
  clear h
  rintro k2 ih2 x2 i2 _ h
  rw [vitrineref16_Name_l2.eq_2] at h
  refine l_round (c_seq (c_region ?_))
  refine o1 rfl (o_p (v := (.bool (decide (x2 < ([0, 5, 8, 17, 18, 19, 29, 40, 41, 44, 60].length : Int))))) rfl ?_)
  refine o_end (e_seq (c_seq ?_))
  refine c_cond (b := (decide (x2 < ([0, 5, 8, 17, 18, 19, 29, 40, 41, 44, 60].length : Int)))) rfl (fun hb1005 => ?_) (fun hb1005 => ?_)
  ·replace h := cond_t hb1005 h
   refine c_skip (e_seq (c_seq (c_block (c_seq (c_region ?_)))))
   refine o1 rfl (o_p rfl ?_)
   replace h := gsome h
   obtain ⟨hg1006, h⟩ := h
   refine o1 rfl (o_ix (s := s995) (n := x2) (e := (enI .i64)) rfl rfl rfl rfl rfl rfl rm1 (rd_own _ _ _ _) hg1006 ?_)
   refine o1 rfl (o_ldE (s := s995) (e := (enI .i64)) (n := x2) (f := 0) (v := (.int .i64 (rd [0, 5, 8, 17, 18, 19, 29, 40, 41, 44, 60] x2))) rfl rm1 (rd_own _ _ _ _) hg1006 rfl rfl ?_)
   refine o1 rfl (o_p rfl (o1 rfl (o_p rfl (o_end (e_seq (c_seq (c_region ?_)))))))
   refine o1 rfl (o_p rfl (o1 rfl (o_p rfl ?_)))
   refine o1 rfl (o_p (v := (.bool ((rd [0, 5, 8, 17, 18, 19, 29, 40, 41, 44, 60] x2) == p0))) rfl ?_)
   refine o_end (e_seq ?_)
   refine c_cond (b := ((rd [0, 5, 8, 17, 18, 19, 29, 40, 41, 44, 60] x2) == p0)) rfl (fun hb1007 => ?_) (fun hb1007 => ?_)
   ·replace h := cond_t hb1007 h
    refine c_seq (c_region (o1 rfl (o_p rfl (o1 rfl (o_p rfl ?_)))))
    replace h := gsome h
    obtain ⟨hg1008, h⟩ := h
    refine o1 rfl (o_ix (s := s993) (n := x2) (e := enS) rfl rfl rfl rfl rfl rfl rm2 (rd_own _ _ _ _) hg1008 ?_)
    refine o1 rfl (o_ldE (s := s993) (e := enS) (n := x2) (f := 0) (v := (.string (rd [(ByteArray.mk (List.toArray [84, 101, 120, 116])), (ByteArray.mk (List.toArray [80, 84])), (ByteArray.mk (List.toArray [71, 69])), (ByteArray.mk (List.toArray [83, 66, 65])), (ByteArray.mk (List.toArray [69, 85, 65])), (ByteArray.mk (List.toArray [73, 67])), (ByteArray.mk (List.toArray [83, 70])), (ByteArray.mk (List.toArray [83, 65])), (ByteArray.mk (List.toArray [83, 70, 69])), (ByteArray.mk (List.toArray [77, 70])), (ByteArray.mk (List.toArray [82, 65]))] x2))) rfl rm2 (rd_own _ _ _ _) hg1008 rfl rfl ?_)
    refine o1 rfl (o_p rfl (o_end (e_seq (c_ret (e_blk_ret (e_then_ret ?_))))))
    refine e_then_ret (e_blk_ret (ej_ret ?_))
    replace h := esc_some h
    obtain ⟨z1, h, rfl⟩ := h
    obtain rfl := (hk1 : z1 = _)
    refine e_then_ret (e_ret ?_)
    refine r_endt rfl rfl (kc rm0 (kd (kd kr))) ?_
    obtain rfl := Option.some.inj h
    exact hk
   ·replace h := cond_f hb1007 h
    refine c_skip (e_blk (e_seq (c_region ?_)))
    refine o1 rfl (o_p (v := (.int .i64 (w64 (x2 + 1)))) rfl ?_)
    refine o1 rfl (o_p rfl (o_end ?_))
    exact e_loop (l_sub (sc rfl (sc rfl (sc rfl (sc rfl (sc rfl sn))))) (l_keep (kc rm0 (kc rm0 (kc rm0 kr))) (ih2 (w64 (x2 + 1)) () trivial h)))
  ·replace h := cond_f hb1005 h
   refine c_exit (e_then_exit (e_then_exit (e_blk_exit ?_)))
   obtain rfl := Option.some.inj h
   exact ej () () rfl sn (kc rm0 (kd (kd kr)))
 ·rintro d1 i1 rfl
  replace h := JK_inl hk1
  clear hk1
  refine e_seq (c_seq (c_region (o1 rfl (o_p rfl (o_end (e_seq ?_))))))
  refine c_ret (e_ret ?_)
  refine r_endt rfl rfl (kc rm0 kr) ?_
  obtain rfl := Option.some.inj h
  exact hk

theorem c_vitrineref16_Is {g : Gw} (hg : GK g) (X : HP) (p0 : Int) (r : Bool) (h : m_vitrineref16_Is p0 = some r) : Tri env g 106 (List.toArray [(.int .u8 p0)]) [X] (fun K R => K (.bool r) (X :: R)) := by
 refine tri_of (fn := Tryz.f106) (N := 11) Tryz.func106 rfl rfl rfl ?_
 intro R K hk
 unfold m_vitrineref16_Is at h
 change GC _ none _ [] [(0, (.int .u8 p0))] (X :: R) g _ _
 refine c_seq (c_region (o1 rfl (o_p rfl (o_end (e_seq (c_seq ?_))))))
 replace h := bsome h
 obtain ⟨d1, h, hk1⟩ := h
 refine cj (D := Unit) (ι := Unit) (fun _ i1 => True) (fun _ i1 => [(2, (.bool d1))]) (fun _ i1 => X :: R) ?_ ?_
 ·refine c_region (o1 rfl (o_p rfl ?_))
  refine o1 rfl (o_p (v := (.bool (p0 != 0))) rfl ?_)
  refine o1 rfl (o_p rfl ?_)
  rcases bool_or ((p0 != 0)) with hb992 | hb992
  ·replace h := cond_t hb992 h
   refine oy rfl rfl rfl hb992 (o_p rfl ?_)
   refine oy rfl rfl rfl hb992 (o_p (v := (.int .i64 (w64 (p0)))) rfl ?_)
   replace h := bsome h
   obtain ⟨d2, h2, h⟩ := h
   refine oy rfl rfl rfl hb992 (o_call has146 rfl (c_vitrineref16_Name hg X (w64 (p0)) _ h2) (pc rm0 pn) ?_)
   refine oy rfl rfl rfl hb992 (o_p (v := (.bool (!(d2.data.toList == (ByteArray.mk (List.toArray [])).data.toList)))) rfl ?_)
   refine o1 rfl (o_pick_t rfl hb992 rfl ?_)
   refine o1 rfl (o_p rfl (o_end ?_))
   obtain rfl := Option.some.inj h
   exact ej () () trivial (sc rfl sn) (kc rm0 kr)
  ·replace h := cond_f hb992 h
   refine on rfl rfl rfl hb992 ?_
   refine on rfl rfl rfl hb992 ?_
   refine on rfl rfl rfl hb992 ?_
   refine on rfl rfl rfl hb992 ?_
   refine o1 rfl (o_pick_f rfl hb992 rfl ?_)
   refine o1 rfl (o_p rfl (o_end ?_))
   obtain rfl := Option.some.inj h
   exact ej () () trivial (sc rfl sn) (kc rm0 kr)
 ·rintro _ i1 _
  replace h := hk1
  clear hk1
  refine e_seq (c_ret (e_ret ?_))
  refine r_endt rfl rfl (kc rm0 kr) ?_
  obtain rfl := Option.some.inj h
  exact hk

theorem c_vitrineref05_Right {g : Gw} (hg : GK g) (X : HP) (p0 : Vvitrineref05_Pair) (r : Bool) (h : m_vitrineref05_Right p0 = some r) : Tri env g 109 (List.toArray [(.agg (List.toArray [(.int .u8 p0.f_Type), (.int .u8 p0.Value)]))]) [X] (fun K R => K (.bool r) (X :: R)) := by
 refine tri_of (fn := Tryz.f109) (N := 33) Tryz.func109 rfl rfl rfl ?_
 intro R K hk
 unfold m_vitrineref05_Right at h
 change GC _ none _ [] [(0, (.agg (List.toArray [(.int .u8 p0.f_Type), (.int .u8 p0.Value)])))] (X :: R) g _ _
 refine c_seq (c_region ?_)
 refine o1 rfl (o_box (cs := [(.int .u8 p0.f_Type), (.int .u8 p0.Value)]) rfl rfl (fun b1043 => ?_))
 refine o1 rfl (o_p rfl (o_end (e_seq (c_seq (c_region (o1 rfl (o_p rfl ?_)))))))
 refine o_end (e_seq (c_seq (c_seq (c_region ?_))))
 refine o1 rfl (o_fa (fd := ⟨ "Type", 5, 0, false, "", "", 0⟩) rfl rfl rfl rfl rfl ?_)
 refine o1 rfl (o_ld (b := b1043) (off := 0) (v := (.int .u8 p0.f_Type)) rfl rm0 rfl rfl ?_)
 refine o_end (e_seq (c_block (c_seq (c_region ?_))))
 refine o1 rfl (o_p (v := (.bool (p0.f_Type == 0))) rfl ?_)
 refine o1 rfl (o_p rfl (o_end (e_seq ?_)))
 replace h := jn_some h
 obtain ⟨y2, h, hk2⟩ := h
 refine cj (D := (List Int)) (ι := SV) (fun d2 i2 => y2 = Sum.inl d2) (fun d2 i2 => [(3, (SV.val i2)), (1, (.pointer (some ⟨b1043, 0, none⟩)))]) (fun d2 i2 => X :: slO i2 5 (enI .u8) d2 :: blk b1043 (.cells (List.toArray [(.int .u8 p0.f_Type), (.int .u8 p0.Value)]) 208 (0, 0)) :: R) ?_ ?_
 ·refine c_cond (b := (p0.f_Type == 0)) rfl (fun hb1045 => ?_) (fun hb1045 => ?_)
  ·replace h := cond_t hb1045 h
   refine c_region ?_
   refine o1 rfl (o_bs (e := (enI .u8)) (l := [0]) (zs := [(.int .u8 0)]) rfl rfl rfl rfl rfl rfl rfl rfl rfl rfl (fun s1046 => ?_))
   refine o1 rfl (o_p rfl (o_end ?_))
   obtain rfl := Option.some.inj h
   exact ej [0] s1046 rfl (sc rfl (sc rfl sn)) (kc rm2 (kc rm0 (kc rm0 kr)))
  ·replace h := cond_f hb1045 h
   refine c_seq (c_region ?_)
   refine o1 rfl (o_p (v := (.bool (p0.f_Type == 192))) rfl ?_)
   refine o1 rfl (o_p rfl (o_end (e_seq ?_)))
   refine c_cond (b := (p0.f_Type == 192)) rfl (fun hb1048 => ?_) (fun hb1048 => ?_)
   ·replace h := cond_t hb1048 h
    refine c_seq (c_region (o1 rfl (o_p rfl (o_end (e_seq (c_ret ?_))))))
    refine ej_ret ?_
    replace h := esc_some h
    obtain ⟨z2, h, rfl⟩ := h
    obtain rfl := (hk2 : z2 = _)
    refine e_blk_ret (e_then_ret (e_ret ?_))
    refine r_endt rfl rfl (kc rm1 (kd kr)) ?_
    obtain rfl := Option.some.inj h
    exact hk
   ·replace h := cond_f hb1048 h
    refine c_seq (c_region ?_)
    refine o1 rfl (o_p (v := (.bool (p0.f_Type == 65))) rfl ?_)
    refine o1 rfl (o_p rfl (o_end (e_seq ?_)))
    refine c_cond (b := (p0.f_Type == 65)) rfl (fun hb1049 => ?_) (fun hb1049 => ?_)
    ·replace h := cond_t hb1049 h
     refine c_region ?_
     refine o1 rfl (o_bs (e := (enI .u8)) (l := [0, 240, 241, 242, 244, 248]) (zs := [(.int .u8 0)]) rfl rfl rfl rfl rfl rfl rfl rfl rfl rfl (fun s1050 => ?_))
     refine o1 rfl (o_p rfl (o_end ?_))
     obtain rfl := Option.some.inj h
     exact ej [0, 240, 241, 242, 244, 248] s1050 rfl (sc rfl (sc rfl sn)) (kc rm2 (kc rm0 (kc rm0 kr)))
    ·replace h := cond_f hb1049 h
     refine c_seq (c_region ?_)
     refine o1 rfl (o_p (v := (.bool (p0.f_Type == 66))) rfl ?_)
     refine o1 rfl (o_p rfl (o_end (e_seq ?_)))
     refine c_cond (b := (p0.f_Type == 66)) rfl (fun hb1052 => ?_) (fun hb1052 => ?_)
     ·replace h := cond_t hb1052 h
      refine c_region ?_
      refine o1 rfl (o_bs (e := (enI .u8)) (l := [0, 241, 242, 243, 244, 245, 246, 247]) (zs := [(.int .u8 0)]) rfl rfl rfl rfl rfl rfl rfl rfl rfl rfl (fun s1053 => ?_))
      refine o1 rfl (o_p rfl (o_end ?_))
      obtain rfl := Option.some.inj h
      exact ej [0, 241, 242, 243, 244, 245, 246, 247] s1053 rfl (sc rfl (sc rfl sn)) (kc rm2 (kc rm0 (kc rm0 kr)))
     ·replace h := cond_f hb1052 h
      refine c_seq (c_region ?_)
      refine o1 rfl (o_p (v := (.bool (p0.f_Type == 67))) rfl ?_)
      refine o1 rfl (o_p rfl (o_end (e_seq ?_)))
      refine c_cond (b := (p0.f_Type == 67)) rfl (fun hb1055 => ?_) (fun hb1055 => ?_)
      ·replace h := cond_t hb1055 h
       refine c_region ?_
       refine o1 rfl (o_bs (e := (enI .u8)) (l := [0, 241]) (zs := [(.int .u8 0)]) rfl rfl rfl rfl rfl rfl rfl rfl rfl rfl (fun s1056 => ?_))
       refine o1 rfl (o_p rfl (o_end ?_))
       obtain rfl := Option.some.inj h
       exact ej [0, 241] s1056 rfl (sc rfl (sc rfl sn)) (kc rm2 (kc rm0 (kc rm0 kr)))
      ·replace h := cond_f hb1055 h
       refine c_skip ?_
       refine e_add (slO SV.nil 5 (enI .u8) []) (slO_nil _ _ _) ?_
       obtain rfl := Option.some.inj h
       exact ej ([] : List Int) SV.nil rfl (sc rfl (sc rfl sn)) (kc rm2 (kc rm0 (kc rm0 kr)))
 ·rintro d2 i2 rfl
  replace h := JK_inl hk2
  clear hk2
  refine e_blk (e_seq (c_seq (c_seq (c_region (o1 rfl (o_p rfl ?_))))))
  refine o1 rfl (o_len (s := i2) rfl rfl rfl rm1 (rd_own _ _ _ _) ?_)
  refine o1 rfl (o_p rfl (o_end (e_seq ?_)))
  replace h := jn_some h
  obtain ⟨y3, h, hk3⟩ := h
  refine cj (D := Unit) (ι := Unit) (fun d3 i3 => y3 = Sum.inl d3) (fun d3 i3 => []) (fun d3 i3 => X :: R) ?_ ?_
  ·refine c_block ?_
   refine c_loop (l_sub (sc rfl (sc rfl (sc rfl (sc rfl sn)))) (l_keep (kc rm0 (kc rm0 (kc rm0 kr))) (lf (X := Int) (ι := Unit) (fun k x => vitrineref05_Right_l4 p0 d2 k x) _ (fun x4 i4 => True) (fun x4 i4 => [(24, (.int .i64 x4)), (23, (.int .i64 (d2.length : Int))), (22, (SV.val i2)), (1, (.pointer (some ⟨b1043, 0, none⟩)))]) (fun x4 i4 => X :: slO i2 5 (enI .u8) d2 :: blk b1043 (.cells (List.toArray [(.int .u8 p0.f_Type), (.int .u8 p0.Value)]) 208 (0, 0)) :: R) (fun _ => rfl) ?_ fuel 0 () trivial h)))
   clear h
   rintro k4 ih4 x4 i4 _ h
   rw [vitrineref05_Right_l4.eq_2] at h
   refine l_round (c_seq (c_region ?_))
   refine o1 rfl (o_p (v := (.bool (decide (x4 < (d2.length : Int))))) rfl ?_)
   refine o_end (e_seq (c_seq ?_))
   refine c_cond (b := (decide (x4 < (d2.length : Int)))) rfl (fun hb1066 => ?_) (fun hb1066 => ?_)
   ·replace h := cond_t hb1066 h
    refine c_skip (e_seq (c_seq (c_block (c_seq (c_region ?_)))))
    replace h := gsome h
    obtain ⟨hg1067, h⟩ := h
    refine o1 rfl (o_ix (s := i2) (n := x4) (e := (enI .u8)) rfl rfl rfl rfl rfl rfl rm1 (rd_own _ _ _ _) hg1067 ?_)
    refine o1 rfl (o_ldE (s := i2) (e := (enI .u8)) (n := x4) (f := 0) (v := (.int .u8 (rd d2 x4))) rfl rm1 (rd_own _ _ _ _) hg1067 rfl rfl ?_)
    refine o1 rfl (o_p rfl (o_end (e_seq (c_seq (c_region (o1 rfl (o_p rfl ?_)))))))
    refine o1 rfl (o_fa (fd := ⟨ "Value", 5, 1, false, "", "", 1⟩) rfl rfl rfl rfl rfl ?_)
    refine o1 rfl (o_ld (b := b1043) (off := 1) (v := (.int .u8 p0.Value)) rfl rm2 rfl rfl ?_)
    refine o1 rfl (o_p (v := (.bool ((rd d2 x4) == p0.Value))) rfl ?_)
    refine o_end (e_seq ?_)
    refine c_cond (b := ((rd d2 x4) == p0.Value)) rfl (fun hb1068 => ?_) (fun hb1068 => ?_)
    ·replace h := cond_t hb1068 h
     refine c_seq (c_region (o1 rfl (o_p rfl (o_end (e_seq (c_ret ?_))))))
     refine e_blk_ret (e_then_ret (e_then_ret (e_blk_ret (ej_ret ?_))))
     replace h := esc_some h
     obtain ⟨z3, h, rfl⟩ := h
     obtain rfl := (hk3 : z3 = _)
     refine e_then_ret (e_ret ?_)
     refine r_endt rfl rfl (kc rm0 (kd (kd kr))) ?_
     obtain rfl := Option.some.inj h
     exact hk
    ·replace h := cond_f hb1068 h
     refine c_skip (e_blk (e_seq (c_region ?_)))
     refine o1 rfl (o_p (v := (.int .i64 (w64 (x4 + 1)))) rfl ?_)
     refine o1 rfl (o_p rfl (o_end ?_))
     exact e_loop (l_sub (sc rfl (sc rfl (sc rfl (sc rfl sn)))) (l_keep (kc rm0 (kc rm0 (kc rm0 kr))) (ih4 (w64 (x4 + 1)) () trivial h)))
   ·replace h := cond_f hb1066 h
    refine c_exit (e_then_exit (e_then_exit (e_blk_exit ?_)))
    obtain rfl := Option.some.inj h
    exact ej () () rfl sn (kc rm0 (kd (kd kr)))
  ·rintro d3 i3 rfl
   replace h := JK_inl hk3
   clear hk3
   refine e_seq (c_seq (c_region (o1 rfl (o_p rfl (o_end (e_seq ?_))))))
   refine c_ret (e_ret ?_)
   refine r_endt rfl rfl (kc rm0 kr) ?_
   obtain rfl := Option.some.inj h
   exact hk

theorem c_vitrineref05_Parse {g : Gw} (hg : GK g) (X : HP) (p0 : List Int) (s0 : SV) (q0 : Rd X s0 5 (enI .u8) p0) (r : (List Vvitrineref05_Pair) × Int × Int) (h : m_vitrineref05_Parse p0 = some r) : Tri env g 107 (List.toArray [(SV.val s0)]) [X] (fun K R => ∀ (i0 : SV), K (.tuple (List.toArray [(SV.val i0), (.int .i64 r.2.1), (.int .i64 r.2.2)])) (X :: slO i0 208 en_Vvitrineref05_Pair r.1 :: R)) := by
 refine tri_of (fn := Tryz.f107) (N := 55) Tryz.func107 rfl rfl rfl ?_
 intro R K hk
 unfold m_vitrineref05_Parse at h
 change GC _ none _ [] [(0, (SV.val s0))] (X :: R) g _ _
 refine c_seq (c_region (o1 rfl (o_p rfl (o1 rfl (o_p rfl (o1 rfl (o_p rfl (o_end ?_))))))))
 refine e_seq (c_seq (c_seq ?_))
 replace h := bsome h
 obtain ⟨d1, h, hk1⟩ := h
 refine cj (D := Unit) (ι := Unit) (fun _ i1 => True) (fun _ i1 => [(21, (.bool d1)), (0, (SV.val s0))]) (fun _ i1 => X :: R) ?_ ?_
 ·refine c_region (o1 rfl (o_p rfl ?_))
  refine o1 rfl (o_len (s := s0) rfl rfl rfl rm0 q0 ?_)
  refine o1 rfl (o_p (v := (.bool ((p0.length : Int) == 0))) rfl ?_)
  refine o1 rfl (o_p rfl ?_)
  rcases bool_or (((p0.length : Int) == 0)) with hb1034 | hb1034
  ·replace h := cond_t hb1034 h
   refine on rfl rfl rfl hb1034 ?_
   refine on rfl rfl rfl hb1034 ?_
   refine on rfl rfl rfl hb1034 ?_
   refine on rfl rfl rfl hb1034 ?_
   refine on rfl rfl rfl hb1034 ?_
   refine on rfl rfl rfl hb1034 ?_
   refine on rfl rfl rfl hb1034 ?_
   refine on rfl rfl rfl hb1034 ?_
   refine on rfl rfl rfl hb1034 ?_
   refine o1 rfl (o_pick_t rfl hb1034 rfl ?_)
   refine o_end ?_
   obtain rfl := Option.some.inj h
   exact ej () () trivial (sc rfl (sc rfl sn)) (kc rm0 kr)
  ·replace h := cond_f hb1034 h
   refine oy rfl rfl rfl hb1034 (o_p rfl ?_)
   refine oy rfl rfl rfl hb1034 (o_len (s := s0) rfl rfl rfl rm0 q0 ?_)
   refine oy rfl rfl rfl hb1034 (o_p (v := (.int .i64 (w64 ((p0.length : Int) - 1)))) rfl ?_)
   refine oy rfl rfl rfl hb1034 (o_p rfl ?_)
   replace h := gsome h
   obtain ⟨hg1035, h⟩ := h
   refine oy rfl rfl rfl hb1034 (o_ix (s := s0) (n := 0) (e := (enI .u8)) rfl rfl rfl rfl rfl rfl rm0 q0 hg1035 ?_)
   refine oy rfl rfl rfl hb1034 (o_ldE (s := s0) (e := (enI .u8)) (n := 0) (f := 0) (v := (.int .u8 (rd p0 0))) rfl rm0 q0 hg1035 rfl rfl ?_)
   refine oy rfl rfl rfl hb1034 (o_p (v := (.int .i64 (w64 ((rd p0 0))))) rfl ?_)
   refine oy rfl rfl rfl hb1034 (o_p (v := (.int .i64 (w64 (2 * (w64 ((rd p0 0))))))) rfl ?_)
   refine oy rfl rfl rfl hb1034 (o_p (v := (.bool (decide ((w64 ((p0.length : Int) - 1)) < (w64 (2 * (w64 ((rd p0 0))))))))) rfl ?_)
   refine o1 rfl (o_pick_f rfl hb1034 rfl ?_)
   refine o_end ?_
   obtain rfl := Option.some.inj h
   exact ej () () trivial (sc rfl (sc rfl sn)) (kc rm0 kr)
 ·rintro _ i1 _
  replace h := hk1
  clear hk1
  refine e_seq ?_
  refine c_cond (b := d1) rfl (fun hb1036 => ?_) (fun hb1036 => ?_)
  ·replace h := cond_t hb1036 h
   refine c_seq (c_region (o1 rfl (o_p rfl (o1 rfl (o_p rfl (o1 rfl (o_p rfl (o_end ?_))))))))
   refine e_seq (c_ret (e_then_ret (e_ret ?_)))
   refine r_add (slO SV.nil 208 en_Vvitrineref05_Pair []) (slO_nil _ _ _) ?_
   refine r_endt rfl rfl (kc rm1 (kc rm0 kr)) ?_
   obtain rfl := Option.some.inj h
   exact hk SV.nil
  ·replace h := cond_f hb1036 h
   refine c_skip (e_seq (c_seq (c_region (o1 rfl (o_p rfl (o_end ?_))))))
   refine e_seq (c_seq (c_seq (c_region (o1 rfl (o_p rfl (o_end ?_))))))
   refine e_seq ?_
   replace h := jn_some h
   obtain ⟨y3, h, hk3⟩ := h
   refine cj (D := (List Vvitrineref05_Pair)) (ι := SV) (fun d3 i3 => y3 = Sum.inl d3) (fun d3 i3 => [(5, (SV.val i3))]) (fun d3 i3 => X :: slO i3 208 en_Vvitrineref05_Pair d3 :: R) ?_ ?_
   ·refine c_block ?_
    refine c_add (slO SV.nil 208 en_Vvitrineref05_Pair []) (slO_nil _ _ _) ?_
    refine c_loop (l_sub (sc rfl (sc rfl (sc rfl sn))) (l_keep (kc rm1 (kc rm0 kr)) (lf (X := Int × (List Vvitrineref05_Pair)) (ι := SV) (fun k x => vitrineref05_Parse_l4 p0 k x) _ (fun x4 i4 => True) (fun x4 i4 => [(6, (.int .i64 x4.1)), (5, (SV.val i4)), (0, (SV.val s0))]) (fun x4 i4 => X :: slO i4 208 en_Vvitrineref05_Pair x4.2 :: R) (fun _ => rfl) ?_ fuel (0, ([] : List Vvitrineref05_Pair)) SV.nil trivial h)))
    clear h
    rintro k4 ih4 x4 i4 _ h
    rw [vitrineref05_Parse_l4.eq_2] at h
    refine l_round (c_seq (c_seq (c_region (o1 rfl (o_p rfl (o1 rfl (o_p rfl ?_)))))))
    replace h := gsome h
    obtain ⟨hg1090, h⟩ := h
    refine o1 rfl (o_ix (s := s0) (n := 0) (e := (enI .u8)) rfl rfl rfl rfl rfl rfl rm0 q0 hg1090 ?_)
    refine o1 rfl (o_ldE (s := s0) (e := (enI .u8)) (n := 0) (f := 0) (v := (.int .u8 (rd p0 0))) rfl rm0 q0 hg1090 rfl rfl ?_)
    refine o1 rfl (o_p (v := (.int .i64 (w64 ((rd p0 0))))) rfl ?_)
    refine o1 rfl (o_p (v := (.bool (decide (x4.1 < (w64 ((rd p0 0))))))) rfl ?_)
    refine o_end (e_seq ?_)
    refine c_cond (b := (decide (x4.1 < (w64 ((rd p0 0)))))) rfl (fun hb1091 => ?_) (fun hb1091 => ?_)
    ·replace h := cond_t hb1091 h
     refine c_skip (e_seq (c_seq (c_block (c_seq ?_))))
     replace h := gsome h
     obtain ⟨hg1092, h⟩ := h
     replace h := gsome h
     obtain ⟨hg1093, h⟩ := h
     refine c_draw (n := 2) (q := [(0, 30, (SV.val s0)), (1, 31, (.int .i64 x4.1)), (2, 32, (.int .i64 (w64 (2 * x4.1)))), (3, 33, (.int .i64 (w64 (1 + (w64 (2 * x4.1)))))), (4, 34, (.pointer (some ⟨SV.blk s0, SV.off s0 + Int.toNat (w64 (1 + (w64 (2 * x4.1)))) * 1, none⟩))), (5, 35, (.int .u8 (rd p0 (w64 (1 + (w64 (2 * x4.1))))))), (6, 36, (SV.val s0)), (7, 37, (.int .i64 x4.1)), (8, 38, (.int .i64 (w64 (2 * x4.1)))), (9, 39, (.int .i64 (w64 (2 + (w64 (2 * x4.1)))))), (10, 40, (.pointer (some ⟨SV.blk s0, SV.off s0 + Int.toNat (w64 (2 + (w64 (2 * x4.1)))) * 1, none⟩))), (11, 41, (.int .u8 (rd p0 (w64 (2 + (w64 (2 * x4.1))))))), (12, 42, (.agg (List.toArray [(.int .u8 (rd p0 (w64 (1 + (w64 (2 * x4.1)))))), (.int .u8 (rd p0 (w64 (2 + (w64 (2 * x4.1))))))])))]) (pend := [0, 1, 2, 3, 4, 5, 6, 7, 8, 9, 10, 11, 12]) rfl rfl rfl ?_
     refine ⟨⟨fun _ => ⟨rfl, rfl, rfl, .inl ⟨rfl, (o_p rfl ⟨rfl, rfl⟩)⟩⟩, fun _ => ⟨rfl, rfl, rfl, .inl ⟨rfl, (o_p rfl ⟨rfl, rfl⟩)⟩⟩, fun _ => ⟨rfl, rfl, rfl, .inl ⟨rfl, (o_p (v := (.int .i64 (w64 (2 * x4.1)))) rfl ⟨rfl, rfl⟩)⟩⟩, fun _ => ⟨rfl, rfl, rfl, .inl ⟨rfl, (o_p (v := (.int .i64 (w64 (1 + (w64 (2 * x4.1)))))) rfl ⟨rfl, rfl⟩)⟩⟩, fun _ => ⟨rfl, rfl, rfl, .inl ⟨rfl, (o_ix (s := s0) (n := w64 (1 + (w64 (2 * x4.1)))) (e := (enI .u8)) rfl rfl rfl rfl rfl rfl rm0 q0 hg1092 ⟨rfl, rfl⟩)⟩⟩, fun _ => ⟨rfl, rfl, rfl, .inl ⟨rfl, (o_ldE (s := s0) (e := (enI .u8)) (n := w64 (1 + (w64 (2 * x4.1)))) (f := 0) (v := (.int .u8 (rd p0 (w64 (1 + (w64 (2 * x4.1))))))) rfl rm0 q0 hg1092 rfl rfl ⟨rfl, rfl⟩)⟩⟩, fun _ => ⟨rfl, rfl, rfl, .inl ⟨rfl, (o_p rfl ⟨rfl, rfl⟩)⟩⟩, fun _ => ⟨rfl, rfl, rfl, .inl ⟨rfl, (o_p rfl ⟨rfl, rfl⟩)⟩⟩, fun _ => ⟨rfl, rfl, rfl, .inl ⟨rfl, (o_p (v := (.int .i64 (w64 (2 * x4.1)))) rfl ⟨rfl, rfl⟩)⟩⟩, fun _ => ⟨rfl, rfl, rfl, .inl ⟨rfl, (o_p (v := (.int .i64 (w64 (2 + (w64 (2 * x4.1)))))) rfl ⟨rfl, rfl⟩)⟩⟩, fun _ => ⟨rfl, rfl, rfl, .inl ⟨rfl, (o_ix (s := s0) (n := w64 (2 + (w64 (2 * x4.1)))) (e := (enI .u8)) rfl rfl rfl rfl rfl rfl rm0 q0 hg1093 ⟨rfl, rfl⟩)⟩⟩, fun _ => ⟨rfl, rfl, rfl, .inl ⟨rfl, (o_ldE (s := s0) (e := (enI .u8)) (n := w64 (2 + (w64 (2 * x4.1)))) (f := 0) (v := (.int .u8 (rd p0 (w64 (2 + (w64 (2 * x4.1))))))) rfl rm0 q0 hg1093 rfl rfl ⟨rfl, rfl⟩)⟩⟩, fun _ => ⟨rfl, rfl, rfl, .inl ⟨rfl, (o_build (fs := [⟨ "Type", 5, 0, false, "", "", 0⟩, ⟨ "Value", 5, 1, false, "", "", 1⟩]) (ps := [(0, 1), (1, 1)]) (cs := [(.int .u8 (rd p0 (w64 (1 + (w64 (2 * x4.1)))))), (.int .u8 (rd p0 (w64 (2 + (w64 (2 * x4.1))))))]) rfl rfl rfl rfl rfl ⟨rfl, rfl⟩)⟩⟩, trivial⟩, rfl, .inr ⟨[13], rfl, rfl, ⟨rfl, .inl rfl, ?_⟩, trivial⟩⟩
     refine (o_alloc (cs := [(.int .u8 0), (.int .u8 0)]) rfl rfl (fun b1094 => ?_))
     refine ⟨[], [0, 1, 2, 3, 4, 5, 6, 7, 8, 9, 10, 11, 12], rfl, rfl, rfl, rfl, ?_⟩
     refine ⟨⟨fun _ => ⟨rfl, rfl, rfl, .inl ⟨rfl, (o_p rfl ⟨rfl, rfl⟩)⟩⟩, fun _ => ⟨rfl, rfl, rfl, .inl ⟨rfl, (o_p rfl ⟨rfl, rfl⟩)⟩⟩, fun _ => ⟨rfl, rfl, rfl, .inl ⟨rfl, (o_p (v := (.int .i64 (w64 (2 * x4.1)))) rfl ⟨rfl, rfl⟩)⟩⟩, fun _ => ⟨rfl, rfl, rfl, .inl ⟨rfl, (o_p (v := (.int .i64 (w64 (1 + (w64 (2 * x4.1)))))) rfl ⟨rfl, rfl⟩)⟩⟩, fun _ => ⟨rfl, rfl, rfl, .inl ⟨rfl, (o_ix (s := s0) (n := w64 (1 + (w64 (2 * x4.1)))) (e := (enI .u8)) rfl rfl rfl rfl rfl rfl rm1 q0 hg1092 ⟨rfl, rfl⟩)⟩⟩, fun _ => ⟨rfl, rfl, rfl, .inl ⟨rfl, (o_ldE (s := s0) (e := (enI .u8)) (n := w64 (1 + (w64 (2 * x4.1)))) (f := 0) (v := (.int .u8 (rd p0 (w64 (1 + (w64 (2 * x4.1))))))) rfl rm1 q0 hg1092 rfl rfl ⟨rfl, rfl⟩)⟩⟩, fun _ => ⟨rfl, rfl, rfl, .inl ⟨rfl, (o_p rfl ⟨rfl, rfl⟩)⟩⟩, fun _ => ⟨rfl, rfl, rfl, .inl ⟨rfl, (o_p rfl ⟨rfl, rfl⟩)⟩⟩, fun _ => ⟨rfl, rfl, rfl, .inl ⟨rfl, (o_p (v := (.int .i64 (w64 (2 * x4.1)))) rfl ⟨rfl, rfl⟩)⟩⟩, fun _ => ⟨rfl, rfl, rfl, .inl ⟨rfl, (o_p (v := (.int .i64 (w64 (2 + (w64 (2 * x4.1)))))) rfl ⟨rfl, rfl⟩)⟩⟩, fun _ => ⟨rfl, rfl, rfl, .inl ⟨rfl, (o_ix (s := s0) (n := w64 (2 + (w64 (2 * x4.1)))) (e := (enI .u8)) rfl rfl rfl rfl rfl rfl rm1 q0 hg1093 ⟨rfl, rfl⟩)⟩⟩, fun _ => ⟨rfl, rfl, rfl, .inl ⟨rfl, (o_ldE (s := s0) (e := (enI .u8)) (n := w64 (2 + (w64 (2 * x4.1)))) (f := 0) (v := (.int .u8 (rd p0 (w64 (2 + (w64 (2 * x4.1))))))) rfl rm1 q0 hg1093 rfl rfl ⟨rfl, rfl⟩)⟩⟩, fun _ => ⟨rfl, rfl, rfl, .inl ⟨rfl, (o_build (fs := [⟨ "Type", 5, 0, false, "", "", 0⟩, ⟨ "Value", 5, 1, false, "", "", 1⟩]) (ps := [(0, 1), (1, 1)]) (cs := [(.int .u8 (rd p0 (w64 (1 + (w64 (2 * x4.1)))))), (.int .u8 (rd p0 (w64 (2 + (w64 (2 * x4.1))))))]) rfl rfl rfl rfl rfl ⟨rfl, rfl⟩)⟩⟩, trivial⟩, rfl, .inr ⟨[14], rfl, rfl, ⟨rfl, .inl rfl, ?_⟩, trivial⟩⟩
     refine (o_st (b := b1094) (off := 0) (vs := [(.int .u8 (rd p0 (w64 (1 + (w64 (2 * x4.1)))))), (.int .u8 (rd p0 (w64 (2 + (w64 (2 * x4.1))))))]) (cs' := [(.int .u8 (rd p0 (w64 (1 + (w64 (2 * x4.1)))))), (.int .u8 (rd p0 (w64 (2 + (w64 (2 * x4.1))))))]) rfl rfl rp0 rfl rfl rfl rfl rfl rfl ?_)
     refine ⟨[], [], rfl, rfl, ?_⟩
     refine ⟨⟨(fun h => nomatch h), (fun h => nomatch h), (fun h => nomatch h), (fun h => nomatch h), (fun h => nomatch h), (fun h => nomatch h), (fun h => nomatch h), (fun h => nomatch h), (fun h => nomatch h), (fun h => nomatch h), (fun h => nomatch h), (fun h => nomatch h), (fun h => nomatch h), trivial⟩, rfl, rfl, rfl, ?_⟩
     refine e_seq (c_seq (c_seq (c_region ?_)))
     refine o1 rfl (o_ld (b := b1094) (off := 0) (v := (.agg (List.toArray [(.int .u8 (rd p0 (w64 (1 + (w64 (2 * x4.1)))))), (.int .u8 (rd p0 (w64 (2 + (w64 (2 * x4.1))))))]))) rfl rm0 rfl rfl ?_)
     replace h := bsome h
     obtain ⟨d8, h8, h⟩ := h
     refine o1 rfl (o_call has109 rfl (c_vitrineref05_Right hg X (⟨(rd p0 (w64 (1 + (w64 (2 * x4.1))))), (rd p0 (w64 (2 + (w64 (2 * x4.1)))))⟩ : Vvitrineref05_Pair) _ h8) (pc rm1 pn) ?_)
     refine o1 rfl (o_p (v := (.bool (!d8))) rfl ?_)
     refine o_end (e_seq ?_)
     refine c_cond (b := (!d8)) rfl (fun hb1096 => ?_) (fun hb1096 => ?_)
     ·replace h := cond_t hb1096 h
      refine c_seq (c_region (o1 rfl (o_p rfl (o1 rfl (o_p rfl (o1 rfl (o_p rfl (o_end ?_))))))))
      refine e_seq (c_ret (e_then_ret (e_blk_ret (e_then_ret (e_then_ret ?_)))))
      refine e_blk_ret (ej_ret ?_)
      replace h := esc_some h
      obtain ⟨z3, h, rfl⟩ := h
      obtain rfl := (hk3 : z3 = _)
      refine e_then_ret (e_ret ?_)
      refine r_add (slO SV.nil 208 en_Vvitrineref05_Pair []) (slO_nil _ _ _) ?_
      refine r_endt rfl rfl (kc rm1 (kc rm0 (kd (kd kr)))) ?_
      obtain rfl := Option.some.inj h
      exact hk SV.nil
     ·replace h := cond_f hb1096 h
      refine c_skip (e_seq (c_region (o1 rfl (o_p rfl ?_))))
      refine o1 rfl (o_ld (b := b1094) (off := 0) (v := (.agg (List.toArray [(.int .u8 (rd p0 (w64 (1 + (w64 (2 * x4.1)))))), (.int .u8 (rd p0 (w64 (2 + (w64 (2 * x4.1))))))]))) rfl rm1 rfl rfl ?_)
      refine o1 rfl (o_bs (e := en_Vvitrineref05_Pair) (l := [(⟨(rd p0 (w64 (1 + (w64 (2 * x4.1))))), (rd p0 (w64 (2 + (w64 (2 * x4.1)))))⟩ : Vvitrineref05_Pair)]) (zs := [(.int .u8 0), (.int .u8 0)]) rfl rfl rfl rfl rfl rfl rfl rfl rfl rfl (fun s1097 => ?_))
      replace h := gsome h
      obtain ⟨hg1099, h⟩ := h
      refine o1 rfl (o_app (s := i4) (r := s1097) (e := en_Vvitrineref05_Pair) (l := x4.2) (l2 := [(⟨(rd p0 (w64 (1 + (w64 (2 * x4.1))))), (rd p0 (w64 (2 + (w64 (2 * x4.1)))))⟩ : Vvitrineref05_Pair)]) (zs := [(.int .u8 0), (.int .u8 0)]) rfl rfl rfl rfl rfl rfl rfl rfl rfl rfl rfl rm3 rm0 (rd_own _ _ _ _) hg1099 (fun s1100 => ?_))
      refine o1 rfl (o_p rfl (o_end (e_blk (e_seq (c_region (o1 rfl (o_p rfl ?_)))))))
      refine o1 rfl (o_p (v := (.int .i64 (w64 (x4.1 + 1)))) rfl ?_)
      refine o1 rfl (o_p rfl (o_end ?_))
      exact e_loop (l_sub (sc rfl (sc rfl (sc rfl sn))) (l_keep (kc rm2 (kc rm0 (kd (kd kr)))) (ih4 (w64 (x4.1 + 1), (x4.2 ++ [(⟨(rd p0 (w64 (1 + (w64 (2 * x4.1))))), (rd p0 (w64 (2 + (w64 (2 * x4.1)))))⟩ : Vvitrineref05_Pair)])) s1100 trivial h)))
    ·replace h := cond_f hb1091 h
     refine c_exit (e_then_exit (e_then_exit (e_blk_exit ?_)))
     obtain rfl := Option.some.inj h
     exact ej x4.2 i4 rfl (sc rfl sn) (kc rm0 (kc rm0 kr))
   ·rintro d3 i3 rfl
    replace h := JK_inl hk3
    clear hk3
    refine e_seq (c_seq (c_region (o1 rfl (o_p rfl (o1 rfl (o_p rfl ?_))))))
    refine o1 rfl (o_len (s := i3) rfl rfl rfl rm1 (rd_own _ _ _ _) ?_)
    refine o1 rfl (o_p (v := (.int .i64 (w64 (2 * (d3.length : Int))))) rfl ?_)
    refine o1 rfl (o_p (v := (.int .i64 (w64 (1 + (w64 (2 * (d3.length : Int))))))) rfl ?_)
    refine o1 rfl (o_p rfl (o1 rfl (o_p rfl (o1 rfl (o_p rfl (o_end (e_seq (c_ret ?_))))))))
    refine e_ret ?_
    refine r_endt rfl rfl (kc rm0 (kc rm0 kr)) ?_
    obtain rfl := Option.some.inj h
    exact hk i3

theorem c_vitrineref01_Num {g : Gw} (hg : GK g) (X : HP) (p0 : ByteArray) (r : Int) (h : m_vitrineref01_Num p0 = some r) : Tri env g 125 (List.toArray [(.string p0)]) [X] (fun K R => K (.int .i64 r) (X :: R)) := by
 refine tri_of (fn := Tryz.f125) (N := 32) Tryz.func125 rfl rfl rfl ?_
 intro R K hk
 unfold m_vitrineref01_Num at h
 change GC _ none _ [] [(0, (.string p0))] (X :: R) g _ _
 refine c_seq (c_region (o1 rfl (o_p rfl (o_end (e_seq (c_seq ?_))))))
 refine c_region (o1 rfl (o_p rfl (o_end (e_seq (c_seq (c_seq ?_))))))
 refine c_region (o1 rfl (o_p rfl (o_end (e_seq ?_))))
 replace h := bsome h
 obtain ⟨d1, h, hk1⟩ := h
 refine cj (D := Unit) (ι := Unit) (fun _ i1 => True) (fun _ i1 => [(3, (.int .i64 d1))]) (fun _ i1 => X :: R) ?_ ?_
 ·refine c_block ?_
  refine c_loop (l_sub (sc rfl (sc rfl (sc rfl sn))) (l_keep (kc rm0 kr) (lf (X := Int × Int) (ι := Unit) (fun k x => vitrineref01_Num_l2 p0 k x) _ (fun x2 i2 => True) (fun x2 i2 => [(4, (.int .i64 x2.1)), (3, (.int .i64 x2.2)), (0, (.string p0))]) (fun x2 i2 => X :: R) (fun _ => rfl) ?_ fuel (0, 0) () trivial h)))
  clear h
  rintro k2 ih2 x2 i2 _ h
  rw [vitrineref01_Num_l2.eq_2] at h
  refine l_round (c_seq (c_seq (c_region (o1 rfl (o_p rfl (o1 rfl (o_p rfl ?_)))))))
  refine o1 rfl (o_lens (s := p0) rfl rfl rfl ?_)
  refine o1 rfl (o_p (v := (.bool (decide (x2.1 < (p0.size : Int))))) rfl ?_)
  refine o_end (e_seq ?_)
  refine c_cond (b := (decide (x2.1 < (p0.size : Int)))) rfl (fun hb1141 => ?_) (fun hb1141 => ?_)
  ·replace h := cond_t hb1141 h
   refine c_skip (e_seq (c_seq (c_block (c_seq (c_region ?_)))))
   refine o1 rfl (o_p rfl (o1 rfl (o_p rfl ?_)))
   replace h := gsome h
   obtain ⟨hg1142, h⟩ := h
   refine o1 rfl (o_sidx (s := p0) (n := x2.1) rfl rfl rfl rfl hg1142 ?_)
   refine o1 rfl (o_p (v := (.int .u8 (IntKind.wrap .u8 ((sbyte p0 x2.1) - 48)))) rfl ?_)
   refine o1 rfl (o_p (v := (.int .i64 (w64 (IntKind.wrap .u8 ((sbyte p0 x2.1) - 48))))) rfl ?_)
   refine o1 rfl (o_p rfl (o_end (e_seq (c_seq (c_seq (c_region ?_))))))
   refine o1 rfl (o_p rfl (o1 rfl (o_p rfl ?_)))
   replace h := gsome h
   obtain ⟨hg1143, h⟩ := h
   refine o1 rfl (o_sidx (s := p0) (n := x2.1) rfl rfl rfl rfl hg1143 ?_)
   refine o1 rfl (o_p (v := (.bool (decide ((sbyte p0 x2.1) ≥ 97)))) rfl ?_)
   refine o_end (e_seq ?_)
   replace h := bsome h
   obtain ⟨d5, h, hk5⟩ := h
   refine cj (D := Unit) (ι := Unit) (fun _ i5 => True) (fun _ i5 => [(5, (.int .i64 d5)), (4, (.int .i64 x2.1)), (3, (.int .i64 x2.2)), (0, (.string p0))]) (fun _ i5 => X :: R) ?_ ?_
   ·refine c_cond (b := (decide ((sbyte p0 x2.1) ≥ 97))) rfl (fun hb1144 => ?_) (fun hb1144 => ?_)
    ·replace h := cond_t hb1144 h
     refine c_region (o1 rfl (o_p rfl (o1 rfl (o_p rfl ?_))))
     replace h := gsome h
     obtain ⟨hg1145, h⟩ := h
     refine o1 rfl (o_sidx (s := p0) (n := x2.1) rfl rfl rfl rfl hg1145 ?_)
     refine o1 rfl (o_p (v := (.int .u8 (IntKind.wrap .u8 ((sbyte p0 x2.1) - 97)))) rfl ?_)
     refine o1 rfl (o_p (v := (.int .i64 (w64 (IntKind.wrap .u8 ((sbyte p0 x2.1) - 97))))) rfl ?_)
     refine o1 rfl (o_p (v := (.int .i64 (w64 ((w64 (IntKind.wrap .u8 ((sbyte p0 x2.1) - 97))) + 10)))) rfl ?_)
     refine o1 rfl (o_p rfl (o_end ?_))
     obtain rfl := Option.some.inj h
     exact ej () () trivial (sc rfl (sc rfl (sc rfl (sc rfl sn)))) (kc rm0 kr)
    ·replace h := cond_f hb1144 h
     refine c_skip ?_
     obtain rfl := Option.some.inj h
     exact ej () () trivial (sc rfl (sc rfl (sc rfl (sc rfl sn)))) (kc rm0 kr)
   ·rintro _ i5 _
    replace h := hk5
    clear hk5
    refine e_seq (c_region (o1 rfl (o_p rfl ?_)))
    refine o1 rfl (o_p (v := (.int .i64 (w64 (16 * x2.2)))) rfl ?_)
    refine o1 rfl (o_p rfl ?_)
    refine o1 rfl (o_p (v := (.int .i64 (w64 ((w64 (16 * x2.2)) + d5)))) rfl ?_)
    refine o1 rfl (o_p rfl (o_end (e_blk (e_seq (c_region (o1 rfl (o_p rfl ?_)))))))
    refine o1 rfl (o_p (v := (.int .i64 (w64 (x2.1 + 1)))) rfl ?_)
    refine o1 rfl (o_p rfl (o_end ?_))
    exact e_loop (l_sub (sc rfl (sc rfl (sc rfl sn))) (l_keep (kc rm0 kr) (ih2 (w64 (x2.1 + 1), w64 ((w64 (16 * x2.2)) + d5)) () trivial h)))
  ·replace h := cond_f hb1141 h
   refine c_exit (e_then_exit (e_then_exit (e_blk_exit ?_)))
   obtain rfl := Option.some.inj h
   exact ej () () trivial (sc rfl sn) (kc rm0 kr)
 ·rintro _ i1 _
  replace h := hk1
  clear hk1
  refine e_seq (c_seq (c_region (o1 rfl (o_p rfl (o1 rfl (o_p rfl (o_end ?_)))))))
  refine e_seq (c_ret (e_ret ?_))
  refine r_endt rfl rfl (kc rm0 kr) ?_
  obtain rfl := Option.some.inj h
  exact hk

theorem c_vitrineref04_Six {g : Gw} (hg : GK g) (X : HP) (p0 : Int) (r : Int) (h : m_vitrineref04_Six p0 = some r) : Tri env g 176 (List.toArray [(.int .i64 p0)]) [X] (fun K R => K (.int .u8 r) (X :: R)) := by
 refine tri_of (fn := Tryz.f176) (N := 13) Tryz.func176 rfl rfl rfl ?_
 intro R K hk
 unfold m_vitrineref04_Six at h
 change GC _ none _ [] [(0, (.int .i64 p0))] (X :: R) g _ _
 refine c_seq (c_region (o1 rfl (o_p rfl (o_end (e_seq (c_seq ?_))))))
 refine c_region (o1 rfl (o_p rfl ?_))
 replace h := bsome h
 obtain ⟨d1, h1, h⟩ := h
 refine o1 rfl (o_call has126 rfl (c_vitrineref04_Mod hg X p0 64 _ h1) (pc rm0 pn) ?_)
 refine o1 rfl (o_p (v := (.int .i64 (w64 (2 * d1)))) rfl ?_)
 refine o1 rfl (o_p rfl (o_end (e_seq (c_seq (c_region (o1 rfl (o_p rfl ?_)))))))
 refine o1 rfl (o_p rfl ?_)
 refine o1 rfl (o_p (v := (.int .i64 (w64 ((w64 (2 * d1)) + 2)))) rfl ?_)
 replace h := gsome h
 obtain ⟨hg1130, h⟩ := h
 refine o1 rfl (o_ssl (s := (ByteArray.mk (List.toArray [52, 48, 99, 49, 99, 50, 99, 51, 99, 52, 99, 53, 99, 54, 99, 55, 99, 56, 99, 57, 52, 97, 52, 98, 52, 99, 52, 100, 52, 101, 52, 102, 53, 48, 100, 49, 100, 50, 100, 51, 100, 52, 100, 53, 100, 54, 100, 55, 100, 56, 100, 57, 53, 97, 53, 98, 53, 99, 53, 100, 53, 101, 53, 102, 54, 48, 54, 49, 101, 50, 101, 51, 101, 52, 101, 53, 101, 54, 101, 55, 101, 56, 101, 57, 54, 97, 54, 98, 54, 99, 54, 100, 54, 101, 54, 102, 102, 48, 102, 49, 102, 50, 102, 51, 102, 52, 102, 53, 102, 54, 102, 55, 102, 56, 102, 57, 55, 97, 55, 98, 55, 99, 55, 100, 55, 101, 55, 102]))) (a := w64 (2 * d1)) (b := w64 ((w64 (2 * d1)) + 2)) rfl rfl rfl rfl rfl hg1130 ?_)
 replace h := bsome h
 obtain ⟨d2, h2, h⟩ := h
 refine o1 rfl (o_call has125 rfl (c_vitrineref01_Num hg X (ByteArray.extract (ByteArray.mk (List.toArray [52, 48, 99, 49, 99, 50, 99, 51, 99, 52, 99, 53, 99, 54, 99, 55, 99, 56, 99, 57, 52, 97, 52, 98, 52, 99, 52, 100, 52, 101, 52, 102, 53, 48, 100, 49, 100, 50, 100, 51, 100, 52, 100, 53, 100, 54, 100, 55, 100, 56, 100, 57, 53, 97, 53, 98, 53, 99, 53, 100, 53, 101, 53, 102, 54, 48, 54, 49, 101, 50, 101, 51, 101, 52, 101, 53, 101, 54, 101, 55, 101, 56, 101, 57, 54, 97, 54, 98, 54, 99, 54, 100, 54, 101, 54, 102, 102, 48, 102, 49, 102, 50, 102, 51, 102, 52, 102, 53, 102, 54, 102, 55, 102, 56, 102, 57, 55, 97, 55, 98, 55, 99, 55, 100, 55, 101, 55, 102])) (Int.toNat (w64 (2 * d1))) (Int.toNat (w64 ((w64 (2 * d1)) + 2)))) _ h2) (pc rm0 pn) ?_)
 refine o1 rfl (o_p (v := (.int .u8 (IntKind.wrap .u8 (d2)))) rfl ?_)
 refine o1 rfl (o_p rfl (o_end (e_seq (c_ret (e_ret ?_)))))
 refine r_endt rfl rfl (kc rm0 kr) ?_
 obtain rfl := Option.some.inj h
 exact hk

theorem c_vitrineref04_Unsix {g : Gw} (hg : GK g) (X : HP) (p0 : Int) (r : Int) (h : m_vitrineref04_Unsix p0 = some r) : Tri env g 147 (List.toArray [(.int .u8 p0)]) [X] (fun K R => K (.int .i64 r) (X :: R)) := by
 refine tri_of (fn := Tryz.f147) (N := 16) Tryz.func147 rfl rfl rfl ?_
 intro R K hk
 unfold m_vitrineref04_Unsix at h
 change GC _ none _ [] [(0, (.int .u8 p0))] (X :: R) g _ _
 refine c_seq (c_region (o1 rfl (o_p rfl (o_end (e_seq (c_seq ?_))))))
 refine c_seq (c_region (o1 rfl (o_p rfl (o_end (e_seq ?_)))))
 replace h := jn_some h
 obtain ⟨y1, h, hk1⟩ := h
 refine cj (D := Unit) (ι := Unit) (fun d1 i1 => y1 = Sum.inl d1) (fun d1 i1 => [(0, (.int .u8 p0))]) (fun d1 i1 => X :: R) ?_ ?_
 ·refine c_block ?_
  refine c_loop (l_sub (sc rfl (sc rfl sn)) (l_keep (kc rm0 kr) (lf (X := Int) (ι := Unit) (fun k x => vitrineref04_Unsix_l2 p0 k x) _ (fun x2 i2 => True) (fun x2 i2 => [(3, (.int .i64 x2)), (0, (.int .u8 p0))]) (fun x2 i2 => X :: R) (fun _ => rfl) ?_ fuel 0 () trivial h)))
  clear h
  rintro k2 ih2 x2 i2 _ h
  rw [vitrineref04_Unsix_l2.eq_2] at h
  refine l_round (c_seq (c_seq (c_region (o1 rfl (o_p rfl ?_)))))
  refine o1 rfl (o_p (v := (.bool (decide (x2 < 64)))) rfl ?_)
  refine o_end (e_seq ?_)
  refine c_cond (b := (decide (x2 < 64))) rfl (fun hb1149 => ?_) (fun hb1149 => ?_)
  ·replace h := cond_t hb1149 h
   refine c_skip (e_seq (c_seq (c_block (c_seq (c_region ?_)))))
   refine o1 rfl (o_p rfl ?_)
   replace h := bsome h
   obtain ⟨d5, h5, h⟩ := h
   refine o1 rfl (o_call has176 rfl (c_vitrineref04_Six hg X x2 _ h5) (pc rm0 pn) ?_)
   refine o1 rfl (o_p rfl ?_)
   refine o1 rfl (o_p (v := (.bool (d5 == p0))) rfl ?_)
   refine o_end (e_seq ?_)
   refine c_cond (b := (d5 == p0)) rfl (fun hb1150 => ?_) (fun hb1150 => ?_)
   ·replace h := cond_t hb1150 h
    refine c_seq (c_region (o1 rfl (o_p rfl (o1 rfl (o_p rfl (o_end (e_seq ?_)))))))
    refine c_ret (e_blk_ret (e_then_ret (e_then_ret (e_blk_ret (ej_ret ?_)))))
    replace h := esc_some h
    obtain ⟨z1, h, rfl⟩ := h
    obtain rfl := (hk1 : z1 = _)
    refine e_then_ret (e_ret ?_)
    refine r_endt rfl rfl (kc rm0 kr) ?_
    obtain rfl := Option.some.inj h
    exact hk
   ·replace h := cond_f hb1150 h
    refine c_skip (e_blk (e_seq (c_region (o1 rfl (o_p rfl ?_)))))
    refine o1 rfl (o_p (v := (.int .i64 (w64 (x2 + 1)))) rfl ?_)
    refine o1 rfl (o_p rfl (o_end ?_))
    exact e_loop (l_sub (sc rfl (sc rfl sn)) (l_keep (kc rm0 kr) (ih2 (w64 (x2 + 1)) () trivial h)))
  ·replace h := cond_f hb1149 h
   refine c_exit (e_then_exit (e_then_exit (e_blk_exit ?_)))
   obtain rfl := Option.some.inj h
   exact ej () () rfl (sc rfl sn) (kc rm0 kr)
 ·rintro d1 i1 rfl
  replace h := JK_inl hk1
  clear hk1
  refine e_seq (c_seq (c_region (o1 rfl (o_p rfl ?_))))
  refine o1 rfl (o_p (v := (.int .i64 (w64 (p0)))) rfl ?_)
  refine o1 rfl (o_rem (m := w64 (p0)) (n := 64) rfl rfl (by decide) ?_)
  refine o1 rfl (o_p rfl (o_end (e_seq (c_ret (e_ret ?_)))))
  refine r_endt rfl rfl (kc rm0 kr) ?_
  obtain rfl := Option.some.inj h
  exact hk

theorem c_vitrineref04_Decode {g : Gw} (hg : GK g) (X : HP) (p0 : Int) (p1 : List Int) (s0 : SV) (q0 : Rd X s0 5 (enI .u8) p1) (r : Int × Int) (h : m_vitrineref04_Decode p0 p1 = some r) : Tri env g 108 (List.toArray [(.int .i64 p0), (SV.val s0)]) [X] (fun K R => K (.tuple (List.toArray [(.int .i64 r.1), (.int .i64 r.2)])) (X :: R)) := by
 refine tri_of (fn := Tryz.f108) (N := 59) Tryz.func108 rfl rfl rfl ?_
 intro R K hk
 unfold m_vitrineref04_Decode at h
 change GC _ none _ [] [(0, (.int .i64 p0)), (1, (SV.val s0))] (X :: R) g _ _
 refine c_seq (c_region (o1 rfl (o_p rfl (o1 rfl (o_p rfl (o_end (e_seq ?_)))))))
 refine c_seq (c_seq ?_)
 replace h := bsome h
 obtain ⟨d1, h, hk1⟩ := h
 refine cj (D := Unit) (ι := Unit) (fun _ i1 => True) (fun _ i1 => [(16, (.bool d1)), (0, (.int .i64 p0)), (1, (SV.val s0))]) (fun _ i1 => X :: R) ?_ ?_
 ·refine c_region (o1 rfl (o_p rfl ?_))
  refine o1 rfl (o_p (v := (.bool (p0 != 12))) rfl ?_)
  refine o1 rfl (o_p rfl ?_)
  rcases bool_or ((p0 != 12)) with hb1115 | hb1115
  ·replace h := cond_t hb1115 h
   refine oy rfl rfl rfl hb1115 (o_p rfl ?_)
   refine oy rfl rfl rfl hb1115 (o_p (v := (.bool (p0 != 14))) rfl ?_)
   refine o1 rfl (o_pick_t rfl hb1115 rfl ?_)
   refine o1 rfl (o_p rfl ?_)
   rcases bool_or ((p0 != 14)) with hb1116 | hb1116
   ·replace h := cond_t hb1116 h
    refine oy rfl rfl rfl hb1116 (o_p rfl ?_)
    refine oy rfl rfl rfl hb1116 (o_p (v := (.bool (p0 != 16))) rfl ?_)
    refine o1 rfl (o_pick_t rfl hb1116 rfl ?_)
    refine o_end ?_
    obtain rfl := Option.some.inj h
    exact ej () () trivial (sc rfl (sc rfl (sc rfl sn))) (kc rm0 kr)
   ·replace h := cond_f hb1116 h
    refine on rfl rfl rfl hb1116 ?_
    refine on rfl rfl rfl hb1116 ?_
    refine o1 rfl (o_pick_f rfl hb1116 rfl ?_)
    refine o_end ?_
    obtain rfl := Option.some.inj h
    exact ej () () trivial (sc rfl (sc rfl (sc rfl sn))) (kc rm0 kr)
  ·replace h := cond_f hb1115 h
   refine on rfl rfl rfl hb1115 ?_
   refine on rfl rfl rfl hb1115 ?_
   refine o1 rfl (o_pick_f rfl hb1115 rfl ?_)
   refine o1 rfl (o_p rfl ?_)
   refine on rfl rfl rfl rfl ?_
   refine on rfl rfl rfl rfl ?_
   refine o1 rfl (o_pick_f rfl rfl rfl ?_)
   refine o_end ?_
   obtain rfl := Option.some.inj h
   exact ej () () trivial (sc rfl (sc rfl (sc rfl sn))) (kc rm0 kr)
 ·rintro _ i1 _
  replace h := hk1
  clear hk1
  refine e_seq ?_
  refine c_cond (b := d1) rfl (fun hb1117 => ?_) (fun hb1117 => ?_)
  ·replace h := cond_t hb1117 h
   refine c_seq (c_region (o1 rfl (o_p rfl (o1 rfl (o_p rfl (o_end (e_seq ?_)))))))
   refine c_ret (e_then_ret (e_ret ?_))
   refine r_endt rfl rfl (kc rm0 kr) ?_
   obtain rfl := Option.some.inj h
   exact hk
  ·replace h := cond_f hb1117 h
   refine c_skip (e_seq (c_seq (c_seq (c_region (o1 rfl (o_p rfl ?_))))))
   refine o1 rfl (o_len (s := s0) rfl rfl rfl rm0 q0 ?_)
   refine o1 rfl (o_p (v := (.bool (decide ((p1.length : Int) < 2)))) rfl ?_)
   refine o_end (e_seq ?_)
   refine c_cond (b := (decide ((p1.length : Int) < 2))) rfl (fun hb1118 => ?_) (fun hb1118 => ?_)
   ·replace h := cond_t hb1118 h
    refine c_seq (c_region (o1 rfl (o_p rfl (o1 rfl (o_p rfl (o_end (e_seq ?_)))))))
    refine c_ret (e_then_ret (e_ret ?_))
    refine r_endt rfl rfl (kc rm0 kr) ?_
    obtain rfl := Option.some.inj h
    exact hk
   ·replace h := cond_f hb1118 h
    refine c_skip (e_seq (c_seq ?_))
    replace h := gsome h
    obtain ⟨hg1119, h⟩ := h
    replace h := gsome h
    obtain ⟨hg1120, h⟩ := h
    refine c_draw (n := 0) (q := [(0, 20, (SV.val s0)), (1, 21, (.pointer (some ⟨SV.blk s0, SV.off s0 + Int.toNat 0 * 1, none⟩))), (2, 22, (.int .u8 (rd p1 0))), (3, 23, (.int .i64 (w64 ((rd p1 0))))), (4, 24, (.int .i64 (w64 (256 * (w64 ((rd p1 0))))))), (5, 25, (SV.val s0)), (6, 26, (.pointer (some ⟨SV.blk s0, SV.off s0 + Int.toNat 1 * 1, none⟩))), (7, 27, (.int .u8 (rd p1 1))), (8, 28, (.int .i64 (w64 ((rd p1 1))))), (9, 29, (.int .i64 (w64 ((w64 (256 * (w64 ((rd p1 0))))) + (w64 ((rd p1 1))))))), (10, 6, (.int .i64 (w64 ((w64 (256 * (w64 ((rd p1 0))))) + (w64 ((rd p1 1)))))))]) (pend := [0, 1, 2, 3, 4, 5, 6, 7, 8, 9, 10]) rfl rfl rfl ?_
    refine ⟨⟨fun _ => ⟨rfl, rfl, rfl, .inl ⟨rfl, (o_p rfl ⟨rfl, rfl⟩)⟩⟩, fun _ => ⟨rfl, rfl, rfl, .inl ⟨rfl, (o_ix (s := s0) (n := 0) (e := (enI .u8)) rfl rfl rfl rfl rfl rfl rm0 q0 hg1119 ⟨rfl, rfl⟩)⟩⟩, fun _ => ⟨rfl, rfl, rfl, .inl ⟨rfl, (o_ldE (s := s0) (e := (enI .u8)) (n := 0) (f := 0) (v := (.int .u8 (rd p1 0))) rfl rm0 q0 hg1119 rfl rfl ⟨rfl, rfl⟩)⟩⟩, fun _ => ⟨rfl, rfl, rfl, .inl ⟨rfl, (o_p (v := (.int .i64 (w64 ((rd p1 0))))) rfl ⟨rfl, rfl⟩)⟩⟩, fun _ => ⟨rfl, rfl, rfl, .inl ⟨rfl, (o_p (v := (.int .i64 (w64 (256 * (w64 ((rd p1 0))))))) rfl ⟨rfl, rfl⟩)⟩⟩, fun _ => ⟨rfl, rfl, rfl, .inl ⟨rfl, (o_p rfl ⟨rfl, rfl⟩)⟩⟩, fun _ => ⟨rfl, rfl, rfl, .inl ⟨rfl, (o_ix (s := s0) (n := 1) (e := (enI .u8)) rfl rfl rfl rfl rfl rfl rm0 q0 hg1120 ⟨rfl, rfl⟩)⟩⟩, fun _ => ⟨rfl, rfl, rfl, .inl ⟨rfl, (o_ldE (s := s0) (e := (enI .u8)) (n := 1) (f := 0) (v := (.int .u8 (rd p1 1))) rfl rm0 q0 hg1120 rfl rfl ⟨rfl, rfl⟩)⟩⟩, fun _ => ⟨rfl, rfl, rfl, .inl ⟨rfl, (o_p (v := (.int .i64 (w64 ((rd p1 1))))) rfl ⟨rfl, rfl⟩)⟩⟩, fun _ => ⟨rfl, rfl, rfl, .inl ⟨rfl, (o_p (v := (.int .i64 (w64 ((w64 (256 * (w64 ((rd p1 0))))) + (w64 ((rd p1 1))))))) rfl ⟨rfl, rfl⟩)⟩⟩, fun _ => ⟨rfl, rfl, rfl, .inl ⟨rfl, (o_p rfl ⟨rfl, rfl⟩)⟩⟩, trivial⟩, rfl, rfl, rfl, ?_⟩
    refine e_seq (c_seq (c_seq ?_))
    replace h := bsome h
    obtain ⟨d5, h, hk5⟩ := h
    refine cj (D := Unit) (ι := Unit) (fun _ i5 => True) (fun _ i5 => [(37, (.bool d5)), (6, (.int .i64 (w64 ((w64 (256 * (w64 ((rd p1 0))))) + (w64 ((rd p1 1))))))), (1, (SV.val s0))]) (fun _ i5 => X :: R) ?_ ?_
    ·refine c_region (o1 rfl (o_p rfl ?_))
     refine o1 rfl (o_p (v := (.bool (p0 == 16))) rfl ?_)
     refine o1 rfl (o_p rfl ?_)
     rcases bool_or ((p0 == 16)) with hb1121 | hb1121
     ·replace h := cond_t hb1121 h
      refine on rfl rfl rfl hb1121 ?_
      refine on rfl rfl rfl hb1121 ?_
      refine on rfl rfl rfl hb1121 ?_
      refine on rfl rfl rfl hb1121 ?_
      refine o1 rfl (o_pick_t rfl hb1121 rfl ?_)
      refine o_end ?_
      obtain rfl := Option.some.inj h
      exact ej () () trivial (sc rfl (sc rfl (sc rfl sn))) (kc rm0 kr)
     ·replace h := cond_f hb1121 h
      refine oy rfl rfl rfl hb1121 (o_p rfl ?_)
      replace h := gsome h
      obtain ⟨hg1122, h⟩ := h
      refine oy rfl rfl rfl hb1121 (o_ix (s := s0) (n := 0) (e := (enI .u8)) rfl rfl rfl rfl rfl rfl rm0 q0 hg1122 ?_)
      refine oy rfl rfl rfl hb1121 (o_ldE (s := s0) (e := (enI .u8)) (n := 0) (f := 0) (v := (.int .u8 (rd p1 0))) rfl rm0 q0 hg1122 rfl rfl ?_)
      refine oy rfl rfl rfl hb1121 (o_p (v := (.bool (decide ((rd p1 0) < 64)))) rfl ?_)
      refine o1 rfl (o_pick_f rfl hb1121 rfl ?_)
      refine o_end ?_
      obtain rfl := Option.some.inj h
      exact ej () () trivial (sc rfl (sc rfl (sc rfl sn))) (kc rm0 kr)
    ·rintro _ i5 _
     replace h := hk5
     clear hk5
     refine e_seq ?_
     refine c_cond (b := d5) rfl (fun hb1123 => ?_) (fun hb1123 => ?_)
     ·replace h := cond_t hb1123 h
      refine c_seq (c_region (o1 rfl (o_p rfl (o1 rfl (o_p rfl (o1 rfl (o_p rfl (o_end ?_))))))))
      refine e_seq (c_ret (e_then_ret (e_ret ?_)))
      refine r_endt rfl rfl (kc rm0 kr) ?_
      obtain rfl := Option.some.inj h
      exact hk
     ·replace h := cond_f hb1123 h
      refine c_skip (e_seq (c_seq (c_seq ?_)))
      replace h := bsome h
      obtain ⟨d7, h, hk7⟩ := h
      refine cj (D := Unit) (ι := Unit) (fun _ i7 => True) (fun _ i7 => [(48, (.bool d7)), (1, (SV.val s0))]) (fun _ i7 => X :: R) ?_ ?_
      ·refine c_region (o1 rfl (o_p rfl ?_))
       replace h := gsome h
       obtain ⟨hg1124, h⟩ := h
       refine o1 rfl (o_ix (s := s0) (n := 0) (e := (enI .u8)) rfl rfl rfl rfl rfl rfl rm0 q0 hg1124 ?_)
       refine o1 rfl (o_ldE (s := s0) (e := (enI .u8)) (n := 0) (f := 0) (v := (.int .u8 (rd p1 0))) rfl rm0 q0 hg1124 rfl rfl ?_)
       refine o1 rfl (o_p (v := (.bool (decide ((rd p1 0) ≥ 128)))) rfl ?_)
       refine o1 rfl (o_p rfl ?_)
       rcases bool_or ((decide ((rd p1 0) ≥ 128))) with hb1125 | hb1125
       ·replace h := cond_t hb1125 h
        refine oy rfl rfl rfl hb1125 (o_p rfl ?_)
        replace h := gsome h
        obtain ⟨hg1126, h⟩ := h
        refine oy rfl rfl rfl hb1125 (o_ix (s := s0) (n := 0) (e := (enI .u8)) rfl rfl rfl rfl rfl rfl rm0 q0 hg1126 ?_)
        refine oy rfl rfl rfl hb1125 (o_ldE (s := s0) (e := (enI .u8)) (n := 0) (f := 0) (v := (.int .u8 (rd p1 0))) rfl rm0 q0 hg1126 rfl rfl ?_)
        refine oy rfl rfl rfl hb1125 (o_p (v := (.bool (decide ((rd p1 0) < 192)))) rfl ?_)
        refine o1 rfl (o_pick_t rfl hb1125 rfl ?_)
        refine o_end ?_
        obtain rfl := Option.some.inj h
        exact ej () () trivial (sc rfl (sc rfl sn)) (kc rm0 kr)
       ·replace h := cond_f hb1125 h
        refine on rfl rfl rfl hb1125 ?_
        refine on rfl rfl rfl hb1125 ?_
        refine on rfl rfl rfl hb1125 ?_
        refine on rfl rfl rfl hb1125 ?_
        refine o1 rfl (o_pick_f rfl hb1125 rfl ?_)
        refine o_end ?_
        obtain rfl := Option.some.inj h
        exact ej () () trivial (sc rfl (sc rfl sn)) (kc rm0 kr)
      ·rintro _ i7 _
       replace h := hk7
       clear hk7
       refine e_seq ?_
       refine c_cond (b := d7) rfl (fun hb1127 => ?_) (fun hb1127 => ?_)
       ·replace h := cond_t hb1127 h
        refine c_seq (c_region (o1 rfl (o_p rfl (o1 rfl (o_p rfl (o_end (e_seq ?_)))))))
        refine c_ret (e_then_ret (e_ret ?_))
        refine r_endt rfl rfl (kc rm0 kr) ?_
        obtain rfl := Option.some.inj h
        exact hk
       ·replace h := cond_f hb1127 h
        refine c_skip (e_seq (c_seq ?_))
        replace h := gsome h
        obtain ⟨hg1128, h⟩ := h
        replace h := gsome h
        obtain ⟨hg1129, h⟩ := h
        refine c_draw (n := 2) (q := [(0, 49, (SV.val s0)), (1, 50, (.pointer (some ⟨SV.blk s0, SV.off s0 + Int.toNat 0 * 1, none⟩))), (2, 51, (.int .u8 (rd p1 0))), (5, 54, (SV.val s0)), (6, 55, (.pointer (some ⟨SV.blk s0, SV.off s0 + Int.toNat 1 * 1, none⟩))), (7, 56, (.int .u8 (rd p1 1)))]) (pend := [0, 1, 2, 5, 6, 7]) rfl rfl rfl ?_
        replace h := bsome h
        obtain ⟨d10, h10, h⟩ := h
        refine ⟨⟨fun _ => ⟨rfl, rfl, rfl, .inl ⟨rfl, (o_p rfl ⟨rfl, rfl⟩)⟩⟩, fun _ => ⟨rfl, rfl, rfl, .inl ⟨rfl, (o_ix (s := s0) (n := 0) (e := (enI .u8)) rfl rfl rfl rfl rfl rfl rm0 q0 hg1128 ⟨rfl, rfl⟩)⟩⟩, fun _ => ⟨rfl, rfl, rfl, .inl ⟨rfl, (o_ldE (s := s0) (e := (enI .u8)) (n := 0) (f := 0) (v := (.int .u8 (rd p1 0))) rfl rm0 q0 hg1128 rfl rfl ⟨rfl, rfl⟩)⟩⟩, fun _ => ⟨rfl, rfl, rfl, .inl ⟨rfl, (o_p rfl ⟨rfl, rfl⟩)⟩⟩, fun _ => ⟨rfl, rfl, rfl, .inl ⟨rfl, (o_ix (s := s0) (n := 1) (e := (enI .u8)) rfl rfl rfl rfl rfl rfl rm0 q0 hg1129 ⟨rfl, rfl⟩)⟩⟩, fun _ => ⟨rfl, rfl, rfl, .inl ⟨rfl, (o_ldE (s := s0) (e := (enI .u8)) (n := 1) (f := 0) (v := (.int .u8 (rd p1 1))) rfl rm0 q0 hg1129 rfl rfl ⟨rfl, rfl⟩)⟩⟩, trivial⟩, rfl, .inr ⟨[3], rfl, rfl, ⟨rfl, .inl rfl, ?_⟩, trivial⟩⟩
        refine (o_call has147 rfl (c_vitrineref04_Unsix hg X (rd p1 0) _ h10) (pc rm0 pn) ?_)
        refine ⟨[(4, 53, (.int .i64 (w64 (64 * d10))))], [5, 6, 7, 4], rfl, rfl, rfl, rfl, ?_⟩
        replace h := bsome h
        obtain ⟨d11, h11, h⟩ := h
        refine ⟨⟨fun _ => ⟨rfl, rfl, rfl, .inl ⟨rfl, (o_p (v := (.int .i64 (w64 (64 * d10)))) rfl ⟨rfl, rfl⟩)⟩⟩, (fun h => nomatch h), (fun h => nomatch h), (fun h => nomatch h), fun _ => ⟨rfl, rfl, rfl, .inl ⟨rfl, (o_p rfl ⟨rfl, rfl⟩)⟩⟩, fun _ => ⟨rfl, rfl, rfl, .inl ⟨rfl, (o_ix (s := s0) (n := 1) (e := (enI .u8)) rfl rfl rfl rfl rfl rfl rm0 q0 hg1129 ⟨rfl, rfl⟩)⟩⟩, fun _ => ⟨rfl, rfl, rfl, .inl ⟨rfl, (o_ldE (s := s0) (e := (enI .u8)) (n := 1) (f := 0) (v := (.int .u8 (rd p1 1))) rfl rm0 q0 hg1129 rfl rfl ⟨rfl, rfl⟩)⟩⟩, trivial⟩, rfl, .inr ⟨[8], rfl, rfl, ⟨rfl, .inl rfl, ?_⟩, trivial⟩⟩
        refine (o_call has147 rfl (c_vitrineref04_Unsix hg X (rd p1 1) _ h11) (pc rm0 pn) ?_)
        refine ⟨[(9, 58, (.int .i64 (w64 ((w64 (64 * d10)) + d11)))), (10, 4, (.int .i64 (w64 ((w64 (64 * d10)) + d11)))), (11, 5, (.int .i64 0))], [4, 9, 10, 11], rfl, rfl, rfl, rfl, ?_⟩
        refine ⟨⟨fun _ => ⟨rfl, rfl, rfl, .inl ⟨rfl, (o_p (v := (.int .i64 (w64 ((w64 (64 * d10)) + d11)))) rfl ⟨rfl, rfl⟩)⟩⟩, fun _ => ⟨rfl, rfl, rfl, .inl ⟨rfl, (o_p rfl ⟨rfl, rfl⟩)⟩⟩, fun _ => ⟨rfl, rfl, rfl, .inl ⟨rfl, (o_p rfl ⟨rfl, rfl⟩)⟩⟩, fun _ => ⟨rfl, rfl, rfl, .inl ⟨rfl, (o_p (v := (.int .i64 (w64 (64 * d10)))) rfl ⟨rfl, rfl⟩)⟩⟩, (fun h => nomatch h), (fun h => nomatch h), (fun h => nomatch h), (fun h => nomatch h), (fun h => nomatch h), (fun h => nomatch h), trivial⟩, rfl, rfl, rfl, ?_⟩
        refine e_seq (c_ret (e_ret ?_))
        refine r_endt rfl rfl (kc rm0 kr) ?_
        obtain rfl := Option.some.inj h
        exact hk

theorem c_vitrineref16_next {g : Gw} (hg : GK g) (X : HP) (p0 : List Int) (s0 : SV) (q0 : Rd X s0 5 (enI .u8) p0) (r : Vvitrineref16_Op × Int × Int) (h : m_vitrineref16_next p0 = some r) : Tri env g 60 (List.toArray [(SV.val s0)]) [X] (fun K R => ∀ (i0 : SV × SV), K (.tuple (List.toArray [(.agg (List.toArray [(.int .i64 r.1.Kind), (.int .i64 r.1.Addr), (.int .u8 r.1.Code), (.bool r.1.Graph), (.int .u8 r.1.FA), (SV.val i0.1), (SV.val i0.2)])), (.int .i64 r.2.1), (.int .i64 r.2.2)])) (X :: slO i0.1 208 en_Vvitrineref05_Pair r.1.Pairs :: slO i0.2 5 (enI .u8) r.1.Text :: R)) := by
 refine tri_of (fn := Tryz.f60) (N := 161) Tryz.func60 rfl rfl rfl ?_
 intro R K hk
 unfold m_vitrineref16_next at h
 change GC _ none _ [] [(0, (SV.val s0))] (X :: R) g _ _
 refine c_seq (c_region ?_)
 refine o1 rfl (o_alloc (cs := [(.int .i64 0), (.int .i64 0), (.int .u8 0), (.bool false), (.int .u8 0), (SV.val SV.nil), (SV.val SV.nil)]) rfl rfl (fun b986 => ?_))
 refine o1 rfl (o_p rfl (o1 rfl (o_p rfl (o_end (e_seq (c_seq (c_region ?_)))))))
 refine o1 rfl (o_p rfl ?_)
 replace h := gsome h
 obtain ⟨hg988, h⟩ := h
 refine o1 rfl (o_ix (s := s0) (n := 0) (e := (enI .u8)) rfl rfl rfl rfl rfl rfl rm1 q0 hg988 ?_)
 refine o1 rfl (o_ldE (s := s0) (e := (enI .u8)) (n := 0) (f := 0) (v := (.int .u8 (rd p0 0))) rfl rm1 q0 hg988 rfl rfl ?_)
 refine o1 rfl (o_p (v := (.int .i64 (w64 ((rd p0 0))))) rfl ?_)
 refine o1 rfl (o_build (fs := [⟨ "Kind", 3, 0, false, "", "", 0⟩, ⟨ "Addr", 3, 1, false, "", "", 8⟩, ⟨ "Code", 5, 2, false, "", "", 16⟩, ⟨ "Graph", 4, 3, false, "", "", 17⟩, ⟨ "FA", 5, 4, false, "", "", 18⟩, ⟨ "Pairs", 54, 5, false, "", "", 24⟩, ⟨ "Text", 46, 6, false, "", "", 48⟩]) (ps := [(0, 1), (1, 1), (2, 1), (3, 1), (4, 1), (5, 1), (6, 1)]) (cs := [(.int .i64 (w64 ((rd p0 0)))), (.int .i64 0), (.int .u8 0), (.bool false), (.int .u8 0), (SV.val SV.nil), (SV.val SV.nil)]) rfl rfl rfl rfl rfl ?_)
 refine o1 rfl (o_alloc (cs := [(.int .i64 0), (.int .i64 0), (.int .u8 0), (.bool false), (.int .u8 0), (SV.val SV.nil), (SV.val SV.nil)]) rfl rfl (fun b989 => ?_))
 refine o0 (o_st (b := b989) (off := 0) (vs := [(.int .i64 (w64 ((rd p0 0)))), (.int .i64 0), (.int .u8 0), (.bool false), (.int .u8 0), (SV.val SV.nil), (SV.val SV.nil)]) (cs' := [(.int .i64 (w64 ((rd p0 0)))), (.int .i64 0), (.int .u8 0), (.bool false), (.int .u8 0), (SV.val SV.nil), (SV.val SV.nil)]) rfl rfl rp0 rfl rfl rfl rfl rfl rfl ?_)
 refine o_end (e_seq (c_seq (c_seq (c_region (o1 rfl (o_p rfl ?_))))))
 replace h := gsome h
 obtain ⟨hg991, h⟩ := h
 refine o1 rfl (o_ix (s := s0) (n := 0) (e := (enI .u8)) rfl rfl rfl rfl rfl rfl rm2 q0 hg991 ?_)
 refine o1 rfl (o_ldE (s := s0) (e := (enI .u8)) (n := 0) (f := 0) (v := (.int .u8 (rd p0 0))) rfl rm2 q0 hg991 rfl rfl ?_)
 replace h := bsome h
 obtain ⟨d1, h1, h⟩ := h
 refine o1 rfl (o_call has106 rfl (c_vitrineref16_Is hg X (rd p0 0) _ h1) (pc rm2 pn) ?_)
 refine o1 rfl (o_p (v := (.bool (!d1))) rfl ?_)
 refine o_end (e_seq ?_)
 refine c_cond (b := (!d1)) rfl (fun hb1009 => ?_) (fun hb1009 => ?_)
 ·replace h := cond_t hb1009 h
  refine c_seq (c_region (o1 rfl (o_p rfl (o_end (e_seq (c_seq ?_))))))
  replace h := bsome h
  obtain ⟨d3, h, hk3⟩ := h
  refine cj (D := Unit) (ι := Unit) (fun _ i3 => True) (fun _ i3 => [(6, (.int .i64 d3)), (2, (.pointer (some ⟨b986, 0, none⟩))), (0, (SV.val s0))]) (fun _ i3 => X :: blk b986 (.cells (List.toArray [(.int .i64 0), (.int .i64 0), (.int .u8 0), (.bool false), (.int .u8 0), (SV.val SV.nil), (SV.val SV.nil)]) 56 (0, 0)) :: R) ?_ ?_
  ·refine c_block ?_
   refine c_loop (l_sub (sc rfl (sc rfl (sc rfl sn))) (l_keep (kc rm0 (kc rm1 (kd kr))) (lf (X := Int) (ι := Unit) (fun k x => vitrineref16_next_l4 p0 k x) _ (fun x4 i4 => True) (fun x4 i4 => [(6, (.int .i64 x4)), (2, (.pointer (some ⟨b986, 0, none⟩))), (0, (SV.val s0))]) (fun x4 i4 => X :: blk b986 (.cells (List.toArray [(.int .i64 0), (.int .i64 0), (.int .u8 0), (.bool false), (.int .u8 0), (SV.val SV.nil), (SV.val SV.nil)]) 56 (0, 0)) :: R) (fun _ => rfl) ?_ fuel 0 () trivial h)))
   clear h
   rintro k4 ih4 x4 i4 _ h
   rw [vitrineref16_next_l4.eq_2] at h
   refine l_round (c_seq (c_seq ?_))
   replace h := bsome h
   obtain ⟨d5, h, hk5⟩ := h
   refine cj (D := Unit) (ι := Unit) (fun _ i5 => True) (fun _ i5 => [(35, (.bool d5)), (6, (.int .i64 x4)), (2, (.pointer (some ⟨b986, 0, none⟩))), (0, (SV.val s0))]) (fun _ i5 => X :: blk b986 (.cells (List.toArray [(.int .i64 0), (.int .i64 0), (.int .u8 0), (.bool false), (.int .u8 0), (SV.val SV.nil), (SV.val SV.nil)]) 56 (0, 0)) :: R) ?_ ?_
   ·refine c_region (o1 rfl (o_p rfl (o1 rfl (o_p rfl ?_))))
    refine o1 rfl (o_len (s := s0) rfl rfl rfl rm0 q0 ?_)
    refine o1 rfl (o_p (v := (.bool (decide (x4 < (p0.length : Int))))) rfl ?_)
    refine o1 rfl (o_p rfl ?_)
    rcases bool_or ((decide (x4 < (p0.length : Int)))) with hb1016 | hb1016
    ·replace h := cond_t hb1016 h
     refine oy rfl rfl rfl hb1016 (o_p rfl ?_)
     refine oy rfl rfl rfl hb1016 (o_p rfl ?_)
     replace h := gsome h
     obtain ⟨hg1017, h⟩ := h
     refine oy rfl rfl rfl hb1016 (o_ix (s := s0) (n := x4) (e := (enI .u8)) rfl rfl rfl rfl rfl rfl rm0 q0 hg1017 ?_)
     refine oy rfl rfl rfl hb1016 (o_ldE (s := s0) (e := (enI .u8)) (n := x4) (f := 0) (v := (.int .u8 (rd p0 x4))) rfl rm0 q0 hg1017 rfl rfl ?_)
     replace h := bsome h
     obtain ⟨d6, h6, h⟩ := h
     refine oy rfl rfl rfl hb1016 (o_call has106 rfl (c_vitrineref16_Is hg X (rd p0 x4) _ h6) (pc rm0 pn) ?_)
     refine oy rfl rfl rfl hb1016 (o_p (v := (.bool (!d6))) rfl ?_)
     refine o1 rfl (o_pick_t rfl hb1016 rfl ?_)
     refine o_end ?_
     obtain rfl := Option.some.inj h
     exact ej () () trivial (sc rfl (sc rfl (sc rfl (sc rfl sn)))) (kc rm0 (kc rm0 kr))
    ·replace h := cond_f hb1016 h
     refine on rfl rfl rfl hb1016 ?_
     refine on rfl rfl rfl hb1016 ?_
     refine on rfl rfl rfl hb1016 ?_
     refine on rfl rfl rfl hb1016 ?_
     refine on rfl rfl rfl hb1016 ?_
     refine on rfl rfl rfl hb1016 ?_
     refine o1 rfl (o_pick_f rfl hb1016 rfl ?_)
     refine o_end ?_
     obtain rfl := Option.some.inj h
     exact ej () () trivial (sc rfl (sc rfl (sc rfl (sc rfl sn)))) (kc rm0 (kc rm0 kr))
   ·rintro _ i5 _
    replace h := hk5
    clear hk5
    refine e_seq ?_
    refine c_cond (b := d5) rfl (fun hb1018 => ?_) (fun hb1018 => ?_)
    ·replace h := cond_t hb1018 h
     refine c_skip (e_seq (c_block (c_region (o1 rfl (o_p rfl ?_)))))
     refine o1 rfl (o_p (v := (.int .i64 (w64 (x4 + 1)))) rfl ?_)
     refine o1 rfl (o_p rfl (o_end (e_blk ?_)))
     exact e_loop (l_sub (sc rfl (sc rfl (sc rfl sn))) (l_keep (kc rm0 (kc rm0 kr)) (ih4 (w64 (x4 + 1)) () trivial h)))
    ·replace h := cond_f hb1018 h
     refine c_exit (e_then_exit (e_then_exit (e_blk_exit ?_)))
     obtain rfl := Option.some.inj h
     exact ej () () trivial (sc rfl (sc rfl (sc rfl sn))) (kc rm0 (kc rm0 kr))
  ·rintro _ i3 _
   replace h := hk3
   clear hk3
   refine e_seq (c_seq (c_region (o1 rfl (o_p rfl (o1 rfl (o_p rfl ?_))))))
   replace h := gsome h
   obtain ⟨hg1019, h⟩ := h
   refine o1 rfl (o_sl (a := 0) (b := d3) (m := none) rfl rfl rfl rfl rfl rm0 q0 rfl rfl rfl (by decide) hg1019 mx_none (fun s1021 hr1020 => ?_))
   replace h := bsome h
   obtain ⟨d8, h8, h⟩ := h
   refine o1 rfl (o_call has24 rfl (c_vitrineref01_Copy hg X (List.take (Int.toNat d3) p0) s1021 hr1020 _ h8) (pc rm0 pn) (fun i8 => ?_))
   refine o1 rfl (o_build (fs := [⟨ "Kind", 3, 0, false, "", "", 0⟩, ⟨ "Addr", 3, 1, false, "", "", 8⟩, ⟨ "Code", 5, 2, false, "", "", 16⟩, ⟨ "Graph", 4, 3, false, "", "", 17⟩, ⟨ "FA", 5, 4, false, "", "", 18⟩, ⟨ "Pairs", 54, 5, false, "", "", 24⟩, ⟨ "Text", 46, 6, false, "", "", 48⟩]) (ps := [(0, 1), (1, 1), (2, 1), (3, 1), (4, 1), (5, 1), (6, 1)]) (cs := [(.int .i64 0), (.int .i64 0), (.int .u8 0), (.bool false), (.int .u8 0), (SV.val SV.nil), (SV.val i8)]) rfl rfl rfl rfl rfl ?_)
   refine o1 rfl (o_p rfl ?_)
   refine o0 (o_st (b := b986) (off := 0) (vs := [(.int .i64 0), (.int .i64 0), (.int .u8 0), (.bool false), (.int .u8 0), (SV.val SV.nil), (SV.val i8)]) (cs' := [(.int .i64 0), (.int .i64 0), (.int .u8 0), (.bool false), (.int .u8 0), (SV.val SV.nil), (SV.val i8)]) rfl rfl rp2 rfl rfl rfl rfl rfl rfl ?_)
   refine o1 rfl (o_p rfl (o1 rfl (o_p rfl (o_end (e_seq (c_ret (e_then_ret ?_)))))))
   refine e_ret ?_
   refine r_add (slO SV.nil 208 en_Vvitrineref05_Pair []) (slO_nil _ _ _) ?_
   refine r_endc (B := [[(.int .i64 0), (.int .i64 0), (.int .u8 0), (.bool false), (.int .u8 0), (SV.val SV.nil), (SV.val i8)]]) rfl ⟨⟨_, _, _, _, rfl, rm3⟩, trivial⟩ rfl (kc rm1 (kc rm0 (kc rm0 (kd kr)))) ?_
   obtain rfl := Option.some.inj h
   exact hk (SV.nil, i8)
 ·replace h := cond_f hb1009 h
  refine c_skip (e_seq (c_seq (c_region (o1 rfl (o_p rfl (o_end ?_))))))
  refine e_seq (c_seq (c_seq (c_region ?_)))
  refine o1 rfl (o_fa (fd := ⟨ "Kind", 3, 0, false, "", "", 0⟩) rfl rfl rfl rfl rfl ?_)
  refine o1 rfl (o_ld (b := b989) (off := 0) (v := (.int .i64 (w64 ((rd p0 0))))) rfl rm1 rfl rfl ?_)
  refine o_end (e_seq (c_block (c_seq (c_seq (c_region ?_)))))
  refine o1 rfl (o_p (v := (.bool ((w64 ((rd p0 0))) == 17))) rfl ?_)
  refine o1 rfl (o_p rfl (o_end (e_seq ?_)))
  replace h := bsome h
  obtain ⟨d10, h, hk10⟩ := h
  refine cj (D := Unit) (ι := Unit) (fun _ i10 => True) (fun _ i10 => [(46, (.bool d10)), (45, (.int .i64 (w64 ((rd p0 0))))), (7, (.int .i64 1)), (5, (.pointer (some ⟨b989, 0, none⟩))), (2, (.pointer (some ⟨b986, 0, none⟩))), (0, (SV.val s0))]) (fun _ i10 => X :: blk b989 (.cells (List.toArray [(.int .i64 (w64 ((rd p0 0)))), (.int .i64 0), (.int .u8 0), (.bool false), (.int .u8 0), (SV.val SV.nil), (SV.val SV.nil)]) 56 (0, 0)) :: blk b986 (.cells (List.toArray [(.int .i64 0), (.int .i64 0), (.int .u8 0), (.bool false), (.int .u8 0), (SV.val SV.nil), (SV.val SV.nil)]) 56 (0, 0)) :: R) ?_ ?_
  ·refine c_cond (b := ((w64 ((rd p0 0))) == 17)) rfl (fun hb1023 => ?_) (fun hb1023 => ?_)
   ·replace h := cond_t hb1023 h
    refine c_skip ?_
    obtain rfl := Option.some.inj h
    exact ej () () trivial (sc rfl (sc rfl (sc rfl (sc rfl (sc rfl (sc rfl sn)))))) (kc rm0 (kc rm0 (kc rm0 kr)))
   ·replace h := cond_f hb1023 h
    refine c_seq (c_region ?_)
    refine o1 rfl (o_p (v := (.bool ((w64 ((rd p0 0))) == 18))) rfl ?_)
    refine o1 rfl (o_p rfl (o_end (e_seq ?_)))
    refine c_cond (b := ((w64 ((rd p0 0))) == 18)) rfl (fun hb1024 => ?_) (fun hb1024 => ?_)
    ·replace h := cond_t hb1024 h
     refine c_skip ?_
     obtain rfl := Option.some.inj h
     exact ej () () trivial (sc rfl (sc rfl (sc rfl (sc rfl (sc rfl (sc rfl sn)))))) (kc rm0 (kc rm0 (kc rm0 kr)))
    ·replace h := cond_f hb1024 h
     refine c_region ?_
     refine o1 rfl (o_p (v := (.bool ((w64 ((rd p0 0))) == 40))) rfl ?_)
     refine o1 rfl (o_p rfl (o_end ?_))
     obtain rfl := Option.some.inj h
     exact ej () () trivial (sc rfl (sc rfl (sc rfl (sc rfl (sc rfl (sc rfl sn)))))) (kc rm0 (kc rm0 (kc rm0 kr)))
  ·rintro _ i10 _
   replace h := hk10
   clear hk10
   refine e_seq ?_
   replace h := jn_some h
   obtain ⟨y11, h, hk11⟩ := h
   refine cj (D := Int) (ι := Unit) (fun d11 i11 => y11 = Sum.inl d11) (fun d11 i11 => [(7, (.int .i64 d11)), (5, (.pointer (some ⟨b989, 0, none⟩))), (2, (.pointer (some ⟨b986, 0, none⟩))), (0, (SV.val s0))]) (fun d11 i11 => X :: blk b989 (.cells (List.toArray [(.int .i64 (w64 ((rd p0 0)))), (.int .i64 0), (.int .u8 0), (.bool false), (.int .u8 0), (SV.val SV.nil), (SV.val SV.nil)]) 56 (0, 0)) :: blk b986 (.cells (List.toArray [(.int .i64 0), (.int .i64 0), (.int .u8 0), (.bool false), (.int .u8 0), (SV.val SV.nil), (SV.val SV.nil)]) 56 (0, 0)) :: R) ?_ ?_
   ·refine c_cond (b := d10) rfl (fun hb1025 => ?_) (fun hb1025 => ?_)
    ·replace h := cond_t hb1025 h
     refine c_region (o1 rfl (o_p rfl (o_end ?_)))
     obtain rfl := Option.some.inj h
     exact ej 3 () rfl (sc rfl (sc rfl (sc rfl (sc rfl sn)))) (kc rm0 (kc rm0 (kc rm0 kr)))
    ·replace h := cond_f hb1025 h
     refine c_seq (c_region ?_)
     refine o1 rfl (o_p (v := (.bool ((w64 ((rd p0 0))) == 60))) rfl ?_)
     refine o1 rfl (o_p rfl (o_end (e_seq ?_)))
     refine c_cond (b := ((w64 ((rd p0 0))) == 60)) rfl (fun hb1026 => ?_) (fun hb1026 => ?_)
     ·replace h := cond_t hb1026 h
      refine c_region (o1 rfl (o_p rfl (o_end ?_)))
      obtain rfl := Option.some.inj h
      exact ej 4 () rfl (sc rfl (sc rfl (sc rfl (sc rfl sn)))) (kc rm0 (kc rm0 (kc rm0 kr)))
     ·replace h := cond_f hb1026 h
      refine c_seq (c_seq (c_region ?_))
      refine o1 rfl (o_p (v := (.bool ((w64 ((rd p0 0))) == 29))) rfl ?_)
      refine o1 rfl (o_p rfl (o_end (e_seq ?_)))
      replace h := bsome h
      obtain ⟨d12, h, hk12⟩ := h
      refine cj (D := Unit) (ι := Unit) (fun _ i12 => True) (fun _ i12 => [(52, (.bool d12)), (45, (.int .i64 (w64 ((rd p0 0))))), (7, (.int .i64 1)), (5, (.pointer (some ⟨b989, 0, none⟩))), (2, (.pointer (some ⟨b986, 0, none⟩))), (0, (SV.val s0))]) (fun _ i12 => X :: blk b989 (.cells (List.toArray [(.int .i64 (w64 ((rd p0 0)))), (.int .i64 0), (.int .u8 0), (.bool false), (.int .u8 0), (SV.val SV.nil), (SV.val SV.nil)]) 56 (0, 0)) :: blk b986 (.cells (List.toArray [(.int .i64 0), (.int .i64 0), (.int .u8 0), (.bool false), (.int .u8 0), (SV.val SV.nil), (SV.val SV.nil)]) 56 (0, 0)) :: R) ?_ ?_
      ·refine c_cond (b := ((w64 ((rd p0 0))) == 29)) rfl (fun hb1027 => ?_) (fun hb1027 => ?_)
       ·replace h := cond_t hb1027 h
        refine c_skip ?_
        obtain rfl := Option.some.inj h
        exact ej () () trivial (sc rfl (sc rfl (sc rfl (sc rfl (sc rfl (sc rfl sn)))))) (kc rm0 (kc rm0 (kc rm0 kr)))
       ·replace h := cond_f hb1027 h
        refine c_region ?_
        refine o1 rfl (o_p (v := (.bool ((w64 ((rd p0 0))) == 8))) rfl ?_)
        refine o1 rfl (o_p rfl (o_end ?_))
        obtain rfl := Option.some.inj h
        exact ej () () trivial (sc rfl (sc rfl (sc rfl (sc rfl (sc rfl (sc rfl sn)))))) (kc rm0 (kc rm0 (kc rm0 kr)))
      ·rintro _ i12 _
       replace h := hk12
       clear hk12
       refine e_seq ?_
       refine c_cond (b := d12) rfl (fun hb1028 => ?_) (fun hb1028 => ?_)
       ·replace h := cond_t hb1028 h
        refine c_region (o1 rfl (o_p rfl (o_end ?_)))
        obtain rfl := Option.some.inj h
        exact ej 2 () rfl (sc rfl (sc rfl (sc rfl (sc rfl sn)))) (kc rm0 (kc rm0 (kc rm0 kr)))
       ·replace h := cond_f hb1028 h
        refine c_seq (c_seq (c_region ?_))
        refine o1 rfl (o_p (v := (.bool ((w64 ((rd p0 0))) == 41))) rfl ?_)
        refine o1 rfl (o_p rfl (o_end (e_seq ?_)))
        replace h := bsome h
        obtain ⟨d13, h, hk13⟩ := h
        refine cj (D := Unit) (ι := Unit) (fun _ i13 => True) (fun _ i13 => [(55, (.bool d13)), (7, (.int .i64 1)), (5, (.pointer (some ⟨b989, 0, none⟩))), (2, (.pointer (some ⟨b986, 0, none⟩))), (0, (SV.val s0))]) (fun _ i13 => X :: blk b989 (.cells (List.toArray [(.int .i64 (w64 ((rd p0 0)))), (.int .i64 0), (.int .u8 0), (.bool false), (.int .u8 0), (SV.val SV.nil), (SV.val SV.nil)]) 56 (0, 0)) :: blk b986 (.cells (List.toArray [(.int .i64 0), (.int .i64 0), (.int .u8 0), (.bool false), (.int .u8 0), (SV.val SV.nil), (SV.val SV.nil)]) 56 (0, 0)) :: R) ?_ ?_
        ·refine c_cond (b := ((w64 ((rd p0 0))) == 41)) rfl (fun hb1029 => ?_) (fun hb1029 => ?_)
         ·replace h := cond_t hb1029 h
          refine c_skip ?_
          obtain rfl := Option.some.inj h
          exact ej () () trivial (sc rfl (sc rfl (sc rfl (sc rfl (sc rfl sn))))) (kc rm0 (kc rm0 (kc rm0 kr)))
         ·replace h := cond_f hb1029 h
          refine c_region ?_
          refine o1 rfl (o_p (v := (.bool ((w64 ((rd p0 0))) == 44))) rfl ?_)
          refine o1 rfl (o_p rfl (o_end ?_))
          obtain rfl := Option.some.inj h
          exact ej () () trivial (sc rfl (sc rfl (sc rfl (sc rfl (sc rfl sn))))) (kc rm0 (kc rm0 (kc rm0 kr)))
        ·rintro _ i13 _
         replace h := hk13
         clear hk13
         refine e_seq ?_
         refine c_cond (b := d13) rfl (fun hb1030 => ?_) (fun hb1030 => ?_)
         ·replace h := cond_t hb1030 h
          refine c_seq (c_region (o1 rfl (o_p rfl ?_)))
          replace h := gsome h
          obtain ⟨hg1031, h⟩ := h
          refine o1 rfl (o_sl (a := 1) (b := (p0.length : Int)) (m := none) rfl rfl rfl rfl rfl rm0 q0 rfl rfl rfl (by decide) hg1031 mx_none (fun s1033 hr1032 => ?_))
          replace hr1032 := rd_tk hr1032
          replace h := bsome h
          obtain ⟨d14, h14, h⟩ := h
          refine o1 rfl (o_call has107 rfl (c_vitrineref05_Parse hg X (List.drop 1 p0) s1033 hr1032 _ h14) (pc rm0 pn) (fun i14 => ?_))
          refine o1 rfl (o_p rfl (o1 rfl (o_p rfl (o1 rfl (o_p rfl (o1 rfl (o_p rfl (o1 rfl (o_p rfl (o1 rfl (o_p rfl ?_)))))))))))
          refine o1 rfl (o_p rfl (o_end (e_seq (c_seq (c_region (o1 rfl (o_p rfl ?_)))))))
          refine o1 rfl (o_fa (fd := ⟨ "Pairs", 54, 5, false, "", "", 24⟩) rfl rfl rfl rfl rfl ?_)
          refine o0 (o_st (b := b989) (off := 5) (vs := [(SV.val i14)]) (cs' := [(.int .i64 (w64 ((rd p0 0)))), (.int .i64 0), (.int .u8 0), (.bool false), (.int .u8 0), (SV.val i14), (SV.val SV.nil)]) rfl rfl rp2 rfl rfl rfl rfl rfl rfl ?_)
          refine o_end (e_seq (c_seq (c_region ?_)))
          refine o1 rfl (o_ld (b := b989) (off := 0) (v := (.agg (List.toArray [(.int .i64 (w64 ((rd p0 0)))), (.int .i64 0), (.int .u8 0), (.bool false), (.int .u8 0), (SV.val i14), (SV.val SV.nil)]))) rfl rm2 rfl rfl ?_)
          refine o1 rfl (o_p rfl ?_)
          refine o1 rfl (o_p (v := (.int .i64 (w64 (1 + d14.2.1)))) rfl ?_)
          refine o1 rfl (o_p rfl ?_)
          refine o0 (o_st (b := b986) (off := 0) (vs := [(.int .i64 (w64 ((rd p0 0)))), (.int .i64 0), (.int .u8 0), (.bool false), (.int .u8 0), (SV.val i14), (SV.val SV.nil)]) (cs' := [(.int .i64 (w64 ((rd p0 0)))), (.int .i64 0), (.int .u8 0), (.bool false), (.int .u8 0), (SV.val i14), (SV.val SV.nil)]) rfl rfl rp3 rfl rfl rfl rfl rfl rfl ?_)
          refine o1 rfl (o_p rfl (o1 rfl (o_p rfl (o_end (e_seq (c_ret (ej_ret ?_)))))))
          replace h := esc_some h
          obtain ⟨z11, h, rfl⟩ := h
          obtain rfl := (hk11 : z11 = _)
          refine e_blk_ret (e_then_ret (e_ret ?_))
          refine r_add (slO SV.nil 5 (enI .u8) []) (slO_nil _ _ _) ?_
          refine r_endc (B := [[(.int .i64 (w64 ((rd p0 0)))), (.int .i64 0), (.int .u8 0), (.bool false), (.int .u8 0), (SV.val i14), (SV.val SV.nil)]]) rfl ⟨⟨_, _, _, _, rfl, rm4⟩, trivial⟩ rfl (kc rm1 (kc rm1 (kc rm0 (kd (kd kr))))) ?_
          obtain rfl := Option.some.inj h
          exact hk (i14, SV.nil)
         ·replace h := cond_f hb1030 h
          refine c_skip ?_
          obtain rfl := Option.some.inj h
          exact ej 1 () rfl (sc rfl (sc rfl (sc rfl (sc rfl sn)))) (kc rm0 (kc rm0 (kc rm0 kr)))
   ·rintro d11 i11 rfl
    replace h := JK_inl hk11
    clear hk11
    refine e_blk (e_seq (c_seq (c_seq ?_)))
    replace h := bsome h
    obtain ⟨d15, h, hk15⟩ := h
    refine cj (D := Unit) (ι := Unit) (fun _ i15 => True) (fun _ i15 => [(83, (.bool d15)), (7, (.int .i64 d11)), (5, (.pointer (some ⟨b989, 0, none⟩))), (2, (.pointer (some ⟨b986, 0, none⟩))), (0, (SV.val s0))]) (fun _ i15 => X :: blk b989 (.cells (List.toArray [(.int .i64 (w64 ((rd p0 0)))), (.int .i64 0), (.int .u8 0), (.bool false), (.int .u8 0), (SV.val SV.nil), (SV.val SV.nil)]) 56 (0, 0)) :: blk b986 (.cells (List.toArray [(.int .i64 0), (.int .i64 0), (.int .u8 0), (.bool false), (.int .u8 0), (SV.val SV.nil), (SV.val SV.nil)]) 56 (0, 0)) :: R) ?_ ?_
    ·refine c_region ?_
     refine o1 rfl (o_fa (fd := ⟨ "Kind", 3, 0, false, "", "", 0⟩) rfl rfl rfl rfl rfl ?_)
     refine o1 rfl (o_ld (b := b989) (off := 0) (v := (.int .i64 (w64 ((rd p0 0))))) rfl rm1 rfl rfl ?_)
     refine o1 rfl (o_p (v := (.bool ((w64 ((rd p0 0))) == 17))) rfl ?_)
     refine o1 rfl (o_p rfl ?_)
     rcases bool_or (((w64 ((rd p0 0))) == 17)) with hb1109 | hb1109
     ·replace h := cond_t hb1109 h
      refine on rfl rfl rfl hb1109 ?_
      refine on rfl rfl rfl hb1109 ?_
      refine on rfl rfl rfl hb1109 ?_
      refine o1 rfl (o_pick_t rfl hb1109 rfl ?_)
      refine o1 rfl (o_p rfl ?_)
      refine on rfl rfl rfl rfl ?_
      refine on rfl rfl rfl rfl ?_
      refine on rfl rfl rfl rfl ?_
      refine o1 rfl (o_pick_t rfl rfl rfl ?_)
      refine o_end ?_
      obtain rfl := Option.some.inj h
      exact ej () () trivial (sc rfl (sc rfl (sc rfl (sc rfl (sc rfl sn))))) (kc rm0 (kc rm0 (kc rm0 kr)))
     ·replace h := cond_f hb1109 h
      refine oy rfl rfl rfl hb1109 (o_fa (fd := ⟨ "Kind", 3, 0, false, "", "", 0⟩) rfl rfl rfl rfl rfl ?_)
      refine oy rfl rfl rfl hb1109 (o_ld (b := b989) (off := 0) (v := (.int .i64 (w64 ((rd p0 0))))) rfl rm1 rfl rfl ?_)
      refine oy rfl rfl rfl hb1109 (o_p (v := (.bool ((w64 ((rd p0 0))) == 18))) rfl ?_)
      refine o1 rfl (o_pick_f rfl hb1109 rfl ?_)
      refine o1 rfl (o_p rfl ?_)
      rcases bool_or (((w64 ((rd p0 0))) == 18)) with hb1110 | hb1110
      ·replace h := cond_t hb1110 h
       refine on rfl rfl rfl hb1110 ?_
       refine on rfl rfl rfl hb1110 ?_
       refine on rfl rfl rfl hb1110 ?_
       refine o1 rfl (o_pick_t rfl hb1110 rfl ?_)
       refine o_end ?_
       obtain rfl := Option.some.inj h
       exact ej () () trivial (sc rfl (sc rfl (sc rfl (sc rfl (sc rfl sn))))) (kc rm0 (kc rm0 (kc rm0 kr)))
      ·replace h := cond_f hb1110 h
       refine oy rfl rfl rfl hb1110 (o_fa (fd := ⟨ "Kind", 3, 0, false, "", "", 0⟩) rfl rfl rfl rfl rfl ?_)
       refine oy rfl rfl rfl hb1110 (o_ld (b := b989) (off := 0) (v := (.int .i64 (w64 ((rd p0 0))))) rfl rm1 rfl rfl ?_)
       refine oy rfl rfl rfl hb1110 (o_p (v := (.bool ((w64 ((rd p0 0))) == 60))) rfl ?_)
       refine o1 rfl (o_pick_f rfl hb1110 rfl ?_)
       refine o_end ?_
       obtain rfl := Option.some.inj h
       exact ej () () trivial (sc rfl (sc rfl (sc rfl (sc rfl (sc rfl sn))))) (kc rm0 (kc rm0 (kc rm0 kr)))
    ·rintro _ i15 _
     replace h := hk15
     clear hk15
     refine e_seq ?_
     replace h := jn_some h
     obtain ⟨y16, h, hk16⟩ := h
     refine cj (D := Int) (ι := Unit) (fun d16 i16 => y16 = Sum.inl d16) (fun d16 i16 => [(7, (.int .i64 d11)), (5, (.pointer (some ⟨b989, 0, none⟩))), (2, (.pointer (some ⟨b986, 0, none⟩))), (0, (SV.val s0))]) (fun d16 i16 => X :: blk b989 (.cells (List.toArray [(.int .i64 (w64 ((rd p0 0)))), (.int .i64 d16), (.int .u8 0), (.bool false), (.int .u8 0), (SV.val SV.nil), (SV.val SV.nil)]) 56 (0, 0)) :: blk b986 (.cells (List.toArray [(.int .i64 0), (.int .i64 0), (.int .u8 0), (.bool false), (.int .u8 0), (SV.val SV.nil), (SV.val SV.nil)]) 56 (0, 0)) :: R) ?_ ?_
     ·refine c_cond (b := d15) rfl (fun hb1111 => ?_) (fun hb1111 => ?_)
      ·replace h := cond_t hb1111 h
       refine c_seq (c_region (o1 rfl (o_p rfl ?_)))
       replace h := gsome h
       obtain ⟨hg1112, h⟩ := h
       refine o1 rfl (o_sl (a := 1) (b := (p0.length : Int)) (m := none) rfl rfl rfl rfl rfl rm0 q0 rfl rfl rfl (by decide) hg1112 mx_none (fun s1114 hr1113 => ?_))
       replace hr1113 := rd_tk hr1113
       replace h := bsome h
       obtain ⟨d17, h17, h⟩ := h
       refine o1 rfl (o_call has108 rfl (c_vitrineref04_Decode hg X 12 (List.drop 1 p0) s1114 hr1113 _ h17) (pc rm0 pn) ?_)
       refine o1 rfl (o_p rfl (o1 rfl (o_p rfl (o1 rfl (o_p rfl (o1 rfl (o_p rfl (o1 rfl (o_p rfl (o_end ?_))))))))))
       refine e_seq (c_seq (c_seq (c_region (o1 rfl (o_p rfl ?_)))))
       refine o1 rfl (o_p (v := (.bool (d17.2 != 0))) rfl ?_)
       refine o_end (e_seq ?_)
       refine c_cond (b := (d17.2 != 0)) rfl (fun hb1151 => ?_) (fun hb1151 => ?_)
       ·replace h := cond_t hb1151 h
        refine c_seq (c_region ?_)
        refine o1 rfl (o_build (fs := [⟨ "Kind", 3, 0, false, "", "", 0⟩, ⟨ "Addr", 3, 1, false, "", "", 8⟩, ⟨ "Code", 5, 2, false, "", "", 16⟩, ⟨ "Graph", 4, 3, false, "", "", 17⟩, ⟨ "FA", 5, 4, false, "", "", 18⟩, ⟨ "Pairs", 54, 5, false, "", "", 24⟩, ⟨ "Text", 46, 6, false, "", "", 48⟩]) (ps := [(0, 1), (1, 1), (2, 1), (3, 1), (4, 1), (5, 1), (6, 1)]) (cs := [(.int .i64 0), (.int .i64 0), (.int .u8 0), (.bool false), (.int .u8 0), (SV.val SV.nil), (SV.val SV.nil)]) rfl rfl rfl rfl rfl ?_)
        refine o1 rfl (o_p rfl ?_)
        refine o0 (o_st (b := b986) (off := 0) (vs := [(.int .i64 0), (.int .i64 0), (.int .u8 0), (.bool false), (.int .u8 0), (SV.val SV.nil), (SV.val SV.nil)]) (cs' := [(.int .i64 0), (.int .i64 0), (.int .u8 0), (.bool false), (.int .u8 0), (SV.val SV.nil), (SV.val SV.nil)]) rfl rfl rp2 rfl rfl rfl rfl rfl rfl ?_)
        refine o1 rfl (o_p rfl (o1 rfl (o_p rfl (o_end (e_seq (c_ret (e_then_ret ?_)))))))
        refine ej_ret ?_
        replace h := esc_some h
        obtain ⟨z16, h, rfl⟩ := h
        obtain rfl := (hk16 : z16 = _)
        refine e_then_ret (e_ret ?_)
        refine r_add (slO SV.nil 208 en_Vvitrineref05_Pair []) (slO_nil _ _ _) ?_
        refine r_add (slO SV.nil 5 (enI .u8) []) (slO_nil _ _ _) ?_
        refine r_endc (B := [[(.int .i64 0), (.int .i64 0), (.int .u8 0), (.bool false), (.int .u8 0), (SV.val SV.nil), (SV.val SV.nil)]]) rfl ⟨⟨_, _, _, _, rfl, rm4⟩, trivial⟩ rfl (kc rm2 (kc rm1 (kc rm0 (kd (kd kr))))) ?_
        obtain rfl := Option.some.inj h
        exact hk (SV.nil, SV.nil)
       ·replace h := cond_f hb1151 h
        refine c_skip (e_seq (c_region (o1 rfl (o_p rfl ?_))))
        refine o1 rfl (o_fa (fd := ⟨ "Addr", 3, 1, false, "", "", 8⟩) rfl rfl rfl rfl rfl ?_)
        refine o0 (o_st (b := b989) (off := 1) (vs := [(.int .i64 d17.1)]) (cs' := [(.int .i64 (w64 ((rd p0 0)))), (.int .i64 d17.1), (.int .u8 0), (.bool false), (.int .u8 0), (SV.val SV.nil), (SV.val SV.nil)]) rfl rfl rp1 rfl rfl rfl rfl rfl rfl ?_)
        refine o_end ?_
        obtain rfl := Option.some.inj h
        exact ej d17.1 () rfl (sc rfl (sc rfl (sc rfl (sc rfl sn)))) (kc rm0 (kc rm0 (kc rm0 kr)))
      ·replace h := cond_f hb1111 h
       refine c_skip ?_
       obtain rfl := Option.some.inj h
       exact ej 0 () rfl (sc rfl (sc rfl (sc rfl (sc rfl sn)))) (kc rm0 (kc rm0 (kc rm0 kr)))
     ·rintro d16 i16 rfl
      replace h := JK_inl hk16
      clear hk16
      refine e_seq (c_seq (c_seq (c_region (o1 rfl (o_p rfl ?_)))))
      refine o1 rfl (o_len (s := s0) rfl rfl rfl rm0 q0 ?_)
      refine o1 rfl (o_p rfl ?_)
      refine o1 rfl (o_p (v := (.bool (decide ((p0.length : Int) < d11)))) rfl ?_)
      refine o_end (e_seq ?_)
      refine c_cond (b := (decide ((p0.length : Int) < d11))) rfl (fun hb1152 => ?_) (fun hb1152 => ?_)
      ·replace h := cond_t hb1152 h
       refine c_seq (c_region ?_)
       refine o1 rfl (o_build (fs := [⟨ "Kind", 3, 0, false, "", "", 0⟩, ⟨ "Addr", 3, 1, false, "", "", 8⟩, ⟨ "Code", 5, 2, false, "", "", 16⟩, ⟨ "Graph", 4, 3, false, "", "", 17⟩, ⟨ "FA", 5, 4, false, "", "", 18⟩, ⟨ "Pairs", 54, 5, false, "", "", 24⟩, ⟨ "Text", 46, 6, false, "", "", 48⟩]) (ps := [(0, 1), (1, 1), (2, 1), (3, 1), (4, 1), (5, 1), (6, 1)]) (cs := [(.int .i64 0), (.int .i64 0), (.int .u8 0), (.bool false), (.int .u8 0), (SV.val SV.nil), (SV.val SV.nil)]) rfl rfl rfl rfl rfl ?_)
       refine o0 (o_st (b := b986) (off := 0) (vs := [(.int .i64 0), (.int .i64 0), (.int .u8 0), (.bool false), (.int .u8 0), (SV.val SV.nil), (SV.val SV.nil)]) (cs' := [(.int .i64 0), (.int .i64 0), (.int .u8 0), (.bool false), (.int .u8 0), (SV.val SV.nil), (SV.val SV.nil)]) rfl rfl rp2 rfl rfl rfl rfl rfl rfl ?_)
       refine o1 rfl (o_p rfl (o1 rfl (o_p rfl (o_end (e_seq (c_ret (e_then_ret ?_)))))))
       refine e_ret ?_
       refine r_add (slO SV.nil 208 en_Vvitrineref05_Pair []) (slO_nil _ _ _) ?_
       refine r_add (slO SV.nil 5 (enI .u8) []) (slO_nil _ _ _) ?_
       refine r_endc (B := [[(.int .i64 0), (.int .i64 0), (.int .u8 0), (.bool false), (.int .u8 0), (SV.val SV.nil), (SV.val SV.nil)]]) rfl ⟨⟨_, _, _, _, rfl, rm4⟩, trivial⟩ rfl (kc rm2 (kc rm1 (kc rm0 (kd (kd kr))))) ?_
       obtain rfl := Option.some.inj h
       exact hk (SV.nil, SV.nil)
      ·replace h := cond_f hb1152 h
       refine c_skip (e_seq (c_seq (c_seq (c_region ?_))))
       refine o1 rfl (o_fa (fd := ⟨ "Kind", 3, 0, false, "", "", 0⟩) rfl rfl rfl rfl rfl ?_)
       refine o1 rfl (o_ld (b := b989) (off := 0) (v := (.int .i64 (w64 ((rd p0 0))))) rfl rm1 rfl rfl ?_)
       refine o_end (e_seq (c_block (c_seq (c_region ?_))))
       refine o1 rfl (o_p (v := (.bool ((w64 ((rd p0 0))) == 60))) rfl ?_)
       refine o1 rfl (o_p rfl (o_end (e_seq ?_)))
       replace h := jn_some h
       obtain ⟨y21, h, hk21⟩ := h
       refine cj (D := Int × Int × Bool × Int × (List Vvitrineref05_Pair)) (ι := SV) (fun d21 i21 => y21 = Sum.inl d21) (fun d21 i21 => [(7, (.int .i64 d21.1)), (5, (.pointer (some ⟨b989, 0, none⟩))), (2, (.pointer (some ⟨b986, 0, none⟩)))]) (fun d21 i21 => X :: blk b989 (.cells (List.toArray [(.int .i64 (w64 ((rd p0 0)))), (.int .i64 d16), (.int .u8 d21.2.1), (.bool d21.2.2.1), (.int .u8 d21.2.2.2.1), (SV.val i21), (SV.val SV.nil)]) 56 (0, 0)) :: blk b986 (.cells (List.toArray [(.int .i64 0), (.int .i64 0), (.int .u8 0), (.bool false), (.int .u8 0), (SV.val SV.nil), (SV.val SV.nil)]) 56 (0, 0)) :: slO i21 208 en_Vvitrineref05_Pair d21.2.2.2.2 :: R) ?_ ?_
       ·refine c_cond (b := ((w64 ((rd p0 0))) == 60)) rfl (fun hb1153 => ?_) (fun hb1153 => ?_)
        ·replace h := cond_t hb1153 h
         refine c_seq (c_region (o1 rfl (o_p rfl ?_)))
         replace h := gsome h
         obtain ⟨hg1154, h⟩ := h
         refine o1 rfl (o_ix (s := s0) (n := 3) (e := (enI .u8)) rfl rfl rfl rfl rfl rfl rm0 q0 hg1154 ?_)
         refine o1 rfl (o_ldE (s := s0) (e := (enI .u8)) (n := 3) (f := 0) (v := (.int .u8 (rd p0 3))) rfl rm0 q0 hg1154 rfl rfl ?_)
         refine o1 rfl (o_fa (fd := ⟨ "Code", 5, 2, false, "", "", 16⟩) rfl rfl rfl rfl rfl ?_)
         refine o0 (o_st (b := b989) (off := 2) (vs := [(.int .u8 (rd p0 3))]) (cs' := [(.int .i64 (w64 ((rd p0 0)))), (.int .i64 d16), (.int .u8 (rd p0 3)), (.bool false), (.int .u8 0), (SV.val SV.nil), (SV.val SV.nil)]) rfl rfl rp1 rfl rfl rfl rfl rfl rfl ?_)
         refine o_end (e_seq (c_seq (c_seq (c_region (o1 rfl (o_p rfl ?_))))))
         replace h := gsome h
         obtain ⟨hg1155, h⟩ := h
         refine o1 rfl (o_ix (s := s0) (n := 3) (e := (enI .u8)) rfl rfl rfl rfl rfl rfl rm0 q0 hg1155 ?_)
         refine o1 rfl (o_ldE (s := s0) (e := (enI .u8)) (n := 3) (f := 0) (v := (.int .u8 (rd p0 3))) rfl rm0 q0 hg1155 rfl rfl ?_)
         refine o1 rfl (o_p (v := (.bool ((rd p0 3) == 8))) rfl ?_)
         refine o_end (e_seq ?_)
         replace h := jn_some h
         obtain ⟨y22, h, hk22⟩ := h
         refine cj (D := Int × Int × Bool) (ι := Unit) (fun d22 i22 => y22 = Sum.inl d22) (fun d22 i22 => [(7, (.int .i64 d22.1)), (5, (.pointer (some ⟨b989, 0, none⟩))), (2, (.pointer (some ⟨b986, 0, none⟩)))]) (fun d22 i22 => X :: blk b989 (.cells (List.toArray [(.int .i64 (w64 ((rd p0 0)))), (.int .i64 d16), (.int .u8 d22.2.1), (.bool d22.2.2), (.int .u8 0), (SV.val SV.nil), (SV.val SV.nil)]) 56 (0, 0)) :: blk b986 (.cells (List.toArray [(.int .i64 0), (.int .i64 0), (.int .u8 0), (.bool false), (.int .u8 0), (SV.val SV.nil), (SV.val SV.nil)]) 56 (0, 0)) :: R) ?_ ?_
         ·refine c_cond (b := ((rd p0 3) == 8)) rfl (fun hb1156 => ?_) (fun hb1156 => ?_)
          ·replace h := cond_t hb1156 h
           refine c_seq (c_seq (c_region (o1 rfl (o_p rfl ?_))))
           refine o1 rfl (o_len (s := s0) rfl rfl rfl rm0 q0 ?_)
           refine o1 rfl (o_p (v := (.bool (decide ((p0.length : Int) < 5)))) rfl ?_)
           refine o_end (e_seq ?_)
           refine c_cond (b := (decide ((p0.length : Int) < 5))) rfl (fun hb1157 => ?_) (fun hb1157 => ?_)
           ·replace h := cond_t hb1157 h
            refine c_seq (c_region ?_)
            refine o1 rfl (o_build (fs := [⟨ "Kind", 3, 0, false, "", "", 0⟩, ⟨ "Addr", 3, 1, false, "", "", 8⟩, ⟨ "Code", 5, 2, false, "", "", 16⟩, ⟨ "Graph", 4, 3, false, "", "", 17⟩, ⟨ "FA", 5, 4, false, "", "", 18⟩, ⟨ "Pairs", 54, 5, false, "", "", 24⟩, ⟨ "Text", 46, 6, false, "", "", 48⟩]) (ps := [(0, 1), (1, 1), (2, 1), (3, 1), (4, 1), (5, 1), (6, 1)]) (cs := [(.int .i64 0), (.int .i64 0), (.int .u8 0), (.bool false), (.int .u8 0), (SV.val SV.nil), (SV.val SV.nil)]) rfl rfl rfl rfl rfl ?_)
            refine o0 (o_st (b := b986) (off := 0) (vs := [(.int .i64 0), (.int .i64 0), (.int .u8 0), (.bool false), (.int .u8 0), (SV.val SV.nil), (SV.val SV.nil)]) (cs' := [(.int .i64 0), (.int .i64 0), (.int .u8 0), (.bool false), (.int .u8 0), (SV.val SV.nil), (SV.val SV.nil)]) rfl rfl rp2 rfl rfl rfl rfl rfl rfl ?_)
            refine o1 rfl (o_p rfl (o1 rfl (o_p rfl (o_end (e_seq (c_ret (e_then_ret ?_)))))))
            refine ej_ret ?_
            replace h := esc_some h
            obtain ⟨z22, h, rfl⟩ := h
            obtain rfl := (hk22 : z22 = _)
            refine e_then_ret (ej_ret ?_)
            replace h := esc_some h
            obtain ⟨z21, h, rfl⟩ := h
            obtain rfl := (hk21 : z21 = _)
            refine e_blk_ret (e_then_ret (e_ret ?_))
            refine r_add (slO SV.nil 208 en_Vvitrineref05_Pair []) (slO_nil _ _ _) ?_
            refine r_add (slO SV.nil 5 (enI .u8) []) (slO_nil _ _ _) ?_
            refine r_endc (B := [[(.int .i64 0), (.int .i64 0), (.int .u8 0), (.bool false), (.int .u8 0), (SV.val SV.nil), (SV.val SV.nil)]]) rfl ⟨⟨_, _, _, _, rfl, rm4⟩, trivial⟩ rfl (kc rm2 (kc rm1 (kc rm0 (kd (kd kr))))) ?_
            obtain rfl := Option.some.inj h
            exact hk (SV.nil, SV.nil)
           ·replace h := cond_f hb1157 h
            refine c_skip (e_seq (c_region (o1 rfl (o_p rfl ?_))))
            replace h := gsome h
            obtain ⟨hg1158, h⟩ := h
            refine o1 rfl (o_ix (s := s0) (n := 4) (e := (enI .u8)) rfl rfl rfl rfl rfl rfl rm0 q0 hg1158 ?_)
            refine o1 rfl (o_ldE (s := s0) (e := (enI .u8)) (n := 4) (f := 0) (v := (.int .u8 (rd p0 4))) rfl rm0 q0 hg1158 rfl rfl ?_)
            refine o1 rfl (o_fa (fd := ⟨ "Code", 5, 2, false, "", "", 16⟩) rfl rfl rfl rfl rfl ?_)
            refine o0 (o_st (b := b989) (off := 2) (vs := [(.int .u8 (rd p0 4))]) (cs' := [(.int .i64 (w64 ((rd p0 0)))), (.int .i64 d16), (.int .u8 (rd p0 4)), (.bool false), (.int .u8 0), (SV.val SV.nil), (SV.val SV.nil)]) rfl rfl rp1 rfl rfl rfl rfl rfl rfl ?_)
            refine o1 rfl (o_fa (fd := ⟨ "Graph", 4, 3, false, "", "", 17⟩) rfl rfl rfl rfl rfl ?_)
            refine o0 (o_st (b := b989) (off := 3) (vs := [(.bool true)]) (cs' := [(.int .i64 (w64 ((rd p0 0)))), (.int .i64 d16), (.int .u8 (rd p0 4)), (.bool true), (.int .u8 0), (SV.val SV.nil), (SV.val SV.nil)]) rfl rfl rp1 rfl rfl rfl rfl rfl rfl ?_)
            refine o1 rfl (o_p rfl (o_end ?_))
            obtain rfl := Option.some.inj h
            exact ej (5, (rd p0 4), true) () rfl (sc rfl (sc rfl (sc rfl sn))) (kc rm0 (kc rm0 (kc rm0 kr)))
          ·replace h := cond_f hb1156 h
           refine c_skip ?_
           obtain rfl := Option.some.inj h
           exact ej (d11, (rd p0 3), false) () rfl (sc rfl (sc rfl (sc rfl sn))) (kc rm0 (kc rm0 (kc rm0 kr)))
         ·rintro d22 i22 rfl
          replace h := JK_inl hk22
          clear hk22
          refine e_seq (c_seq (c_region ?_))
          refine o1 rfl (o_fa (fd := ⟨ "Code", 5, 2, false, "", "", 16⟩) rfl rfl rfl rfl rfl ?_)
          refine o1 rfl (o_ld (b := b989) (off := 2) (v := (.int .u8 d22.2.1)) rfl rm1 rfl rfl ?_)
          replace h := bsome h
          obtain ⟨d24, h24, h⟩ := h
          refine o1 rfl (o_call has106 rfl (c_vitrineref16_Is hg X d22.2.1 _ h24) (pc rm0 pn) ?_)
          refine o_end (e_seq ?_)
          refine c_cond (b := d24) rfl (fun hb1159 => ?_) (fun hb1159 => ?_)
          ·replace h := cond_t hb1159 h
           refine c_seq (c_region ?_)
           refine o1 rfl (o_build (fs := [⟨ "Kind", 3, 0, false, "", "", 0⟩, ⟨ "Addr", 3, 1, false, "", "", 8⟩, ⟨ "Code", 5, 2, false, "", "", 16⟩, ⟨ "Graph", 4, 3, false, "", "", 17⟩, ⟨ "FA", 5, 4, false, "", "", 18⟩, ⟨ "Pairs", 54, 5, false, "", "", 24⟩, ⟨ "Text", 46, 6, false, "", "", 48⟩]) (ps := [(0, 1), (1, 1), (2, 1), (3, 1), (4, 1), (5, 1), (6, 1)]) (cs := [(.int .i64 0), (.int .i64 0), (.int .u8 0), (.bool false), (.int .u8 0), (SV.val SV.nil), (SV.val SV.nil)]) rfl rfl rfl rfl rfl ?_)
           refine o0 (o_st (b := b986) (off := 0) (vs := [(.int .i64 0), (.int .i64 0), (.int .u8 0), (.bool false), (.int .u8 0), (SV.val SV.nil), (SV.val SV.nil)]) (cs' := [(.int .i64 0), (.int .i64 0), (.int .u8 0), (.bool false), (.int .u8 0), (SV.val SV.nil), (SV.val SV.nil)]) rfl rfl rp2 rfl rfl rfl rfl rfl rfl ?_)
           refine o1 rfl (o_p rfl (o1 rfl (o_p rfl (o_end (e_seq (c_ret (ej_ret ?_)))))))
           replace h := esc_some h
           obtain ⟨z21, h, rfl⟩ := h
           obtain rfl := (hk21 : z21 = _)
           refine e_blk_ret (e_then_ret (e_ret ?_))
           refine r_add (slO SV.nil 208 en_Vvitrineref05_Pair []) (slO_nil _ _ _) ?_
           refine r_add (slO SV.nil 5 (enI .u8) []) (slO_nil _ _ _) ?_
           refine r_endc (B := [[(.int .i64 0), (.int .i64 0), (.int .u8 0), (.bool false), (.int .u8 0), (SV.val SV.nil), (SV.val SV.nil)]]) rfl ⟨⟨_, _, _, _, rfl, rm4⟩, trivial⟩ rfl (kc rm2 (kc rm1 (kc rm0 (kd (kd kr))))) ?_
           obtain rfl := Option.some.inj h
           exact hk (SV.nil, SV.nil)
          ·replace h := cond_f hb1159 h
           refine c_skip ?_
           refine e_add (slO SV.nil 208 en_Vvitrineref05_Pair []) (slO_nil _ _ _) ?_
           obtain rfl := Option.some.inj h
           exact ej (d22.1, d22.2.1, d22.2.2, 0, ([] : List Vvitrineref05_Pair)) SV.nil rfl (sc rfl (sc rfl (sc rfl sn))) (kc rm1 (kc rm1 (kc rm1 (kc rm0 kr))))
        ·replace h := cond_f hb1153 h
         refine c_seq (c_region ?_)
         refine o1 rfl (o_p (v := (.bool ((w64 ((rd p0 0))) == 29))) rfl ?_)
         refine o1 rfl (o_p rfl (o_end (e_seq ?_)))
         refine c_cond (b := ((w64 ((rd p0 0))) == 29)) rfl (fun hb1160 => ?_) (fun hb1160 => ?_)
         ·replace h := cond_t hb1160 h
          refine c_region (o1 rfl (o_p rfl ?_))
          replace h := gsome h
          obtain ⟨hg1161, h⟩ := h
          refine o1 rfl (o_ix (s := s0) (n := 1) (e := (enI .u8)) rfl rfl rfl rfl rfl rfl rm0 q0 hg1161 ?_)
          refine o1 rfl (o_ldE (s := s0) (e := (enI .u8)) (n := 1) (f := 0) (v := (.int .u8 (rd p0 1))) rfl rm0 q0 hg1161 rfl rfl ?_)
          refine o1 rfl (o_fa (fd := ⟨ "FA", 5, 4, false, "", "", 18⟩) rfl rfl rfl rfl rfl ?_)
          refine o0 (o_st (b := b989) (off := 4) (vs := [(.int .u8 (rd p0 1))]) (cs' := [(.int .i64 (w64 ((rd p0 0)))), (.int .i64 d16), (.int .u8 0), (.bool false), (.int .u8 (rd p0 1)), (SV.val SV.nil), (SV.val SV.nil)]) rfl rfl rp1 rfl rfl rfl rfl rfl rfl ?_)
          refine o_end ?_
          refine e_add (slO SV.nil 208 en_Vvitrineref05_Pair []) (slO_nil _ _ _) ?_
          obtain rfl := Option.some.inj h
          exact ej (d11, 0, false, (rd p0 1), ([] : List Vvitrineref05_Pair)) SV.nil rfl (sc rfl (sc rfl (sc rfl sn))) (kc rm1 (kc rm1 (kc rm1 (kc rm0 kr))))
         ·replace h := cond_f hb1160 h
          refine c_seq (c_region ?_)
          refine o1 rfl (o_p (v := (.bool ((w64 ((rd p0 0))) == 8))) rfl ?_)
          refine o1 rfl (o_p rfl (o_end (e_seq ?_)))
          refine c_cond (b := ((w64 ((rd p0 0))) == 8)) rfl (fun hb1162 => ?_) (fun hb1162 => ?_)
          ·replace h := cond_t hb1162 h
           refine c_seq (c_seq (c_region (o1 rfl (o_p rfl ?_))))
           replace h := gsome h
           obtain ⟨hg1163, h⟩ := h
           refine o1 rfl (o_ix (s := s0) (n := 1) (e := (enI .u8)) rfl rfl rfl rfl rfl rfl rm0 q0 hg1163 ?_)
           refine o1 rfl (o_ldE (s := s0) (e := (enI .u8)) (n := 1) (f := 0) (v := (.int .u8 (rd p0 1))) rfl rm0 q0 hg1163 rfl rfl ?_)
           replace h := bsome h
           obtain ⟨d25, h25, h⟩ := h
           refine o1 rfl (o_call has106 rfl (c_vitrineref16_Is hg X (rd p0 1) _ h25) (pc rm0 pn) ?_)
           refine o_end (e_seq ?_)
           refine c_cond (b := d25) rfl (fun hb1164 => ?_) (fun hb1164 => ?_)
           ·replace h := cond_t hb1164 h
            refine c_seq (c_region ?_)
            refine o1 rfl (o_build (fs := [⟨ "Kind", 3, 0, false, "", "", 0⟩, ⟨ "Addr", 3, 1, false, "", "", 8⟩, ⟨ "Code", 5, 2, false, "", "", 16⟩, ⟨ "Graph", 4, 3, false, "", "", 17⟩, ⟨ "FA", 5, 4, false, "", "", 18⟩, ⟨ "Pairs", 54, 5, false, "", "", 24⟩, ⟨ "Text", 46, 6, false, "", "", 48⟩]) (ps := [(0, 1), (1, 1), (2, 1), (3, 1), (4, 1), (5, 1), (6, 1)]) (cs := [(.int .i64 0), (.int .i64 0), (.int .u8 0), (.bool false), (.int .u8 0), (SV.val SV.nil), (SV.val SV.nil)]) rfl rfl rfl rfl rfl ?_)
            refine o0 (o_st (b := b986) (off := 0) (vs := [(.int .i64 0), (.int .i64 0), (.int .u8 0), (.bool false), (.int .u8 0), (SV.val SV.nil), (SV.val SV.nil)]) (cs' := [(.int .i64 0), (.int .i64 0), (.int .u8 0), (.bool false), (.int .u8 0), (SV.val SV.nil), (SV.val SV.nil)]) rfl rfl rp2 rfl rfl rfl rfl rfl rfl ?_)
            refine o1 rfl (o_p rfl (o1 rfl (o_p rfl (o_end (e_seq (c_ret (e_then_ret ?_)))))))
            refine ej_ret ?_
            replace h := esc_some h
            obtain ⟨z21, h, rfl⟩ := h
            obtain rfl := (hk21 : z21 = _)
            refine e_blk_ret (e_then_ret (e_ret ?_))
            refine r_add (slO SV.nil 208 en_Vvitrineref05_Pair []) (slO_nil _ _ _) ?_
            refine r_add (slO SV.nil 5 (enI .u8) []) (slO_nil _ _ _) ?_
            refine r_endc (B := [[(.int .i64 0), (.int .i64 0), (.int .u8 0), (.bool false), (.int .u8 0), (SV.val SV.nil), (SV.val SV.nil)]]) rfl ⟨⟨_, _, _, _, rfl, rm4⟩, trivial⟩ rfl (kc rm2 (kc rm1 (kc rm0 (kd (kd kr))))) ?_
            obtain rfl := Option.some.inj h
            exact hk (SV.nil, SV.nil)
           ·replace h := cond_f hb1164 h
            refine c_skip (e_seq (c_region (o1 rfl (o_p rfl ?_))))
            replace h := gsome h
            obtain ⟨hg1165, h⟩ := h
            refine o1 rfl (o_ix (s := s0) (n := 1) (e := (enI .u8)) rfl rfl rfl rfl rfl rfl rm0 q0 hg1165 ?_)
            refine o1 rfl (o_ldE (s := s0) (e := (enI .u8)) (n := 1) (f := 0) (v := (.int .u8 (rd p0 1))) rfl rm0 q0 hg1165 rfl rfl ?_)
            refine o1 rfl (o_fa (fd := ⟨ "Code", 5, 2, false, "", "", 16⟩) rfl rfl rfl rfl rfl ?_)
            refine o0 (o_st (b := b989) (off := 2) (vs := [(.int .u8 (rd p0 1))]) (cs' := [(.int .i64 (w64 ((rd p0 0)))), (.int .i64 d16), (.int .u8 (rd p0 1)), (.bool false), (.int .u8 0), (SV.val SV.nil), (SV.val SV.nil)]) rfl rfl rp1 rfl rfl rfl rfl rfl rfl ?_)
            refine o_end ?_
            refine e_add (slO SV.nil 208 en_Vvitrineref05_Pair []) (slO_nil _ _ _) ?_
            obtain rfl := Option.some.inj h
            exact ej (d11, (rd p0 1), false, 0, ([] : List Vvitrineref05_Pair)) SV.nil rfl (sc rfl (sc rfl (sc rfl sn))) (kc rm1 (kc rm1 (kc rm1 (kc rm0 kr))))
          ·replace h := cond_f hb1162 h
           refine c_seq (c_region ?_)
           refine o1 rfl (o_p (v := (.bool ((w64 ((rd p0 0))) == 40))) rfl ?_)
           refine o1 rfl (o_p rfl (o_end (e_seq ?_)))
           refine c_cond (b := ((w64 ((rd p0 0))) == 40)) rfl (fun hb1166 => ?_) (fun hb1166 => ?_)
           ·replace h := cond_t hb1166 h
            refine c_seq ?_
            replace h := gsome h
            obtain ⟨hg1167, h⟩ := h
            replace h := gsome h
            obtain ⟨hg1168, h⟩ := h
            refine c_draw (n := 2) (q := [(0, 145, (SV.val s0)), (1, 146, (.pointer (some ⟨SV.blk s0, SV.off s0 + Int.toNat 1 * 1, none⟩))), (2, 147, (.int .u8 (rd p0 1))), (3, 148, (SV.val s0)), (4, 149, (.pointer (some ⟨SV.blk s0, SV.off s0 + Int.toNat 2 * 1, none⟩))), (5, 150, (.int .u8 (rd p0 2))), (6, 151, (.agg (List.toArray [(.int .u8 (rd p0 1)), (.int .u8 (rd p0 2))])))]) (pend := [0, 1, 2, 3, 4, 5, 6]) rfl rfl rfl ?_
            refine ⟨⟨fun _ => ⟨rfl, rfl, rfl, .inl ⟨rfl, (o_p rfl ⟨rfl, rfl⟩)⟩⟩, fun _ => ⟨rfl, rfl, rfl, .inl ⟨rfl, (o_ix (s := s0) (n := 1) (e := (enI .u8)) rfl rfl rfl rfl rfl rfl rm0 q0 hg1167 ⟨rfl, rfl⟩)⟩⟩, fun _ => ⟨rfl, rfl, rfl, .inl ⟨rfl, (o_ldE (s := s0) (e := (enI .u8)) (n := 1) (f := 0) (v := (.int .u8 (rd p0 1))) rfl rm0 q0 hg1167 rfl rfl ⟨rfl, rfl⟩)⟩⟩, fun _ => ⟨rfl, rfl, rfl, .inl ⟨rfl, (o_p rfl ⟨rfl, rfl⟩)⟩⟩, fun _ => ⟨rfl, rfl, rfl, .inl ⟨rfl, (o_ix (s := s0) (n := 2) (e := (enI .u8)) rfl rfl rfl rfl rfl rfl rm0 q0 hg1168 ⟨rfl, rfl⟩)⟩⟩, fun _ => ⟨rfl, rfl, rfl, .inl ⟨rfl, (o_ldE (s := s0) (e := (enI .u8)) (n := 2) (f := 0) (v := (.int .u8 (rd p0 2))) rfl rm0 q0 hg1168 rfl rfl ⟨rfl, rfl⟩)⟩⟩, fun _ => ⟨rfl, rfl, rfl, .inl ⟨rfl, (o_build (fs := [⟨ "Type", 5, 0, false, "", "", 0⟩, ⟨ "Value", 5, 1, false, "", "", 1⟩]) (ps := [(0, 1), (1, 1)]) (cs := [(.int .u8 (rd p0 1)), (.int .u8 (rd p0 2))]) rfl rfl rfl rfl rfl ⟨rfl, rfl⟩)⟩⟩, trivial⟩, rfl, .inr ⟨[7], rfl, rfl, ⟨rfl, .inl rfl, ?_⟩, trivial⟩⟩
            refine (o_alloc (cs := [(.int .u8 0), (.int .u8 0)]) rfl rfl (fun b1169 => ?_))
            refine ⟨[], [0, 1, 2, 3, 4, 5, 6], rfl, rfl, rfl, rfl, ?_⟩
            refine ⟨⟨fun _ => ⟨rfl, rfl, rfl, .inl ⟨rfl, (o_p rfl ⟨rfl, rfl⟩)⟩⟩, fun _ => ⟨rfl, rfl, rfl, .inl ⟨rfl, (o_ix (s := s0) (n := 1) (e := (enI .u8)) rfl rfl rfl rfl rfl rfl rm1 q0 hg1167 ⟨rfl, rfl⟩)⟩⟩, fun _ => ⟨rfl, rfl, rfl, .inl ⟨rfl, (o_ldE (s := s0) (e := (enI .u8)) (n := 1) (f := 0) (v := (.int .u8 (rd p0 1))) rfl rm1 q0 hg1167 rfl rfl ⟨rfl, rfl⟩)⟩⟩, fun _ => ⟨rfl, rfl, rfl, .inl ⟨rfl, (o_p rfl ⟨rfl, rfl⟩)⟩⟩, fun _ => ⟨rfl, rfl, rfl, .inl ⟨rfl, (o_ix (s := s0) (n := 2) (e := (enI .u8)) rfl rfl rfl rfl rfl rfl rm1 q0 hg1168 ⟨rfl, rfl⟩)⟩⟩, fun _ => ⟨rfl, rfl, rfl, .inl ⟨rfl, (o_ldE (s := s0) (e := (enI .u8)) (n := 2) (f := 0) (v := (.int .u8 (rd p0 2))) rfl rm1 q0 hg1168 rfl rfl ⟨rfl, rfl⟩)⟩⟩, fun _ => ⟨rfl, rfl, rfl, .inl ⟨rfl, (o_build (fs := [⟨ "Type", 5, 0, false, "", "", 0⟩, ⟨ "Value", 5, 1, false, "", "", 1⟩]) (ps := [(0, 1), (1, 1)]) (cs := [(.int .u8 (rd p0 1)), (.int .u8 (rd p0 2))]) rfl rfl rfl rfl rfl ⟨rfl, rfl⟩)⟩⟩, trivial⟩, rfl, .inr ⟨[8], rfl, rfl, ⟨rfl, .inl rfl, ?_⟩, trivial⟩⟩
            refine (o_st (b := b1169) (off := 0) (vs := [(.int .u8 (rd p0 1)), (.int .u8 (rd p0 2))]) (cs' := [(.int .u8 (rd p0 1)), (.int .u8 (rd p0 2))]) rfl rfl rp0 rfl rfl rfl rfl rfl rfl ?_)
            refine ⟨[], [], rfl, rfl, ?_⟩
            refine ⟨⟨(fun h => nomatch h), (fun h => nomatch h), (fun h => nomatch h), (fun h => nomatch h), (fun h => nomatch h), (fun h => nomatch h), (fun h => nomatch h), trivial⟩, rfl, rfl, rfl, ?_⟩
            refine e_seq (c_seq (c_seq (c_region ?_)))
            refine o1 rfl (o_ld (b := b1169) (off := 0) (v := (.agg (List.toArray [(.int .u8 (rd p0 1)), (.int .u8 (rd p0 2))]))) rfl rm0 rfl rfl ?_)
            replace h := bsome h
            obtain ⟨d28, h28, h⟩ := h
            refine o1 rfl (o_call has109 rfl (c_vitrineref05_Right hg X (⟨(rd p0 1), (rd p0 2)⟩ : Vvitrineref05_Pair) _ h28) (pc rm1 pn) ?_)
            refine o1 rfl (o_p (v := (.bool (!d28))) rfl ?_)
            refine o_end (e_seq ?_)
            refine c_cond (b := (!d28)) rfl (fun hb1171 => ?_) (fun hb1171 => ?_)
            ·replace h := cond_t hb1171 h
             refine c_seq (c_region ?_)
             refine o1 rfl (o_build (fs := [⟨ "Kind", 3, 0, false, "", "", 0⟩, ⟨ "Addr", 3, 1, false, "", "", 8⟩, ⟨ "Code", 5, 2, false, "", "", 16⟩, ⟨ "Graph", 4, 3, false, "", "", 17⟩, ⟨ "FA", 5, 4, false, "", "", 18⟩, ⟨ "Pairs", 54, 5, false, "", "", 24⟩, ⟨ "Text", 46, 6, false, "", "", 48⟩]) (ps := [(0, 1), (1, 1), (2, 1), (3, 1), (4, 1), (5, 1), (6, 1)]) (cs := [(.int .i64 0), (.int .i64 0), (.int .u8 0), (.bool false), (.int .u8 0), (SV.val SV.nil), (SV.val SV.nil)]) rfl rfl rfl rfl rfl ?_)
             refine o0 (o_st (b := b986) (off := 0) (vs := [(.int .i64 0), (.int .i64 0), (.int .u8 0), (.bool false), (.int .u8 0), (SV.val SV.nil), (SV.val SV.nil)]) (cs' := [(.int .i64 0), (.int .i64 0), (.int .u8 0), (.bool false), (.int .u8 0), (SV.val SV.nil), (SV.val SV.nil)]) rfl rfl rp3 rfl rfl rfl rfl rfl rfl ?_)
             refine o1 rfl (o_p rfl (o1 rfl (o_p rfl (o_end (e_seq (c_ret (e_then_ret ?_)))))))
             refine ej_ret ?_
             replace h := esc_some h
             obtain ⟨z21, h, rfl⟩ := h
             obtain rfl := (hk21 : z21 = _)
             refine e_blk_ret (e_then_ret (e_ret ?_))
             refine r_add (slO SV.nil 208 en_Vvitrineref05_Pair []) (slO_nil _ _ _) ?_
             refine r_add (slO SV.nil 5 (enI .u8) []) (slO_nil _ _ _) ?_
             refine r_endc (B := [[(.int .i64 0), (.int .i64 0), (.int .u8 0), (.bool false), (.int .u8 0), (SV.val SV.nil), (SV.val SV.nil)]]) rfl ⟨⟨_, _, _, _, rfl, rm5⟩, trivial⟩ rfl (kc rm2 (kc rm1 (kc rm0 (kd (kd (kd kr)))))) ?_
             obtain rfl := Option.some.inj h
             exact hk (SV.nil, SV.nil)
            ·replace h := cond_f hb1171 h
             refine c_skip (e_seq (c_region ?_))
             refine o1 rfl (o_ld (b := b1169) (off := 0) (v := (.agg (List.toArray [(.int .u8 (rd p0 1)), (.int .u8 (rd p0 2))]))) rfl rm1 rfl rfl ?_)
             refine o1 rfl (o_bs (e := en_Vvitrineref05_Pair) (l := [(⟨(rd p0 1), (rd p0 2)⟩ : Vvitrineref05_Pair)]) (zs := [(.int .u8 0), (.int .u8 0)]) rfl rfl rfl rfl rfl rfl rfl rfl rfl rfl (fun s1172 => ?_))
             refine o1 rfl (o_fa (fd := ⟨ "Pairs", 54, 5, false, "", "", 24⟩) rfl rfl rfl rfl rfl ?_)
             refine o0 (o_st (b := b989) (off := 5) (vs := [(SV.val s1172)]) (cs' := [(.int .i64 (w64 ((rd p0 0)))), (.int .i64 d16), (.int .u8 0), (.bool false), (.int .u8 0), (SV.val s1172), (SV.val SV.nil)]) rfl rfl rp3 rfl rfl rfl rfl rfl rfl ?_)
             refine o_end ?_
             obtain rfl := Option.some.inj h
             exact ej (d11, 0, false, 0, [(⟨(rd p0 1), (rd p0 2)⟩ : Vvitrineref05_Pair)]) s1172 rfl (sc rfl (sc rfl (sc rfl sn))) (kc rm1 (kc rm2 (kc rm2 (kc rm0 (kd kr)))))
           ·replace h := cond_f hb1166 h
            refine c_skip ?_
            refine e_add (slO SV.nil 208 en_Vvitrineref05_Pair []) (slO_nil _ _ _) ?_
            obtain rfl := Option.some.inj h
            exact ej (d11, 0, false, 0, ([] : List Vvitrineref05_Pair)) SV.nil rfl (sc rfl (sc rfl (sc rfl sn))) (kc rm1 (kc rm1 (kc rm1 (kc rm0 kr))))
       ·rintro d21 i21 rfl
        replace h := JK_inl hk21
        clear hk21
        refine e_blk (e_seq (c_seq (c_region ?_)))
        refine o1 rfl (o_ld (b := b989) (off := 0) (v := (.agg (List.toArray [(.int .i64 (w64 ((rd p0 0)))), (.int .i64 d16), (.int .u8 d21.2.1), (.bool d21.2.2.1), (.int .u8 d21.2.2.2.1), (SV.val i21), (SV.val SV.nil)]))) rfl rm1 rfl rfl ?_)
        refine o1 rfl (o_p rfl ?_)
        refine o0 (o_st (b := b986) (off := 0) (vs := [(.int .i64 (w64 ((rd p0 0)))), (.int .i64 d16), (.int .u8 d21.2.1), (.bool d21.2.2.1), (.int .u8 d21.2.2.2.1), (SV.val i21), (SV.val SV.nil)]) (cs' := [(.int .i64 (w64 ((rd p0 0)))), (.int .i64 d16), (.int .u8 d21.2.1), (.bool d21.2.2.1), (.int .u8 d21.2.2.2.1), (SV.val i21), (SV.val SV.nil)]) rfl rfl rp2 rfl rfl rfl rfl rfl rfl ?_)
        refine o1 rfl (o_p rfl (o1 rfl (o_p rfl (o_end (e_seq (c_ret (e_ret ?_)))))))
        refine r_add (slO SV.nil 5 (enI .u8) []) (slO_nil _ _ _) ?_
        refine r_endc (B := [[(.int .i64 (w64 ((rd p0 0)))), (.int .i64 d16), (.int .u8 d21.2.1), (.bool d21.2.2.1), (.int .u8 d21.2.2.2.1), (SV.val i21), (SV.val SV.nil)]]) rfl ⟨⟨_, _, _, _, rfl, rm3⟩, trivial⟩ rfl (kc rm1 (kc rm3 (kc rm0 (kd (kd kr))))) ?_
        obtain rfl := Option.some.inj h
        exact hk (i21, SV.nil)

theorem c_vitrineref16_All {g : Gw} (hg : GK g) (X : HP) (p0 : List Int) (s0 : SV) (q0 : Rd X s0 5 (enI .u8) p0) (r : (List Vvitrineref16_Op) × Int × Int) (h : m_vitrineref16_All p0 = some r) : Tri env g 22 (List.toArray [(SV.val s0)]) [X] (fun K R => ∀ (i0 : HP × SV × (List (Vvitrineref16_Op × SV × SV))), (NL (D_Vvitrineref16_Op i0.1) i0.2.2 r.1) → (Ext X i0.1) → K (.tuple (List.toArray [(SV.val i0.2.1), (.int .i64 r.2.1), (.int .i64 r.2.2)])) (i0.1 :: slO i0.2.1 56 en_Vvitrineref16_Op i0.2.2 :: R)) := by
 refine tri_of (fn := Tryz.f22) (N := 36) Tryz.func22 rfl rfl rfl ?_
 intro R K hk
 unfold m_vitrineref16_All at h
 change GC _ none _ [] [(0, (SV.val s0))] (X :: R) g _ _
 refine c_seq (c_region (o1 rfl (o_p rfl (o1 rfl (o_p rfl (o1 rfl (o_p rfl (o_end ?_))))))))
 refine e_seq (c_seq (c_region (o1 rfl (o_p rfl (o_end (e_seq ?_))))))
 refine c_seq (c_region (o1 rfl (o_p rfl (o_end (e_seq (c_seq ?_))))))
 replace h := jn_some h
 obtain ⟨y1, h, hk1⟩ := h
 refine cj (D := Int × (List Vvitrineref16_Op)) (ι := HP × SV × (List (Vvitrineref16_Op × SV × SV))) (fun d1 i1 => (y1 = Sum.inl d1) ∧ (NL (D_Vvitrineref16_Op i1.1) i1.2.2 d1.2) ∧ (Ext X i1.1)) (fun d1 i1 => [(6, (.int .i64 d1.1)), (5, (SV.val i1.2.1))]) (fun d1 i1 => i1.1 :: slO i1.2.1 56 en_Vvitrineref16_Op i1.2.2 :: R) ?_ ?_
 ·refine c_block ?_
  refine c_add (slO SV.nil 56 en_Vvitrineref16_Op []) (slO_nil _ _ _) ?_
  refine c_loop (l_sub (sc rfl (sc rfl (sc rfl sn))) (l_keep (kc rm1 (kc rm0 kr)) (lf (X := Int × (List Vvitrineref16_Op)) (ι := HP × SV × (List (Vvitrineref16_Op × SV × SV))) (fun k x => vitrineref16_All_l2 p0 k x) _ (fun x2 i2 => (NL (D_Vvitrineref16_Op i2.1) i2.2.2 x2.2) ∧ (Rd i2.1 s0 5 (enI .u8) p0) ∧ (Ext X i2.1)) (fun x2 i2 => [(6, (.int .i64 x2.1)), (5, (SV.val i2.2.1)), (0, (SV.val s0))]) (fun x2 i2 => i2.1 :: slO i2.2.1 56 en_Vvitrineref16_Op i2.2.2 :: R) (fun _ => rfl) ?_ fuel (0, ([] : List Vvitrineref16_Op)) (X, SV.nil, []) ⟨NL.nil, q0, (Ext.refl _)⟩ h)))
  clear h
  rintro k2 ih2 x2 i2 ⟨f2_0, f2_1, f2_2⟩ h
  rw [vitrineref16_All_l2.eq_2] at h
  refine l_round (c_seq (c_seq (c_region (o1 rfl (o_p rfl (o1 rfl (o_p rfl ?_)))))))
  refine o1 rfl (o_len (s := s0) rfl rfl rfl rm0 f2_1 ?_)
  refine o1 rfl (o_p (v := (.bool (decide (x2.1 < (p0.length : Int))))) rfl ?_)
  refine o_end (e_seq ?_)
  refine c_cond (b := (decide (x2.1 < (p0.length : Int)))) rfl (fun hb1235 => ?_) (fun hb1235 => ?_)
  ·replace h := cond_t hb1235 h
   refine c_skip (e_seq (c_block (c_seq (c_region (o1 rfl (o_p rfl ?_))))))
   refine o1 rfl (o_p rfl ?_)
   replace h := gsome h
   obtain ⟨hg1236, h⟩ := h
   refine o1 rfl (o_sl (a := x2.1) (b := (p0.length : Int)) (m := none) rfl rfl rfl rfl rfl rm0 f2_1 rfl rfl rfl (by decide) hg1236 mx_none (fun s1238 hr1237 => ?_))
   replace hr1237 := rd_tk hr1237
   replace h := bsome h
   obtain ⟨d4, h4, h⟩ := h
   refine o1 rfl (o_call has60 rfl (c_vitrineref16_next hg i2.1 (List.drop (Int.toNat x2.1) p0) s1238 hr1237 _ h4) (pc rm0 pn) (fun i4 => ?_))
   refine o1 rfl (o_p rfl (o1 rfl (o_p rfl (o1 rfl (o_p rfl (o1 rfl (o_p rfl ?_)))))))
   refine o1 rfl (o_alloc (cs := [(.int .i64 0), (.int .i64 0), (.int .u8 0), (.bool false), (.int .u8 0), (SV.val SV.nil), (SV.val SV.nil)]) rfl rfl (fun b1241 => ?_))
   refine o0 (o_st (b := b1241) (off := 0) (vs := [(.int .i64 d4.1.Kind), (.int .i64 d4.1.Addr), (.int .u8 d4.1.Code), (.bool d4.1.Graph), (.int .u8 d4.1.FA), (SV.val i4.1), (SV.val i4.2)]) (cs' := [(.int .i64 d4.1.Kind), (.int .i64 d4.1.Addr), (.int .u8 d4.1.Code), (.bool d4.1.Graph), (.int .u8 d4.1.FA), (SV.val i4.1), (SV.val i4.2)]) rfl rfl rp0 rfl rfl rfl rfl rfl rfl ?_)
   refine o1 rfl (o_p rfl (o1 rfl (o_p rfl (o_end (e_seq (c_seq (c_seq ?_)))))))
   refine c_region (o1 rfl (o_p rfl ?_))
   refine o1 rfl (o_p (v := (.bool (d4.2.2 != 0))) rfl ?_)
   refine o_end (e_seq ?_)
   refine c_cond (b := (d4.2.2 != 0)) rfl (fun hb1243 => ?_) (fun hb1243 => ?_)
   ·replace h := cond_t hb1243 h
    refine c_seq (c_region (o1 rfl (o_p rfl (o1 rfl (o_p rfl (o1 rfl (o_p rfl (o1 rfl (o_p rfl ?_)))))))))
    refine o1 rfl (o_p rfl (o1 rfl (o_p rfl (o_end (e_seq (c_ret (e_then_ret ?_)))))))
    refine e_blk_ret (e_then_ret (e_blk_ret (ej_ret ?_)))
    replace h := esc_some h
    obtain ⟨z1, h, rfl⟩ := h
    obtain rfl := (hk1 : z1 = _)
    refine e_then_ret (e_ret ?_)
    refine r_endt rfl rfl (kc rm1 (kc rm3 (kd (kd (kd kr))))) ?_
    obtain rfl := Option.some.inj h
    exact hk (i2.1, i2.2.1, i2.2.2) f2_0 f2_2
   ·replace h := cond_f hb1243 h
    refine c_skip (e_seq (c_seq (c_region (o1 rfl (o_p rfl ?_)))))
    refine o1 rfl (o_ld (b := b1241) (off := 0) (v := (.agg (List.toArray [(.int .i64 d4.1.Kind), (.int .i64 d4.1.Addr), (.int .u8 d4.1.Code), (.bool d4.1.Graph), (.int .u8 d4.1.FA), (SV.val i4.1), (SV.val i4.2)]))) rfl rm0 rfl rfl ?_)
    refine o_fz rm2 rm1 (fun X1244 hx1245 hs1246 => ?_)
    refine o_fz rm2 rm0 (fun X1247 hx1248 hs1249 => ?_)
    refine o1 rfl (o_bs (e := en_Vvitrineref16_Op) (l := [(d4.1, (i4.1, i4.2))]) (zs := [(.int .i64 0), (.int .i64 0), (.int .u8 0), (.bool false), (.int .u8 0), (SV.val SV.nil), (SV.val SV.nil)]) rfl rfl rfl rfl rfl rfl rfl rfl rfl rfl (fun s1250 => ?_))
    replace h := gsome h
    obtain ⟨hg1252, h⟩ := h
    refine o1 rfl (o_app (s := i2.2.1) (r := s1250) (e := en_Vvitrineref16_Op) (l := i2.2.2) (l2 := [(d4.1, (i4.1, i4.2))]) (zs := [(.int .i64 0), (.int .i64 0), (.int .u8 0), (.bool false), (.int .u8 0), (SV.val SV.nil), (SV.val SV.nil)]) rfl rfl rfl rfl rfl rfl rfl rfl rfl rfl rfl rm3 rm0 (rd_own _ _ _ _) (len2 (D := D_Vvitrineref16_Op X1247) (D' := D_Vvitrineref16_Op X1247) (NL.mono f2_0 (D_Vvitrineref16_Op.ext (Ext.trans hx1245 hx1248))) (NL.cons (D := D_Vvitrineref16_Op X1247) (x := d4.1) (s := (i4.1, i4.2)) ⟨(Rd.ext hs1246 hx1248), hs1249⟩ NL.nil) hg1252) (fun s1253 => ?_))
    refine o1 rfl (o_p rfl (o_end (e_seq (c_region (o1 rfl (o_p rfl (o1 rfl (o_p rfl ?_))))))))
    refine o1 rfl (o_p (v := (.int .i64 (w64 (x2.1 + d4.2.1)))) rfl ?_)
    refine o1 rfl (o_p rfl (o_end (e_blk ?_)))
    exact e_loop (l_sub (sc rfl (sc rfl (sc rfl sn))) (l_keep (kc rm2 (kc rm0 (kd (kd kr)))) (ih2 (w64 (x2.1 + d4.2.1), (x2.2 ++ [d4.1])) (X1247, s1253, (i2.2.2 ++ [(d4.1, (i4.1, i4.2))])) ⟨(NL.app (NL.mono f2_0 (D_Vvitrineref16_Op.ext (Ext.trans hx1245 hx1248))) (NL.cons (D := D_Vvitrineref16_Op X1247) (x := d4.1) (s := (i4.1, i4.2)) ⟨(Rd.ext hs1246 hx1248), hs1249⟩ NL.nil)), (Rd.ext f2_1 (Ext.trans hx1245 hx1248)), (Ext.trans (Ext.trans f2_2 hx1245) hx1248)⟩ h)))
  ·replace h := cond_f hb1235 h
   refine c_exit (e_then_exit (e_then_exit (e_blk_exit ?_)))
   obtain rfl := Option.some.inj h
   exact ej (x2.1, x2.2) (i2.1, i2.2.1, i2.2.2) ⟨rfl, f2_0, f2_2⟩ (sc rfl (sc rfl sn)) (kc rm0 (kc rm0 kr))
 ·rintro d1 i1 ⟨rfl, f1_0, f1_1⟩
  replace h := JK_inl hk1
  clear hk1
  refine e_seq (c_seq (c_region (o1 rfl (o_p rfl (o1 rfl (o_p rfl (o1 rfl (o_p rfl ?_))))))))
  refine o1 rfl (o_p rfl (o1 rfl (o_p rfl (o_end (e_seq (c_ret (e_ret ?_)))))))
  refine r_endt rfl rfl (kc rm0 (kc rm0 kr)) ?_
  obtain rfl := Option.some.inj h
  exact hk (i1.1, i1.2.1, i1.2.2) f1_0 f1_1

theorem c_slices_Equal {g : Gw} (hg : GK g) (X : HP) (p0 : List Vapi_Cell) (s0 : SV) (q0 : Rd X s0 80 en_Vapi_Cell p0) (p1 : List Vapi_Cell) (s1 : SV) (q1 : Rd X s1 80 en_Vapi_Cell p1) (r : Bool) (h : m_slices_Equal p0 p1 = some r) : Tri env g 64 (List.toArray [(SV.val s0), (SV.val s1)]) [X] (fun K R => K (.bool r) (X :: R)) := by
 refine tri_of (fn := Tryz.f64) (N := 26) Tryz.func64 rfl rfl rfl ?_
 intro R K hk
 unfold m_slices_Equal at h
 change GC _ none _ [] [(0, (SV.val s0)), (1, (SV.val s1))] (X :: R) g _ _
 refine c_seq (c_region (o1 rfl (o_p rfl (o_end (e_seq (c_seq ?_))))))
 refine c_seq (c_region (o1 rfl (o_p rfl ?_)))
 refine o1 rfl (o_len (s := s0) rfl rfl rfl rm0 q0 ?_)
 refine o1 rfl (o_p rfl ?_)
 refine o1 rfl (o_len (s := s1) rfl rfl rfl rm0 q1 ?_)
 refine o1 rfl (o_p (v := (.bool ((p0.length : Int) != (p1.length : Int)))) rfl ?_)
 refine o_end (e_seq ?_)
 refine c_cond (b := ((p0.length : Int) != (p1.length : Int))) rfl (fun hb1318 => ?_) (fun hb1318 => ?_)
 ·replace h := cond_t hb1318 h
  refine c_seq (c_region (o1 rfl (o_p rfl (o_end (e_seq (c_ret ?_))))))
  refine e_then_ret (e_ret ?_)
  refine r_endt rfl rfl (kc rm0 kr) ?_
  obtain rfl := Option.some.inj h
  exact hk
 ·replace h := cond_f hb1318 h
  refine c_skip (e_seq (c_seq (c_seq (c_region (o1 rfl (o_p rfl ?_))))))
  refine o1 rfl (o_len (s := s0) rfl rfl rfl rm0 q0 ?_)
  refine o1 rfl (o_p rfl (o_end (e_seq ?_)))
  replace h := jn_some h
  obtain ⟨y2, h, hk2⟩ := h
  refine cj (D := Unit) (ι := Unit) (fun d2 i2 => y2 = Sum.inl d2) (fun d2 i2 => []) (fun d2 i2 => X :: R) ?_ ?_
  ·refine c_block ?_
   refine c_loop (l_sub (sc rfl (sc rfl (sc rfl (sc rfl sn)))) (l_keep (kc rm0 kr) (lf (X := Int) (ι := Unit) (fun k x => slices_Equal_l3 p0 p1 k x) _ (fun x3 i3 => True) (fun x3 i3 => [(13, (.int .i64 x3)), (12, (.int .i64 (p0.length : Int))), (0, (SV.val s0)), (1, (SV.val s1))]) (fun x3 i3 => X :: R) (fun _ => rfl) ?_ fuel 0 () trivial h)))
   clear h
   rintro k3 ih3 x3 i3 _ h
   rw [slices_Equal_l3.eq_2] at h
   refine l_round (c_seq (c_region ?_))
   refine o1 rfl (o_p (v := (.bool (decide (x3 < (p0.length : Int))))) rfl ?_)
   refine o_end (e_seq (c_seq ?_))
   refine c_cond (b := (decide (x3 < (p0.length : Int)))) rfl (fun hb1327 => ?_) (fun hb1327 => ?_)
   ·replace h := cond_t hb1327 h
    refine c_skip (e_seq (c_seq (c_block (c_seq (c_region ?_)))))
    refine o1 rfl (o_p rfl (o1 rfl (o_p rfl (o_end (e_seq (c_seq ?_))))))
    replace h := gsome h
    obtain ⟨hg1328, h⟩ := h
    replace h := gsome h
    obtain ⟨hg1329, h⟩ := h
    refine c_draw (n := 0) (q := [(0, 16, (SV.val s0)), (1, 17, (.int .i64 x3)), (2, 18, (.pointer (some ⟨SV.blk s0, SV.off s0 + Int.toNat x3 * 6, none⟩))), (3, 19, (.agg (List.toArray [(.int .u8 ((rd p0 x3).Char)), (.bool ((rd p0 x3).Attr)), (.int .u8 ((rd p0 x3).FA)), (.int .u8 ((rd p0 x3).High)), (.int .u8 ((rd p0 x3).Color)), (.int .u8 ((rd p0 x3).f_Set))]))), (4, 20, (SV.val s1)), (5, 21, (.int .i64 x3)), (6, 22, (.pointer (some ⟨SV.blk s1, SV.off s1 + Int.toNat x3 * 6, none⟩))), (7, 23, (.agg (List.toArray [(.int .u8 ((rd p1 x3).Char)), (.bool ((rd p1 x3).Attr)), (.int .u8 ((rd p1 x3).FA)), (.int .u8 ((rd p1 x3).High)), (.int .u8 ((rd p1 x3).Color)), (.int .u8 ((rd p1 x3).f_Set))]))), (8, 24, (.bool (!((((rd p0 x3).Char) == ((rd p1 x3).Char)) && ((((rd p0 x3).Attr) == ((rd p1 x3).Attr)) && ((((rd p0 x3).FA) == ((rd p1 x3).FA)) && ((((rd p0 x3).High) == ((rd p1 x3).High)) && ((((rd p0 x3).Color) == ((rd p1 x3).Color)) && ((((rd p0 x3).f_Set) == ((rd p1 x3).f_Set)) && true)))))))))]) (pend := [0, 1, 2, 3, 4, 5, 6, 7, 8]) rfl rfl rfl ?_
    refine ⟨⟨fun _ => ⟨rfl, rfl, rfl, .inl ⟨rfl, (o_p rfl ⟨rfl, rfl⟩)⟩⟩, fun _ => ⟨rfl, rfl, rfl, .inl ⟨rfl, (o_p rfl ⟨rfl, rfl⟩)⟩⟩, fun _ => ⟨rfl, rfl, rfl, .inl ⟨rfl, (o_ix (s := s0) (n := x3) (e := en_Vapi_Cell) rfl rfl rfl rfl rfl rfl rm0 q0 hg1328 ⟨rfl, rfl⟩)⟩⟩, fun _ => ⟨rfl, rfl, rfl, .inl ⟨rfl, (o_ldE (s := s0) (e := en_Vapi_Cell) (n := x3) (f := 0) (v := (.agg (List.toArray [(.int .u8 ((rd p0 x3).Char)), (.bool ((rd p0 x3).Attr)), (.int .u8 ((rd p0 x3).FA)), (.int .u8 ((rd p0 x3).High)), (.int .u8 ((rd p0 x3).Color)), (.int .u8 ((rd p0 x3).f_Set))]))) rfl rm0 q0 hg1328 rfl rfl ⟨rfl, rfl⟩)⟩⟩, fun _ => ⟨rfl, rfl, rfl, .inl ⟨rfl, (o_p rfl ⟨rfl, rfl⟩)⟩⟩, fun _ => ⟨rfl, rfl, rfl, .inl ⟨rfl, (o_p rfl ⟨rfl, rfl⟩)⟩⟩, fun _ => ⟨rfl, rfl, rfl, .inl ⟨rfl, (o_ix (s := s1) (n := x3) (e := en_Vapi_Cell) rfl rfl rfl rfl rfl rfl rm0 q1 hg1329 ⟨rfl, rfl⟩)⟩⟩, fun _ => ⟨rfl, rfl, rfl, .inl ⟨rfl, (o_ldE (s := s1) (e := en_Vapi_Cell) (n := x3) (f := 0) (v := (.agg (List.toArray [(.int .u8 ((rd p1 x3).Char)), (.bool ((rd p1 x3).Attr)), (.int .u8 ((rd p1 x3).FA)), (.int .u8 ((rd p1 x3).High)), (.int .u8 ((rd p1 x3).Color)), (.int .u8 ((rd p1 x3).f_Set))]))) rfl rm0 q1 hg1329 rfl rfl ⟨rfl, rfl⟩)⟩⟩, fun _ => ⟨rfl, rfl, rfl, .inl ⟨rfl, (o_neT (b := ((((rd p0 x3).Char) == ((rd p1 x3).Char)) && ((((rd p0 x3).Attr) == ((rd p1 x3).Attr)) && ((((rd p0 x3).FA) == ((rd p1 x3).FA)) && ((((rd p0 x3).High) == ((rd p1 x3).High)) && ((((rd p0 x3).Color) == ((rd p1 x3).Color)) && ((((rd p0 x3).f_Set) == ((rd p1 x3).f_Set)) && true))))))) (xs := [(.int .u8 ((rd p0 x3).Char)), (.bool ((rd p0 x3).Attr)), (.int .u8 ((rd p0 x3).FA)), (.int .u8 ((rd p0 x3).High)), (.int .u8 ((rd p0 x3).Color)), (.int .u8 ((rd p0 x3).f_Set))]) (ys := [(.int .u8 ((rd p1 x3).Char)), (.bool ((rd p1 x3).Attr)), (.int .u8 ((rd p1 x3).FA)), (.int .u8 ((rd p1 x3).High)), (.int .u8 ((rd p1 x3).Color)), (.int .u8 ((rd p1 x3).f_Set))]) rfl rfl (by kernel_rfl) stood rfl ⟨rfl, rfl⟩)⟩⟩, trivial⟩, rfl, rfl, rfl, ?_⟩
    refine e_seq ?_
    refine c_cond (b := (!((((rd p0 x3).Char) == ((rd p1 x3).Char)) && ((((rd p0 x3).Attr) == ((rd p1 x3).Attr)) && ((((rd p0 x3).FA) == ((rd p1 x3).FA)) && ((((rd p0 x3).High) == ((rd p1 x3).High)) && ((((rd p0 x3).Color) == ((rd p1 x3).Color)) && ((((rd p0 x3).f_Set) == ((rd p1 x3).f_Set)) && true)))))))) rfl (fun hb1330 => ?_) (fun hb1330 => ?_)
    ·replace h := cond_t hb1330 h
     refine c_seq (c_region (o1 rfl (o_p rfl (o_end (e_seq (c_ret ?_))))))
     refine e_blk_ret (e_then_ret (e_then_ret (e_blk_ret (ej_ret ?_))))
     replace h := esc_some h
     obtain ⟨z2, h, rfl⟩ := h
     obtain rfl := (hk2 : z2 = _)
     refine e_then_ret (e_ret ?_)
     refine r_endt rfl rfl (kc rm0 kr) ?_
     obtain rfl := Option.some.inj h
     exact hk
    ·replace h := cond_f hb1330 h
     refine c_skip (e_blk (e_seq (c_region ?_)))
     refine o1 rfl (o_p (v := (.int .i64 (w64 (x3 + 1)))) rfl ?_)
     refine o1 rfl (o_p rfl (o_end ?_))
     exact e_loop (l_sub (sc rfl (sc rfl (sc rfl (sc rfl sn)))) (l_keep (kc rm0 kr) (ih3 (w64 (x3 + 1)) () trivial h)))
   ·replace h := cond_f hb1327 h
    refine c_exit (e_then_exit (e_then_exit (e_blk_exit ?_)))
    obtain rfl := Option.some.inj h
    exact ej () () rfl sn (kc rm0 kr)
  ·rintro d2 i2 rfl
   replace h := JK_inl hk2
   clear hk2
   refine e_seq (c_seq (c_region (o1 rfl (o_p rfl (o_end (e_seq ?_))))))
   refine c_ret (e_ret ?_)
   refine r_endt rfl rfl (kc rm0 kr) ?_
   obtain rfl := Option.some.inj h
   exact hk

theorem c_space_Space_Same {g : Gw} (hg : GK g) (X : HP) (p0 : Vspace_Space) (b0 : Nat) (s0 : SV) (p1 : Vspace_Space) (b1 : Nat) (s1 : SV) (r : Vspace_Space × Vspace_Space × Bool) (h : m_space_Space_Same p0 p1 = some r) : Tri env g 25 (List.toArray [(.pointer (some ⟨b0, 0, none⟩)), (.pointer (some ⟨b1, 0, none⟩))]) [X, blk b0 (.cells (List.toArray [(.int .i64 p0.model), (.bool p0.alternate), (.int .i64 p0.size.Rows), (.int .i64 p0.size.Cols), (SV.val s0), (.int .i64 p0.cursor), (.int .i64 p0.attrs)]) 116 (0, 0)), slO s0 80 en_Vapi_Cell p0.cells, blk b1 (.cells (List.toArray [(.int .i64 p1.model), (.bool p1.alternate), (.int .i64 p1.size.Rows), (.int .i64 p1.size.Cols), (SV.val s1), (.int .i64 p1.cursor), (.int .i64 p1.attrs)]) 116 (0, 0)), slO s1 80 en_Vapi_Cell p1.cells] (fun K R => ∀ (i0 : HP), (Rd i0 s0 80 en_Vapi_Cell r.1.cells) → (Rd i0 s1 80 en_Vapi_Cell r.2.1.cells) → (Ext X i0) → K (.bool r.2.2) (i0 :: blk b0 (.cells (List.toArray [(.int .i64 r.1.model), (.bool r.1.alternate), (.int .i64 r.1.size.Rows), (.int .i64 r.1.size.Cols), (SV.val s0), (.int .i64 r.1.cursor), (.int .i64 r.1.attrs)]) 116 (0, 0)) :: blk b1 (.cells (List.toArray [(.int .i64 r.2.1.model), (.bool r.2.1.alternate), (.int .i64 r.2.1.size.Rows), (.int .i64 r.2.1.size.Cols), (SV.val s1), (.int .i64 r.2.1.cursor), (.int .i64 r.2.1.attrs)]) 116 (0, 0)) :: R)) := by
 refine tri_of (fn := Tryz.f25) (N := 56) Tryz.func25 rfl rfl rfl ?_
 intro R K hk
 unfold m_space_Space_Same at h
 change GC _ none _ [] [(0, (.pointer (some ⟨b0, 0, none⟩))), (1, (.pointer (some ⟨b1, 0, none⟩)))] (X :: blk b0 (.cells (List.toArray [(.int .i64 p0.model), (.bool p0.alternate), (.int .i64 p0.size.Rows), (.int .i64 p0.size.Cols), (SV.val s0), (.int .i64 p0.cursor), (.int .i64 p0.attrs)]) 116 (0, 0)) :: slO s0 80 en_Vapi_Cell p0.cells :: blk b1 (.cells (List.toArray [(.int .i64 p1.model), (.bool p1.alternate), (.int .i64 p1.size.Rows), (.int .i64 p1.size.Cols), (SV.val s1), (.int .i64 p1.cursor), (.int .i64 p1.attrs)]) 116 (0, 0)) :: slO s1 80 en_Vapi_Cell p1.cells :: R) g _ _
 refine c_seq (c_region (o1 rfl (o_p rfl (o_end (e_seq (c_seq ?_))))))
 refine c_seq (c_region (o1 rfl (o_p rfl ?_)))
 refine o1 rfl (o_p (v := (.bool false)) rfl ?_)
 refine o1 rfl (o_p rfl ?_)
 refine oy rfl rfl rfl rfl (o_p rfl ?_)
 refine oy rfl rfl rfl rfl (o_p (v := (.bool false)) rfl ?_)
 refine o1 rfl (o_pick_f rfl rfl rfl ?_)
 refine o_end (e_seq ?_)
 refine c_cond_f rfl rfl ?_
 refine c_skip (e_seq (c_seq ?_))
 replace h := bsome h
 obtain ⟨d2, h, hk2⟩ := h
 refine cj (D := Unit) (ι := HP) (fun _ i2 => (Rd i2 s0 80 en_Vapi_Cell p0.cells) ∧ (Rd i2 s1 80 en_Vapi_Cell p1.cells) ∧ (Ext X i2)) (fun _ i2 => [(4, (.bool d2))]) (fun _ i2 => i2 :: blk b0 (.cells (List.toArray [(.int .i64 p0.model), (.bool p0.alternate), (.int .i64 p0.size.Rows), (.int .i64 p0.size.Cols), (SV.val s0), (.int .i64 p0.cursor), (.int .i64 p0.attrs)]) 116 (0, 0)) :: blk b1 (.cells (List.toArray [(.int .i64 p1.model), (.bool p1.alternate), (.int .i64 p1.size.Rows), (.int .i64 p1.size.Cols), (SV.val s1), (.int .i64 p1.cursor), (.int .i64 p1.attrs)]) 116 (0, 0)) :: R) ?_ ?_
 ·refine c_fz rm2 rm0 (fun X1306 hx1307 hs1308 => ?_)
  refine c_fz rm3 rm0 (fun X1312 hx1313 hs1314 => ?_)
  refine c_sub (T' := [(10, (.bool false)), (9, (.bool false)), (8, (.pointer (some ⟨b1, 0, none⟩))), (7, (.bool false)), (6, (.bool false)), (5, (.pointer (some ⟨b0, 0, none⟩))), (0, (.pointer (some ⟨b0, 0, none⟩))), (1, (.pointer (some ⟨b1, 0, none⟩)))]) (sc rfl (sc rfl (sc rfl (sc rfl (sc rfl (sc rfl (sc rfl (sc rfl sn)))))))) ?_
  rcases bool_or ((p0.model == p1.model)) with hb1315 | hb1315
  ·replace h := cond_t hb1315 h
   rcases bool_or ((p0.alternate == p1.alternate)) with hb1316 | hb1316
   ·replace h := cond_t hb1316 h
    rcases bool_or ((p0.cursor == p1.cursor)) with hb1317 | hb1317
    ·replace h := cond_t hb1317 h
     refine c_draw (n := 1) (q := [(32, 46, (.pointer (some ⟨b0, 0, none⟩))), (33, 47, (.pointer (some ⟨b0, 0, none⟩))), (34, 48, (.pointer (some ⟨b0, 4, none⟩))), (35, 49, (SV.val s0)), (36, 50, (.pointer (some ⟨b1, 0, none⟩))), (37, 51, (.pointer (some ⟨b1, 0, none⟩))), (38, 52, (.pointer (some ⟨b1, 4, none⟩))), (39, 53, (SV.val s1)), (21, 35, (.pointer (some ⟨b0, 0, none⟩))), (22, 36, (.pointer (some ⟨b0, 0, none⟩))), (23, 37, (.pointer (some ⟨b0, 5, none⟩))), (24, 38, (.int .i64 p0.cursor)), (25, 39, (.pointer (some ⟨b1, 0, none⟩))), (26, 40, (.pointer (some ⟨b1, 0, none⟩))), (27, 41, (.pointer (some ⟨b1, 5, none⟩))), (28, 42, (.int .i64 p1.cursor)), (29, 43, (.bool (p0.cursor == p1.cursor))), (30, 44, (.bool (p0.cursor == p1.cursor))), (31, 45, (.bool (p0.cursor == p1.cursor))), (10, 24, (.pointer (some ⟨b0, 0, none⟩))), (11, 25, (.pointer (some ⟨b0, 0, none⟩))), (12, 26, (.pointer (some ⟨b0, 1, none⟩))), (13, 27, (.bool p0.alternate)), (14, 28, (.pointer (some ⟨b1, 0, none⟩))), (15, 29, (.pointer (some ⟨b1, 0, none⟩))), (16, 30, (.pointer (some ⟨b1, 1, none⟩))), (17, 31, (.bool p1.alternate)), (18, 32, (.bool (p0.alternate == p1.alternate))), (19, 33, (.bool (p0.alternate == p1.alternate))), (20, 34, (.bool (p0.alternate == p1.alternate))), (0, 14, (.pointer (some ⟨b0, 0, none⟩))), (1, 15, (.pointer (some ⟨b0, 0, none⟩))), (2, 16, (.pointer (some ⟨b0, 0, none⟩))), (3, 17, (.int .i64 p0.model)), (4, 18, (.pointer (some ⟨b1, 0, none⟩))), (5, 19, (.pointer (some ⟨b1, 0, none⟩))), (6, 20, (.pointer (some ⟨b1, 0, none⟩))), (7, 21, (.int .i64 p1.model)), (8, 22, (.bool (p0.model == p1.model))), (9, 23, (.bool (p0.model == p1.model)))]) (pend := [0, 1, 2, 3, 4, 5, 6, 7, 8, 9, 10, 11, 12, 13, 14, 15, 16, 17, 18, 19, 20, 21, 22, 23, 24, 25, 26, 27, 28, 29, 30, 31, 32, 33, 34, 35, 36, 37, 38, 39]) rfl rfl rfl ?_
     replace h := bsome h
     obtain ⟨d3, h3, h⟩ := h
     refine ⟨⟨fun _ => ⟨rfl, rfl, rfl, .inr ⟨_, _, _, _, rfl, rfl, rfl, .inl ⟨hb1317, (o_p rfl ⟨rfl, rfl⟩)⟩⟩⟩, fun _ => ⟨rfl, rfl, rfl, .inr ⟨_, _, _, _, rfl, rfl, rfl, .inl ⟨hb1317, (o_p rfl ⟨rfl, rfl⟩)⟩⟩⟩, fun _ => ⟨rfl, rfl, rfl, .inr ⟨_, _, _, _, rfl, rfl, rfl, .inl ⟨hb1317, (o_fa (fd := ⟨ "cells", 38, 4, false, "", "vitrine/space", 32⟩) rfl rfl rfl rfl rfl ⟨rfl, rfl⟩)⟩⟩⟩, fun _ => ⟨rfl, rfl, rfl, .inr ⟨_, _, _, _, rfl, rfl, rfl, .inl ⟨hb1317, (o_ld (b := b0) (off := 4) (v := (SV.val s0)) rfl rm1 rfl rfl ⟨rfl, rfl⟩)⟩⟩⟩, fun _ => ⟨rfl, rfl, rfl, .inr ⟨_, _, _, _, rfl, rfl, rfl, .inl ⟨hb1317, (o_p rfl ⟨rfl, rfl⟩)⟩⟩⟩, fun _ => ⟨rfl, rfl, rfl, .inr ⟨_, _, _, _, rfl, rfl, rfl, .inl ⟨hb1317, (o_p rfl ⟨rfl, rfl⟩)⟩⟩⟩, fun _ => ⟨rfl, rfl, rfl, .inr ⟨_, _, _, _, rfl, rfl, rfl, .inl ⟨hb1317, (o_fa (fd := ⟨ "cells", 38, 4, false, "", "vitrine/space", 32⟩) rfl rfl rfl rfl rfl ⟨rfl, rfl⟩)⟩⟩⟩, fun _ => ⟨rfl, rfl, rfl, .inr ⟨_, _, _, _, rfl, rfl, rfl, .inl ⟨hb1317, (o_ld (b := b1) (off := 4) (v := (SV.val s1)) rfl rm2 rfl rfl ⟨rfl, rfl⟩)⟩⟩⟩, fun _ => ⟨rfl, rfl, rfl, .inr ⟨_, _, _, _, rfl, rfl, rfl, .inl ⟨hb1316, (o_p rfl ⟨rfl, rfl⟩)⟩⟩⟩, fun _ => ⟨rfl, rfl, rfl, .inr ⟨_, _, _, _, rfl, rfl, rfl, .inl ⟨hb1316, (o_p rfl ⟨rfl, rfl⟩)⟩⟩⟩, fun _ => ⟨rfl, rfl, rfl, .inr ⟨_, _, _, _, rfl, rfl, rfl, .inl ⟨hb1316, (o_fa (fd := ⟨ "cursor", 3, 5, false, "", "vitrine/space", 56⟩) rfl rfl rfl rfl rfl ⟨rfl, rfl⟩)⟩⟩⟩, fun _ => ⟨rfl, rfl, rfl, .inr ⟨_, _, _, _, rfl, rfl, rfl, .inl ⟨hb1316, (o_ld (b := b0) (off := 5) (v := (.int .i64 p0.cursor)) rfl rm1 rfl rfl ⟨rfl, rfl⟩)⟩⟩⟩, fun _ => ⟨rfl, rfl, rfl, .inr ⟨_, _, _, _, rfl, rfl, rfl, .inl ⟨hb1316, (o_p rfl ⟨rfl, rfl⟩)⟩⟩⟩, fun _ => ⟨rfl, rfl, rfl, .inr ⟨_, _, _, _, rfl, rfl, rfl, .inl ⟨hb1316, (o_p rfl ⟨rfl, rfl⟩)⟩⟩⟩, fun _ => ⟨rfl, rfl, rfl, .inr ⟨_, _, _, _, rfl, rfl, rfl, .inl ⟨hb1316, (o_fa (fd := ⟨ "cursor", 3, 5, false, "", "vitrine/space", 56⟩) rfl rfl rfl rfl rfl ⟨rfl, rfl⟩)⟩⟩⟩, fun _ => ⟨rfl, rfl, rfl, .inr ⟨_, _, _, _, rfl, rfl, rfl, .inl ⟨hb1316, (o_ld (b := b1) (off := 5) (v := (.int .i64 p1.cursor)) rfl rm2 rfl rfl ⟨rfl, rfl⟩)⟩⟩⟩, fun _ => ⟨rfl, rfl, rfl, .inr ⟨_, _, _, _, rfl, rfl, rfl, .inl ⟨hb1316, (o_p (v := (.bool (p0.cursor == p1.cursor))) rfl ⟨rfl, rfl⟩)⟩⟩⟩, fun _ => ⟨rfl, rfl, rfl, .inl ⟨rfl, (o_pick_t rfl hb1316 rfl ⟨rfl, rfl⟩)⟩⟩, fun _ => ⟨rfl, rfl, rfl, .inl ⟨rfl, (o_p rfl ⟨rfl, rfl⟩)⟩⟩, fun _ => ⟨rfl, rfl, rfl, .inr ⟨_, _, _, _, rfl, rfl, rfl, .inl ⟨hb1315, (o_p rfl ⟨rfl, rfl⟩)⟩⟩⟩, fun _ => ⟨rfl, rfl, rfl, .inr ⟨_, _, _, _, rfl, rfl, rfl, .inl ⟨hb1315, (o_p rfl ⟨rfl, rfl⟩)⟩⟩⟩, fun _ => ⟨rfl, rfl, rfl, .inr ⟨_, _, _, _, rfl, rfl, rfl, .inl ⟨hb1315, (o_fa (fd := ⟨ "alternate", 4, 1, false, "", "vitrine/space", 8⟩) rfl rfl rfl rfl rfl ⟨rfl, rfl⟩)⟩⟩⟩, fun _ => ⟨rfl, rfl, rfl, .inr ⟨_, _, _, _, rfl, rfl, rfl, .inl ⟨hb1315, (o_ld (b := b0) (off := 1) (v := (.bool p0.alternate)) rfl rm1 rfl rfl ⟨rfl, rfl⟩)⟩⟩⟩, fun _ => ⟨rfl, rfl, rfl, .inr ⟨_, _, _, _, rfl, rfl, rfl, .inl ⟨hb1315, (o_p rfl ⟨rfl, rfl⟩)⟩⟩⟩, fun _ => ⟨rfl, rfl, rfl, .inr ⟨_, _, _, _, rfl, rfl, rfl, .inl ⟨hb1315, (o_p rfl ⟨rfl, rfl⟩)⟩⟩⟩, fun _ => ⟨rfl, rfl, rfl, .inr ⟨_, _, _, _, rfl, rfl, rfl, .inl ⟨hb1315, (o_fa (fd := ⟨ "alternate", 4, 1, false, "", "vitrine/space", 8⟩) rfl rfl rfl rfl rfl ⟨rfl, rfl⟩)⟩⟩⟩, fun _ => ⟨rfl, rfl, rfl, .inr ⟨_, _, _, _, rfl, rfl, rfl, .inl ⟨hb1315, (o_ld (b := b1) (off := 1) (v := (.bool p1.alternate)) rfl rm2 rfl rfl ⟨rfl, rfl⟩)⟩⟩⟩, fun _ => ⟨rfl, rfl, rfl, .inr ⟨_, _, _, _, rfl, rfl, rfl, .inl ⟨hb1315, (o_p (v := (.bool (p0.alternate == p1.alternate))) rfl ⟨rfl, rfl⟩)⟩⟩⟩, fun _ => ⟨rfl, rfl, rfl, .inl ⟨rfl, (o_pick_t rfl hb1315 rfl ⟨rfl, rfl⟩)⟩⟩, fun _ => ⟨rfl, rfl, rfl, .inl ⟨rfl, (o_p rfl ⟨rfl, rfl⟩)⟩⟩, fun _ => ⟨rfl, rfl, rfl, .inl ⟨rfl, (o_p rfl ⟨rfl, rfl⟩)⟩⟩, fun _ => ⟨rfl, rfl, rfl, .inl ⟨rfl, (o_p rfl ⟨rfl, rfl⟩)⟩⟩, fun _ => ⟨rfl, rfl, rfl, .inl ⟨rfl, (o_fa (fd := ⟨ "model", 3, 0, false, "", "vitrine/space", 0⟩) rfl rfl rfl rfl rfl ⟨rfl, rfl⟩)⟩⟩, fun _ => ⟨rfl, rfl, rfl, .inl ⟨rfl, (o_ld (b := b0) (off := 0) (v := (.int .i64 p0.model)) rfl rm1 rfl rfl ⟨rfl, rfl⟩)⟩⟩, fun _ => ⟨rfl, rfl, rfl, .inl ⟨rfl, (o_p rfl ⟨rfl, rfl⟩)⟩⟩, fun _ => ⟨rfl, rfl, rfl, .inl ⟨rfl, (o_p rfl ⟨rfl, rfl⟩)⟩⟩, fun _ => ⟨rfl, rfl, rfl, .inl ⟨rfl, (o_fa (fd := ⟨ "model", 3, 0, false, "", "vitrine/space", 0⟩) rfl rfl rfl rfl rfl ⟨rfl, rfl⟩)⟩⟩, fun _ => ⟨rfl, rfl, rfl, .inl ⟨rfl, (o_ld (b := b1) (off := 0) (v := (.int .i64 p1.model)) rfl rm2 rfl rfl ⟨rfl, rfl⟩)⟩⟩, fun _ => ⟨rfl, rfl, rfl, .inl ⟨rfl, (o_p (v := (.bool (p0.model == p1.model))) rfl ⟨rfl, rfl⟩)⟩⟩, fun _ => ⟨rfl, rfl, rfl, .inl ⟨rfl, (o_p rfl ⟨rfl, rfl⟩)⟩⟩, trivial⟩, rfl, .inr ⟨[40], rfl, rfl, ⟨rfl, .inr ⟨_, _, _, _, rfl, rfl, rfl, hb1317⟩, ?_⟩, trivial⟩⟩
     refine (o_call has64 rfl (c_slices_Equal hg X1312 p0.cells s0 (Rd.ext hs1308 hx1313) p1.cells s1 hs1314 _ h3) (pc rm0 pn) ?_)
     refine ⟨[(41, 55, (.bool d3)), (42, 4, (.bool d3))], [41, 42], rfl, rfl, rfl, rfl, ?_⟩
     refine ⟨⟨fun _ => ⟨rfl, rfl, rfl, .inl ⟨rfl, (o_pick_t rfl hb1317 rfl ⟨rfl, rfl⟩)⟩⟩, fun _ => ⟨rfl, rfl, rfl, .inl ⟨rfl, (o_p rfl ⟨rfl, rfl⟩)⟩⟩, (fun h => nomatch h), (fun h => nomatch h), (fun h => nomatch h), (fun h => nomatch h), (fun h => nomatch h), (fun h => nomatch h), (fun h => nomatch h), (fun h => nomatch h), (fun h => nomatch h), (fun h => nomatch h), (fun h => nomatch h), (fun h => nomatch h), (fun h => nomatch h), (fun h => nomatch h), (fun h => nomatch h), (fun h => nomatch h), (fun h => nomatch h), (fun h => nomatch h), (fun h => nomatch h), (fun h => nomatch h), (fun h => nomatch h), (fun h => nomatch h), (fun h => nomatch h), (fun h => nomatch h), (fun h => nomatch h), (fun h => nomatch h), (fun h => nomatch h), (fun h => nomatch h), (fun h => nomatch h), (fun h => nomatch h), (fun h => nomatch h), (fun h => nomatch h), (fun h => nomatch h), (fun h => nomatch h), (fun h => nomatch h), (fun h => nomatch h), (fun h => nomatch h), (fun h => nomatch h), (fun h => nomatch h), (fun h => nomatch h), trivial⟩, rfl, rfl, rfl, ?_⟩
     obtain rfl := Option.some.inj h
     exact ej () X1312 ⟨(Rd.ext hs1308 hx1313), hs1314, (Ext.trans hx1307 hx1313)⟩ (sc rfl sn) (kc rm0 (kc rm0 (kc rm0 kr)))
    ·replace h := cond_f hb1317 h
     refine c_draw (n := 1) (q := [(32, 46, undef), (33, 47, undef), (34, 48, undef), (35, 49, undef), (36, 50, undef), (37, 51, undef), (38, 52, undef), (39, 53, undef), (40, 54, undef), (41, 55, (.bool false)), (42, 4, (.bool false)), (21, 35, (.pointer (some ⟨b0, 0, none⟩))), (22, 36, (.pointer (some ⟨b0, 0, none⟩))), (23, 37, (.pointer (some ⟨b0, 5, none⟩))), (24, 38, (.int .i64 p0.cursor)), (25, 39, (.pointer (some ⟨b1, 0, none⟩))), (26, 40, (.pointer (some ⟨b1, 0, none⟩))), (27, 41, (.pointer (some ⟨b1, 5, none⟩))), (28, 42, (.int .i64 p1.cursor)), (29, 43, (.bool (p0.cursor == p1.cursor))), (30, 44, (.bool (p0.cursor == p1.cursor))), (31, 45, (.bool (p0.cursor == p1.cursor))), (10, 24, (.pointer (some ⟨b0, 0, none⟩))), (11, 25, (.pointer (some ⟨b0, 0, none⟩))), (12, 26, (.pointer (some ⟨b0, 1, none⟩))), (13, 27, (.bool p0.alternate)), (14, 28, (.pointer (some ⟨b1, 0, none⟩))), (15, 29, (.pointer (some ⟨b1, 0, none⟩))), (16, 30, (.pointer (some ⟨b1, 1, none⟩))), (17, 31, (.bool p1.alternate)), (18, 32, (.bool (p0.alternate == p1.alternate))), (19, 33, (.bool (p0.alternate == p1.alternate))), (20, 34, (.bool (p0.alternate == p1.alternate))), (0, 14, (.pointer (some ⟨b0, 0, none⟩))), (1, 15, (.pointer (some ⟨b0, 0, none⟩))), (2, 16, (.pointer (some ⟨b0, 0, none⟩))), (3, 17, (.int .i64 p0.model)), (4, 18, (.pointer (some ⟨b1, 0, none⟩))), (5, 19, (.pointer (some ⟨b1, 0, none⟩))), (6, 20, (.pointer (some ⟨b1, 0, none⟩))), (7, 21, (.int .i64 p1.model)), (8, 22, (.bool (p0.model == p1.model))), (9, 23, (.bool (p0.model == p1.model)))]) (pend := [0, 1, 2, 3, 4, 5, 6, 7, 8, 9, 10, 11, 12, 13, 14, 15, 16, 17, 18, 19, 20, 21, 22, 23, 24, 25, 26, 27, 28, 29, 30, 31, 32, 33, 34, 35, 36, 37, 38, 39, 40, 41, 42]) rfl rfl rfl ?_
     refine ⟨⟨fun _ => ⟨rfl, rfl, rfl, .inr ⟨_, _, _, _, rfl, rfl, rfl, .inr ⟨hb1317, rfl⟩⟩⟩, fun _ => ⟨rfl, rfl, rfl, .inr ⟨_, _, _, _, rfl, rfl, rfl, .inr ⟨hb1317, rfl⟩⟩⟩, fun _ => ⟨rfl, rfl, rfl, .inr ⟨_, _, _, _, rfl, rfl, rfl, .inr ⟨hb1317, rfl⟩⟩⟩, fun _ => ⟨rfl, rfl, rfl, .inr ⟨_, _, _, _, rfl, rfl, rfl, .inr ⟨hb1317, rfl⟩⟩⟩, fun _ => ⟨rfl, rfl, rfl, .inr ⟨_, _, _, _, rfl, rfl, rfl, .inr ⟨hb1317, rfl⟩⟩⟩, fun _ => ⟨rfl, rfl, rfl, .inr ⟨_, _, _, _, rfl, rfl, rfl, .inr ⟨hb1317, rfl⟩⟩⟩, fun _ => ⟨rfl, rfl, rfl, .inr ⟨_, _, _, _, rfl, rfl, rfl, .inr ⟨hb1317, rfl⟩⟩⟩, fun _ => ⟨rfl, rfl, rfl, .inr ⟨_, _, _, _, rfl, rfl, rfl, .inr ⟨hb1317, rfl⟩⟩⟩, fun _ => ⟨rfl, rfl, rfl, .inr ⟨_, _, _, _, rfl, rfl, rfl, .inr ⟨hb1317, rfl⟩⟩⟩, fun _ => ⟨rfl, rfl, rfl, .inl ⟨rfl, (o_pick_f rfl hb1317 rfl ⟨rfl, rfl⟩)⟩⟩, fun _ => ⟨rfl, rfl, rfl, .inl ⟨rfl, (o_p rfl ⟨rfl, rfl⟩)⟩⟩, fun _ => ⟨rfl, rfl, rfl, .inr ⟨_, _, _, _, rfl, rfl, rfl, .inl ⟨hb1316, (o_p rfl ⟨rfl, rfl⟩)⟩⟩⟩, fun _ => ⟨rfl, rfl, rfl, .inr ⟨_, _, _, _, rfl, rfl, rfl, .inl ⟨hb1316, (o_p rfl ⟨rfl, rfl⟩)⟩⟩⟩, fun _ => ⟨rfl, rfl, rfl, .inr ⟨_, _, _, _, rfl, rfl, rfl, .inl ⟨hb1316, (o_fa (fd := ⟨ "cursor", 3, 5, false, "", "vitrine/space", 56⟩) rfl rfl rfl rfl rfl ⟨rfl, rfl⟩)⟩⟩⟩, fun _ => ⟨rfl, rfl, rfl, .inr ⟨_, _, _, _, rfl, rfl, rfl, .inl ⟨hb1316, (o_ld (b := b0) (off := 5) (v := (.int .i64 p0.cursor)) rfl rm1 rfl rfl ⟨rfl, rfl⟩)⟩⟩⟩, fun _ => ⟨rfl, rfl, rfl, .inr ⟨_, _, _, _, rfl, rfl, rfl, .inl ⟨hb1316, (o_p rfl ⟨rfl, rfl⟩)⟩⟩⟩, fun _ => ⟨rfl, rfl, rfl, .inr ⟨_, _, _, _, rfl, rfl, rfl, .inl ⟨hb1316, (o_p rfl ⟨rfl, rfl⟩)⟩⟩⟩, fun _ => ⟨rfl, rfl, rfl, .inr ⟨_, _, _, _, rfl, rfl, rfl, .inl ⟨hb1316, (o_fa (fd := ⟨ "cursor", 3, 5, false, "", "vitrine/space", 56⟩) rfl rfl rfl rfl rfl ⟨rfl, rfl⟩)⟩⟩⟩, fun _ => ⟨rfl, rfl, rfl, .inr ⟨_, _, _, _, rfl, rfl, rfl, .inl ⟨hb1316, (o_ld (b := b1) (off := 5) (v := (.int .i64 p1.cursor)) rfl rm2 rfl rfl ⟨rfl, rfl⟩)⟩⟩⟩, fun _ => ⟨rfl, rfl, rfl, .inr ⟨_, _, _, _, rfl, rfl, rfl, .inl ⟨hb1316, (o_p (v := (.bool (p0.cursor == p1.cursor))) rfl ⟨rfl, rfl⟩)⟩⟩⟩, fun _ => ⟨rfl, rfl, rfl, .inl ⟨rfl, (o_pick_t rfl hb1316 rfl ⟨rfl, rfl⟩)⟩⟩, fun _ => ⟨rfl, rfl, rfl, .inl ⟨rfl, (o_p rfl ⟨rfl, rfl⟩)⟩⟩, fun _ => ⟨rfl, rfl, rfl, .inr ⟨_, _, _, _, rfl, rfl, rfl, .inl ⟨hb1315, (o_p rfl ⟨rfl, rfl⟩)⟩⟩⟩, fun _ => ⟨rfl, rfl, rfl, .inr ⟨_, _, _, _, rfl, rfl, rfl, .inl ⟨hb1315, (o_p rfl ⟨rfl, rfl⟩)⟩⟩⟩, fun _ => ⟨rfl, rfl, rfl, .inr ⟨_, _, _, _, rfl, rfl, rfl, .inl ⟨hb1315, (o_fa (fd := ⟨ "alternate", 4, 1, false, "", "vitrine/space", 8⟩) rfl rfl rfl rfl rfl ⟨rfl, rfl⟩)⟩⟩⟩, fun _ => ⟨rfl, rfl, rfl, .inr ⟨_, _, _, _, rfl, rfl, rfl, .inl ⟨hb1315, (o_ld (b := b0) (off := 1) (v := (.bool p0.alternate)) rfl rm1 rfl rfl ⟨rfl, rfl⟩)⟩⟩⟩, fun _ => ⟨rfl, rfl, rfl, .inr ⟨_, _, _, _, rfl, rfl, rfl, .inl ⟨hb1315, (o_p rfl ⟨rfl, rfl⟩)⟩⟩⟩, fun _ => ⟨rfl, rfl, rfl, .inr ⟨_, _, _, _, rfl, rfl, rfl, .inl ⟨hb1315, (o_p rfl ⟨rfl, rfl⟩)⟩⟩⟩, fun _ => ⟨rfl, rfl, rfl, .inr ⟨_, _, _, _, rfl, rfl, rfl, .inl ⟨hb1315, (o_fa (fd := ⟨ "alternate", 4, 1, false, "", "vitrine/space", 8⟩) rfl rfl rfl rfl rfl ⟨rfl, rfl⟩)⟩⟩⟩, fun _ => ⟨rfl, rfl, rfl, .inr ⟨_, _, _, _, rfl, rfl, rfl, .inl ⟨hb1315, (o_ld (b := b1) (off := 1) (v := (.bool p1.alternate)) rfl rm2 rfl rfl ⟨rfl, rfl⟩)⟩⟩⟩, fun _ => ⟨rfl, rfl, rfl, .inr ⟨_, _, _, _, rfl, rfl, rfl, .inl ⟨hb1315, (o_p (v := (.bool (p0.alternate == p1.alternate))) rfl ⟨rfl, rfl⟩)⟩⟩⟩, fun _ => ⟨rfl, rfl, rfl, .inl ⟨rfl, (o_pick_t rfl hb1315 rfl ⟨rfl, rfl⟩)⟩⟩, fun _ => ⟨rfl, rfl, rfl, .inl ⟨rfl, (o_p rfl ⟨rfl, rfl⟩)⟩⟩, fun _ => ⟨rfl, rfl, rfl, .inl ⟨rfl, (o_p rfl ⟨rfl, rfl⟩)⟩⟩, fun _ => ⟨rfl, rfl, rfl, .inl ⟨rfl, (o_p rfl ⟨rfl, rfl⟩)⟩⟩, fun _ => ⟨rfl, rfl, rfl, .inl ⟨rfl, (o_fa (fd := ⟨ "model", 3, 0, false, "", "vitrine/space", 0⟩) rfl rfl rfl rfl rfl ⟨rfl, rfl⟩)⟩⟩, fun _ => ⟨rfl, rfl, rfl, .inl ⟨rfl, (o_ld (b := b0) (off := 0) (v := (.int .i64 p0.model)) rfl rm1 rfl rfl ⟨rfl, rfl⟩)⟩⟩, fun _ => ⟨rfl, rfl, rfl, .inl ⟨rfl, (o_p rfl ⟨rfl, rfl⟩)⟩⟩, fun _ => ⟨rfl, rfl, rfl, .inl ⟨rfl, (o_p rfl ⟨rfl, rfl⟩)⟩⟩, fun _ => ⟨rfl, rfl, rfl, .inl ⟨rfl, (o_fa (fd := ⟨ "model", 3, 0, false, "", "vitrine/space", 0⟩) rfl rfl rfl rfl rfl ⟨rfl, rfl⟩)⟩⟩, fun _ => ⟨rfl, rfl, rfl, .inl ⟨rfl, (o_ld (b := b1) (off := 0) (v := (.int .i64 p1.model)) rfl rm2 rfl rfl ⟨rfl, rfl⟩)⟩⟩, fun _ => ⟨rfl, rfl, rfl, .inl ⟨rfl, (o_p (v := (.bool (p0.model == p1.model))) rfl ⟨rfl, rfl⟩)⟩⟩, fun _ => ⟨rfl, rfl, rfl, .inl ⟨rfl, (o_p rfl ⟨rfl, rfl⟩)⟩⟩, trivial⟩, rfl, .inl ⟨rfl, rfl, ?_⟩⟩
     obtain rfl := Option.some.inj h
     exact ej () X1312 ⟨(Rd.ext hs1308 hx1313), hs1314, (Ext.trans hx1307 hx1313)⟩ (sc rfl sn) (kc rm0 (kc rm0 (kc rm0 kr)))
   ·replace h := cond_f hb1316 h
    refine c_draw (n := 1) (q := [(21, 35, undef), (22, 36, undef), (23, 37, undef), (24, 38, undef), (25, 39, undef), (26, 40, undef), (27, 41, undef), (28, 42, undef), (29, 43, undef), (30, 44, (.bool false)), (31, 45, (.bool false)), (32, 46, undef), (33, 47, undef), (34, 48, undef), (35, 49, undef), (36, 50, undef), (37, 51, undef), (38, 52, undef), (39, 53, undef), (40, 54, undef), (41, 55, (.bool false)), (42, 4, (.bool false)), (10, 24, (.pointer (some ⟨b0, 0, none⟩))), (11, 25, (.pointer (some ⟨b0, 0, none⟩))), (12, 26, (.pointer (some ⟨b0, 1, none⟩))), (13, 27, (.bool p0.alternate)), (14, 28, (.pointer (some ⟨b1, 0, none⟩))), (15, 29, (.pointer (some ⟨b1, 0, none⟩))), (16, 30, (.pointer (some ⟨b1, 1, none⟩))), (17, 31, (.bool p1.alternate)), (18, 32, (.bool (p0.alternate == p1.alternate))), (19, 33, (.bool (p0.alternate == p1.alternate))), (20, 34, (.bool (p0.alternate == p1.alternate))), (0, 14, (.pointer (some ⟨b0, 0, none⟩))), (1, 15, (.pointer (some ⟨b0, 0, none⟩))), (2, 16, (.pointer (some ⟨b0, 0, none⟩))), (3, 17, (.int .i64 p0.model)), (4, 18, (.pointer (some ⟨b1, 0, none⟩))), (5, 19, (.pointer (some ⟨b1, 0, none⟩))), (6, 20, (.pointer (some ⟨b1, 0, none⟩))), (7, 21, (.int .i64 p1.model)), (8, 22, (.bool (p0.model == p1.model))), (9, 23, (.bool (p0.model == p1.model)))]) (pend := [0, 1, 2, 3, 4, 5, 6, 7, 8, 9, 10, 11, 12, 13, 14, 15, 16, 17, 18, 19, 20, 21, 22, 23, 24, 25, 26, 27, 28, 29, 30, 31, 32, 33, 34, 35, 36, 37, 38, 39, 40, 41, 42]) rfl rfl rfl ?_
    refine ⟨⟨fun _ => ⟨rfl, rfl, rfl, .inr ⟨_, _, _, _, rfl, rfl, rfl, .inr ⟨hb1316, rfl⟩⟩⟩, fun _ => ⟨rfl, rfl, rfl, .inr ⟨_, _, _, _, rfl, rfl, rfl, .inr ⟨hb1316, rfl⟩⟩⟩, fun _ => ⟨rfl, rfl, rfl, .inr ⟨_, _, _, _, rfl, rfl, rfl, .inr ⟨hb1316, rfl⟩⟩⟩, fun _ => ⟨rfl, rfl, rfl, .inr ⟨_, _, _, _, rfl, rfl, rfl, .inr ⟨hb1316, rfl⟩⟩⟩, fun _ => ⟨rfl, rfl, rfl, .inr ⟨_, _, _, _, rfl, rfl, rfl, .inr ⟨hb1316, rfl⟩⟩⟩, fun _ => ⟨rfl, rfl, rfl, .inr ⟨_, _, _, _, rfl, rfl, rfl, .inr ⟨hb1316, rfl⟩⟩⟩, fun _ => ⟨rfl, rfl, rfl, .inr ⟨_, _, _, _, rfl, rfl, rfl, .inr ⟨hb1316, rfl⟩⟩⟩, fun _ => ⟨rfl, rfl, rfl, .inr ⟨_, _, _, _, rfl, rfl, rfl, .inr ⟨hb1316, rfl⟩⟩⟩, fun _ => ⟨rfl, rfl, rfl, .inr ⟨_, _, _, _, rfl, rfl, rfl, .inr ⟨hb1316, rfl⟩⟩⟩, fun _ => ⟨rfl, rfl, rfl, .inl ⟨rfl, (o_pick_f rfl hb1316 rfl ⟨rfl, rfl⟩)⟩⟩, fun _ => ⟨rfl, rfl, rfl, .inl ⟨rfl, (o_p rfl ⟨rfl, rfl⟩)⟩⟩, fun _ => ⟨rfl, rfl, rfl, .inr ⟨_, _, _, _, rfl, rfl, rfl, .inr ⟨rfl, rfl⟩⟩⟩, fun _ => ⟨rfl, rfl, rfl, .inr ⟨_, _, _, _, rfl, rfl, rfl, .inr ⟨rfl, rfl⟩⟩⟩, fun _ => ⟨rfl, rfl, rfl, .inr ⟨_, _, _, _, rfl, rfl, rfl, .inr ⟨rfl, rfl⟩⟩⟩, fun _ => ⟨rfl, rfl, rfl, .inr ⟨_, _, _, _, rfl, rfl, rfl, .inr ⟨rfl, rfl⟩⟩⟩, fun _ => ⟨rfl, rfl, rfl, .inr ⟨_, _, _, _, rfl, rfl, rfl, .inr ⟨rfl, rfl⟩⟩⟩, fun _ => ⟨rfl, rfl, rfl, .inr ⟨_, _, _, _, rfl, rfl, rfl, .inr ⟨rfl, rfl⟩⟩⟩, fun _ => ⟨rfl, rfl, rfl, .inr ⟨_, _, _, _, rfl, rfl, rfl, .inr ⟨rfl, rfl⟩⟩⟩, fun _ => ⟨rfl, rfl, rfl, .inr ⟨_, _, _, _, rfl, rfl, rfl, .inr ⟨rfl, rfl⟩⟩⟩, fun _ => ⟨rfl, rfl, rfl, .inr ⟨_, _, _, _, rfl, rfl, rfl, .inr ⟨rfl, rfl⟩⟩⟩, fun _ => ⟨rfl, rfl, rfl, .inl ⟨rfl, (o_pick_f rfl rfl rfl ⟨rfl, rfl⟩)⟩⟩, fun _ => ⟨rfl, rfl, rfl, .inl ⟨rfl, (o_p rfl ⟨rfl, rfl⟩)⟩⟩, fun _ => ⟨rfl, rfl, rfl, .inr ⟨_, _, _, _, rfl, rfl, rfl, .inl ⟨hb1315, (o_p rfl ⟨rfl, rfl⟩)⟩⟩⟩, fun _ => ⟨rfl, rfl, rfl, .inr ⟨_, _, _, _, rfl, rfl, rfl, .inl ⟨hb1315, (o_p rfl ⟨rfl, rfl⟩)⟩⟩⟩, fun _ => ⟨rfl, rfl, rfl, .inr ⟨_, _, _, _, rfl, rfl, rfl, .inl ⟨hb1315, (o_fa (fd := ⟨ "alternate", 4, 1, false, "", "vitrine/space", 8⟩) rfl rfl rfl rfl rfl ⟨rfl, rfl⟩)⟩⟩⟩, fun _ => ⟨rfl, rfl, rfl, .inr ⟨_, _, _, _, rfl, rfl, rfl, .inl ⟨hb1315, (o_ld (b := b0) (off := 1) (v := (.bool p0.alternate)) rfl rm1 rfl rfl ⟨rfl, rfl⟩)⟩⟩⟩, fun _ => ⟨rfl, rfl, rfl, .inr ⟨_, _, _, _, rfl, rfl, rfl, .inl ⟨hb1315, (o_p rfl ⟨rfl, rfl⟩)⟩⟩⟩, fun _ => ⟨rfl, rfl, rfl, .inr ⟨_, _, _, _, rfl, rfl, rfl, .inl ⟨hb1315, (o_p rfl ⟨rfl, rfl⟩)⟩⟩⟩, fun _ => ⟨rfl, rfl, rfl, .inr ⟨_, _, _, _, rfl, rfl, rfl, .inl ⟨hb1315, (o_fa (fd := ⟨ "alternate", 4, 1, false, "", "vitrine/space", 8⟩) rfl rfl rfl rfl rfl ⟨rfl, rfl⟩)⟩⟩⟩, fun _ => ⟨rfl, rfl, rfl, .inr ⟨_, _, _, _, rfl, rfl, rfl, .inl ⟨hb1315, (o_ld (b := b1) (off := 1) (v := (.bool p1.alternate)) rfl rm2 rfl rfl ⟨rfl, rfl⟩)⟩⟩⟩, fun _ => ⟨rfl, rfl, rfl, .inr ⟨_, _, _, _, rfl, rfl, rfl, .inl ⟨hb1315, (o_p (v := (.bool (p0.alternate == p1.alternate))) rfl ⟨rfl, rfl⟩)⟩⟩⟩, fun _ => ⟨rfl, rfl, rfl, .inl ⟨rfl, (o_pick_t rfl hb1315 rfl ⟨rfl, rfl⟩)⟩⟩, fun _ => ⟨rfl, rfl, rfl, .inl ⟨rfl, (o_p rfl ⟨rfl, rfl⟩)⟩⟩, fun _ => ⟨rfl, rfl, rfl, .inl ⟨rfl, (o_p rfl ⟨rfl, rfl⟩)⟩⟩, fun _ => ⟨rfl, rfl, rfl, .inl ⟨rfl, (o_p rfl ⟨rfl, rfl⟩)⟩⟩, fun _ => ⟨rfl, rfl, rfl, .inl ⟨rfl, (o_fa (fd := ⟨ "model", 3, 0, false, "", "vitrine/space", 0⟩) rfl rfl rfl rfl rfl ⟨rfl, rfl⟩)⟩⟩, fun _ => ⟨rfl, rfl, rfl, .inl ⟨rfl, (o_ld (b := b0) (off := 0) (v := (.int .i64 p0.model)) rfl rm1 rfl rfl ⟨rfl, rfl⟩)⟩⟩, fun _ => ⟨rfl, rfl, rfl, .inl ⟨rfl, (o_p rfl ⟨rfl, rfl⟩)⟩⟩, fun _ => ⟨rfl, rfl, rfl, .inl ⟨rfl, (o_p rfl ⟨rfl, rfl⟩)⟩⟩, fun _ => ⟨rfl, rfl, rfl, .inl ⟨rfl, (o_fa (fd := ⟨ "model", 3, 0, false, "", "vitrine/space", 0⟩) rfl rfl rfl rfl rfl ⟨rfl, rfl⟩)⟩⟩, fun _ => ⟨rfl, rfl, rfl, .inl ⟨rfl, (o_ld (b := b1) (off := 0) (v := (.int .i64 p1.model)) rfl rm2 rfl rfl ⟨rfl, rfl⟩)⟩⟩, fun _ => ⟨rfl, rfl, rfl, .inl ⟨rfl, (o_p (v := (.bool (p0.model == p1.model))) rfl ⟨rfl, rfl⟩)⟩⟩, fun _ => ⟨rfl, rfl, rfl, .inl ⟨rfl, (o_p rfl ⟨rfl, rfl⟩)⟩⟩, trivial⟩, rfl, .inl ⟨rfl, rfl, ?_⟩⟩
    obtain rfl := Option.some.inj h
    exact ej () X1312 ⟨(Rd.ext hs1308 hx1313), hs1314, (Ext.trans hx1307 hx1313)⟩ (sc rfl sn) (kc rm0 (kc rm0 (kc rm0 kr)))
  ·replace h := cond_f hb1315 h
   refine c_draw (n := 1) (q := [(10, 24, undef), (11, 25, undef), (12, 26, undef), (13, 27, undef), (14, 28, undef), (15, 29, undef), (16, 30, undef), (17, 31, undef), (18, 32, undef), (19, 33, (.bool false)), (20, 34, (.bool false)), (21, 35, undef), (22, 36, undef), (23, 37, undef), (24, 38, undef), (25, 39, undef), (26, 40, undef), (27, 41, undef), (28, 42, undef), (29, 43, undef), (30, 44, (.bool false)), (31, 45, (.bool false)), (32, 46, undef), (33, 47, undef), (34, 48, undef), (35, 49, undef), (36, 50, undef), (37, 51, undef), (38, 52, undef), (39, 53, undef), (40, 54, undef), (41, 55, (.bool false)), (42, 4, (.bool false)), (0, 14, (.pointer (some ⟨b0, 0, none⟩))), (1, 15, (.pointer (some ⟨b0, 0, none⟩))), (2, 16, (.pointer (some ⟨b0, 0, none⟩))), (3, 17, (.int .i64 p0.model)), (4, 18, (.pointer (some ⟨b1, 0, none⟩))), (5, 19, (.pointer (some ⟨b1, 0, none⟩))), (6, 20, (.pointer (some ⟨b1, 0, none⟩))), (7, 21, (.int .i64 p1.model)), (8, 22, (.bool (p0.model == p1.model))), (9, 23, (.bool (p0.model == p1.model)))]) (pend := [0, 1, 2, 3, 4, 5, 6, 7, 8, 9, 10, 11, 12, 13, 14, 15, 16, 17, 18, 19, 20, 21, 22, 23, 24, 25, 26, 27, 28, 29, 30, 31, 32, 33, 34, 35, 36, 37, 38, 39, 40, 41, 42]) rfl rfl rfl ?_
   refine ⟨⟨fun _ => ⟨rfl, rfl, rfl, .inr ⟨_, _, _, _, rfl, rfl, rfl, .inr ⟨hb1315, rfl⟩⟩⟩, fun _ => ⟨rfl, rfl, rfl, .inr ⟨_, _, _, _, rfl, rfl, rfl, .inr ⟨hb1315, rfl⟩⟩⟩, fun _ => ⟨rfl, rfl, rfl, .inr ⟨_, _, _, _, rfl, rfl, rfl, .inr ⟨hb1315, rfl⟩⟩⟩, fun _ => ⟨rfl, rfl, rfl, .inr ⟨_, _, _, _, rfl, rfl, rfl, .inr ⟨hb1315, rfl⟩⟩⟩, fun _ => ⟨rfl, rfl, rfl, .inr ⟨_, _, _, _, rfl, rfl, rfl, .inr ⟨hb1315, rfl⟩⟩⟩, fun _ => ⟨rfl, rfl, rfl, .inr ⟨_, _, _, _, rfl, rfl, rfl, .inr ⟨hb1315, rfl⟩⟩⟩, fun _ => ⟨rfl, rfl, rfl, .inr ⟨_, _, _, _, rfl, rfl, rfl, .inr ⟨hb1315, rfl⟩⟩⟩, fun _ => ⟨rfl, rfl, rfl, .inr ⟨_, _, _, _, rfl, rfl, rfl, .inr ⟨hb1315, rfl⟩⟩⟩, fun _ => ⟨rfl, rfl, rfl, .inr ⟨_, _, _, _, rfl, rfl, rfl, .inr ⟨hb1315, rfl⟩⟩⟩, fun _ => ⟨rfl, rfl, rfl, .inl ⟨rfl, (o_pick_f rfl hb1315 rfl ⟨rfl, rfl⟩)⟩⟩, fun _ => ⟨rfl, rfl, rfl, .inl ⟨rfl, (o_p rfl ⟨rfl, rfl⟩)⟩⟩, fun _ => ⟨rfl, rfl, rfl, .inr ⟨_, _, _, _, rfl, rfl, rfl, .inr ⟨rfl, rfl⟩⟩⟩, fun _ => ⟨rfl, rfl, rfl, .inr ⟨_, _, _, _, rfl, rfl, rfl, .inr ⟨rfl, rfl⟩⟩⟩, fun _ => ⟨rfl, rfl, rfl, .inr ⟨_, _, _, _, rfl, rfl, rfl, .inr ⟨rfl, rfl⟩⟩⟩, fun _ => ⟨rfl, rfl, rfl, .inr ⟨_, _, _, _, rfl, rfl, rfl, .inr ⟨rfl, rfl⟩⟩⟩, fun _ => ⟨rfl, rfl, rfl, .inr ⟨_, _, _, _, rfl, rfl, rfl, .inr ⟨rfl, rfl⟩⟩⟩, fun _ => ⟨rfl, rfl, rfl, .inr ⟨_, _, _, _, rfl, rfl, rfl, .inr ⟨rfl, rfl⟩⟩⟩, fun _ => ⟨rfl, rfl, rfl, .inr ⟨_, _, _, _, rfl, rfl, rfl, .inr ⟨rfl, rfl⟩⟩⟩, fun _ => ⟨rfl, rfl, rfl, .inr ⟨_, _, _, _, rfl, rfl, rfl, .inr ⟨rfl, rfl⟩⟩⟩, fun _ => ⟨rfl, rfl, rfl, .inr ⟨_, _, _, _, rfl, rfl, rfl, .inr ⟨rfl, rfl⟩⟩⟩, fun _ => ⟨rfl, rfl, rfl, .inl ⟨rfl, (o_pick_f rfl rfl rfl ⟨rfl, rfl⟩)⟩⟩, fun _ => ⟨rfl, rfl, rfl, .inl ⟨rfl, (o_p rfl ⟨rfl, rfl⟩)⟩⟩, fun _ => ⟨rfl, rfl, rfl, .inr ⟨_, _, _, _, rfl, rfl, rfl, .inr ⟨rfl, rfl⟩⟩⟩, fun _ => ⟨rfl, rfl, rfl, .inr ⟨_, _, _, _, rfl, rfl, rfl, .inr ⟨rfl, rfl⟩⟩⟩, fun _ => ⟨rfl, rfl, rfl, .inr ⟨_, _, _, _, rfl, rfl, rfl, .inr ⟨rfl, rfl⟩⟩⟩, fun _ => ⟨rfl, rfl, rfl, .inr ⟨_, _, _, _, rfl, rfl, rfl, .inr ⟨rfl, rfl⟩⟩⟩, fun _ => ⟨rfl, rfl, rfl, .inr ⟨_, _, _, _, rfl, rfl, rfl, .inr ⟨rfl, rfl⟩⟩⟩, fun _ => ⟨rfl, rfl, rfl, .inr ⟨_, _, _, _, rfl, rfl, rfl, .inr ⟨rfl, rfl⟩⟩⟩, fun _ => ⟨rfl, rfl, rfl, .inr ⟨_, _, _, _, rfl, rfl, rfl, .inr ⟨rfl, rfl⟩⟩⟩, fun _ => ⟨rfl, rfl, rfl, .inr ⟨_, _, _, _, rfl, rfl, rfl, .inr ⟨rfl, rfl⟩⟩⟩, fun _ => ⟨rfl, rfl, rfl, .inr ⟨_, _, _, _, rfl, rfl, rfl, .inr ⟨rfl, rfl⟩⟩⟩, fun _ => ⟨rfl, rfl, rfl, .inl ⟨rfl, (o_pick_f rfl rfl rfl ⟨rfl, rfl⟩)⟩⟩, fun _ => ⟨rfl, rfl, rfl, .inl ⟨rfl, (o_p rfl ⟨rfl, rfl⟩)⟩⟩, fun _ => ⟨rfl, rfl, rfl, .inl ⟨rfl, (o_p rfl ⟨rfl, rfl⟩)⟩⟩, fun _ => ⟨rfl, rfl, rfl, .inl ⟨rfl, (o_p rfl ⟨rfl, rfl⟩)⟩⟩, fun _ => ⟨rfl, rfl, rfl, .inl ⟨rfl, (o_fa (fd := ⟨ "model", 3, 0, false, "", "vitrine/space", 0⟩) rfl rfl rfl rfl rfl ⟨rfl, rfl⟩)⟩⟩, fun _ => ⟨rfl, rfl, rfl, .inl ⟨rfl, (o_ld (b := b0) (off := 0) (v := (.int .i64 p0.model)) rfl rm1 rfl rfl ⟨rfl, rfl⟩)⟩⟩, fun _ => ⟨rfl, rfl, rfl, .inl ⟨rfl, (o_p rfl ⟨rfl, rfl⟩)⟩⟩, fun _ => ⟨rfl, rfl, rfl, .inl ⟨rfl, (o_p rfl ⟨rfl, rfl⟩)⟩⟩, fun _ => ⟨rfl, rfl, rfl, .inl ⟨rfl, (o_fa (fd := ⟨ "model", 3, 0, false, "", "vitrine/space", 0⟩) rfl rfl rfl rfl rfl ⟨rfl, rfl⟩)⟩⟩, fun _ => ⟨rfl, rfl, rfl, .inl ⟨rfl, (o_ld (b := b1) (off := 0) (v := (.int .i64 p1.model)) rfl rm2 rfl rfl ⟨rfl, rfl⟩)⟩⟩, fun _ => ⟨rfl, rfl, rfl, .inl ⟨rfl, (o_p (v := (.bool (p0.model == p1.model))) rfl ⟨rfl, rfl⟩)⟩⟩, fun _ => ⟨rfl, rfl, rfl, .inl ⟨rfl, (o_p rfl ⟨rfl, rfl⟩)⟩⟩, trivial⟩, rfl, .inl ⟨rfl, rfl, ?_⟩⟩
   obtain rfl := Option.some.inj h
   exact ej () X1312 ⟨(Rd.ext hs1308 hx1313), hs1314, (Ext.trans hx1307 hx1313)⟩ (sc rfl sn) (kc rm0 (kc rm0 (kc rm0 kr)))
 ·rintro _ i2 ⟨f2_0, f2_1, f2_2⟩
  replace h := hk2
  clear hk2
  refine e_seq (c_ret (e_ret ?_))
  refine r_endt rfl rfl (kc rm0 (kc rm0 (kc rm0 kr))) ?_
  obtain rfl := Option.some.inj h
  exact hk i2 f2_0 f2_1 f2_2

theorem c_vitrinelaw17_WriteJoins {g : Gw} (hg : GK g) (X : HP) (p0 : Int) (p1 : List Vvitrineref12_Act) (s0 : SV) (q0r : RdN X s0 92 en_Vvitrineref12_Act D_Vvitrineref12_Act p1) (p2 : List Int) (s1 : SV) (q1 : Rd X s1 5 (enI .u8) p2) (p3 : List Int) (s2 : SV) (q2 : Rd X s2 5 (enI .u8) p3) (p4 : Int) (r : Bool) (h : m_vitrinelaw17_WriteJoins p0 p1 p2 p3 p4 = some r) : Tri env g 5 (List.toArray [(.int .u8 p0), (SV.val s0), (SV.val s1), (SV.val s2), (.int .i64 p4)]) [X] (fun K R => ∀ (i0 : HP), (Ext X i0) → K (.bool r) (i0 :: R)) := by
 refine tri_of (fn := Tryz.f5) (N := 130) Tryz.func5 rfl rfl rfl ?_
 intro R K hk
 obtain ⟨L_q0, q0, n_q0⟩ := q0r
 unfold m_vitrinelaw17_WriteJoins at h
 change GC _ none _ [] [(0, (.int .u8 p0)), (1, (SV.val s0)), (2, (SV.val s1)), (3, (SV.val s2)), (4, (.int .i64 p4))] (X :: R) g _ _
 refine c_seq (c_region (o1 rfl (o_p rfl (o_end (e_seq (c_seq ?_))))))
 refine c_seq (c_region ?_)
 replace h := bsome h
 obtain ⟨d1, h1, h⟩ := h
 refine o1 rfl (o_call has18 rfl (c_vitrinelaw17_awake hg X _ h1) (pc rm0 pn) (fun i1 f1_0 => ?_))
 refine o1 rfl (o_p (v := (.bool (!d1))) rfl ?_)
 refine o_end (e_seq ?_)
 refine c_cond (b := (!d1)) rfl (fun hb779 => ?_) (fun hb779 => ?_)
 ·replace h := cond_t hb779 h
  refine c_seq (c_region (o1 rfl (o_p rfl (o_end (e_seq (c_ret ?_))))))
  refine e_then_ret (e_ret ?_)
  refine r_endt rfl rfl (kc rm0 kr) ?_
  obtain rfl := Option.some.inj h
  exact hk i1 f1_0
 ·replace h := cond_f hb779 h
  refine c_skip (e_seq (c_seq (c_region (o1 rfl (o_p rfl (o1 rfl (o_p rfl ?_)))))))
  replace h := bsome h
  obtain ⟨d4, h4, h⟩ := h
  refine o1 rfl (o_call has19 rfl (c_vitrinelaw17_lay hg i1 p0 p1 s0 ⟨_, (Rd.ext q0 f1_0), (NL.mono n_q0 (D_Vvitrineref12_Act.ext f1_0))⟩ _ h4) (pc rm0 pn) (fun i4 => ?_))
  refine o1 rfl (o_p rfl (o1 rfl (o_p rfl (o1 rfl (o_p rfl (o1 rfl (o_p rfl (o1 rfl (o_p rfl (o_end ?_))))))))))
  refine e_seq (c_seq (c_region (o1 rfl (o_p rfl ?_))))
  replace h := bsome h
  obtain ⟨d6, h6, h⟩ := h
  refine o1 rfl (o_call has20 rfl (c_space_Space_Copy hg i1 d4.1 i4.1 i4.2.1 _ h6) (pc rm0 (pc rm0 (pc rm0 pn))) (fun i6 => ?_))
  refine o1 rfl (o_p rfl (o_end (e_seq (c_seq (c_region (o1 rfl (o_p rfl ?_)))))))
  replace h := bsome h
  obtain ⟨d7, h7, h⟩ := h
  refine o1 rfl (o_call has21 rfl (c_vitrineref01_Cut hg i1 p2 s1 (Rd.ext q1 f1_0) 200 _ h7) (pc rm0 pn) (fun i7 => ?_))
  refine o1 rfl (o_p rfl ?_)
  replace h := bsome h
  obtain ⟨d8, h8, h⟩ := h
  refine o1 rfl (o_call has21 rfl (c_vitrineref01_Cut hg i1 p3 s2 (Rd.ext q2 f1_0) 200 _ h8) (pc rm0 pn) (fun i8 => ?_))
  refine o1 rfl (o_p rfl (o1 rfl (o_p rfl (o_end (e_seq (c_seq (c_region ?_)))))))
  refine o1 rfl (o_p rfl ?_)
  refine o_fz rm2 rm0 (fun X979 hx980 hs981 => ?_)
  replace h := bsome h
  obtain ⟨d9, h9, h⟩ := h
  refine o1 rfl (o_call has22 rfl (c_vitrineref16_All hg X979 d7 i7 hs981 _ h9) (pc rm0 pn) (fun i9 f9_0 f9_1 => ?_))
  refine o1 rfl (o_p rfl (o1 rfl (o_p rfl (o1 rfl (o_p rfl (o1 rfl (o_p rfl (o1 rfl (o_p rfl (o1 rfl (o_p rfl ?_)))))))))))
  refine o1 rfl (o_p rfl (o_end (e_seq (c_seq (c_seq (c_region ?_))))))
  refine o1 rfl (o_p rfl ?_)
  refine o1 rfl (o_lenN (s := i9.2.1) rfl rfl rfl rm1 (rd_own _ _ _ _) f9_0 ?_)
  refine o1 rfl (o_p rfl (o_end (e_seq ?_)))
  replace h := jn_some h
  obtain ⟨y10, h, hk10⟩ := h
  refine cj (D := Unit) (ι := Unit) (fun d10 i10 => y10 = Sum.inl d10) (fun d10 i10 => [(16, (.int .i64 d9.2.2)), (3, (SV.val i8)), (2, (SV.val i7)), (13, (.pointer (some ⟨i6.1, 0, none⟩))), (11, (.pointer (some ⟨i4.1, 0, none⟩))), (4, (.int .i64 p4))]) (fun d10 i10 => i9.1 :: slO i8 5 (enI .u8) d8 :: blk i6.1 (.cells (List.toArray [(.int .i64 d6.model), (.bool d6.alternate), (.int .i64 d6.size.Rows), (.int .i64 d6.size.Cols), (SV.val i6.2), (.int .i64 d6.cursor), (.int .i64 d6.attrs)]) 116 (0, 0)) :: blk i4.1 (.cells (List.toArray [(.int .i64 d4.1.model), (.bool d4.1.alternate), (.int .i64 d4.1.size.Rows), (.int .i64 d4.1.size.Cols), (SV.val i4.2.1), (.int .i64 d4.1.cursor), (.int .i64 d4.1.attrs)]) 116 (0, 0)) :: slO i6.2 80 en_Vapi_Cell d6.cells :: slO i4.2.1 80 en_Vapi_Cell d4.1.cells :: R) ?_ ?_
  ·refine c_block ?_
   refine c_loop (l_sub (sc rfl (sc rfl (sc rfl (sc rfl (sc rfl (sc rfl (sc rfl (sc rfl (sc rfl sn))))))))) (l_keep (kc rm0 (kc rm0 (kc rm0 (kc rm2 (kc rm0 (kc rm1 (kc rm0 (kd (kd kr))))))))) (lf (X := Int) (ι := Unit) (fun k x => vitrinelaw17_WriteJoins_l11 d9 k x) _ (fun x11 i11 => True) (fun x11 i11 => [(50, (.int .i64 x11)), (49, (.int .i64 (d9.1.length : Int))), (48, (SV.val i9.2.1)), (16, (.int .i64 d9.2.2)), (3, (SV.val i8)), (2, (SV.val i7)), (13, (.pointer (some ⟨i6.1, 0, none⟩))), (11, (.pointer (some ⟨i4.1, 0, none⟩))), (4, (.int .i64 p4))]) (fun x11 i11 => i9.1 :: slO i9.2.1 56 en_Vvitrineref16_Op i9.2.2 :: slO i8 5 (enI .u8) d8 :: blk i6.1 (.cells (List.toArray [(.int .i64 d6.model), (.bool d6.alternate), (.int .i64 d6.size.Rows), (.int .i64 d6.size.Cols), (SV.val i6.2), (.int .i64 d6.cursor), (.int .i64 d6.attrs)]) 116 (0, 0)) :: blk i4.1 (.cells (List.toArray [(.int .i64 d4.1.model), (.bool d4.1.alternate), (.int .i64 d4.1.size.Rows), (.int .i64 d4.1.size.Cols), (SV.val i4.2.1), (.int .i64 d4.1.cursor), (.int .i64 d4.1.attrs)]) 116 (0, 0)) :: slO i6.2 80 en_Vapi_Cell d6.cells :: slO i4.2.1 80 en_Vapi_Cell d4.1.cells :: R) (fun _ => rfl) ?_ fuel 0 () trivial h)))
   clear h
   rintro k11 ih11 x11 i11 _ h
   rw [vitrinelaw17_WriteJoins_l11.eq_2] at h
   refine l_round (c_seq (c_region ?_))
   refine o1 rfl (o_p (v := (.bool (decide (x11 < (d9.1.length : Int))))) rfl ?_)
   refine o_end (e_seq (c_seq ?_))
   refine c_cond (b := (decide (x11 < (d9.1.length : Int)))) rfl (fun hb1276 => ?_) (fun hb1276 => ?_)
   ·replace h := cond_t hb1276 h
    refine c_skip (e_seq (c_seq (c_block (c_seq (c_region ?_)))))
    replace h := gsome h
    obtain ⟨hg1277, h⟩ := h
    refine o1 rfl (o_ix (s := i9.2.1) (n := x11) (e := en_Vvitrineref16_Op) rfl rfl rfl rfl rfl rfl rm1 (rd_own _ _ _ _) (NL.lt f9_0 hg1277) ?_)
    obtain ⟨sv1278, he_sv1278, hd_sv1278⟩ := NL.rd f9_0 hg1277
    have hr1279 : Rd i9.1 sv1278.1 208 en_Vvitrineref05_Pair ((rd d9.1 x11).Pairs) := hd_sv1278.1
    have hr1280 : Rd i9.1 sv1278.2 5 (enI .u8) ((rd d9.1 x11).Text) := hd_sv1278.2
    refine o1 rfl (o_ldE (s := i9.2.1) (e := en_Vvitrineref16_Op) (n := x11) (f := 0) (v := (.agg (List.toArray [(.int .i64 ((rd d9.1 x11).Kind)), (.int .i64 ((rd d9.1 x11).Addr)), (.int .u8 ((rd d9.1 x11).Code)), (.bool ((rd d9.1 x11).Graph)), (.int .u8 ((rd d9.1 x11).FA)), (SV.val sv1278.1), (SV.val sv1278.2)]))) rfl rm1 (rd_own _ _ _ _) (NL.lt f9_0 hg1277) rfl (by rw [he_sv1278]; rfl) ?_)
    refine o1 rfl (o_alloc (cs := [(.int .i64 0), (.int .i64 0), (.int .u8 0), (.bool false), (.int .u8 0), (SV.val SV.nil), (SV.val SV.nil)]) rfl rfl (fun b1281 => ?_))
    refine o0 (o_st (b := b1281) (off := 0) (vs := [(.int .i64 ((rd d9.1 x11).Kind)), (.int .i64 ((rd d9.1 x11).Addr)), (.int .u8 ((rd d9.1 x11).Code)), (.bool ((rd d9.1 x11).Graph)), (.int .u8 ((rd d9.1 x11).FA)), (SV.val sv1278.1), (SV.val sv1278.2)]) (cs' := [(.int .i64 ((rd d9.1 x11).Kind)), (.int .i64 ((rd d9.1 x11).Addr)), (.int .u8 ((rd d9.1 x11).Code)), (.bool ((rd d9.1 x11).Graph)), (.int .u8 ((rd d9.1 x11).FA)), (SV.val sv1278.1), (SV.val sv1278.2)]) rfl rfl rp0 rfl rfl rfl rfl rfl rfl ?_)
    refine o_end (e_seq (c_seq (c_region ?_)))
    refine o1 rfl (o_fa (fd := ⟨ "Kind", 3, 0, false, "", "", 0⟩) rfl rfl rfl rfl rfl ?_)
    refine o1 rfl (o_ld (b := b1281) (off := 0) (v := (.int .i64 ((rd d9.1 x11).Kind))) rfl rm0 rfl rfl ?_)
    refine o1 rfl (o_p (v := (.bool (((rd d9.1 x11).Kind) == 40))) rfl ?_)
    refine o_end (e_seq ?_)
    refine c_cond (b := (((rd d9.1 x11).Kind) == 40)) rfl (fun hb1283 => ?_) (fun hb1283 => ?_)
    ·replace h := cond_t hb1283 h
     refine c_seq (c_region (o1 rfl (o_p rfl (o_end (e_seq (c_ret ?_))))))
     refine e_blk_ret (e_then_ret (e_then_ret (e_blk_ret (ej_ret ?_))))
     replace h := esc_some h
     obtain ⟨z10, h, rfl⟩ := h
     obtain rfl := (hk10 : z10 = _)
     refine e_then_ret (e_ret ?_)
     refine r_endt rfl rfl (kc rm1 (kd (kd (kd (kd (kd (kd (kd kr)))))))) ?_
     obtain rfl := Option.some.inj h
     exact hk i9.1 (Ext.trans (Ext.trans f1_0 hx980) f9_1)
    ·replace h := cond_f hb1283 h
     refine c_skip (e_blk (e_seq (c_region ?_)))
     refine o1 rfl (o_p (v := (.int .i64 (w64 (x11 + 1)))) rfl ?_)
     refine o1 rfl (o_p rfl (o_end ?_))
     exact e_loop (l_sub (sc rfl (sc rfl (sc rfl (sc rfl (sc rfl (sc rfl (sc rfl (sc rfl (sc rfl sn))))))))) (l_keep (kc rm1 (kc rm1 (kc rm1 (kc rm1 (kc rm1 (kc rm1 (kc rm1 (kd kr)))))))) (ih11 (w64 (x11 + 1)) () trivial h)))
   ·replace h := cond_f hb1276 h
    refine c_exit (e_then_exit (e_then_exit (e_blk_exit ?_)))
    obtain rfl := Option.some.inj h
    exact ej () () rfl (sc rfl (sc rfl (sc rfl (sc rfl (sc rfl (sc rfl sn)))))) (kc rm0 (kc rm1 (kc rm1 (kc rm1 (kc rm1 (kc rm1 (kd kr)))))))
  ·rintro d10 i10 rfl
   replace h := JK_inl hk10
   clear hk10
   refine e_seq (c_seq (c_seq (c_region (o1 rfl (o_p rfl ?_)))))
   refine o1 rfl (o_p (v := (.bool (d9.2.2 != 0))) rfl ?_)
   refine o_end (e_seq ?_)
   refine c_cond (b := (d9.2.2 != 0)) rfl (fun hb1284 => ?_) (fun hb1284 => ?_)
   ·replace h := cond_t hb1284 h
    refine c_seq (c_region (o1 rfl (o_p rfl (o_end (e_seq (c_ret ?_))))))
    refine e_then_ret (e_ret ?_)
    refine r_endt rfl rfl (kc rm0 (kd (kd (kd (kd (kd kr)))))) ?_
    obtain rfl := Option.some.inj h
    exact hk i9.1 (Ext.trans (Ext.trans f1_0 hx980) f9_1)
   ·replace h := cond_f hb1284 h
    refine c_skip (e_seq (c_seq (c_region ?_)))
    refine o1 rfl (o_bs (e := (enI .u8)) (l := [17, 64, 64]) (zs := [(.int .u8 0)]) rfl rfl rfl rfl rfl rfl rfl rfl rfl rfl (fun s1285 => ?_))
    refine o1 rfl (o_p rfl ?_)
    replace h := gsome h
    obtain ⟨hg1287, h⟩ := h
    refine o1 rfl (o_app (s := s1285) (r := i8) (e := (enI .u8)) (l := [17, 64, 64]) (l2 := d8) (zs := [(.int .u8 0)]) rfl rfl rfl rfl rfl rfl rfl rfl rfl rfl rfl rm0 rm1 (rd_own _ _ _ _) hg1287 (fun s1288 => ?_))
    refine o1 rfl (o_p rfl (o_end (e_seq (c_seq (c_region (o1 rfl (o_p rfl ?_)))))))
    refine o1 rfl (o_p rfl ?_)
    replace h := bsome h
    obtain ⟨d16, h16, h⟩ := h
    refine o1 rfl (o_call has24 rfl (c_vitrineref01_Copy hg i9.1 d7 i7 (Rd.ext hs981 f9_1) _ h16) (pc rm1 pn) (fun i16 => ?_))
    refine o1 rfl (o_p rfl ?_)
    replace h := gsome h
    obtain ⟨hg1291, h⟩ := h
    refine o1 rfl (o_app (s := i16) (r := s1288) (e := (enI .u8)) (l := d16) (l2 := ([17, 64, 64] ++ d8)) (zs := [(.int .u8 0)]) rfl rfl rfl rfl rfl rfl rfl rfl rfl rfl rfl rm1 rm1 (rd_own _ _ _ _) hg1291 (fun s1292 => ?_))
    refine o1 rfl (o_p rfl ?_)
    refine o_fz rm0 rm0 (fun X1294 hx1295 hs1296 => ?_)
    replace h := bsome h
    obtain ⟨d17, h17, h⟩ := h
    refine o1 rfl (o_call has23 rfl (c_write_Orders hg X1294 (⟨d4.1.model, d4.1.alternate, d4.1.size, d4.1.cells, d4.1.cursor, d4.1.attrs⟩ : Vspace_Space) i4.1 i4.2.1 (d16 ++ ([17, 64, 64] ++ d8)) s1292 hs1296 p4 _ h17) (pc rm0 (pc rm3 (pc rm4 pn))) (fun i17 f17_0 => ?_))
    refine o1 rfl (o_p rfl (o1 rfl (o_p rfl (o1 rfl (o_p rfl (o1 rfl (o_p rfl (o1 rfl (o_p rfl (o1 rfl (o_p rfl ?_)))))))))))
    refine o1 rfl (o_p rfl (o_end (e_seq (c_seq (c_region (o1 rfl (o_p rfl ?_)))))))
    refine o1 rfl (o_p rfl (o1 rfl (o_p rfl ?_)))
    replace h := bsome h
    obtain ⟨d18, h18, h⟩ := h
    refine o1 rfl (o_call has23 rfl (c_write_Orders hg i17 d6 i6.1 i6.2 d7 i7 (Rd.ext hs981 (Ext.trans (Ext.trans f9_1 hx1295) f17_0)) p4 _ h18) (pc rm0 (pc rm4 (pc rm4 pn))) (fun i18 f18_0 => ?_))
    refine o1 rfl (o_p rfl (o1 rfl (o_p rfl (o1 rfl (o_p rfl (o1 rfl (o_p rfl (o1 rfl (o_p rfl (o1 rfl (o_p rfl ?_)))))))))))
    refine o1 rfl (o_p rfl (o_end (e_seq (c_seq (c_seq (c_region ?_))))))
    refine o1 rfl (o_p rfl ?_)
    refine o1 rfl (o_p (v := (.bool (d18.2.2.2 != 0))) rfl ?_)
    refine o_end (e_seq ?_)
    refine c_cond (b := (d18.2.2.2 != 0)) rfl (fun hb1299 => ?_) (fun hb1299 => ?_)
    ·replace h := cond_t hb1299 h
     refine c_seq ?_
     replace h := bsome h
     obtain ⟨d20, h, hk20⟩ := h
     refine cj (D := Unit) (ι := HP) (fun _ i20 => Ext X i20) (fun _ i20 => [(10, (.bool d20))]) (fun _ i20 => i20 :: R) ?_ ?_
     ·refine c_region (o1 rfl (o_p rfl (o1 rfl (o_p rfl ?_))))
      refine o1 rfl (o_p (v := (.bool (d17.2.2.2 == d18.2.2.2))) rfl ?_)
      refine o1 rfl (o_p rfl ?_)
      rcases bool_or ((d17.2.2.2 == d18.2.2.2)) with hb1300 | hb1300
      ·replace h := cond_t hb1300 h
       refine oy rfl rfl rfl hb1300 (o_p rfl ?_)
       refine oy rfl rfl rfl hb1300 (o_p rfl ?_)
       refine oy rfl rfl rfl hb1300 (o_p (v := (.bool (d17.2.1 == d18.2.1))) rfl ?_)
       refine o1 rfl (o_pick_t rfl hb1300 rfl ?_)
       refine o1 rfl (o_p rfl ?_)
       rcases bool_or ((d17.2.1 == d18.2.1)) with hb1301 | hb1301
       ·replace h := cond_t hb1301 h
        refine oy rfl rfl rfl hb1301 (o_p rfl ?_)
        refine oy rfl rfl rfl hb1301 (o_p rfl ?_)
        refine oy rfl rfl rfl hb1301 (o_p (v := (.bool (d17.2.2.1 == d18.2.2.1))) rfl ?_)
        refine o1 rfl (o_pick_t rfl hb1301 rfl ?_)
        refine o1 rfl (o_p rfl ?_)
        rcases bool_or ((d17.2.2.1 == d18.2.2.1)) with hb1302 | hb1302
        ·replace h := cond_t hb1302 h
         refine oy rfl rfl rfl hb1302 (o_p rfl ?_)
         refine oy rfl rfl rfl hb1302 (o_p rfl ?_)
         replace h := bsome h
         obtain ⟨d21, h21, h⟩ := h
         refine oy rfl rfl rfl hb1302 (o_call has25 rfl (c_space_Space_Same hg i18 (⟨d17.1.model, d17.1.alternate, d17.1.size, d17.1.cells, d17.1.cursor, d17.1.attrs⟩ : Vspace_Space) i4.1 i4.2.1 (⟨d18.1.model, d18.1.alternate, d18.1.size, d18.1.cells, d18.1.cursor, d18.1.attrs⟩ : Vspace_Space) i6.1 i6.2 _ h21) (pc rm0 (pc rm2 (pc rm2 (pc rm0 (pc rm0 pn))))) (fun i21 f21_0 f21_1 f21_2 => ?_))
         refine o1 rfl (o_pick_t rfl hb1302 rfl ?_)
         refine o1 rfl (o_p rfl (o_end ?_))
         obtain rfl := Option.some.inj h
         exact ej () i21 (Ext.trans (Ext.trans (Ext.trans (Ext.trans (Ext.trans (Ext.trans f1_0 hx980) f9_1) hx1295) f17_0) f18_0) f21_2) (sc rfl sn) (kc rm0 (kd (kd (kd (kd kr)))))
        ·replace h := cond_f hb1302 h
         refine on rfl rfl rfl hb1302 ?_
         refine on rfl rfl rfl hb1302 ?_
         refine on rfl rfl rfl hb1302 ?_
         refine o1 rfl (o_pick_f rfl hb1302 rfl ?_)
         refine o1 rfl (o_p rfl (o_end ?_))
         obtain rfl := Option.some.inj h
         exact ej () i18 (Ext.trans (Ext.trans (Ext.trans (Ext.trans (Ext.trans f1_0 hx980) f9_1) hx1295) f17_0) f18_0) (sc rfl sn) (kc rm0 (kd (kd (kd (kd (kd (kd kr)))))))
       ·replace h := cond_f hb1301 h
        refine on rfl rfl rfl hb1301 ?_
        refine on rfl rfl rfl hb1301 ?_
        refine on rfl rfl rfl hb1301 ?_
        refine o1 rfl (o_pick_f rfl hb1301 rfl ?_)
        refine o1 rfl (o_p rfl ?_)
        refine on rfl rfl rfl rfl ?_
        refine on rfl rfl rfl rfl ?_
        refine on rfl rfl rfl rfl ?_
        refine o1 rfl (o_pick_f rfl rfl rfl ?_)
        refine o1 rfl (o_p rfl (o_end ?_))
        obtain rfl := Option.some.inj h
        exact ej () i18 (Ext.trans (Ext.trans (Ext.trans (Ext.trans (Ext.trans f1_0 hx980) f9_1) hx1295) f17_0) f18_0) (sc rfl sn) (kc rm0 (kd (kd (kd (kd (kd (kd kr)))))))
      ·replace h := cond_f hb1300 h
       refine on rfl rfl rfl hb1300 ?_
       refine on rfl rfl rfl hb1300 ?_
       refine on rfl rfl rfl hb1300 ?_
       refine o1 rfl (o_pick_f rfl hb1300 rfl ?_)
       refine o1 rfl (o_p rfl ?_)
       refine on rfl rfl rfl rfl ?_
       refine on rfl rfl rfl rfl ?_
       refine on rfl rfl rfl rfl ?_
       refine o1 rfl (o_pick_f rfl rfl rfl ?_)
       refine o1 rfl (o_p rfl ?_)
       refine on rfl rfl rfl rfl ?_
       refine on rfl rfl rfl rfl ?_
       refine on rfl rfl rfl rfl ?_
       refine o1 rfl (o_pick_f rfl rfl rfl ?_)
       refine o1 rfl (o_p rfl (o_end ?_))
       obtain rfl := Option.some.inj h
       exact ej () i18 (Ext.trans (Ext.trans (Ext.trans (Ext.trans (Ext.trans f1_0 hx980) f9_1) hx1295) f17_0) f18_0) (sc rfl sn) (kc rm0 (kd (kd (kd (kd (kd (kd kr)))))))
     ·rintro _ i20 f20_0
      replace h := hk20
      clear hk20
      refine e_seq (c_ret (e_then_ret (e_ret ?_)))
      refine r_endt rfl rfl (kc rm0 kr) ?_
      obtain rfl := Option.some.inj h
      exact hk i20 f20_0
    ·replace h := cond_f hb1299 h
     refine c_skip (e_seq (c_seq (c_region (o1 rfl (o_p rfl (o1 rfl (o_p rfl ?_)))))))
     refine o1 rfl (o_p rfl ?_)
     refine o_fz rm5 rm0 (fun X1331 hx1332 hs1333 => ?_)
     replace h := bsome h
     obtain ⟨d22, h22, h⟩ := h
     refine o1 rfl (o_call has23 rfl (c_write_Orders hg X1331 (⟨d18.1.model, d18.1.alternate, d18.1.size, d18.1.cells, d18.1.cursor, d18.1.attrs⟩ : Vspace_Space) i6.1 i6.2 ([17, 64, 64] ++ d8) s1288 hs1333 d18.2.1 _ h22) (pc rm0 (pc rm0 (pc rm0 pn))) (fun i22 f22_0 => ?_))
     refine o1 rfl (o_p rfl (o1 rfl (o_p rfl (o1 rfl (o_p rfl (o1 rfl (o_p rfl (o1 rfl (o_p rfl (o1 rfl (o_p rfl ?_)))))))))))
     refine o1 rfl (o_p rfl (o_end (e_seq (c_seq ?_))))
     replace h := bsome h
     obtain ⟨d23, h, hk23⟩ := h
     refine cj (D := Unit) (ι := HP) (fun _ i23 => Ext X i23) (fun _ i23 => [(10, (.bool d23))]) (fun _ i23 => i23 :: R) ?_ ?_
     ·refine c_region (o1 rfl (o_p rfl (o1 rfl (o_p rfl ?_))))
      refine o1 rfl (o_p (v := (.bool (d17.2.1 == d22.2.1))) rfl ?_)
      refine o1 rfl (o_p rfl ?_)
      rcases bool_or ((d17.2.1 == d22.2.1)) with hb1335 | hb1335
      ·replace h := cond_t hb1335 h
       refine oy rfl rfl rfl hb1335 (o_p rfl ?_)
       refine oy rfl rfl rfl hb1335 (o_p rfl ?_)
       refine oy rfl rfl rfl hb1335 (o_p rfl ?_)
       refine oy rfl rfl rfl hb1335 (o_p (v := (.int .i64 (w64 (d18.2.2.1 + d22.2.2.1)))) rfl ?_)
       refine oy rfl rfl rfl hb1335 (o_p (v := (.bool (d17.2.2.1 == (w64 (d18.2.2.1 + d22.2.2.1))))) rfl ?_)
       refine o1 rfl (o_pick_t rfl hb1335 rfl ?_)
       refine o1 rfl (o_p rfl ?_)
       rcases bool_or ((d17.2.2.1 == (w64 (d18.2.2.1 + d22.2.2.1)))) with hb1336 | hb1336
       ·replace h := cond_t hb1336 h
        refine oy rfl rfl rfl hb1336 (o_p rfl ?_)
        refine oy rfl rfl rfl hb1336 (o_p rfl ?_)
        refine oy rfl rfl rfl hb1336 (o_p (v := (.bool (d17.2.2.2 == d22.2.2.2))) rfl ?_)
        refine o1 rfl (o_pick_t rfl hb1336 rfl ?_)
        refine o1 rfl (o_p rfl ?_)
        rcases bool_or ((d17.2.2.2 == d22.2.2.2)) with hb1337 | hb1337
        ·replace h := cond_t hb1337 h
         refine oy rfl rfl rfl hb1337 (o_p rfl ?_)
         refine oy rfl rfl rfl hb1337 (o_p rfl ?_)
         replace h := bsome h
         obtain ⟨d24, h24, h⟩ := h
         refine oy rfl rfl rfl hb1337 (o_call has25 rfl (c_space_Space_Same hg i22 (⟨d17.1.model, d17.1.alternate, d17.1.size, d17.1.cells, d17.1.cursor, d17.1.attrs⟩ : Vspace_Space) i4.1 i4.2.1 d22.1 i6.1 i6.2 _ h24) (pc rm0 (pc rm2 (pc rm2 (pc rm0 (pc rm0 pn))))) (fun i24 f24_0 f24_1 f24_2 => ?_))
         refine o1 rfl (o_pick_t rfl hb1337 rfl ?_)
         refine o1 rfl (o_p rfl (o_end ?_))
         obtain rfl := Option.some.inj h
         exact ej () i24 (Ext.trans (Ext.trans (Ext.trans (Ext.trans (Ext.trans (Ext.trans (Ext.trans (Ext.trans f1_0 hx980) f9_1) hx1295) f17_0) f18_0) hx1332) f22_0) f24_2) (sc rfl sn) (kc rm0 (kd (kd (kd kr))))
        ·replace h := cond_f hb1337 h
         refine on rfl rfl rfl hb1337 ?_
         refine on rfl rfl rfl hb1337 ?_
         refine on rfl rfl rfl hb1337 ?_
         refine o1 rfl (o_pick_f rfl hb1337 rfl ?_)
         refine o1 rfl (o_p rfl (o_end ?_))
         obtain rfl := Option.some.inj h
         exact ej () i22 (Ext.trans (Ext.trans (Ext.trans (Ext.trans (Ext.trans (Ext.trans (Ext.trans f1_0 hx980) f9_1) hx1295) f17_0) f18_0) hx1332) f22_0) (sc rfl sn) (kc rm0 (kd (kd (kd (kd (kd kr))))))
       ·replace h := cond_f hb1336 h
        refine on rfl rfl rfl hb1336 ?_
        refine on rfl rfl rfl hb1336 ?_
        refine on rfl rfl rfl hb1336 ?_
        refine o1 rfl (o_pick_f rfl hb1336 rfl ?_)
        refine o1 rfl (o_p rfl ?_)
        refine on rfl rfl rfl rfl ?_
        refine on rfl rfl rfl rfl ?_
        refine on rfl rfl rfl rfl ?_
        refine o1 rfl (o_pick_f rfl rfl rfl ?_)
        refine o1 rfl (o_p rfl (o_end ?_))
        obtain rfl := Option.some.inj h
        exact ej () i22 (Ext.trans (Ext.trans (Ext.trans (Ext.trans (Ext.trans (Ext.trans (Ext.trans f1_0 hx980) f9_1) hx1295) f17_0) f18_0) hx1332) f22_0) (sc rfl sn) (kc rm0 (kd (kd (kd (kd (kd kr))))))
      ·replace h := cond_f hb1335 h
       refine on rfl rfl rfl hb1335 ?_
       refine on rfl rfl rfl hb1335 ?_
       refine on rfl rfl rfl hb1335 ?_
       refine on rfl rfl rfl hb1335 ?_
       refine on rfl rfl rfl hb1335 ?_
       refine o1 rfl (o_pick_f rfl hb1335 rfl ?_)
       refine o1 rfl (o_p rfl ?_)
       refine on rfl rfl rfl rfl ?_
       refine on rfl rfl rfl rfl ?_
       refine on rfl rfl rfl rfl ?_
       refine o1 rfl (o_pick_f rfl rfl rfl ?_)
       refine o1 rfl (o_p rfl ?_)
       refine on rfl rfl rfl rfl ?_
       refine on rfl rfl rfl rfl ?_
       refine on rfl rfl rfl rfl ?_
       refine o1 rfl (o_pick_f rfl rfl rfl ?_)
       refine o1 rfl (o_p rfl (o_end ?_))
       obtain rfl := Option.some.inj h
       exact ej () i22 (Ext.trans (Ext.trans (Ext.trans (Ext.trans (Ext.trans (Ext.trans (Ext.trans f1_0 hx980) f9_1) hx1295) f17_0) f18_0) hx1332) f22_0) (sc rfl sn) (kc rm0 (kd (kd (kd (kd (kd kr))))))
     ·rintro _ i23 f23_0
      replace h := hk23
      clear hk23
      refine e_seq (c_ret (e_ret ?_))
      refine r_endt rfl rfl (kc rm0 kr) ?_
      obtain rfl := Option.some.inj h
      exact hk i23 f23_0

end Go.Vt
