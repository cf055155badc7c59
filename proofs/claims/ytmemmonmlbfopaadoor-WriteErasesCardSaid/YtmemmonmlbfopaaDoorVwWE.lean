/- The walks: each function does what its model says. No conditions. -/
import Derived.Test.YtmemmonmlbfopaaDoorVwWEc
set_option linter.unusedVariables false
set_option maxRecDepth 100000
set_option maxHeartbeats 4000000
namespace Go.Vt
open Go.Proofs
theorem c_vitrinelaw17_lay {g : Gw} (hg : GK g) (X : HP) (p0 : Int) (p1 : List Vvitrineref12_Act) (s0 : SV) (q0r : RdN X s0 66 en_Vvitrineref12_Act D_Vvitrineref12_Act p1) (r : Vspace_Space × Vvitrineref12_Space) (h : m_vitrinelaw17_lay p0 p1 = some r) : Tri env g 7 (List.toArray [(.int .u8 p0), (SV.val s0)]) [X] (fun K R => ∀ (i0 : Nat × SV × Nat × SV), K (.tuple (List.toArray [(.pointer (some ⟨i0.1, 0, none⟩)), (.pointer (some ⟨i0.2.2.1, 0, none⟩))])) (X :: blk i0.1 (.cells (List.toArray [(.int .i64 r.1.model), (.bool r.1.alternate), (.int .i64 r.1.size.Rows), (.int .i64 r.1.size.Cols), (SV.val i0.2.1), (.int .i64 r.1.cursor), (.int .i64 r.1.attrs)]) 76 (0, 0)) :: slO i0.2.1 42 en_Vapi_Cell r.1.cells :: blk i0.2.2.1 (.cells (List.toArray [(.int .i64 r.2.Model), (.bool r.2.Alt), (.int .i64 r.2.Size.Rows), (.int .i64 r.2.Size.Cols), (SV.val i0.2.2.2), (.int .i64 r.2.Cursor)]) 40 (0, 0)) :: slO i0.2.2.2 42 en_Vapi_Cell r.2.L :: R)) := by
  refine tri_of (fn := Tryd.f7) (N := 70) Tryd.func7 rfl rfl rfl ?_
  intro R K hk
  obtain ⟨L_q0, q0, n_q0⟩ := q0r
  unfold m_vitrinelaw17_lay at h
  change GC _ none _ [] [(0, (.int .u8 p0)), (1, (SV.val s0))] (X :: R) g _ _
  refine c_seq ?_
  refine c_region ?_
  refine o1 rfl (o_p rfl ?_)
  refine o1 rfl (o_p rfl ?_)
  refine o_end ?_
  refine e_seq ?_
  refine c_seq ?_
  refine c_region ?_
  refine o1 rfl (o_p rfl ?_)
  refine o1 rfl (o_rem (m := p0) (n := 4) rfl rfl (by decide) ?_)
  refine o1 rfl (o_p (v := (.int .i64 (w64 (Int.tmod p0 4)))) rfl ?_)
  refine o1 rfl (o_p (v := (.int .i64 (w64 (2 + (w64 (Int.tmod p0 4)))))) rfl ?_)
  refine o1 rfl (o_p rfl ?_)
  refine o_end ?_
  refine e_seq ?_
  refine c_seq ?_
  refine c_region ?_
  refine o1 rfl (o_p rfl ?_)
  replace h := bsome h
  obtain ⟨d2, h2, h⟩ := h
  rcases d2 with d2 | d2
  · cases h
  · refine o1 rfl (o_call has25 rfl (c_space_New hg X (w64 (2 + (w64 (Int.tmod p0 4)))) _ h2) (pc rm0 pn) (fun i2 => ?_))
    refine o1 rfl (o_p rfl ?_)
    refine o1 rfl (o_p rfl ?_)
    refine o1 rfl (o_p rfl ?_)
    refine o1 rfl (o_p rfl ?_)
    refine o1 rfl (o_p rfl ?_)
    refine o_end ?_
    refine e_seq ?_
    refine c_seq ?_
    refine c_region ?_
    refine o1 rfl (o_p rfl ?_)
    replace h := bsome h
    obtain ⟨d4, h4, h⟩ := h
    rcases d4 with d4 | d4
    · cases h
    · refine o1 rfl (o_call has26 rfl (c_vitrineref12_New hg X (w64 (2 + (w64 (Int.tmod p0 4)))) _ h4) (pc rm0 pn) (fun i4 => ?_))
      refine o1 rfl (o_p rfl ?_)
      refine o_end ?_
      refine e_seq ?_
      refine c_seq ?_
      refine c_seq ?_
      refine c_region ?_
      refine o1 rfl (o_p rfl ?_)
      refine o1 rfl (o_lenN (s := s0) rfl rfl rfl rm0 q0 n_q0 ?_)
      refine o1 rfl (o_p rfl ?_)
      refine o_end ?_
      refine e_seq ?_
      replace h := bsome h
      obtain ⟨d5, h, hk5⟩ := h
      refine cj (D := Unit) (ι := SV) (fun _ i5 => True) (fun _ i5 => [(9, (.pointer (some ⟨i4.1, 0, none⟩))), (7, (.pointer (some ⟨i2.1, 0, none⟩)))]) (fun _ i5 => X :: blk i4.1 (.cells (List.toArray [(.int .i64 d5.1), (.bool d5.2.1), (.int .i64 d5.2.2.1), (.int .i64 d5.2.2.2.1), (SV.val i5), (.int .i64 d5.2.2.2.2.2.1)]) 40 (0, 0)) :: blk i2.1 (.cells (List.toArray [(.int .i64 d5.2.2.2.2.2.2.1), (.bool d5.2.2.2.2.2.2.2.1), (.int .i64 d5.2.2.2.2.2.2.2.2.1), (.int .i64 d5.2.2.2.2.2.2.2.2.2.1), (SV.val i2.2), (.int .i64 d5.2.2.2.2.2.2.2.2.2.2.2.1), (.int .i64 d5.2.2.2.2.2.2.2.2.2.2.2.2)]) 76 (0, 0)) :: slO i5 42 en_Vapi_Cell d5.2.2.2.2.1 :: slO i2.2 42 en_Vapi_Cell d5.2.2.2.2.2.2.2.2.2.2.1 :: R) ?_ ?_
      · refine c_block ?_
        refine c_loop (l_sub (sc rfl (sc rfl (sc rfl (sc rfl (sc rfl sn))))) (l_keep (kc rm0 (kc rm0 (kc rm1 (kc rm0 (kc rm0 kr))))) (lf (X := Int × Int × Bool × Int × Int × (List Vapi_Cell) × Int × Int × Bool × Int × Int × (List Vapi_Cell) × Int × Int) (ι := SV) (fun k x => vitrinelaw17_lay_l6 p1 k x) _ (fun x6 i6 => True) (fun x6 i6 => [(27, (.int .i64 x6.1)), (26, (.int .i64 (p1.length : Int))), (25, (SV.val s0)), (9, (.pointer (some ⟨i4.1, 0, none⟩))), (7, (.pointer (some ⟨i2.1, 0, none⟩)))]) (fun x6 i6 => X :: blk i4.1 (.cells (List.toArray [(.int .i64 x6.2.1), (.bool x6.2.2.1), (.int .i64 x6.2.2.2.1), (.int .i64 x6.2.2.2.2.1), (SV.val i6), (.int .i64 x6.2.2.2.2.2.2.1)]) 40 (0, 0)) :: blk i2.1 (.cells (List.toArray [(.int .i64 x6.2.2.2.2.2.2.2.1), (.bool x6.2.2.2.2.2.2.2.2.1), (.int .i64 x6.2.2.2.2.2.2.2.2.2.1), (.int .i64 x6.2.2.2.2.2.2.2.2.2.2.1), (SV.val i2.2), (.int .i64 x6.2.2.2.2.2.2.2.2.2.2.2.2.1), (.int .i64 x6.2.2.2.2.2.2.2.2.2.2.2.2.2)]) 76 (0, 0)) :: slO i6 42 en_Vapi_Cell x6.2.2.2.2.2.1 :: slO i2.2 42 en_Vapi_Cell x6.2.2.2.2.2.2.2.2.2.2.2.1 :: R) (fun _ => rfl) ?_ fuel (0, d4.Model, d4.Alt, d4.Size.Rows, d4.Size.Cols, d4.L, d4.Cursor, d2.1.model, d2.1.alternate, d2.1.size.Rows, d2.1.size.Cols, d2.1.cells, d2.1.cursor, d2.1.attrs) i4.2 trivial h)))
        clear h
        rintro k6 ih6 x6 i6 _ h
        rw [vitrinelaw17_lay_l6.eq_2] at h
        refine l_round ?_
        refine c_seq ?_
        refine c_region ?_
        refine o1 rfl (o_p (v := (.bool (decide (x6.1 < (p1.length : Int))))) rfl ?_)
        refine o_end ?_
        refine e_seq ?_
        refine c_seq ?_
        refine c_cond (b := (decide (x6.1 < (p1.length : Int)))) rfl (fun hb902 => ?_) (fun hb902 => ?_)
        · replace h := cond_t hb902 h
          refine c_skip ?_
          refine e_seq ?_
          refine c_seq ?_
          refine c_block ?_
          refine c_seq ?_
          refine c_region ?_
          refine o1 rfl (o_p rfl ?_)
          replace h := gsome h
          obtain ⟨hg903, h⟩ := h
          refine o1 rfl (o_ix (s := s0) (n := x6.1) (e := en_Vvitrineref12_Act) rfl rfl rfl rfl rfl rfl rm0 q0 (NL.lt n_q0 hg903) ?_)
          obtain ⟨sv904, he_sv904, hd_sv904⟩ := NL.rd n_q0 hg903
          have hr905 : Rd X sv904 5 (enI .u8) ((rd p1 x6.1).Text) := hd_sv904
          refine o1 rfl (o_ldE (s := s0) (e := en_Vvitrineref12_Act) (n := x6.1) (f := 0) (v := (.agg (List.toArray [(.int .u8 ((rd p1 x6.1).Do)), (.int .i64 ((rd p1 x6.1).N)), (.bool ((rd p1 x6.1).On)), (.int .u8 ((rd p1 x6.1).Code)), (.int .u8 (((rd p1 x6.1).C).Char)), (.bool (((rd p1 x6.1).C).Attr)), (.int .u8 (((rd p1 x6.1).C).FA)), (.int .u8 (((rd p1 x6.1).C).High)), (.int .u8 (((rd p1 x6.1).C).Color)), (.int .u8 (((rd p1 x6.1).C).f_Set)), (SV.val sv904)]))) rfl rm0 q0 (NL.lt n_q0 hg903) rfl (by rw [he_sv904]; rfl) ?_)
          refine o1 rfl (o_alloc (cs := [(.int .u8 0), (.int .i64 0), (.bool false), (.int .u8 0), (.int .u8 0), (.bool false), (.int .u8 0), (.int .u8 0), (.int .u8 0), (.int .u8 0), (SV.val SV.nil)]) rfl rfl (fun b906 => ?_))
          refine o1 rfl (o_p rfl ?_)
          refine o0 (o_st (b := b906) (off := 0) (vs := [(.int .u8 ((rd p1 x6.1).Do)), (.int .i64 ((rd p1 x6.1).N)), (.bool ((rd p1 x6.1).On)), (.int .u8 ((rd p1 x6.1).Code)), (.int .u8 (((rd p1 x6.1).C).Char)), (.bool (((rd p1 x6.1).C).Attr)), (.int .u8 (((rd p1 x6.1).C).FA)), (.int .u8 (((rd p1 x6.1).C).High)), (.int .u8 (((rd p1 x6.1).C).Color)), (.int .u8 (((rd p1 x6.1).C).f_Set)), (SV.val sv904)]) (cs' := [(.int .u8 ((rd p1 x6.1).Do)), (.int .i64 ((rd p1 x6.1).N)), (.bool ((rd p1 x6.1).On)), (.int .u8 ((rd p1 x6.1).Code)), (.int .u8 (((rd p1 x6.1).C).Char)), (.bool (((rd p1 x6.1).C).Attr)), (.int .u8 (((rd p1 x6.1).C).FA)), (.int .u8 (((rd p1 x6.1).C).High)), (.int .u8 (((rd p1 x6.1).C).Color)), (.int .u8 (((rd p1 x6.1).C).f_Set)), (SV.val sv904)]) rfl rfl rp0 rfl rfl rfl rfl rfl rfl ?_)
          refine o_end ?_
          refine e_seq ?_
          refine c_seq ?_
          refine c_region ?_
          refine o1 rfl (o_p rfl ?_)
          refine o1 rfl (o_p (v := (.bool (decide (x6.1 < 30)))) rfl ?_)
          refine o_end ?_
          refine e_seq ?_
          replace h := bsome h
          obtain ⟨d9, h, hk9⟩ := h
          refine cj (D := Unit) (ι := SV) (fun _ i9 => True) (fun _ i9 => [(27, (.int .i64 x6.1)), (26, (.int .i64 (p1.length : Int))), (25, (SV.val s0)), (9, (.pointer (some ⟨i4.1, 0, none⟩))), (7, (.pointer (some ⟨i2.1, 0, none⟩)))]) (fun _ i9 => X :: blk i4.1 (.cells (List.toArray [(.int .i64 d9.1), (.bool d9.2.1), (.int .i64 d9.2.2.1), (.int .i64 d9.2.2.2.1), (SV.val i9), (.int .i64 d9.2.2.2.2.2)]) 40 (0, 0)) :: blk i2.1 (.cells (List.toArray [(.int .i64 x6.2.2.2.2.2.2.2.1), (.bool x6.2.2.2.2.2.2.2.2.1), (.int .i64 x6.2.2.2.2.2.2.2.2.2.1), (.int .i64 x6.2.2.2.2.2.2.2.2.2.2.1), (SV.val i2.2), (.int .i64 x6.2.2.2.2.2.2.2.2.2.2.2.2.1), (.int .i64 x6.2.2.2.2.2.2.2.2.2.2.2.2.2)]) 76 (0, 0)) :: slO i9 42 en_Vapi_Cell d9.2.2.2.2.1 :: slO i2.2 42 en_Vapi_Cell x6.2.2.2.2.2.2.2.2.2.2.2.1 :: R) ?_ ?_
          · refine c_cond (b := (decide (x6.1 < 30))) rfl (fun hb908 => ?_) (fun hb908 => ?_)
            · replace h := cond_t hb908 h
              refine c_region ?_
              refine o1 rfl (o_p rfl ?_)
              refine o1 rfl (o_ld (b := b906) (off := 0) (v := (.agg (List.toArray [(.int .u8 ((rd p1 x6.1).Do)), (.int .i64 ((rd p1 x6.1).N)), (.bool ((rd p1 x6.1).On)), (.int .u8 ((rd p1 x6.1).Code)), (.int .u8 (((rd p1 x6.1).C).Char)), (.bool (((rd p1 x6.1).C).Attr)), (.int .u8 (((rd p1 x6.1).C).FA)), (.int .u8 (((rd p1 x6.1).C).High)), (.int .u8 (((rd p1 x6.1).C).Color)), (.int .u8 (((rd p1 x6.1).C).f_Set)), (SV.val sv904)]))) rfl rm0 rfl rfl ?_)
              replace h := bsome h
              obtain ⟨d10, h10, h⟩ := h
              refine o1 rfl (o_call has27 rfl (c_vitrineref12_Do hg X (⟨x6.2.1, x6.2.2.1, (⟨x6.2.2.2.1, x6.2.2.2.2.1⟩ : Vvitrineref04_Size), x6.2.2.2.2.2.1, x6.2.2.2.2.2.2.1⟩ : Vvitrineref12_Space) i4.1 i6 { (rd p1 x6.1) with C := ((rd p1 x6.1).C) } sv904 hr905 _ h10) (pc rm1 (pc rm1 (pc rm2 pn))) (fun i10 => ?_))
              refine o_end ?_
              have hd := Option.some.inj h
              subst hd
              exact ej () i10 trivial (sc rfl (sc rfl (sc rfl (sc rfl (sc rfl sn))))) (kc rm0 (kc rm0 (kc rm2 (kc rm0 (kc rm1 (kd kr))))))
            · replace h := cond_f hb908 h
              refine c_skip ?_
              have hd := Option.some.inj h
              subst hd
              exact ej () i6 trivial (sc rfl (sc rfl (sc rfl (sc rfl (sc rfl sn))))) (kc rm1 (kc rm1 (kc rm1 (kc rm1 (kc rm1 (kd kr))))))
          · rintro _ i9 _
            replace h := hk9
            clear hk9
            refine e_blk ?_
            refine e_seq ?_
            refine c_region ?_
            refine o1 rfl (o_p (v := (.int .i64 (w64 (x6.1 + 1)))) rfl ?_)
            refine o1 rfl (o_p rfl ?_)
            refine o_end ?_
            exact e_loop (l_sub (sc rfl (sc rfl (sc rfl (sc rfl (sc rfl sn))))) (l_keep (kc rm0 (kc rm0 (kc rm0 (kc rm0 (kc rm0 kr))))) (ih6 (w64 (x6.1 + 1), d9.1, d9.2.1, d9.2.2.1, d9.2.2.2.1, d9.2.2.2.2.1, d9.2.2.2.2.2, x6.2.2.2.2.2.2.2.1, x6.2.2.2.2.2.2.2.2.1, x6.2.2.2.2.2.2.2.2.2.1, x6.2.2.2.2.2.2.2.2.2.2.1, x6.2.2.2.2.2.2.2.2.2.2.2.1, x6.2.2.2.2.2.2.2.2.2.2.2.2.1, x6.2.2.2.2.2.2.2.2.2.2.2.2.2) i9 trivial h)))
        · replace h := cond_f hb902 h
          refine c_exit ?_
          refine e_then_exit ?_
          refine e_then_exit ?_
          refine e_blk_exit ?_
          have hd := Option.some.inj h
          subst hd
          exact ej () i6 trivial (sc rfl (sc rfl sn)) (kc rm0 (kc rm0 (kc rm0 (kc rm0 (kc rm0 kr)))))
      · rintro _ i5 _
        replace h := hk5
        clear hk5
        refine e_seq ?_
        refine c_seq ?_
        refine c_seq ?_
        refine c_region ?_
        refine o1 rfl (o_p rfl ?_)
        refine o1 rfl (o_p rfl ?_)
        refine o1 rfl (o_fa (fd := ⟨ "Alt", 4, 1, false, "", "", 8⟩) rfl rfl rfl rfl rfl ?_)
        refine o1 rfl (o_ld (b := i4.1) (off := 1) (v := (.bool d5.2.1)) rfl rm1 rfl rfl ?_)
        refine o_end ?_
        refine e_seq ?_
        replace h := bsome h
        obtain ⟨d11, h, hk11⟩ := h
        refine cj (D := Unit) (ι := SV) (fun _ i11 => True) (fun _ i11 => [(9, (.pointer (some ⟨i4.1, 0, none⟩))), (7, (.pointer (some ⟨i2.1, 0, none⟩)))]) (fun _ i11 => X :: blk i4.1 (.cells (List.toArray [(.int .i64 d5.1), (.bool d5.2.1), (.int .i64 d5.2.2.1), (.int .i64 d5.2.2.2.1), (SV.val i5), (.int .i64 d5.2.2.2.2.2.1)]) 40 (0, 0)) :: blk i2.1 (.cells (List.toArray [(.int .i64 d11.1), (.bool d11.2.1), (.int .i64 d11.2.2.1), (.int .i64 d11.2.2.2.1), (SV.val i11), (.int .i64 d11.2.2.2.2.2.1), (.int .i64 d11.2.2.2.2.2.2)]) 76 (0, 0)) :: slO i5 42 en_Vapi_Cell d5.2.2.2.2.1 :: slO i11 42 en_Vapi_Cell d11.2.2.2.2.1 :: R) ?_ ?_
        · refine c_cond (b := d5.2.1) rfl (fun hb915 => ?_) (fun hb915 => ?_)
          · replace h := cond_t hb915 h
            refine c_region ?_
            refine o1 rfl (o_p rfl ?_)
            replace h := bsome h
            obtain ⟨d12, h12, h⟩ := h
            refine o1 rfl (o_call has28 rfl (c_space_Space_Clear_2 hg X (⟨d5.2.2.2.2.2.2.1, d5.2.2.2.2.2.2.2.1, (⟨d5.2.2.2.2.2.2.2.2.1, d5.2.2.2.2.2.2.2.2.2.1⟩ : Vaddr_Size), d5.2.2.2.2.2.2.2.2.2.2.1, d5.2.2.2.2.2.2.2.2.2.2.2.1, d5.2.2.2.2.2.2.2.2.2.2.2.2⟩ : Vspace_Space) i2.1 i2.2 true _ h12) (pc rm0 (pc rm1 (pc rm2 pn))) (fun i12 => ?_))
            refine o_end ?_
            have hd := Option.some.inj h
            subst hd
            exact ej () i12 trivial (sc rfl (sc rfl sn)) (kc rm0 (kc rm3 (kc rm0 (kc rm2 (kc rm0 (kd kr))))))
          · replace h := cond_f hb915 h
            refine c_skip ?_
            have hd := Option.some.inj h
            subst hd
            exact ej () i2.2 trivial (sc rfl (sc rfl sn)) (kc rm0 (kc rm0 (kc rm0 (kc rm0 (kc rm0 kr)))))
        · rintro _ i11 _
          replace h := hk11
          clear hk11
          refine e_seq ?_
          refine c_seq ?_
          refine c_seq ?_
          refine c_region ?_
          refine o1 rfl (o_p rfl ?_)
          refine o1 rfl (o_p rfl ?_)
          refine o1 rfl (o_fa (fd := ⟨ "L", 38, 4, false, "", "", 32⟩) rfl rfl rfl rfl rfl ?_)
          refine o1 rfl (o_ld (b := i4.1) (off := 4) (v := (SV.val i5)) rfl rm1 rfl rfl ?_)
          refine o1 rfl (o_len (s := i5) rfl rfl rfl rm3 (rd_own _ _ _ _) ?_)
          refine o1 rfl (o_p rfl ?_)
          refine o_end ?_
          refine e_seq ?_
          replace h := bsome h
          obtain ⟨d13, h, hk13⟩ := h
          refine cj (D := Unit) (ι := Unit) (fun _ i13 => True) (fun _ i13 => [(9, (.pointer (some ⟨i4.1, 0, none⟩))), (7, (.pointer (some ⟨i2.1, 0, none⟩)))]) (fun _ i13 => X :: blk i4.1 (.cells (List.toArray [(.int .i64 d5.1), (.bool d5.2.1), (.int .i64 d5.2.2.1), (.int .i64 d5.2.2.2.1), (SV.val i5), (.int .i64 d5.2.2.2.2.2.1)]) 40 (0, 0)) :: blk i2.1 (.cells (List.toArray [(.int .i64 d13.1), (.bool d13.2.1), (.int .i64 d13.2.2.1), (.int .i64 d13.2.2.2.1), (SV.val i11), (.int .i64 d13.2.2.2.2.2.1), (.int .i64 d13.2.2.2.2.2.2)]) 76 (0, 0)) :: slO i5 42 en_Vapi_Cell d5.2.2.2.2.1 :: slO i11 42 en_Vapi_Cell d13.2.2.2.2.1 :: R) ?_ ?_
          · refine c_block ?_
            refine c_loop (l_sub (sc rfl (sc rfl (sc rfl (sc rfl (sc rfl sn))))) (l_keep (kc rm0 (kc rm2 (kc rm0 (kc rm0 (kc rm0 kr))))) (lf (X := Int × Int × Bool × Int × Int × (List Vapi_Cell) × Int × Int) (ι := Unit) (fun k x => vitrinelaw17_lay_l14 d5 k x) _ (fun x14 i14 => True) (fun x14 i14 => [(49, (.int .i64 x14.1)), (48, (.int .i64 (d5.2.2.2.2.1.length : Int))), (47, (SV.val i5)), (9, (.pointer (some ⟨i4.1, 0, none⟩))), (7, (.pointer (some ⟨i2.1, 0, none⟩)))]) (fun x14 i14 => X :: slO i5 42 en_Vapi_Cell d5.2.2.2.2.1 :: blk i4.1 (.cells (List.toArray [(.int .i64 d5.1), (.bool d5.2.1), (.int .i64 d5.2.2.1), (.int .i64 d5.2.2.2.1), (SV.val i5), (.int .i64 d5.2.2.2.2.2.1)]) 40 (0, 0)) :: blk i2.1 (.cells (List.toArray [(.int .i64 x14.2.1), (.bool x14.2.2.1), (.int .i64 x14.2.2.2.1), (.int .i64 x14.2.2.2.2.1), (SV.val i11), (.int .i64 x14.2.2.2.2.2.2.1), (.int .i64 x14.2.2.2.2.2.2.2)]) 76 (0, 0)) :: slO i11 42 en_Vapi_Cell x14.2.2.2.2.2.1 :: R) (fun _ => rfl) ?_ fuel (0, d11.1, d11.2.1, d11.2.2.1, d11.2.2.2.1, d11.2.2.2.2.1, d11.2.2.2.2.2.1, d11.2.2.2.2.2.2) () trivial h)))
            clear h
            rintro k14 ih14 x14 i14 _ h
            rw [vitrinelaw17_lay_l14.eq_2] at h
            refine l_round ?_
            refine c_seq ?_
            refine c_region ?_
            refine o1 rfl (o_p (v := (.bool (decide (x14.1 < (d5.2.2.2.2.1.length : Int))))) rfl ?_)
            refine o_end ?_
            refine e_seq ?_
            refine c_seq ?_
            refine c_cond (b := (decide (x14.1 < (d5.2.2.2.2.1.length : Int)))) rfl (fun hb934 => ?_) (fun hb934 => ?_)
            · replace h := cond_t hb934 h
              refine c_skip ?_
              refine e_seq ?_
              refine c_seq ?_
              refine c_block ?_
              refine c_seq ?_
              refine c_region ?_
              refine o1 rfl (o_p rfl ?_)
              replace h := gsome h
              obtain ⟨hg935, h⟩ := h
              refine o1 rfl (o_ix (s := i5) (n := x14.1) (e := en_Vapi_Cell) rfl rfl rfl rfl rfl rfl rm1 (rd_own _ _ _ _) hg935 ?_)
              refine o1 rfl (o_ldE (s := i5) (e := en_Vapi_Cell) (n := x14.1) (f := 0) (v := (.agg (List.toArray [(.int .u8 ((rd d5.2.2.2.2.1 x14.1).Char)), (.bool ((rd d5.2.2.2.2.1 x14.1).Attr)), (.int .u8 ((rd d5.2.2.2.2.1 x14.1).FA)), (.int .u8 ((rd d5.2.2.2.2.1 x14.1).High)), (.int .u8 ((rd d5.2.2.2.2.1 x14.1).Color)), (.int .u8 ((rd d5.2.2.2.2.1 x14.1).f_Set))]))) rfl rm1 (rd_own _ _ _ _) hg935 rfl rfl ?_)
              refine o1 rfl (o_alloc (cs := [(.int .u8 0), (.bool false), (.int .u8 0), (.int .u8 0), (.int .u8 0), (.int .u8 0)]) rfl rfl (fun b936 => ?_))
              refine o1 rfl (o_p rfl ?_)
              refine o0 (o_st (b := b936) (off := 0) (vs := [(.int .u8 ((rd d5.2.2.2.2.1 x14.1).Char)), (.bool ((rd d5.2.2.2.2.1 x14.1).Attr)), (.int .u8 ((rd d5.2.2.2.2.1 x14.1).FA)), (.int .u8 ((rd d5.2.2.2.2.1 x14.1).High)), (.int .u8 ((rd d5.2.2.2.2.1 x14.1).Color)), (.int .u8 ((rd d5.2.2.2.2.1 x14.1).f_Set))]) (cs' := [(.int .u8 ((rd d5.2.2.2.2.1 x14.1).Char)), (.bool ((rd d5.2.2.2.2.1 x14.1).Attr)), (.int .u8 ((rd d5.2.2.2.2.1 x14.1).FA)), (.int .u8 ((rd d5.2.2.2.2.1 x14.1).High)), (.int .u8 ((rd d5.2.2.2.2.1 x14.1).Color)), (.int .u8 ((rd d5.2.2.2.2.1 x14.1).f_Set))]) rfl rfl rp0 rfl rfl rfl rfl rfl rfl ?_)
              refine o_end ?_
              refine e_seq ?_
              refine c_seq ?_
              refine c_region ?_
              refine o1 rfl (o_ld (b := b936) (off := 0) (v := (.agg (List.toArray [(.int .u8 ((rd d5.2.2.2.2.1 x14.1).Char)), (.bool ((rd d5.2.2.2.2.1 x14.1).Attr)), (.int .u8 ((rd d5.2.2.2.2.1 x14.1).FA)), (.int .u8 ((rd d5.2.2.2.2.1 x14.1).High)), (.int .u8 ((rd d5.2.2.2.2.1 x14.1).Color)), (.int .u8 ((rd d5.2.2.2.2.1 x14.1).f_Set))]))) rfl rm0 rfl rfl ?_)
              refine o1 rfl (o_build (fs := [⟨ "Char", 5, 0, false, "", "", 0⟩, ⟨ "Attr", 4, 1, false, "", "", 1⟩, ⟨ "FA", 5, 2, false, "", "", 2⟩, ⟨ "High", 5, 3, false, "", "", 3⟩, ⟨ "Color", 5, 4, false, "", "", 4⟩, ⟨ "Set", 5, 5, false, "", "", 5⟩]) (ps := [(0, 1), (1, 1), (2, 1), (3, 1), (4, 1), (5, 1)]) (cs := [(.int .u8 0), (.bool false), (.int .u8 0), (.int .u8 0), (.int .u8 0), (.int .u8 0)]) rfl rfl rfl rfl rfl ?_)
              refine o1 rfl (o_neT (b := ((((rd d5.2.2.2.2.1 x14.1).Char) == 0) && ((((rd d5.2.2.2.2.1 x14.1).Attr) == false) && ((((rd d5.2.2.2.2.1 x14.1).FA) == 0) && ((((rd d5.2.2.2.2.1 x14.1).High) == 0) && ((((rd d5.2.2.2.2.1 x14.1).Color) == 0) && ((((rd d5.2.2.2.2.1 x14.1).f_Set) == 0) && true))))))) (xs := [(.int .u8 ((rd d5.2.2.2.2.1 x14.1).Char)), (.bool ((rd d5.2.2.2.2.1 x14.1).Attr)), (.int .u8 ((rd d5.2.2.2.2.1 x14.1).FA)), (.int .u8 ((rd d5.2.2.2.2.1 x14.1).High)), (.int .u8 ((rd d5.2.2.2.2.1 x14.1).Color)), (.int .u8 ((rd d5.2.2.2.2.1 x14.1).f_Set))]) (ys := [(.int .u8 0), (.bool false), (.int .u8 0), (.int .u8 0), (.int .u8 0), (.int .u8 0)]) rfl rfl (by kernel_rfl) stood rfl ?_)
              refine o_end ?_
              refine e_seq ?_
              replace h := bsome h
              obtain ⟨d17, h, hk17⟩ := h
              refine cj (D := Unit) (ι := Unit) (fun _ i17 => True) (fun _ i17 => [(49, (.int .i64 x14.1)), (48, (.int .i64 (d5.2.2.2.2.1.length : Int))), (47, (SV.val i5)), (9, (.pointer (some ⟨i4.1, 0, none⟩))), (7, (.pointer (some ⟨i2.1, 0, none⟩)))]) (fun _ i17 => X :: slO i5 42 en_Vapi_Cell d5.2.2.2.2.1 :: blk i4.1 (.cells (List.toArray [(.int .i64 d5.1), (.bool d5.2.1), (.int .i64 d5.2.2.1), (.int .i64 d5.2.2.2.1), (SV.val i5), (.int .i64 d5.2.2.2.2.2.1)]) 40 (0, 0)) :: blk i2.1 (.cells (List.toArray [(.int .i64 d17.1), (.bool d17.2.1), (.int .i64 d17.2.2.1), (.int .i64 d17.2.2.2.1), (SV.val i11), (.int .i64 d17.2.2.2.2.2.1), (.int .i64 d17.2.2.2.2.2.2)]) 76 (0, 0)) :: slO i11 42 en_Vapi_Cell d17.2.2.2.2.1 :: R) ?_ ?_
              · refine c_cond (b := (!((((rd d5.2.2.2.2.1 x14.1).Char) == 0) && ((((rd d5.2.2.2.2.1 x14.1).Attr) == false) && ((((rd d5.2.2.2.2.1 x14.1).FA) == 0) && ((((rd d5.2.2.2.2.1 x14.1).High) == 0) && ((((rd d5.2.2.2.2.1 x14.1).Color) == 0) && ((((rd d5.2.2.2.2.1 x14.1).f_Set) == 0) && true)))))))) rfl (fun hb938 => ?_) (fun hb938 => ?_)
                · replace h := cond_t hb938 h
                  refine c_region ?_
                  refine o1 rfl (o_p rfl ?_)
                  refine o1 rfl (o_p rfl ?_)
                  refine o1 rfl (o_ld (b := b936) (off := 0) (v := (.agg (List.toArray [(.int .u8 ((rd d5.2.2.2.2.1 x14.1).Char)), (.bool ((rd d5.2.2.2.2.1 x14.1).Attr)), (.int .u8 ((rd d5.2.2.2.2.1 x14.1).FA)), (.int .u8 ((rd d5.2.2.2.2.1 x14.1).High)), (.int .u8 ((rd d5.2.2.2.2.1 x14.1).Color)), (.int .u8 ((rd d5.2.2.2.2.1 x14.1).f_Set))]))) rfl rm0 rfl rfl ?_)
                  replace h := bsome h
                  obtain ⟨d18, h18, h⟩ := h
                  refine o1 rfl (o_call has29 rfl (c_space_Space_Set hg X (⟨x14.2.1, x14.2.2.1, (⟨x14.2.2.2.1, x14.2.2.2.2.1⟩ : Vaddr_Size), x14.2.2.2.2.2.1, x14.2.2.2.2.2.2.1, x14.2.2.2.2.2.2.2⟩ : Vspace_Space) i2.1 i11 x14.1 (rd d5.2.2.2.2.1 x14.1) _ h18) (pc rm1 (pc rm3 (pc rm3 pn))) ?_)
                  refine o_end ?_
                  have hd := Option.some.inj h
                  subst hd
                  exact ej () () trivial (sc rfl (sc rfl (sc rfl (sc rfl (sc rfl sn))))) (kc rm0 (kc rm3 (kc rm3 (kc rm0 (kc rm0 (kd kr))))))
                · replace h := cond_f hb938 h
                  refine c_skip ?_
                  have hd := Option.some.inj h
                  subst hd
                  exact ej () () trivial (sc rfl (sc rfl (sc rfl (sc rfl (sc rfl sn))))) (kc rm1 (kc rm1 (kc rm1 (kc rm1 (kc rm1 (kd kr))))))
              · rintro _ i17 _
                replace h := hk17
                clear hk17
                refine e_blk ?_
                refine e_seq ?_
                refine c_region ?_
                refine o1 rfl (o_p (v := (.int .i64 (w64 (x14.1 + 1)))) rfl ?_)
                refine o1 rfl (o_p rfl ?_)
                refine o_end ?_
                exact e_loop (l_sub (sc rfl (sc rfl (sc rfl (sc rfl (sc rfl sn))))) (l_keep (kc rm0 (kc rm0 (kc rm0 (kc rm0 (kc rm0 kr))))) (ih14 (w64 (x14.1 + 1), d17.1, d17.2.1, d17.2.2.1, d17.2.2.2.1, d17.2.2.2.2.1, d17.2.2.2.2.2.1, d17.2.2.2.2.2.2) () trivial h)))
            · replace h := cond_f hb934 h
              refine c_exit ?_
              refine e_then_exit ?_
              refine e_then_exit ?_
              refine e_blk_exit ?_
              have hd := Option.some.inj h
              subst hd
              exact ej () () trivial (sc rfl (sc rfl sn)) (kc rm0 (kc rm1 (kc rm1 (kc rm0 (kc rm0 kr)))))
          · rintro _ i13 _
            replace h := hk13
            clear hk13
            refine e_seq ?_
            refine c_seq ?_
            refine c_region ?_
            refine o1 rfl (o_p rfl ?_)
            refine o1 rfl (o_p rfl ?_)
            refine o1 rfl (o_p rfl ?_)
            refine o1 rfl (o_fa (fd := ⟨ "Cursor", 3, 5, false, "", "", 56⟩) rfl rfl rfl rfl rfl ?_)
            refine o1 rfl (o_ld (b := i4.1) (off := 5) (v := (.int .i64 d5.2.2.2.2.2.1)) rfl rm1 rfl rfl ?_)
            replace h := bsome h
            obtain ⟨d19, h19, h⟩ := h
            refine o1 rfl (o_call has30 rfl (c_space_Space_Place hg X (⟨d13.1, d13.2.1, (⟨d13.2.2.1, d13.2.2.2.1⟩ : Vaddr_Size), d13.2.2.2.2.1, d13.2.2.2.2.2.1, d13.2.2.2.2.2.2⟩ : Vspace_Space) i2.1 i11 d5.2.2.2.2.2.1 _ h19) (pc rm0 (pc rm1 (pc rm2 pn))) ?_)
            refine o_end ?_
            refine e_seq ?_
            refine c_seq ?_
            refine c_region ?_
            refine o1 rfl (o_p rfl ?_)
            refine o1 rfl (o_p rfl ?_)
            refine o1 rfl (o_p rfl ?_)
            refine o1 rfl (o_p rfl ?_)
            refine o_end ?_
            refine e_seq ?_
            refine c_ret ?_
            refine e_ret ?_
            refine r_endt rfl rfl (kc rm0 (kc rm0 (kc rm0 (kc rm0 (kc rm0 kr))))) ?_
            have hr := Option.some.inj h
            subst hr
            exact hk (i2.1, i11, i4.1, i5)

theorem c_vitrineref12_Attrs {g : Gw} (hg : GK g) (X : HP) (p0 : Vvitrineref12_Space) (b0 : Nat) (s0 : SV) (r : (List Int)) (h : m_vitrineref12_Attrs p0 = some r) : Tri env g 34 (List.toArray [(.pointer (some ⟨b0, 0, none⟩))]) [X, blk b0 (.cells (List.toArray [(.int .i64 p0.Model), (.bool p0.Alt), (.int .i64 p0.Size.Rows), (.int .i64 p0.Size.Cols), (SV.val s0), (.int .i64 p0.Cursor)]) 40 (0, 0)), slO s0 42 en_Vapi_Cell p0.L] (fun K R => ∀ (i0 : SV), K (SV.val i0) (X :: blk b0 (.cells (List.toArray [(.int .i64 p0.Model), (.bool p0.Alt), (.int .i64 p0.Size.Rows), (.int .i64 p0.Size.Cols), (SV.val s0), (.int .i64 p0.Cursor)]) 40 (0, 0)) :: slO s0 42 en_Vapi_Cell p0.L :: slO i0 3 (enI .i64) r :: R)) := by
  refine tri_of (fn := Tryd.f34) (N := 24) Tryd.func34 rfl rfl rfl ?_
  intro R K hk
  unfold m_vitrineref12_Attrs at h
  change GC _ none _ [] [(0, (.pointer (some ⟨b0, 0, none⟩)))] (X :: blk b0 (.cells (List.toArray [(.int .i64 p0.Model), (.bool p0.Alt), (.int .i64 p0.Size.Rows), (.int .i64 p0.Size.Cols), (SV.val s0), (.int .i64 p0.Cursor)]) 40 (0, 0)) :: slO s0 42 en_Vapi_Cell p0.L :: R) g _ _
  refine c_seq ?_
  refine c_region ?_
  refine o1 rfl (o_p rfl ?_)
  refine o_end ?_
  refine e_seq ?_
  refine c_seq ?_
  refine c_region ?_
  refine o1 rfl (o_p rfl ?_)
  refine o_end ?_
  refine e_seq ?_
  refine c_seq ?_
  refine c_seq ?_
  refine c_region ?_
  refine o1 rfl (o_p rfl ?_)
  refine o1 rfl (o_p rfl ?_)
  refine o1 rfl (o_fa (fd := ⟨ "L", 38, 4, false, "", "", 32⟩) rfl rfl rfl rfl rfl ?_)
  refine o1 rfl (o_ld (b := b0) (off := 4) (v := (SV.val s0)) rfl rm1 rfl rfl ?_)
  refine o1 rfl (o_len (s := s0) rfl rfl rfl rm2 (rd_own _ _ _ _) ?_)
  refine o1 rfl (o_p rfl ?_)
  refine o_end ?_
  refine e_seq ?_
  replace h := bsome h
  obtain ⟨d1, h, hk1⟩ := h
  refine cj (D := Unit) (ι := SV) (fun _ i1 => True) (fun _ i1 => [(3, (SV.val i1))]) (fun _ i1 => X :: slO i1 3 (enI .i64) d1 :: blk b0 (.cells (List.toArray [(.int .i64 p0.Model), (.bool p0.Alt), (.int .i64 p0.Size.Rows), (.int .i64 p0.Size.Cols), (SV.val s0), (.int .i64 p0.Cursor)]) 40 (0, 0)) :: slO s0 42 en_Vapi_Cell p0.L :: R) ?_ ?_
  · refine c_block ?_
    refine c_add (slO SV.nil 3 (enI .i64) []) (slO_nil _ _ _) ?_
    refine c_loop (l_sub (sc rfl (sc rfl (sc rfl (sc rfl sn)))) (l_keep (kc rm1 (kc rm2 (kc rm0 (kc rm0 kr)))) (lf (X := Int × (List Int)) (ι := SV) (fun k x => vitrineref12_Attrs_l2 p0 k x) _ (fun x2 i2 => True) (fun x2 i2 => [(11, (.int .i64 x2.1)), (10, (.int .i64 (p0.L.length : Int))), (9, (SV.val s0)), (3, (SV.val i2))]) (fun x2 i2 => X :: slO s0 42 en_Vapi_Cell p0.L :: slO i2 3 (enI .i64) x2.2 :: blk b0 (.cells (List.toArray [(.int .i64 p0.Model), (.bool p0.Alt), (.int .i64 p0.Size.Rows), (.int .i64 p0.Size.Cols), (SV.val s0), (.int .i64 p0.Cursor)]) 40 (0, 0)) :: R) (fun _ => rfl) ?_ fuel (0, ([] : List Int)) SV.nil trivial h)))
    clear h
    rintro k2 ih2 x2 i2 _ h
    rw [vitrineref12_Attrs_l2.eq_2] at h
    refine l_round ?_
    refine c_seq ?_
    refine c_region ?_
    refine o1 rfl (o_p (v := (.bool (decide (x2.1 < (p0.L.length : Int))))) rfl ?_)
    refine o_end ?_
    refine e_seq ?_
    refine c_seq ?_
    refine c_cond (b := (decide (x2.1 < (p0.L.length : Int)))) rfl (fun hb989 => ?_) (fun hb989 => ?_)
    · replace h := cond_t hb989 h
      refine c_skip ?_
      refine e_seq ?_
      refine c_seq ?_
      refine c_block ?_
      refine c_seq ?_
      refine c_region ?_
      refine o1 rfl (o_p rfl ?_)
      replace h := gsome h
      obtain ⟨hg990, h⟩ := h
      refine o1 rfl (o_ix (s := s0) (n := x2.1) (e := en_Vapi_Cell) rfl rfl rfl rfl rfl rfl rm1 (rd_own _ _ _ _) hg990 ?_)
      refine o1 rfl (o_ldE (s := s0) (e := en_Vapi_Cell) (n := x2.1) (f := 0) (v := (.agg (List.toArray [(.int .u8 ((rd p0.L x2.1).Char)), (.bool ((rd p0.L x2.1).Attr)), (.int .u8 ((rd p0.L x2.1).FA)), (.int .u8 ((rd p0.L x2.1).High)), (.int .u8 ((rd p0.L x2.1).Color)), (.int .u8 ((rd p0.L x2.1).f_Set))]))) rfl rm1 (rd_own _ _ _ _) hg990 rfl rfl ?_)
      refine o1 rfl (o_alloc (cs := [(.int .u8 0), (.bool false), (.int .u8 0), (.int .u8 0), (.int .u8 0), (.int .u8 0)]) rfl rfl (fun b991 => ?_))
      refine o1 rfl (o_p rfl ?_)
      refine o0 (o_st (b := b991) (off := 0) (vs := [(.int .u8 ((rd p0.L x2.1).Char)), (.bool ((rd p0.L x2.1).Attr)), (.int .u8 ((rd p0.L x2.1).FA)), (.int .u8 ((rd p0.L x2.1).High)), (.int .u8 ((rd p0.L x2.1).Color)), (.int .u8 ((rd p0.L x2.1).f_Set))]) (cs' := [(.int .u8 ((rd p0.L x2.1).Char)), (.bool ((rd p0.L x2.1).Attr)), (.int .u8 ((rd p0.L x2.1).FA)), (.int .u8 ((rd p0.L x2.1).High)), (.int .u8 ((rd p0.L x2.1).Color)), (.int .u8 ((rd p0.L x2.1).f_Set))]) rfl rfl rp0 rfl rfl rfl rfl rfl rfl ?_)
      refine o_end ?_
      refine e_seq ?_
      refine c_seq ?_
      refine c_region ?_
      refine o1 rfl (o_fa (fd := ⟨ "Attr", 4, 1, false, "", "", 1⟩) rfl rfl rfl rfl rfl ?_)
      refine o1 rfl (o_ld (b := b991) (off := 1) (v := (.bool ((rd p0.L x2.1).Attr))) rfl rm0 rfl rfl ?_)
      refine o_end ?_
      refine e_seq ?_
      replace h := bsome h
      obtain ⟨d5, h, hk5⟩ := h
      refine cj (D := Unit) (ι := SV) (fun _ i5 => True) (fun _ i5 => [(3, (SV.val i5)), (11, (.int .i64 x2.1)), (10, (.int .i64 (p0.L.length : Int))), (9, (SV.val s0))]) (fun _ i5 => X :: slO i5 3 (enI .i64) d5 :: slO s0 42 en_Vapi_Cell p0.L :: blk b0 (.cells (List.toArray [(.int .i64 p0.Model), (.bool p0.Alt), (.int .i64 p0.Size.Rows), (.int .i64 p0.Size.Cols), (SV.val s0), (.int .i64 p0.Cursor)]) 40 (0, 0)) :: R) ?_ ?_
      · refine c_cond (b := (rd p0.L x2.1).Attr) rfl (fun hb993 => ?_) (fun hb993 => ?_)
        · replace h := cond_t hb993 h
          refine c_region ?_
          refine o1 rfl (o_p rfl ?_)
          refine o1 rfl (o_p rfl ?_)
          refine o1 rfl (o_bs (e := (enI .i64)) (l := [x2.1]) (zs := [(.int .i64 0)]) rfl rfl rfl rfl rfl rfl rfl rfl rfl rfl (fun s994 => ?_))
          replace h := gsome h
          obtain ⟨hg996, h⟩ := h
          refine o1 rfl (o_app (s := i2) (r := s994) (e := (enI .i64)) (l := x2.2) (l2 := [x2.1]) (zs := [(.int .i64 0)]) rfl rfl rfl rfl rfl rfl rfl rfl rfl rfl rfl rm4 rm0 (rd_own _ _ _ _) hg996 (fun s997 => ?_))
          refine o1 rfl (o_p rfl ?_)
          refine o_end ?_
          have hd := Option.some.inj h
          subst hd
          exact ej () s997 trivial (sc rfl (sc rfl (sc rfl (sc rfl sn)))) (kc rm3 (kc rm0 (kc rm2 (kc rm2 (kd (kd kr))))))
        · replace h := cond_f hb993 h
          refine c_skip ?_
          have hd := Option.some.inj h
          subst hd
          exact ej () i2 trivial (sc rfl (sc rfl (sc rfl (sc rfl sn)))) (kc rm1 (kc rm2 (kc rm1 (kc rm1 (kd kr)))))
      · rintro _ i5 _
        replace h := hk5
        clear hk5
        refine e_blk ?_
        refine e_seq ?_
        refine c_region ?_
        refine o1 rfl (o_p (v := (.int .i64 (w64 (x2.1 + 1)))) rfl ?_)
        refine o1 rfl (o_p rfl ?_)
        refine o_end ?_
        exact e_loop (l_sub (sc rfl (sc rfl (sc rfl (sc rfl sn)))) (l_keep (kc rm0 (kc rm1 (kc rm0 (kc rm0 kr)))) (ih2 (w64 (x2.1 + 1), d5) i5 trivial h)))
    · replace h := cond_f hb989 h
      refine c_exit ?_
      refine e_then_exit ?_
      refine e_then_exit ?_
      refine e_blk_exit ?_
      have hd := Option.some.inj h
      subst hd
      exact ej () i2 trivial (sc rfl sn) (kc rm0 (kc rm1 (kc rm1 (kc rm0 kr))))
  · rintro _ i1 _
    replace h := hk1
    clear hk1
    refine e_seq ?_
    refine c_seq ?_
    refine c_region ?_
    refine o1 rfl (o_p rfl ?_)
    refine o1 rfl (o_p rfl ?_)
    refine o_end ?_
    refine e_seq ?_
    refine c_ret ?_
    refine e_ret ?_
    refine r_endt rfl rfl (kc rm0 (kc rm1 (kc rm1 (kc rm0 kr)))) ?_
    have hr := Option.some.inj h
    subst hr
    exact hk i1

theorem c_vitrineref13_Starts {g : Gw} (hg : GK g) (X : HP) (p0 : Vvitrineref12_Space) (b0 : Nat) (s0 : SV) (r : (List Int)) (h : m_vitrineref13_Starts p0 = some r) : Tri env g 9 (List.toArray [(.pointer (some ⟨b0, 0, none⟩))]) [X, blk b0 (.cells (List.toArray [(.int .i64 p0.Model), (.bool p0.Alt), (.int .i64 p0.Size.Rows), (.int .i64 p0.Size.Cols), (SV.val s0), (.int .i64 p0.Cursor)]) 40 (0, 0)), slO s0 42 en_Vapi_Cell p0.L] (fun K R => ∀ (i0 : SV), K (SV.val i0) (X :: blk b0 (.cells (List.toArray [(.int .i64 p0.Model), (.bool p0.Alt), (.int .i64 p0.Size.Rows), (.int .i64 p0.Size.Cols), (SV.val s0), (.int .i64 p0.Cursor)]) 40 (0, 0)) :: slO s0 42 en_Vapi_Cell p0.L :: slO i0 3 (enI .i64) r :: R)) := by
  refine tri_of (fn := Tryd.f9) (N := 44) Tryd.func9 rfl rfl rfl ?_
  intro R K hk
  unfold m_vitrineref13_Starts at h
  change GC _ none _ [] [(0, (.pointer (some ⟨b0, 0, none⟩)))] (X :: blk b0 (.cells (List.toArray [(.int .i64 p0.Model), (.bool p0.Alt), (.int .i64 p0.Size.Rows), (.int .i64 p0.Size.Cols), (SV.val s0), (.int .i64 p0.Cursor)]) 40 (0, 0)) :: slO s0 42 en_Vapi_Cell p0.L :: R) g _ _
  refine c_seq ?_
  refine c_region ?_
  refine o1 rfl (o_p rfl ?_)
  refine o_end ?_
  refine e_seq ?_
  refine c_seq ?_
  refine c_region ?_
  refine o1 rfl (o_p rfl ?_)
  replace h := bsome h
  obtain ⟨d1, h1, h⟩ := h
  refine o1 rfl (o_call has34 rfl (c_vitrineref12_Attrs hg X p0 b0 s0 _ h1) (pc rm0 (pc rm0 (pc rm0 pn))) (fun i1 => ?_))
  refine o1 rfl (o_p rfl ?_)
  refine o_end ?_
  refine e_seq ?_
  refine c_seq ?_
  refine c_region ?_
  refine o1 rfl (o_p rfl ?_)
  refine o1 rfl (o_p rfl ?_)
  refine o1 rfl (o_fa (fd := ⟨ "L", 38, 4, false, "", "", 32⟩) rfl rfl rfl rfl rfl ?_)
  refine o1 rfl (o_ld (b := b0) (off := 4) (v := (SV.val s0)) rfl rm1 rfl rfl ?_)
  refine o1 rfl (o_len (s := s0) rfl rfl rfl rm2 (rd_own _ _ _ _) ?_)
  replace h := gsome h
  obtain ⟨hg1005, h⟩ := h
  refine o1 rfl (o_mk (e := (enI .i64)) (z := 0) (zs := [(.int .i64 0)]) rfl rfl rfl rfl rfl rfl rfl rfl rfl hg1005 (fun s1006 => ?_))
  refine o1 rfl (o_p rfl ?_)
  refine o_end ?_
  refine e_seq ?_
  refine c_seq ?_
  refine c_region ?_
  refine o1 rfl (o_p rfl ?_)
  refine o_end ?_
  refine e_seq ?_
  refine c_seq ?_
  refine c_seq ?_
  refine c_region ?_
  refine o1 rfl (o_p rfl ?_)
  refine o1 rfl (o_len (s := i1) rfl rfl rfl rm4 (rd_own _ _ _ _) ?_)
  refine o1 rfl (o_p (v := (.bool (decide ((d1.length : Int) > 0)))) rfl ?_)
  refine o_end ?_
  refine e_seq ?_
  replace h := bsome h
  obtain ⟨d2, h, hk2⟩ := h
  refine cj (D := Unit) (ι := Unit) (fun _ i2 => True) (fun _ i2 => [(5, (.int .i64 d2)), (4, (SV.val s1006)), (0, (.pointer (some ⟨b0, 0, none⟩)))]) (fun _ i2 => X :: slO s1006 3 (enI .i64) (List.replicate (Int.toNat (p0.L.length : Int)) 0) :: blk b0 (.cells (List.toArray [(.int .i64 p0.Model), (.bool p0.Alt), (.int .i64 p0.Size.Rows), (.int .i64 p0.Size.Cols), (SV.val s0), (.int .i64 p0.Cursor)]) 40 (0, 0)) :: slO s0 42 en_Vapi_Cell p0.L :: R) ?_ ?_
  · refine c_cond (b := (decide ((d1.length : Int) > 0))) rfl (fun hb1008 => ?_) (fun hb1008 => ?_)
    · replace h := cond_t hb1008 h
      refine c_region ?_
      refine o1 rfl (o_p rfl ?_)
      refine o1 rfl (o_p rfl ?_)
      refine o1 rfl (o_len (s := i1) rfl rfl rfl rm4 (rd_own _ _ _ _) ?_)
      refine o1 rfl (o_p (v := (.int .i64 (w64 ((d1.length : Int) - 1)))) rfl ?_)
      replace h := gsome h
      obtain ⟨hg1009, h⟩ := h
      refine o1 rfl (o_ix (s := i1) (n := w64 ((d1.length : Int) - 1)) (e := (enI .i64)) rfl rfl rfl rfl rfl rfl rm4 (rd_own _ _ _ _) hg1009 ?_)
      refine o1 rfl (o_ldE (s := i1) (e := (enI .i64)) (n := w64 ((d1.length : Int) - 1)) (f := 0) (v := (.int .i64 (rd d1 (w64 ((d1.length : Int) - 1))))) rfl rm4 (rd_own _ _ _ _) hg1009 rfl rfl ?_)
      refine o1 rfl (o_p rfl ?_)
      refine o_end ?_
      have hd := Option.some.inj h
      subst hd
      exact ej () () trivial (sc rfl (sc rfl (sc rfl sn))) (kc rm1 (kc rm0 (kc rm0 (kc rm0 (kd kr)))))
    · replace h := cond_f hb1008 h
      refine c_skip ?_
      have hd := Option.some.inj h
      subst hd
      exact ej () () trivial (sc rfl (sc rfl (sc rfl sn))) (kc rm1 (kc rm0 (kc rm0 (kc rm0 (kd kr)))))
  · rintro _ i2 _
    replace h := hk2
    clear hk2
    refine e_seq ?_
    refine c_seq ?_
    refine c_seq ?_
    refine c_region ?_
    refine o1 rfl (o_p rfl ?_)
    refine o1 rfl (o_p rfl ?_)
    refine o1 rfl (o_fa (fd := ⟨ "L", 38, 4, false, "", "", 32⟩) rfl rfl rfl rfl rfl ?_)
    refine o1 rfl (o_ld (b := b0) (off := 4) (v := (SV.val s0)) rfl rm2 rfl rfl ?_)
    refine o1 rfl (o_len (s := s0) rfl rfl rfl rm3 (rd_own _ _ _ _) ?_)
    refine o1 rfl (o_p rfl ?_)
    refine o_end ?_
    refine e_seq ?_
    replace h := bsome h
    obtain ⟨d3, h, hk3⟩ := h
    refine cj (D := Unit) (ι := Unit) (fun _ i3 => True) (fun _ i3 => [(4, (SV.val s1006))]) (fun _ i3 => X :: slO s1006 3 (enI .i64) d3 :: blk b0 (.cells (List.toArray [(.int .i64 p0.Model), (.bool p0.Alt), (.int .i64 p0.Size.Rows), (.int .i64 p0.Size.Cols), (SV.val s0), (.int .i64 p0.Cursor)]) 40 (0, 0)) :: slO s0 42 en_Vapi_Cell p0.L :: R) ?_ ?_
    · refine c_block ?_
      refine c_loop (l_sub (sc rfl (sc rfl (sc rfl (sc rfl (sc rfl sn))))) (l_keep (kc rm0 (kc rm2 (kc rm0 (kc rm0 kr)))) (lf (X := Int × Int × (List Int)) (ι := Unit) (fun k x => vitrineref13_Starts_l4 p0 k x) _ (fun x4 i4 => True) (fun x4 i4 => [(30, (.int .i64 x4.1)), (29, (.int .i64 (p0.L.length : Int))), (28, (SV.val s0)), (5, (.int .i64 x4.2.1)), (4, (SV.val s1006))]) (fun x4 i4 => X :: slO s0 42 en_Vapi_Cell p0.L :: slO s1006 3 (enI .i64) x4.2.2 :: blk b0 (.cells (List.toArray [(.int .i64 p0.Model), (.bool p0.Alt), (.int .i64 p0.Size.Rows), (.int .i64 p0.Size.Cols), (SV.val s0), (.int .i64 p0.Cursor)]) 40 (0, 0)) :: R) (fun _ => rfl) ?_ fuel (0, d2, (List.replicate (Int.toNat (p0.L.length : Int)) 0)) () trivial h)))
      clear h
      rintro k4 ih4 x4 i4 _ h
      rw [vitrineref13_Starts_l4.eq_2] at h
      refine l_round ?_
      refine c_seq ?_
      refine c_region ?_
      refine o1 rfl (o_p (v := (.bool (decide (x4.1 < (p0.L.length : Int))))) rfl ?_)
      refine o_end ?_
      refine e_seq ?_
      refine c_seq ?_
      refine c_cond (b := (decide (x4.1 < (p0.L.length : Int)))) rfl (fun hb1024 => ?_) (fun hb1024 => ?_)
      · replace h := cond_t hb1024 h
        refine c_skip ?_
        refine e_seq ?_
        refine c_seq ?_
        refine c_block ?_
        refine c_seq ?_
        refine c_region ?_
        refine o1 rfl (o_p rfl ?_)
        replace h := gsome h
        obtain ⟨hg1025, h⟩ := h
        refine o1 rfl (o_ix (s := s0) (n := x4.1) (e := en_Vapi_Cell) rfl rfl rfl rfl rfl rfl rm1 (rd_own _ _ _ _) hg1025 ?_)
        refine o1 rfl (o_ldE (s := s0) (e := en_Vapi_Cell) (n := x4.1) (f := 0) (v := (.agg (List.toArray [(.int .u8 ((rd p0.L x4.1).Char)), (.bool ((rd p0.L x4.1).Attr)), (.int .u8 ((rd p0.L x4.1).FA)), (.int .u8 ((rd p0.L x4.1).High)), (.int .u8 ((rd p0.L x4.1).Color)), (.int .u8 ((rd p0.L x4.1).f_Set))]))) rfl rm1 (rd_own _ _ _ _) hg1025 rfl rfl ?_)
        refine o1 rfl (o_alloc (cs := [(.int .u8 0), (.bool false), (.int .u8 0), (.int .u8 0), (.int .u8 0), (.int .u8 0)]) rfl rfl (fun b1026 => ?_))
        refine o1 rfl (o_p rfl ?_)
        refine o0 (o_st (b := b1026) (off := 0) (vs := [(.int .u8 ((rd p0.L x4.1).Char)), (.bool ((rd p0.L x4.1).Attr)), (.int .u8 ((rd p0.L x4.1).FA)), (.int .u8 ((rd p0.L x4.1).High)), (.int .u8 ((rd p0.L x4.1).Color)), (.int .u8 ((rd p0.L x4.1).f_Set))]) (cs' := [(.int .u8 ((rd p0.L x4.1).Char)), (.bool ((rd p0.L x4.1).Attr)), (.int .u8 ((rd p0.L x4.1).FA)), (.int .u8 ((rd p0.L x4.1).High)), (.int .u8 ((rd p0.L x4.1).Color)), (.int .u8 ((rd p0.L x4.1).f_Set))]) rfl rfl rp0 rfl rfl rfl rfl rfl rfl ?_)
        refine o_end ?_
        refine e_seq ?_
        refine c_seq ?_
        refine c_seq ?_
        refine c_region ?_
        refine o1 rfl (o_fa (fd := ⟨ "Attr", 4, 1, false, "", "", 1⟩) rfl rfl rfl rfl rfl ?_)
        refine o1 rfl (o_ld (b := b1026) (off := 1) (v := (.bool ((rd p0.L x4.1).Attr))) rfl rm0 rfl rfl ?_)
        refine o_end ?_
        refine e_seq ?_
        replace h := bsome h
        obtain ⟨d7, h, hk7⟩ := h
        refine cj (D := Unit) (ι := Unit) (fun _ i7 => True) (fun _ i7 => [(5, (.int .i64 d7)), (6, (.int .i64 x4.1)), (30, (.int .i64 x4.1)), (29, (.int .i64 (p0.L.length : Int))), (28, (SV.val s0)), (4, (SV.val s1006))]) (fun _ i7 => X :: slO s0 42 en_Vapi_Cell p0.L :: slO s1006 3 (enI .i64) x4.2.2 :: blk b0 (.cells (List.toArray [(.int .i64 p0.Model), (.bool p0.Alt), (.int .i64 p0.Size.Rows), (.int .i64 p0.Size.Cols), (SV.val s0), (.int .i64 p0.Cursor)]) 40 (0, 0)) :: R) ?_ ?_
        · refine c_cond (b := (rd p0.L x4.1).Attr) rfl (fun hb1028 => ?_) (fun hb1028 => ?_)
          · replace h := cond_t hb1028 h
            refine c_region ?_
            refine o1 rfl (o_p rfl ?_)
            refine o1 rfl (o_p rfl ?_)
            refine o_end ?_
            have hd := Option.some.inj h
            subst hd
            exact ej () () trivial (sc rfl (sc rfl (sc rfl (sc rfl (sc rfl (sc rfl sn)))))) (kc rm1 (kc rm1 (kc rm1 (kc rm1 (kd kr)))))
          · replace h := cond_f hb1028 h
            refine c_skip ?_
            have hd := Option.some.inj h
            subst hd
            exact ej () () trivial (sc rfl (sc rfl (sc rfl (sc rfl (sc rfl (sc rfl sn)))))) (kc rm1 (kc rm1 (kc rm1 (kc rm1 (kd kr)))))
        · rintro _ i7 _
          replace h := hk7
          clear hk7
          refine e_seq ?_
          refine c_region ?_
          refine o1 rfl (o_p rfl ?_)
          refine o1 rfl (o_p rfl ?_)
          refine o1 rfl (o_p rfl ?_)
          replace h := gsome h
          obtain ⟨hg1029, h⟩ := h
          refine o1 rfl (o_ix (s := s1006) (n := x4.1) (e := (enI .i64)) rfl rfl rfl rfl rfl rfl rm2 (rd_own _ _ _ _) hg1029 ?_)
          refine o0 (o_stE (s := s1006) (e := (enI .i64)) (n := x4.1) (f := 0) (vs := [(.int .i64 d7)]) (u := d7) rfl rfl rp2 hg1029 rfl rfl rfl rfl rfl rfl ?_)
          refine o_end ?_
          refine e_blk ?_
          refine e_seq ?_
          refine c_region ?_
          refine o1 rfl (o_p (v := (.int .i64 (w64 (x4.1 + 1)))) rfl ?_)
          refine o1 rfl (o_p rfl ?_)
          refine o_end ?_
          exact e_loop (l_sub (sc rfl (sc rfl (sc rfl (sc rfl (sc rfl sn))))) (l_keep (kc rm0 (kc rm0 (kc rm0 (kc rm0 kr)))) (ih4 (w64 (x4.1 + 1), d7, (List.set x4.2.2 (Int.toNat x4.1) d7)) () trivial h)))
      · replace h := cond_f hb1024 h
        refine c_exit ?_
        refine e_then_exit ?_
        refine e_then_exit ?_
        refine e_blk_exit ?_
        have hd := Option.some.inj h
        subst hd
        exact ej () () trivial (sc rfl sn) (kc rm0 (kc rm1 (kc rm1 (kc rm0 kr))))
    · rintro _ i3 _
      replace h := hk3
      clear hk3
      refine e_seq ?_
      refine c_seq ?_
      refine c_region ?_
      refine o1 rfl (o_p rfl ?_)
      refine o1 rfl (o_p rfl ?_)
      refine o_end ?_
      refine e_seq ?_
      refine c_ret ?_
      refine e_ret ?_
      refine r_endt rfl rfl (kc rm0 (kc rm1 (kc rm1 (kc rm0 kr)))) ?_
      have hr := Option.some.inj h
      subst hr
      exact hk s1006

theorem c_vitrineref13_Field {g : Gw} (hg : GK g) (X : HP) (p0 : Vvitrineref12_Space) (b0 : Nat) (s0 : SV) (p1 : Int) (r : Vvitrineref05_Field) (h : m_vitrineref13_Field p0 p1 = some r) : Tri env g 11 (List.toArray [(.pointer (some ⟨b0, 0, none⟩)), (.int .i64 p1)]) [X, blk b0 (.cells (List.toArray [(.int .i64 p0.Model), (.bool p0.Alt), (.int .i64 p0.Size.Rows), (.int .i64 p0.Size.Cols), (SV.val s0), (.int .i64 p0.Cursor)]) 40 (0, 0)), slO s0 42 en_Vapi_Cell p0.L] (fun K R => K (.agg (List.toArray [(.bool r.Protected), (.bool r.Numeric), (.int .i64 r.Display), (.bool r.Modified)])) (X :: blk b0 (.cells (List.toArray [(.int .i64 p0.Model), (.bool p0.Alt), (.int .i64 p0.Size.Rows), (.int .i64 p0.Size.Cols), (SV.val s0), (.int .i64 p0.Cursor)]) 40 (0, 0)) :: slO s0 42 en_Vapi_Cell p0.L :: R)) := by
  refine tri_of (fn := Tryd.f11) (N := 14) Tryd.func11 rfl rfl rfl ?_
  intro R K hk
  unfold m_vitrineref13_Field at h
  change GC _ none _ [] [(0, (.pointer (some ⟨b0, 0, none⟩))), (1, (.int .i64 p1))] (X :: blk b0 (.cells (List.toArray [(.int .i64 p0.Model), (.bool p0.Alt), (.int .i64 p0.Size.Rows), (.int .i64 p0.Size.Cols), (SV.val s0), (.int .i64 p0.Cursor)]) 40 (0, 0)) :: slO s0 42 en_Vapi_Cell p0.L :: R) g _ _
  refine c_seq ?_
  refine c_region ?_
  refine o1 rfl (o_alloc (cs := [(.bool false), (.bool false), (.int .i64 0), (.bool false)]) rfl rfl (fun b1042 => ?_))
  refine o_end ?_
  refine e_seq ?_
  refine c_seq ?_
  refine c_region ?_
  refine o1 rfl (o_p rfl ?_)
  refine o1 rfl (o_p rfl ?_)
  refine o1 rfl (o_fa (fd := ⟨ "L", 38, 4, false, "", "", 32⟩) rfl rfl rfl rfl rfl ?_)
  refine o1 rfl (o_ld (b := b0) (off := 4) (v := (SV.val s0)) rfl rm2 rfl rfl ?_)
  refine o1 rfl (o_p rfl ?_)
  replace h := gsome h
  obtain ⟨hg1044, h⟩ := h
  refine o1 rfl (o_ix (s := s0) (n := p1) (e := en_Vapi_Cell) rfl rfl rfl rfl rfl rfl rm3 (rd_own _ _ _ _) hg1044 ?_)
  refine o1 rfl (o_fa (fd := ⟨ "FA", 5, 2, false, "", "", 2⟩) rfl rfl rfl rfl rfl ?_)
  refine o1 rfl (o_ldE (s := s0) (e := en_Vapi_Cell) (n := p1) (f := 2) (v := (.int .u8 ((rd p0.L p1).FA))) rfl rm3 (rd_own _ _ _ _) hg1044 rfl rfl ?_)
  replace h := bsome h
  obtain ⟨d1, h1, h⟩ := h
  refine o1 rfl (o_call has36 rfl (c_vitrineref05_Of hg X ((rd p0.L p1).FA) _ h1) (pc rm1 pn) ?_)
  refine o0 (o_st (b := b1042) (off := 0) (vs := [(.bool d1.Protected), (.bool d1.Numeric), (.int .i64 d1.Display), (.bool d1.Modified)]) (cs' := [(.bool d1.Protected), (.bool d1.Numeric), (.int .i64 d1.Display), (.bool d1.Modified)]) rfl rfl rp1 rfl rfl rfl rfl rfl rfl ?_)
  refine o_end ?_
  refine e_seq ?_
  refine c_ret ?_
  refine e_ret ?_
  refine r_endc (B := [[(.bool d1.Protected), (.bool d1.Numeric), (.int .i64 d1.Display), (.bool d1.Modified)]]) rfl ⟨⟨_, _, _, _, rfl, rm1⟩, trivial⟩ rfl (kc rm0 (kc rm1 (kc rm1 (kd kr)))) ?_
  have hr := Option.some.inj h
  subst hr
  exact hk

theorem c_vitrinelaw17_WriteErases {g : Gw} (hg : GK g) (X : HP) (p0 : Int) (p1 : List Vvitrineref12_Act) (s0 : SV) (q0r : RdN X s0 66 en_Vvitrineref12_Act D_Vvitrineref12_Act p1) (r : Bool) (h : m_vitrinelaw17_WriteErases p0 p1 = some r) : Tri env g 3 (List.toArray [(.int .u8 p0), (SV.val s0)]) [X] (fun K R => ∀ (i0 : HP), (Ext X i0) → K (.bool r) (i0 :: R)) := by
  refine tri_of (fn := Tryd.f3) (N := 86) Tryd.func3 rfl rfl rfl ?_
  intro R K hk
  obtain ⟨L_q0, q0, n_q0⟩ := q0r
  unfold m_vitrinelaw17_WriteErases at h
  change GC _ none _ [] [(0, (.int .u8 p0)), (1, (SV.val s0))] (X :: R) g _ _
  refine c_seq ?_
  refine c_region ?_
  refine o1 rfl (o_p rfl ?_)
  refine o_end ?_
  refine e_seq ?_
  refine c_seq ?_
  refine c_seq ?_
  refine c_region ?_
  replace h := bsome h
  obtain ⟨d1, h1, h⟩ := h
  refine o1 rfl (o_call has6 rfl (c_vitrinelaw17_awake hg X _ h1) (pc rm0 pn) (fun i1 f1_0 => ?_))
  refine o1 rfl (o_p (v := (.bool (!d1))) rfl ?_)
  refine o_end ?_
  refine e_seq ?_
  refine c_cond (b := (!d1)) rfl (fun hb779 => ?_) (fun hb779 => ?_)
  · replace h := cond_t hb779 h
    refine c_seq ?_
    refine c_region ?_
    refine o1 rfl (o_p rfl ?_)
    refine o_end ?_
    refine e_seq ?_
    refine c_ret ?_
    refine e_then_ret ?_
    refine e_ret ?_
    refine r_endt rfl rfl (kc rm0 kr) ?_
    have hr := Option.some.inj h
    subst hr
    exact hk i1 f1_0
  · replace h := cond_f hb779 h
    refine c_skip ?_
    refine e_seq ?_
    refine c_seq ?_
    refine c_region ?_
    refine o1 rfl (o_p rfl ?_)
    refine o1 rfl (o_p rfl ?_)
    replace h := bsome h
    obtain ⟨d4, h4, h⟩ := h
    refine o1 rfl (o_call has7 rfl (c_vitrinelaw17_lay hg i1 p0 p1 s0 ⟨_, (Rd.ext q0 f1_0), (NL.mono n_q0 (D_Vvitrineref12_Act.ext f1_0))⟩ _ h4) (pc rm0 pn) (fun i4 => ?_))
    refine o1 rfl (o_p rfl ?_)
    refine o1 rfl (o_p rfl ?_)
    refine o1 rfl (o_p rfl ?_)
    refine o1 rfl (o_p rfl ?_)
    refine o1 rfl (o_p rfl ?_)
    refine o_end ?_
    refine e_seq ?_
    refine c_seq ?_
    refine c_region ?_
    refine o1 rfl (o_p rfl ?_)
    refine o1 rfl (o_bs (e := (enI .u8)) (l := [111]) (zs := [(.int .u8 0)]) rfl rfl rfl rfl rfl rfl rfl rfl rfl rfl (fun s952 => ?_))
    refine o_fz rm0 rm0 (fun X954 hx955 hs956 => ?_)
    replace h := bsome h
    obtain ⟨d5, h5, h⟩ := h
    refine o1 rfl (o_call has8 rfl (c_write_Run hg X954 d4.1 i4.1 i4.2.1 [111] s952 hs956 _ h5) (pc rm0 (pc rm0 (pc rm0 pn))) (fun i5 f5_0 f5_1 => ?_))
    refine o1 rfl (o_p rfl ?_)
    refine o1 rfl (o_p rfl ?_)
    refine o1 rfl (o_p rfl ?_)
    refine o1 rfl (o_alloc (cs := [(.int .i64 0), (.bool false), (.bool false), (.bool false), (.int .i64 0), (SV.val SV.nil)]) rfl rfl (fun b958 => ?_))
    refine o0 (o_st (b := b958) (off := 0) (vs := [(.int .i64 d5.2.1.Command), (.bool d5.2.1.Restore), (.bool d5.2.1.Alarm), (.bool d5.2.1.Reset), (.int .i64 d5.2.1.Pieces), (SV.val i5.2.2)]) (cs' := [(.int .i64 d5.2.1.Command), (.bool d5.2.1.Restore), (.bool d5.2.1.Alarm), (.bool d5.2.1.Reset), (.int .i64 d5.2.1.Pieces), (SV.val i5.2.2)]) rfl rfl rp0 rfl rfl rfl rfl rfl rfl ?_)
    refine o1 rfl (o_p rfl ?_)
    refine o_end ?_
    refine e_seq ?_
    refine c_seq ?_
    refine c_seq ?_
    replace h := bsome h
    obtain ⟨d6, h, hk6⟩ := h
    refine cj (D := Unit) (ι := Unit) (fun _ i6 => True) (fun _ i6 => [(40, (.bool d6)), (6, (.pointer (some ⟨i4.2.2.1, 0, none⟩))), (5, (.pointer (some ⟨i4.1, 0, none⟩)))]) (fun _ i6 => i5.1 :: blk i4.2.2.1 (.cells (List.toArray [(.int .i64 d4.2.Model), (.bool d4.2.Alt), (.int .i64 d4.2.Size.Rows), (.int .i64 d4.2.Size.Cols), (SV.val i4.2.2.2), (.int .i64 d4.2.Cursor)]) 40 (0, 0)) :: blk i4.1 (.cells (List.toArray [(.int .i64 d5.1.model), (.bool d5.1.alternate), (.int .i64 d5.1.size.Rows), (.int .i64 d5.1.size.Cols), (SV.val i5.2.1), (.int .i64 d5.1.cursor), (.int .i64 d5.1.attrs)]) 76 (0, 0)) :: slO i4.2.2.2 42 en_Vapi_Cell d4.2.L :: slO i5.2.1 42 en_Vapi_Cell d5.1.cells :: R) ?_ ?_
    · refine c_region ?_
      refine o1 rfl (o_p rfl ?_)
      refine o1 rfl (o_p (v := (.bool (d5.2.2 != 0))) rfl ?_)
      refine o1 rfl (o_p rfl ?_)
      rcases bool_or ((d5.2.2 != 0)) with hb960 | hb960
      · replace h := cond_t hb960 h
        refine on rfl rfl rfl hb960 ?_
        refine on rfl rfl rfl hb960 ?_
        refine on rfl rfl rfl hb960 ?_
        refine o1 rfl (o_pick_t rfl hb960 rfl ?_)
        refine o1 rfl (o_p rfl ?_)
        refine on rfl rfl rfl rfl ?_
        refine on rfl rfl rfl rfl ?_
        refine on rfl rfl rfl rfl ?_
        refine o1 rfl (o_pick_t rfl rfl rfl ?_)
        refine o_end ?_
        have hd := Option.some.inj h
        subst hd
        exact ej () () trivial (sc rfl (sc rfl (sc rfl sn))) (kc rm1 (kc rm3 (kc rm1 (kc rm2 (kc rm1 (kd kr))))))
      · replace h := cond_f hb960 h
        refine oy rfl rfl rfl hb960 (o_fa (fd := ⟨ "Restore", 4, 1, false, "", "", 8⟩) rfl rfl rfl rfl rfl ?_)
        refine oy rfl rfl rfl hb960 (o_ld (b := b958) (off := 1) (v := (.bool d5.2.1.Restore)) rfl rm0 rfl rfl ?_)
        refine oy rfl rfl rfl hb960 (o_p (v := (.bool (!d5.2.1.Restore))) rfl ?_)
        refine o1 rfl (o_pick_f rfl hb960 rfl ?_)
        refine o1 rfl (o_p rfl ?_)
        rcases bool_or ((!d5.2.1.Restore)) with hb961 | hb961
        · replace h := cond_t hb961 h
          refine on rfl rfl rfl hb961 ?_
          refine on rfl rfl rfl hb961 ?_
          refine on rfl rfl rfl hb961 ?_
          refine o1 rfl (o_pick_t rfl hb961 rfl ?_)
          refine o_end ?_
          have hd := Option.some.inj h
          subst hd
          exact ej () () trivial (sc rfl (sc rfl (sc rfl sn))) (kc rm1 (kc rm3 (kc rm1 (kc rm2 (kc rm1 (kd kr))))))
        · replace h := cond_f hb961 h
          refine oy rfl rfl rfl hb961 (o_fa (fd := ⟨ "Command", 3, 0, false, "", "", 0⟩) rfl rfl rfl rfl rfl ?_)
          refine oy rfl rfl rfl hb961 (o_ld (b := b958) (off := 0) (v := (.int .i64 d5.2.1.Command)) rfl rm0 rfl rfl ?_)
          refine oy rfl rfl rfl hb961 (o_p (v := (.bool (d5.2.1.Command != 4))) rfl ?_)
          refine o1 rfl (o_pick_f rfl hb961 rfl ?_)
          refine o_end ?_
          have hd := Option.some.inj h
          subst hd
          exact ej () () trivial (sc rfl (sc rfl (sc rfl sn))) (kc rm1 (kc rm3 (kc rm1 (kc rm2 (kc rm1 (kd kr))))))
    · rintro _ i6 _
      replace h := hk6
      clear hk6
      refine e_seq ?_
      refine c_cond (b := d6) rfl (fun hb962 => ?_) (fun hb962 => ?_)
      · replace h := cond_t hb962 h
        refine c_seq ?_
        refine c_region ?_
        refine o1 rfl (o_p rfl ?_)
        refine o_end ?_
        refine e_seq ?_
        refine c_ret ?_
        refine e_then_ret ?_
        refine e_ret ?_
        refine r_endt rfl rfl (kc rm0 (kd (kd (kd (kd kr))))) ?_
        have hr := Option.some.inj h
        subst hr
        exact hk i5.1 (Ext.trans (Ext.trans f1_0 hx955) f5_1)
      · replace h := cond_f hb962 h
        refine c_skip ?_
        refine e_seq ?_
        refine c_seq ?_
        refine c_region ?_
        refine o1 rfl (o_p rfl ?_)
        replace h := bsome h
        obtain ⟨d8, h8, h⟩ := h
        refine o1 rfl (o_call has9 rfl (c_vitrineref13_Starts hg i5.1 d4.2 i4.2.2.1 i4.2.2.2 _ h8) (pc rm0 (pc rm0 (pc rm1 pn))) (fun i8 => ?_))
        refine o1 rfl (o_p rfl ?_)
        refine o_end ?_
        refine e_seq ?_
        refine c_seq ?_
        refine c_seq ?_
        refine c_region ?_
        refine o1 rfl (o_p rfl ?_)
        refine o1 rfl (o_p rfl ?_)
        refine o1 rfl (o_fa (fd := ⟨ "L", 38, 4, false, "", "", 32⟩) rfl rfl rfl rfl rfl ?_)
        refine o1 rfl (o_ld (b := i4.2.2.1) (off := 4) (v := (SV.val i4.2.2.2)) rfl rm1 rfl rfl ?_)
        refine o1 rfl (o_len (s := i4.2.2.2) rfl rfl rfl rm2 (rd_own _ _ _ _) ?_)
        refine o1 rfl (o_p rfl ?_)
        refine o_end ?_
        refine e_seq ?_
        replace h := jn_some h
        obtain ⟨y9, h, hk9⟩ := h
        refine cj (D := Unit) (ι := Unit) (fun d9 i9 => y9 = Sum.inl d9) (fun d9 i9 => []) (fun d9 i9 => i5.1 :: R) ?_ ?_
        · refine c_block ?_
          refine c_loop (l_sub (sc rfl (sc rfl (sc rfl (sc rfl (sc rfl (sc rfl sn)))))) (l_keep (kc rm0 (kc rm1 (kc rm1 (kc rm0 (kc rm0 (kc rm0 kr)))))) (lf (X := Int) (ι := Unit) (fun k x => vitrinelaw17_WriteErases_l10 d4 d5 d8 k x) _ (fun x10 i10 => True) (fun x10 i10 => [(48, (.int .i64 x10)), (47, (.int .i64 (d4.2.L.length : Int))), (46, (SV.val i4.2.2.2)), (9, (SV.val i8)), (6, (.pointer (some ⟨i4.2.2.1, 0, none⟩))), (5, (.pointer (some ⟨i4.1, 0, none⟩)))]) (fun x10 i10 => i5.1 :: slO i4.2.2.2 42 en_Vapi_Cell d4.2.L :: slO i8 3 (enI .i64) d8 :: blk i4.2.2.1 (.cells (List.toArray [(.int .i64 d4.2.Model), (.bool d4.2.Alt), (.int .i64 d4.2.Size.Rows), (.int .i64 d4.2.Size.Cols), (SV.val i4.2.2.2), (.int .i64 d4.2.Cursor)]) 40 (0, 0)) :: blk i4.1 (.cells (List.toArray [(.int .i64 d5.1.model), (.bool d5.1.alternate), (.int .i64 d5.1.size.Rows), (.int .i64 d5.1.size.Cols), (SV.val i5.2.1), (.int .i64 d5.1.cursor), (.int .i64 d5.1.attrs)]) 76 (0, 0)) :: slO i5.2.1 42 en_Vapi_Cell d5.1.cells :: R) (fun _ => rfl) ?_ fuel 0 () trivial h)))
          clear h
          rintro k10 ih10 x10 i10 _ h
          rw [vitrinelaw17_WriteErases_l10.eq_2] at h
          refine l_round ?_
          refine c_seq ?_
          refine c_region ?_
          refine o1 rfl (o_p (v := (.bool (decide (x10 < (d4.2.L.length : Int))))) rfl ?_)
          refine o_end ?_
          refine e_seq ?_
          refine c_seq ?_
          refine c_cond (b := (decide (x10 < (d4.2.L.length : Int)))) rfl (fun hb1061 => ?_) (fun hb1061 => ?_)
          · replace h := cond_t hb1061 h
            refine c_skip ?_
            refine e_seq ?_
            refine c_seq ?_
            refine c_block ?_
            refine c_seq ?_
            refine c_region ?_
            refine o1 rfl (o_p rfl ?_)
            replace h := gsome h
            obtain ⟨hg1062, h⟩ := h
            refine o1 rfl (o_ix (s := i4.2.2.2) (n := x10) (e := en_Vapi_Cell) rfl rfl rfl rfl rfl rfl rm1 (rd_own _ _ _ _) hg1062 ?_)
            refine o1 rfl (o_ldE (s := i4.2.2.2) (e := en_Vapi_Cell) (n := x10) (f := 0) (v := (.agg (List.toArray [(.int .u8 ((rd d4.2.L x10).Char)), (.bool ((rd d4.2.L x10).Attr)), (.int .u8 ((rd d4.2.L x10).FA)), (.int .u8 ((rd d4.2.L x10).High)), (.int .u8 ((rd d4.2.L x10).Color)), (.int .u8 ((rd d4.2.L x10).f_Set))]))) rfl rm1 (rd_own _ _ _ _) hg1062 rfl rfl ?_)
            refine o1 rfl (o_alloc (cs := [(.int .u8 0), (.bool false), (.int .u8 0), (.int .u8 0), (.int .u8 0), (.int .u8 0)]) rfl rfl (fun b1063 => ?_))
            refine o1 rfl (o_p rfl ?_)
            refine o0 (o_st (b := b1063) (off := 0) (vs := [(.int .u8 ((rd d4.2.L x10).Char)), (.bool ((rd d4.2.L x10).Attr)), (.int .u8 ((rd d4.2.L x10).FA)), (.int .u8 ((rd d4.2.L x10).High)), (.int .u8 ((rd d4.2.L x10).Color)), (.int .u8 ((rd d4.2.L x10).f_Set))]) (cs' := [(.int .u8 ((rd d4.2.L x10).Char)), (.bool ((rd d4.2.L x10).Attr)), (.int .u8 ((rd d4.2.L x10).FA)), (.int .u8 ((rd d4.2.L x10).High)), (.int .u8 ((rd d4.2.L x10).Color)), (.int .u8 ((rd d4.2.L x10).f_Set))]) rfl rfl rp0 rfl rfl rfl rfl rfl rfl ?_)
            refine o_end ?_
            refine e_seq ?_
            refine c_seq ?_
            refine c_region ?_
            refine o1 rfl (o_p rfl ?_)
            refine o1 rfl (o_p rfl ?_)
            replace h := bsome h
            obtain ⟨d13, h13, h⟩ := h
            refine o1 rfl (o_call has10 rfl (c_space_Space_At hg i5.1 d5.1 i4.1 i5.2.1 x10 _ h13) (pc rm1 (pc rm4 (pc rm4 pn))) ?_)
            refine o1 rfl (o_alloc (cs := [(.int .u8 0), (.bool false), (.int .u8 0), (.int .u8 0), (.int .u8 0), (.int .u8 0)]) rfl rfl (fun b1065 => ?_))
            refine o0 (o_st (b := b1065) (off := 0) (vs := [(.int .u8 d13.Char), (.bool d13.Attr), (.int .u8 d13.FA), (.int .u8 d13.High), (.int .u8 d13.Color), (.int .u8 d13.f_Set)]) (cs' := [(.int .u8 d13.Char), (.bool d13.Attr), (.int .u8 d13.FA), (.int .u8 d13.High), (.int .u8 d13.Color), (.int .u8 d13.f_Set)]) rfl rfl rp0 rfl rfl rfl rfl rfl rfl ?_)
            refine o_end ?_
            refine e_seq ?_
            refine c_seq ?_
            refine c_region ?_
            refine o1 rfl (o_p rfl ?_)
            refine o1 rfl (o_p rfl ?_)
            replace h := gsome h
            obtain ⟨hg1067, h⟩ := h
            refine o1 rfl (o_ix (s := i8) (n := x10) (e := (enI .i64)) rfl rfl rfl rfl rfl rfl rm6 (rd_own _ _ _ _) hg1067 ?_)
            refine o1 rfl (o_ldE (s := i8) (e := (enI .i64)) (n := x10) (f := 0) (v := (.int .i64 (rd d8 x10))) rfl rm6 (rd_own _ _ _ _) hg1067 rfl rfl ?_)
            refine o1 rfl (o_p rfl ?_)
            refine o_end ?_
            refine e_seq ?_
            refine c_seq ?_
            replace h := bsome h
            obtain ⟨d14, h, hk14⟩ := h
            refine cj (D := Unit) (ι := Unit) (fun _ i14 => True) (fun _ i14 => [(14, (.bool d14)), (12, (.pointer (some ⟨b1065, 0, none⟩))), (11, (.pointer (some ⟨b1063, 0, none⟩))), (48, (.int .i64 x10)), (47, (.int .i64 (d4.2.L.length : Int))), (46, (SV.val i4.2.2.2)), (9, (SV.val i8)), (6, (.pointer (some ⟨i4.2.2.1, 0, none⟩))), (5, (.pointer (some ⟨i4.1, 0, none⟩)))]) (fun _ i14 => i5.1 :: blk b1065 (.cells (List.toArray [(.int .u8 d13.Char), (.bool d13.Attr), (.int .u8 d13.FA), (.int .u8 d13.High), (.int .u8 d13.Color), (.int .u8 d13.f_Set)]) 42 (0, 0)) :: blk b1063 (.cells (List.toArray [(.int .u8 ((rd d4.2.L x10).Char)), (.bool ((rd d4.2.L x10).Attr)), (.int .u8 ((rd d4.2.L x10).FA)), (.int .u8 ((rd d4.2.L x10).High)), (.int .u8 ((rd d4.2.L x10).Color)), (.int .u8 ((rd d4.2.L x10).f_Set))]) 42 (0, 0)) :: slO i4.2.2.2 42 en_Vapi_Cell d4.2.L :: slO i8 3 (enI .i64) d8 :: blk i4.2.2.1 (.cells (List.toArray [(.int .i64 d4.2.Model), (.bool d4.2.Alt), (.int .i64 d4.2.Size.Rows), (.int .i64 d4.2.Size.Cols), (SV.val i4.2.2.2), (.int .i64 d4.2.Cursor)]) 40 (0, 0)) :: blk i4.1 (.cells (List.toArray [(.int .i64 d5.1.model), (.bool d5.1.alternate), (.int .i64 d5.1.size.Rows), (.int .i64 d5.1.size.Cols), (SV.val i5.2.1), (.int .i64 d5.1.cursor), (.int .i64 d5.1.attrs)]) 76 (0, 0)) :: slO i5.2.1 42 en_Vapi_Cell d5.1.cells :: R) ?_ ?_
            · refine c_region ?_
              refine o1 rfl (o_p rfl ?_)
              refine o1 rfl (o_p (v := (.bool (decide ((rd d8 x10) < 0)))) rfl ?_)
              refine o1 rfl (o_p rfl ?_)
              rcases bool_or ((decide ((rd d8 x10) < 0))) with hb1068 | hb1068
              · replace h := cond_t hb1068 h
                refine on rfl rfl rfl hb1068 ?_
                refine on rfl rfl rfl hb1068 ?_
                refine on rfl rfl rfl hb1068 ?_
                refine on rfl rfl rfl hb1068 ?_
                refine on rfl rfl rfl hb1068 ?_
                refine o1 rfl (o_pick_t rfl hb1068 rfl ?_)
                refine o1 rfl (o_p rfl ?_)
                refine o_end ?_
                have hd := Option.some.inj h
                subst hd
                exact ej () () trivial (sc rfl (sc rfl (sc rfl (sc rfl (sc rfl (sc rfl (sc rfl (sc rfl (sc rfl sn))))))))) (kc rm1 (kc rm0 (kc rm2 (kc rm2 (kc rm2 (kc rm2 (kc rm0 (kc rm0 kr))))))))
              · replace h := cond_f hb1068 h
                refine oy rfl rfl rfl hb1068 (o_p rfl ?_)
                refine oy rfl rfl rfl hb1068 (o_p rfl ?_)
                replace h := bsome h
                obtain ⟨d15, h15, h⟩ := h
                refine oy rfl rfl rfl hb1068 (o_call has11 rfl (c_vitrineref13_Field hg i5.1 d4.2 i4.2.2.1 i4.2.2.2 (rd d8 x10) _ h15) (pc rm1 (pc rm6 (pc rm4 pn))) ?_)
                refine oy rfl rfl rfl hb1068 (o_field (v := (.bool d15.Protected)) rfl rfl rfl ?_)
                refine oy rfl rfl rfl hb1068 (o_p (v := (.bool (!d15.Protected))) rfl ?_)
                refine o1 rfl (o_pick_f rfl hb1068 rfl ?_)
                refine o1 rfl (o_p rfl ?_)
                refine o_end ?_
                have hd := Option.some.inj h
                subst hd
                exact ej () () trivial (sc rfl (sc rfl (sc rfl (sc rfl (sc rfl (sc rfl (sc rfl (sc rfl (sc rfl sn))))))))) (kc rm0 (kc rm2 (kc rm4 (kc rm1 (kc rm3 (kc rm0 (kc rm0 (kc rm0 kr))))))))
            · rintro _ i14 _
              replace h := hk14
              clear hk14
              refine e_seq ?_
              refine c_seq ?_
              refine c_block ?_
              refine c_seq ?_
              replace h := bsome h
              obtain ⟨d17, h, hk17⟩ := h
              refine cj (D := Unit) (ι := Unit) (fun _ i17 => True) (fun _ i17 => [(69, (.bool d17)), (14, (.bool d14)), (12, (.pointer (some ⟨b1065, 0, none⟩))), (11, (.pointer (some ⟨b1063, 0, none⟩))), (48, (.int .i64 x10)), (47, (.int .i64 (d4.2.L.length : Int))), (46, (SV.val i4.2.2.2)), (9, (SV.val i8)), (6, (.pointer (some ⟨i4.2.2.1, 0, none⟩))), (5, (.pointer (some ⟨i4.1, 0, none⟩)))]) (fun _ i17 => i5.1 :: blk b1065 (.cells (List.toArray [(.int .u8 d13.Char), (.bool d13.Attr), (.int .u8 d13.FA), (.int .u8 d13.High), (.int .u8 d13.Color), (.int .u8 d13.f_Set)]) 42 (0, 0)) :: blk b1063 (.cells (List.toArray [(.int .u8 ((rd d4.2.L x10).Char)), (.bool ((rd d4.2.L x10).Attr)), (.int .u8 ((rd d4.2.L x10).FA)), (.int .u8 ((rd d4.2.L x10).High)), (.int .u8 ((rd d4.2.L x10).Color)), (.int .u8 ((rd d4.2.L x10).f_Set))]) 42 (0, 0)) :: slO i4.2.2.2 42 en_Vapi_Cell d4.2.L :: slO i8 3 (enI .i64) d8 :: blk i4.2.2.1 (.cells (List.toArray [(.int .i64 d4.2.Model), (.bool d4.2.Alt), (.int .i64 d4.2.Size.Rows), (.int .i64 d4.2.Size.Cols), (SV.val i4.2.2.2), (.int .i64 d4.2.Cursor)]) 40 (0, 0)) :: blk i4.1 (.cells (List.toArray [(.int .i64 d5.1.model), (.bool d5.1.alternate), (.int .i64 d5.1.size.Rows), (.int .i64 d5.1.size.Cols), (SV.val i5.2.1), (.int .i64 d5.1.cursor), (.int .i64 d5.1.attrs)]) 76 (0, 0)) :: slO i5.2.1 42 en_Vapi_Cell d5.1.cells :: R) ?_ ?_
              · refine c_region ?_
                refine o1 rfl (o_fa (fd := ⟨ "Attr", 4, 1, false, "", "", 1⟩) rfl rfl rfl rfl rfl ?_)
                refine o1 rfl (o_ld (b := b1063) (off := 1) (v := (.bool ((rd d4.2.L x10).Attr))) rfl rm2 rfl rfl ?_)
                refine o1 rfl (o_p rfl ?_)
                rcases bool_or ((rd d4.2.L x10).Attr) with hb1069 | hb1069
                · replace h := cond_t hb1069 h
                  refine oy rfl rfl rfl hb1069 (o_p rfl ?_)
                  refine o1 rfl (o_pick_t rfl hb1069 rfl ?_)
                  refine o1 rfl (o_p rfl ?_)
                  refine o_end ?_
                  have hd := Option.some.inj h
                  subst hd
                  exact ej () () trivial (sc rfl (sc rfl (sc rfl (sc rfl (sc rfl (sc rfl (sc rfl (sc rfl (sc rfl (sc rfl sn)))))))))) (kc rm0 (kc rm0 (kc rm0 (kc rm0 (kc rm0 (kc rm0 (kc rm0 (kc rm0 kr))))))))
                · replace h := cond_f hb1069 h
                  refine on rfl rfl rfl hb1069 ?_
                  refine o1 rfl (o_pick_f rfl hb1069 rfl ?_)
                  refine o1 rfl (o_p rfl ?_)
                  refine o_end ?_
                  have hd := Option.some.inj h
                  subst hd
                  exact ej () () trivial (sc rfl (sc rfl (sc rfl (sc rfl (sc rfl (sc rfl (sc rfl (sc rfl (sc rfl (sc rfl sn)))))))))) (kc rm0 (kc rm0 (kc rm0 (kc rm0 (kc rm0 (kc rm0 (kc rm0 (kc rm0 kr))))))))
              · rintro _ i17 _
                replace h := hk17
                clear hk17
                refine e_seq ?_
                replace h := bsome h
                obtain ⟨d18, h, hk18⟩ := h
                refine cj (D := Unit) (ι := Unit) (fun _ i18 => True) (fun _ i18 => [(12, (.pointer (some ⟨b1065, 0, none⟩))), (11, (.pointer (some ⟨b1063, 0, none⟩))), (48, (.int .i64 x10)), (47, (.int .i64 (d4.2.L.length : Int))), (46, (SV.val i4.2.2.2)), (9, (SV.val i8)), (6, (.pointer (some ⟨i4.2.2.1, 0, none⟩))), (5, (.pointer (some ⟨i4.1, 0, none⟩)))]) (fun _ i18 => i5.1 :: blk b1065 (.cells (List.toArray [(.int .u8 d13.Char), (.bool d13.Attr), (.int .u8 d13.FA), (.int .u8 d13.High), (.int .u8 d13.Color), (.int .u8 d13.f_Set)]) 42 (0, 0)) :: blk b1063 (.cells (List.toArray [(.int .u8 d18.1), (.bool ((rd d4.2.L x10).Attr)), (.int .u8 d18.2), (.int .u8 ((rd d4.2.L x10).High)), (.int .u8 ((rd d4.2.L x10).Color)), (.int .u8 ((rd d4.2.L x10).f_Set))]) 42 (0, 0)) :: slO i4.2.2.2 42 en_Vapi_Cell d4.2.L :: slO i8 3 (enI .i64) d8 :: blk i4.2.2.1 (.cells (List.toArray [(.int .i64 d4.2.Model), (.bool d4.2.Alt), (.int .i64 d4.2.Size.Rows), (.int .i64 d4.2.Size.Cols), (SV.val i4.2.2.2), (.int .i64 d4.2.Cursor)]) 40 (0, 0)) :: blk i4.1 (.cells (List.toArray [(.int .i64 d5.1.model), (.bool d5.1.alternate), (.int .i64 d5.1.size.Rows), (.int .i64 d5.1.size.Cols), (SV.val i5.2.1), (.int .i64 d5.1.cursor), (.int .i64 d5.1.attrs)]) 76 (0, 0)) :: slO i5.2.1 42 en_Vapi_Cell d5.1.cells :: R) ?_ ?_
                · refine c_cond (b := d17) rfl (fun hb1070 => ?_) (fun hb1070 => ?_)
                  · replace h := cond_t hb1070 h
                    refine c_region ?_
                    refine o1 rfl (o_fa (fd := ⟨ "FA", 5, 2, false, "", "", 2⟩) rfl rfl rfl rfl rfl ?_)
                    refine o1 rfl (o_ld (b := b1063) (off := 2) (v := (.int .u8 ((rd d4.2.L x10).FA))) rfl rm2 rfl rfl ?_)
                    refine o1 rfl (o_p (v := (.int .u8 (iband .u8 ((rd d4.2.L x10).FA) 254))) rfl ?_)
                    refine o1 rfl (o_fa (fd := ⟨ "FA", 5, 2, false, "", "", 2⟩) rfl rfl rfl rfl rfl ?_)
                    refine o0 (o_st (b := b1063) (off := 2) (vs := [(.int .u8 (iband .u8 ((rd d4.2.L x10).FA) 254))]) (cs' := [(.int .u8 ((rd d4.2.L x10).Char)), (.bool ((rd d4.2.L x10).Attr)), (.int .u8 (iband .u8 ((rd d4.2.L x10).FA) 254)), (.int .u8 ((rd d4.2.L x10).High)), (.int .u8 ((rd d4.2.L x10).Color)), (.int .u8 ((rd d4.2.L x10).f_Set))]) rfl rfl rp2 rfl rfl rfl rfl rfl rfl ?_)
                    refine o_end ?_
                    have hd := Option.some.inj h
                    subst hd
                    exact ej () () trivial (sc rfl (sc rfl (sc rfl (sc rfl (sc rfl (sc rfl (sc rfl (sc rfl sn)))))))) (kc rm0 (kc rm0 (kc rm0 (kc rm0 (kc rm0 (kc rm0 (kc rm0 (kc rm0 kr))))))))
                  · replace h := cond_f hb1070 h
                    refine c_seq ?_
                    refine c_region ?_
                    refine o1 rfl (o_p rfl ?_)
                    refine o1 rfl (o_p rfl ?_)
                    refine o_end ?_
                    refine e_seq ?_
                    refine c_cond (b := d14) rfl (fun hb1071 => ?_) (fun hb1071 => ?_)
                    · replace h := cond_t hb1071 h
                      refine c_region ?_
                      refine o1 rfl (o_fa (fd := ⟨ "Char", 5, 0, false, "", "", 0⟩) rfl rfl rfl rfl rfl ?_)
                      refine o0 (o_st (b := b1063) (off := 0) (vs := [(.int .u8 0)]) (cs' := [(.int .u8 0), (.bool ((rd d4.2.L x10).Attr)), (.int .u8 ((rd d4.2.L x10).FA)), (.int .u8 ((rd d4.2.L x10).High)), (.int .u8 ((rd d4.2.L x10).Color)), (.int .u8 ((rd d4.2.L x10).f_Set))]) rfl rfl rp2 rfl rfl rfl rfl rfl rfl ?_)
                      refine o_end ?_
                      have hd := Option.some.inj h
                      subst hd
                      exact ej () () trivial (sc rfl (sc rfl (sc rfl (sc rfl (sc rfl (sc rfl (sc rfl (sc rfl sn)))))))) (kc rm0 (kc rm0 (kc rm0 (kc rm0 (kc rm0 (kc rm0 (kc rm0 (kc rm0 kr))))))))
                    · replace h := cond_f hb1071 h
                      refine c_skip ?_
                      have hd := Option.some.inj h
                      subst hd
                      exact ej () () trivial (sc rfl (sc rfl (sc rfl (sc rfl (sc rfl (sc rfl (sc rfl (sc rfl sn)))))))) (kc rm0 (kc rm0 (kc rm0 (kc rm0 (kc rm0 (kc rm0 (kc rm0 (kc rm0 kr))))))))
                · rintro _ i18 _
                  replace h := hk18
                  clear hk18
                  refine e_blk ?_
                  refine e_seq ?_
                  refine c_seq ?_
                  refine c_region ?_
                  refine o1 rfl (o_ld (b := b1063) (off := 0) (v := (.agg (List.toArray [(.int .u8 d18.1), (.bool ((rd d4.2.L x10).Attr)), (.int .u8 d18.2), (.int .u8 ((rd d4.2.L x10).High)), (.int .u8 ((rd d4.2.L x10).Color)), (.int .u8 ((rd d4.2.L x10).f_Set))]))) rfl rm2 rfl rfl ?_)
                  refine o1 rfl (o_ld (b := b1065) (off := 0) (v := (.agg (List.toArray [(.int .u8 d13.Char), (.bool d13.Attr), (.int .u8 d13.FA), (.int .u8 d13.High), (.int .u8 d13.Color), (.int .u8 d13.f_Set)]))) rfl rm1 rfl rfl ?_)
                  refine o1 rfl (o_neT (b := ((d18.1 == d13.Char) && ((((rd d4.2.L x10).Attr) == d13.Attr) && ((d18.2 == d13.FA) && ((((rd d4.2.L x10).High) == d13.High) && ((((rd d4.2.L x10).Color) == d13.Color) && ((((rd d4.2.L x10).f_Set) == d13.f_Set) && true))))))) (xs := [(.int .u8 d18.1), (.bool ((rd d4.2.L x10).Attr)), (.int .u8 d18.2), (.int .u8 ((rd d4.2.L x10).High)), (.int .u8 ((rd d4.2.L x10).Color)), (.int .u8 ((rd d4.2.L x10).f_Set))]) (ys := [(.int .u8 d13.Char), (.bool d13.Attr), (.int .u8 d13.FA), (.int .u8 d13.High), (.int .u8 d13.Color), (.int .u8 d13.f_Set)]) rfl rfl (by kernel_rfl) stood rfl ?_)
                  refine o_end ?_
                  refine e_seq ?_
                  refine c_cond (b := (!((d18.1 == d13.Char) && ((((rd d4.2.L x10).Attr) == d13.Attr) && ((d18.2 == d13.FA) && ((((rd d4.2.L x10).High) == d13.High) && ((((rd d4.2.L x10).Color) == d13.Color) && ((((rd d4.2.L x10).f_Set) == d13.f_Set) && true)))))))) rfl (fun hb1072 => ?_) (fun hb1072 => ?_)
                  · replace h := cond_t hb1072 h
                    refine c_seq ?_
                    refine c_region ?_
                    refine o1 rfl (o_p rfl ?_)
                    refine o_end ?_
                    refine e_seq ?_
                    refine c_ret ?_
                    refine e_blk_ret ?_
                    refine e_then_ret ?_
                    refine e_then_ret ?_
                    refine e_blk_ret ?_
                    refine ej_ret ?_
                    replace h := esc_some h
                    obtain ⟨z9, h, rfl⟩ := h
                    obtain rfl := (hk9 : z9 = _)
                    refine e_then_ret ?_
                    refine e_ret ?_
                    refine r_endt rfl rfl (kc rm0 (kd (kd (kd (kd (kd (kd (kd kr)))))))) ?_
                    have hr := Option.some.inj h
                    subst hr
                    exact hk i5.1 (Ext.trans (Ext.trans f1_0 hx955) f5_1)
                  · replace h := cond_f hb1072 h
                    refine c_skip ?_
                    refine e_blk ?_
                    refine e_seq ?_
                    refine c_region ?_
                    refine o1 rfl (o_p (v := (.int .i64 (w64 (x10 + 1)))) rfl ?_)
                    refine o1 rfl (o_p rfl ?_)
                    refine o_end ?_
                    exact e_loop (l_sub (sc rfl (sc rfl (sc rfl (sc rfl (sc rfl (sc rfl sn)))))) (l_keep (kc rm0 (kc rm2 (kc rm2 (kc rm2 (kc rm2 (kc rm2 (kd (kd kr)))))))) (ih10 (w64 (x10 + 1)) () trivial h)))
          · replace h := cond_f hb1061 h
            refine c_exit ?_
            refine e_then_exit ?_
            refine e_then_exit ?_
            refine e_blk_exit ?_
            have hd := Option.some.inj h
            subst hd
            exact ej () () rfl sn (kc rm0 (kd (kd (kd (kd (kd kr))))))
        · rintro d9 i9 rfl
          replace h := JK_inl hk9
          clear hk9
          refine e_seq ?_
          refine c_seq ?_
          refine c_region ?_
          refine o1 rfl (o_p rfl ?_)
          refine o_end ?_
          refine e_seq ?_
          refine c_ret ?_
          refine e_ret ?_
          refine r_endt rfl rfl (kc rm0 kr) ?_
          have hr := Option.some.inj h
          subst hr
          exact hk i5.1 (Ext.trans (Ext.trans f1_0 hx955) f5_1)

end Go.Vt
