/- The walks: each function does what its model says. No conditions. -/
import Derived.Test.YtmemmonmlbfopaaDoorVwWAc
set_option linter.unusedVariables false
set_option maxRecDepth 100000
set_option maxHeartbeats 4000000
namespace Go.Vt
open Go.Proofs
theorem c_vitrinelaw17_lay {g : Gw} (hg : GK g) (X : HP) (p0 : Int) (p1 : List Vvitrineref12_Act) (s0 : SV) (q0r : RdN X s0 66 en_Vvitrineref12_Act D_Vvitrineref12_Act p1) (r : Vspace_Space × Vvitrineref12_Space) (h : m_vitrinelaw17_lay p0 p1 = some r) : Tri env g 7 (List.toArray [(.int .u8 p0), (SV.val s0)]) [X] (fun K R => ∀ (i0 : Nat × SV × Nat × SV), K (.tuple (List.toArray [(.pointer (some ⟨i0.1, 0, none⟩)), (.pointer (some ⟨i0.2.2.1, 0, none⟩))])) (X :: blk i0.1 (.cells (List.toArray [(.int .i64 r.1.model), (.bool r.1.alternate), (.int .i64 r.1.size.Rows), (.int .i64 r.1.size.Cols), (SV.val i0.2.1), (.int .i64 r.1.cursor), (.int .i64 r.1.attrs)]) 76 (0, 0)) :: slO i0.2.1 42 en_Vapi_Cell r.1.cells :: blk i0.2.2.1 (.cells (List.toArray [(.int .i64 r.2.Model), (.bool r.2.Alt), (.int .i64 r.2.Size.Rows), (.int .i64 r.2.Size.Cols), (SV.val i0.2.2.2), (.int .i64 r.2.Cursor)]) 40 (0, 0)) :: slO i0.2.2.2 42 en_Vapi_Cell r.2.L :: R)) := by
  refine tri_of (fn := Tryd.f7) (N := 70) Tryd.func7 rfl rfl rfl ?_
  intro R K hk
  obtain ⟨L_q0, q0, n_q0⟩ := q0r
  unfold m_vitrinelaw17_lay at h
  change GC _ none _ [] [(0, (.int .u8 p0)), (1, (SV.val s0))] (X :: R) g _ _
  refine c_seq ?_
  refine c_region ?_
  refine o1 rfl (o_p rfl ?_)
  refine o1 rfl (o_p rfl ?_)
  refine o_end ?_
  refine e_seq ?_
  refine c_seq ?_
  refine c_region ?_
  refine o1 rfl (o_p rfl ?_)
  refine o1 rfl (o_rem (m := p0) (n := 4) rfl rfl (by decide) ?_)
  refine o1 rfl (o_p (v := (.int .i64 (w64 (Int.tmod p0 4)))) rfl ?_)
  refine o1 rfl (o_p (v := (.int .i64 (w64 (2 + (w64 (Int.tmod p0 4)))))) rfl ?_)
  refine o1 rfl (o_p rfl ?_)
  refine o_end ?_
  refine e_seq ?_
  refine c_seq ?_
  refine c_region ?_
  refine o1 rfl (o_p rfl ?_)
  replace h := bsome h
  obtain ⟨d2, h2, h⟩ := h
  rcases d2 with d2 | d2
  · cases h
  · refine o1 rfl (o_call has25 rfl (c_space_New hg X (w64 (2 + (w64 (Int.tmod p0 4)))) _ h2) (pc rm0 pn) (fun i2 => ?_))
    refine o1 rfl (o_p rfl ?_)
    refine o1 rfl (o_p rfl ?_)
    refine o1 rfl (o_p rfl ?_)
    refine o1 rfl (o_p rfl ?_)
    refine o1 rfl (o_p rfl ?_)
    refine o_end ?_
    refine e_seq ?_
    refine c_seq ?_
    refine c_region ?_
    refine o1 rfl (o_p rfl ?_)
    replace h := bsome h
    obtain ⟨d4, h4, h⟩ := h
    rcases d4 with d4 | d4
    · cases h
    · refine o1 rfl (o_call has26 rfl (c_vitrineref12_New hg X (w64 (2 + (w64 (Int.tmod p0 4)))) _ h4) (pc rm0 pn) (fun i4 => ?_))
      refine o1 rfl (o_p rfl ?_)
      refine o_end ?_
      refine e_seq ?_
      refine c_seq ?_
      refine c_seq ?_
      refine c_region ?_
      refine o1 rfl (o_p rfl ?_)
      refine o1 rfl (o_lenN (s := s0) rfl rfl rfl rm0 q0 n_q0 ?_)
      refine o1 rfl (o_p rfl ?_)
      refine o_end ?_
      refine e_seq ?_
      replace h := bsome h
      obtain ⟨d5, h, hk5⟩ := h
      refine cj (D := Unit) (ι := SV) (fun _ i5 => True) (fun _ i5 => [(9, (.pointer (some ⟨i4.1, 0, none⟩))), (7, (.pointer (some ⟨i2.1, 0, none⟩)))]) (fun _ i5 => X :: blk i4.1 (.cells (List.toArray [(.int .i64 d5.1), (.bool d5.2.1), (.int .i64 d5.2.2.1), (.int .i64 d5.2.2.2.1), (SV.val i5), (.int .i64 d5.2.2.2.2.2.1)]) 40 (0, 0)) :: blk i2.1 (.cells (List.toArray [(.int .i64 d5.2.2.2.2.2.2.1), (.bool d5.2.2.2.2.2.2.2.1), (.int .i64 d5.2.2.2.2.2.2.2.2.1), (.int .i64 d5.2.2.2.2.2.2.2.2.2.1), (SV.val i2.2), (.int .i64 d5.2.2.2.2.2.2.2.2.2.2.2.1), (.int .i64 d5.2.2.2.2.2.2.2.2.2.2.2.2)]) 76 (0, 0)) :: slO i5 42 en_Vapi_Cell d5.2.2.2.2.1 :: slO i2.2 42 en_Vapi_Cell d5.2.2.2.2.2.2.2.2.2.2.1 :: R) ?_ ?_
      · refine c_block ?_
        refine c_loop (l_sub (sc rfl (sc rfl (sc rfl (sc rfl (sc rfl sn))))) (l_keep (kc rm0 (kc rm0 (kc rm1 (kc rm0 (kc rm0 kr))))) (lf (X := Int × Int × Bool × Int × Int × (List Vapi_Cell) × Int × Int × Bool × Int × Int × (List Vapi_Cell) × Int × Int) (ι := SV) (fun k x => vitrinelaw17_lay_l6 p1 k x) _ (fun x6 i6 => True) (fun x6 i6 => [(27, (.int .i64 x6.1)), (26, (.int .i64 (p1.length : Int))), (25, (SV.val s0)), (9, (.pointer (some ⟨i4.1, 0, none⟩))), (7, (.pointer (some ⟨i2.1, 0, none⟩)))]) (fun x6 i6 => X :: blk i4.1 (.cells (List.toArray [(.int .i64 x6.2.1), (.bool x6.2.2.1), (.int .i64 x6.2.2.2.1), (.int .i64 x6.2.2.2.2.1), (SV.val i6), (.int .i64 x6.2.2.2.2.2.2.1)]) 40 (0, 0)) :: blk i2.1 (.cells (List.toArray [(.int .i64 x6.2.2.2.2.2.2.2.1), (.bool x6.2.2.2.2.2.2.2.2.1), (.int .i64 x6.2.2.2.2.2.2.2.2.2.1), (.int .i64 x6.2.2.2.2.2.2.2.2.2.2.1), (SV.val i2.2), (.int .i64 x6.2.2.2.2.2.2.2.2.2.2.2.2.1), (.int .i64 x6.2.2.2.2.2.2.2.2.2.2.2.2.2)]) 76 (0, 0)) :: slO i6 42 en_Vapi_Cell x6.2.2.2.2.2.1 :: slO i2.2 42 en_Vapi_Cell x6.2.2.2.2.2.2.2.2.2.2.2.1 :: R) (fun _ => rfl) ?_ fuel (0, d4.Model, d4.Alt, d4.Size.Rows, d4.Size.Cols, d4.L, d4.Cursor, d2.1.model, d2.1.alternate, d2.1.size.Rows, d2.1.size.Cols, d2.1.cells, d2.1.cursor, d2.1.attrs) i4.2 trivial h)))
        clear h
        rintro k6 ih6 x6 i6 _ h
        rw [vitrinelaw17_lay_l6.eq_2] at h
        refine l_round ?_
        refine c_seq ?_
        refine c_region ?_
        refine o1 rfl (o_p (v := (.bool (decide (x6.1 < (p1.length : Int))))) rfl ?_)
        refine o_end ?_
        refine e_seq ?_
        refine c_seq ?_
        refine c_cond (b := (decide (x6.1 < (p1.length : Int)))) rfl (fun hb902 => ?_) (fun hb902 => ?_)
        · replace h := cond_t hb902 h
          refine c_skip ?_
          refine e_seq ?_
          refine c_seq ?_
          refine c_block ?_
          refine c_seq ?_
          refine c_region ?_
          refine o1 rfl (o_p rfl ?_)
          replace h := gsome h
          obtain ⟨hg903, h⟩ := h
          refine o1 rfl (o_ix (s := s0) (n := x6.1) (e := en_Vvitrineref12_Act) rfl rfl rfl rfl rfl rfl rm0 q0 (NL.lt n_q0 hg903) ?_)
          obtain ⟨sv904, he_sv904, hd_sv904⟩ := NL.rd n_q0 hg903
          have hr905 : Rd X sv904 5 (enI .u8) ((rd p1 x6.1).Text) := hd_sv904
          refine o1 rfl (o_ldE (s := s0) (e := en_Vvitrineref12_Act) (n := x6.1) (f := 0) (v := (.agg (List.toArray [(.int .u8 ((rd p1 x6.1).Do)), (.int .i64 ((rd p1 x6.1).N)), (.bool ((rd p1 x6.1).On)), (.int .u8 ((rd p1 x6.1).Code)), (.int .u8 (((rd p1 x6.1).C).Char)), (.bool (((rd p1 x6.1).C).Attr)), (.int .u8 (((rd p1 x6.1).C).FA)), (.int .u8 (((rd p1 x6.1).C).High)), (.int .u8 (((rd p1 x6.1).C).Color)), (.int .u8 (((rd p1 x6.1).C).f_Set)), (SV.val sv904)]))) rfl rm0 q0 (NL.lt n_q0 hg903) rfl (by rw [he_sv904]; rfl) ?_)
          refine o1 rfl (o_alloc (cs := [(.int .u8 0), (.int .i64 0), (.bool false), (.int .u8 0), (.int .u8 0), (.bool false), (.int .u8 0), (.int .u8 0), (.int .u8 0), (.int .u8 0), (SV.val SV.nil)]) rfl rfl (fun b906 => ?_))
          refine o1 rfl (o_p rfl ?_)
          refine o0 (o_st (b := b906) (off := 0) (vs := [(.int .u8 ((rd p1 x6.1).Do)), (.int .i64 ((rd p1 x6.1).N)), (.bool ((rd p1 x6.1).On)), (.int .u8 ((rd p1 x6.1).Code)), (.int .u8 (((rd p1 x6.1).C).Char)), (.bool (((rd p1 x6.1).C).Attr)), (.int .u8 (((rd p1 x6.1).C).FA)), (.int .u8 (((rd p1 x6.1).C).High)), (.int .u8 (((rd p1 x6.1).C).Color)), (.int .u8 (((rd p1 x6.1).C).f_Set)), (SV.val sv904)]) (cs' := [(.int .u8 ((rd p1 x6.1).Do)), (.int .i64 ((rd p1 x6.1).N)), (.bool ((rd p1 x6.1).On)), (.int .u8 ((rd p1 x6.1).Code)), (.int .u8 (((rd p1 x6.1).C).Char)), (.bool (((rd p1 x6.1).C).Attr)), (.int .u8 (((rd p1 x6.1).C).FA)), (.int .u8 (((rd p1 x6.1).C).High)), (.int .u8 (((rd p1 x6.1).C).Color)), (.int .u8 (((rd p1 x6.1).C).f_Set)), (SV.val sv904)]) rfl rfl rp0 rfl rfl rfl rfl rfl rfl ?_)
          refine o_end ?_
          refine e_seq ?_
          refine c_seq ?_
          refine c_region ?_
          refine o1 rfl (o_p rfl ?_)
          refine o1 rfl (o_p (v := (.bool (decide (x6.1 < 30)))) rfl ?_)
          refine o_end ?_
          refine e_seq ?_
          replace h := bsome h
          obtain ⟨d9, h, hk9⟩ := h
          refine cj (D := Unit) (ι := SV) (fun _ i9 => True) (fun _ i9 => [(27, (.int .i64 x6.1)), (26, (.int .i64 (p1.length : Int))), (25, (SV.val s0)), (9, (.pointer (some ⟨i4.1, 0, none⟩))), (7, (.pointer (some ⟨i2.1, 0, none⟩)))]) (fun _ i9 => X :: blk i4.1 (.cells (List.toArray [(.int .i64 d9.1), (.bool d9.2.1), (.int .i64 d9.2.2.1), (.int .i64 d9.2.2.2.1), (SV.val i9), (.int .i64 d9.2.2.2.2.2)]) 40 (0, 0)) :: blk i2.1 (.cells (List.toArray [(.int .i64 x6.2.2.2.2.2.2.2.1), (.bool x6.2.2.2.2.2.2.2.2.1), (.int .i64 x6.2.2.2.2.2.2.2.2.2.1), (.int .i64 x6.2.2.2.2.2.2.2.2.2.2.1), (SV.val i2.2), (.int .i64 x6.2.2.2.2.2.2.2.2.2.2.2.2.1), (.int .i64 x6.2.2.2.2.2.2.2.2.2.2.2.2.2)]) 76 (0, 0)) :: slO i9 42 en_Vapi_Cell d9.2.2.2.2.1 :: slO i2.2 42 en_Vapi_Cell x6.2.2.2.2.2.2.2.2.2.2.2.1 :: R) ?_ ?_
          · refine c_cond (b := (decide (x6.1 < 30))) rfl (fun hb908 => ?_) (fun hb908 => ?_)
            · replace h := cond_t hb908 h
              refine c_region ?_
              refine o1 rfl (o_p rfl ?_)
              refine o1 rfl (o_ld (b := b906) (off := 0) (v := (.agg (List.toArray [(.int .u8 ((rd p1 x6.1).Do)), (.int .i64 ((rd p1 x6.1).N)), (.bool ((rd p1 x6.1).On)), (.int .u8 ((rd p1 x6.1).Code)), (.int .u8 (((rd p1 x6.1).C).Char)), (.bool (((rd p1 x6.1).C).Attr)), (.int .u8 (((rd p1 x6.1).C).FA)), (.int .u8 (((rd p1 x6.1).C).High)), (.int .u8 (((rd p1 x6.1).C).Color)), (.int .u8 (((rd p1 x6.1).C).f_Set)), (SV.val sv904)]))) rfl rm0 rfl rfl ?_)
              replace h := bsome h
              obtain ⟨d10, h10, h⟩ := h
              refine o1 rfl (o_call has27 rfl (c_vitrineref12_Do hg X (⟨x6.2.1, x6.2.2.1, (⟨x6.2.2.2.1, x6.2.2.2.2.1⟩ : Vvitrineref04_Size), x6.2.2.2.2.2.1, x6.2.2.2.2.2.2.1⟩ : Vvitrineref12_Space) i4.1 i6 { (rd p1 x6.1) with C := ((rd p1 x6.1).C) } sv904 hr905 _ h10) (pc rm1 (pc rm1 (pc rm2 pn))) (fun i10 => ?_))
              refine o_end ?_
              have hd := Option.some.inj h
              subst hd
              exact ej () i10 trivial (sc rfl (sc rfl (sc rfl (sc rfl (sc rfl sn))))) (kc rm0 (kc rm0 (kc rm2 (kc rm0 (kc rm1 (kd kr))))))
            · replace h := cond_f hb908 h
              refine c_skip ?_
              have hd := Option.some.inj h
              subst hd
              exact ej () i6 trivial (sc rfl (sc rfl (sc rfl (sc rfl (sc rfl sn))))) (kc rm1 (kc rm1 (kc rm1 (kc rm1 (kc rm1 (kd kr))))))
          · rintro _ i9 _
            replace h := hk9
            clear hk9
            refine e_blk ?_
            refine e_seq ?_
            refine c_region ?_
            refine o1 rfl (o_p (v := (.int .i64 (w64 (x6.1 + 1)))) rfl ?_)
            refine o1 rfl (o_p rfl ?_)
            refine o_end ?_
            exact e_loop (l_sub (sc rfl (sc rfl (sc rfl (sc rfl (sc rfl sn))))) (l_keep (kc rm0 (kc rm0 (kc rm0 (kc rm0 (kc rm0 kr))))) (ih6 (w64 (x6.1 + 1), d9.1, d9.2.1, d9.2.2.1, d9.2.2.2.1, d9.2.2.2.2.1, d9.2.2.2.2.2, x6.2.2.2.2.2.2.2.1, x6.2.2.2.2.2.2.2.2.1, x6.2.2.2.2.2.2.2.2.2.1, x6.2.2.2.2.2.2.2.2.2.2.1, x6.2.2.2.2.2.2.2.2.2.2.2.1, x6.2.2.2.2.2.2.2.2.2.2.2.2.1, x6.2.2.2.2.2.2.2.2.2.2.2.2.2) i9 trivial h)))
        · replace h := cond_f hb902 h
          refine c_exit ?_
          refine e_then_exit ?_
          refine e_then_exit ?_
          refine e_blk_exit ?_
          have hd := Option.some.inj h
          subst hd
          exact ej () i6 trivial (sc rfl (sc rfl sn)) (kc rm0 (kc rm0 (kc rm0 (kc rm0 (kc rm0 kr)))))
      · rintro _ i5 _
        replace h := hk5
        clear hk5
        refine e_seq ?_
        refine c_seq ?_
        refine c_seq ?_
        refine c_region ?_
        refine o1 rfl (o_p rfl ?_)
        refine o1 rfl (o_p rfl ?_)
        refine o1 rfl (o_fa (fd := ⟨ "Alt", 4, 1, false, "", "", 8⟩) rfl rfl rfl rfl rfl ?_)
        refine o1 rfl (o_ld (b := i4.1) (off := 1) (v := (.bool d5.2.1)) rfl rm1 rfl rfl ?_)
        refine o_end ?_
        refine e_seq ?_
        replace h := bsome h
        obtain ⟨d11, h, hk11⟩ := h
        refine cj (D := Unit) (ι := SV) (fun _ i11 => True) (fun _ i11 => [(9, (.pointer (some ⟨i4.1, 0, none⟩))), (7, (.pointer (some ⟨i2.1, 0, none⟩)))]) (fun _ i11 => X :: blk i4.1 (.cells (List.toArray [(.int .i64 d5.1), (.bool d5.2.1), (.int .i64 d5.2.2.1), (.int .i64 d5.2.2.2.1), (SV.val i5), (.int .i64 d5.2.2.2.2.2.1)]) 40 (0, 0)) :: blk i2.1 (.cells (List.toArray [(.int .i64 d11.1), (.bool d11.2.1), (.int .i64 d11.2.2.1), (.int .i64 d11.2.2.2.1), (SV.val i11), (.int .i64 d11.2.2.2.2.2.1), (.int .i64 d11.2.2.2.2.2.2)]) 76 (0, 0)) :: slO i5 42 en_Vapi_Cell d5.2.2.2.2.1 :: slO i11 42 en_Vapi_Cell d11.2.2.2.2.1 :: R) ?_ ?_
        · refine c_cond (b := d5.2.1) rfl (fun hb915 => ?_) (fun hb915 => ?_)
          · replace h := cond_t hb915 h
            refine c_region ?_
            refine o1 rfl (o_p rfl ?_)
            replace h := bsome h
            obtain ⟨d12, h12, h⟩ := h
            refine o1 rfl (o_call has28 rfl (c_space_Space_Clear_2 hg X (⟨d5.2.2.2.2.2.2.1, d5.2.2.2.2.2.2.2.1, (⟨d5.2.2.2.2.2.2.2.2.1, d5.2.2.2.2.2.2.2.2.2.1⟩ : Vaddr_Size), d5.2.2.2.2.2.2.2.2.2.2.1, d5.2.2.2.2.2.2.2.2.2.2.2.1, d5.2.2.2.2.2.2.2.2.2.2.2.2⟩ : Vspace_Space) i2.1 i2.2 true _ h12) (pc rm0 (pc rm1 (pc rm2 pn))) (fun i12 => ?_))
            refine o_end ?_
            have hd := Option.some.inj h
            subst hd
            exact ej () i12 trivial (sc rfl (sc rfl sn)) (kc rm0 (kc rm3 (kc rm0 (kc rm2 (kc rm0 (kd kr))))))
          · replace h := cond_f hb915 h
            refine c_skip ?_
            have hd := Option.some.inj h
            subst hd
            exact ej () i2.2 trivial (sc rfl (sc rfl sn)) (kc rm0 (kc rm0 (kc rm0 (kc rm0 (kc rm0 kr)))))
        · rintro _ i11 _
          replace h := hk11
          clear hk11
          refine e_seq ?_
          refine c_seq ?_
          refine c_seq ?_
          refine c_region ?_
          refine o1 rfl (o_p rfl ?_)
          refine o1 rfl (o_p rfl ?_)
          refine o1 rfl (o_fa (fd := ⟨ "L", 38, 4, false, "", "", 32⟩) rfl rfl rfl rfl rfl ?_)
          refine o1 rfl (o_ld (b := i4.1) (off := 4) (v := (SV.val i5)) rfl rm1 rfl rfl ?_)
          refine o1 rfl (o_len (s := i5) rfl rfl rfl rm3 (rd_own _ _ _ _) ?_)
          refine o1 rfl (o_p rfl ?_)
          refine o_end ?_
          refine e_seq ?_
          replace h := bsome h
          obtain ⟨d13, h, hk13⟩ := h
          refine cj (D := Unit) (ι := Unit) (fun _ i13 => True) (fun _ i13 => [(9, (.pointer (some ⟨i4.1, 0, none⟩))), (7, (.pointer (some ⟨i2.1, 0, none⟩)))]) (fun _ i13 => X :: blk i4.1 (.cells (List.toArray [(.int .i64 d5.1), (.bool d5.2.1), (.int .i64 d5.2.2.1), (.int .i64 d5.2.2.2.1), (SV.val i5), (.int .i64 d5.2.2.2.2.2.1)]) 40 (0, 0)) :: blk i2.1 (.cells (List.toArray [(.int .i64 d13.1), (.bool d13.2.1), (.int .i64 d13.2.2.1), (.int .i64 d13.2.2.2.1), (SV.val i11), (.int .i64 d13.2.2.2.2.2.1), (.int .i64 d13.2.2.2.2.2.2)]) 76 (0, 0)) :: slO i5 42 en_Vapi_Cell d5.2.2.2.2.1 :: slO i11 42 en_Vapi_Cell d13.2.2.2.2.1 :: R) ?_ ?_
          · refine c_block ?_
            refine c_loop (l_sub (sc rfl (sc rfl (sc rfl (sc rfl (sc rfl sn))))) (l_keep (kc rm0 (kc rm2 (kc rm0 (kc rm0 (kc rm0 kr))))) (lf (X := Int × Int × Bool × Int × Int × (List Vapi_Cell) × Int × Int) (ι := Unit) (fun k x => vitrinelaw17_lay_l14 d5 k x) _ (fun x14 i14 => True) (fun x14 i14 => [(49, (.int .i64 x14.1)), (48, (.int .i64 (d5.2.2.2.2.1.length : Int))), (47, (SV.val i5)), (9, (.pointer (some ⟨i4.1, 0, none⟩))), (7, (.pointer (some ⟨i2.1, 0, none⟩)))]) (fun x14 i14 => X :: slO i5 42 en_Vapi_Cell d5.2.2.2.2.1 :: blk i4.1 (.cells (List.toArray [(.int .i64 d5.1), (.bool d5.2.1), (.int .i64 d5.2.2.1), (.int .i64 d5.2.2.2.1), (SV.val i5), (.int .i64 d5.2.2.2.2.2.1)]) 40 (0, 0)) :: blk i2.1 (.cells (List.toArray [(.int .i64 x14.2.1), (.bool x14.2.2.1), (.int .i64 x14.2.2.2.1), (.int .i64 x14.2.2.2.2.1), (SV.val i11), (.int .i64 x14.2.2.2.2.2.2.1), (.int .i64 x14.2.2.2.2.2.2.2)]) 76 (0, 0)) :: slO i11 42 en_Vapi_Cell x14.2.2.2.2.2.1 :: R) (fun _ => rfl) ?_ fuel (0, d11.1, d11.2.1, d11.2.2.1, d11.2.2.2.1, d11.2.2.2.2.1, d11.2.2.2.2.2.1, d11.2.2.2.2.2.2) () trivial h)))
            clear h
            rintro k14 ih14 x14 i14 _ h
            rw [vitrinelaw17_lay_l14.eq_2] at h
            refine l_round ?_
            refine c_seq ?_
            refine c_region ?_
            refine o1 rfl (o_p (v := (.bool (decide (x14.1 < (d5.2.2.2.2.1.length : Int))))) rfl ?_)
            refine o_end ?_
            refine e_seq ?_
            refine c_seq ?_
            refine c_cond (b := (decide (x14.1 < (d5.2.2.2.2.1.length : Int)))) rfl (fun hb934 => ?_) (fun hb934 => ?_)
            · replace h := cond_t hb934 h
              refine c_skip ?_
              refine e_seq ?_
              refine c_seq ?_
              refine c_block ?_
              refine c_seq ?_
              refine c_region ?_
              refine o1 rfl (o_p rfl ?_)
              replace h := gsome h
              obtain ⟨hg935, h⟩ := h
              refine o1 rfl (o_ix (s := i5) (n := x14.1) (e := en_Vapi_Cell) rfl rfl rfl rfl rfl rfl rm1 (rd_own _ _ _ _) hg935 ?_)
              refine o1 rfl (o_ldE (s := i5) (e := en_Vapi_Cell) (n := x14.1) (f := 0) (v := (.agg (List.toArray [(.int .u8 ((rd d5.2.2.2.2.1 x14.1).Char)), (.bool ((rd d5.2.2.2.2.1 x14.1).Attr)), (.int .u8 ((rd d5.2.2.2.2.1 x14.1).FA)), (.int .u8 ((rd d5.2.2.2.2.1 x14.1).High)), (.int .u8 ((rd d5.2.2.2.2.1 x14.1).Color)), (.int .u8 ((rd d5.2.2.2.2.1 x14.1).f_Set))]))) rfl rm1 (rd_own _ _ _ _) hg935 rfl rfl ?_)
              refine o1 rfl (o_alloc (cs := [(.int .u8 0), (.bool false), (.int .u8 0), (.int .u8 0), (.int .u8 0), (.int .u8 0)]) rfl rfl (fun b936 => ?_))
              refine o1 rfl (o_p rfl ?_)
              refine o0 (o_st (b := b936) (off := 0) (vs := [(.int .u8 ((rd d5.2.2.2.2.1 x14.1).Char)), (.bool ((rd d5.2.2.2.2.1 x14.1).Attr)), (.int .u8 ((rd d5.2.2.2.2.1 x14.1).FA)), (.int .u8 ((rd d5.2.2.2.2.1 x14.1).High)), (.int .u8 ((rd d5.2.2.2.2.1 x14.1).Color)), (.int .u8 ((rd d5.2.2.2.2.1 x14.1).f_Set))]) (cs' := [(.int .u8 ((rd d5.2.2.2.2.1 x14.1).Char)), (.bool ((rd d5.2.2.2.2.1 x14.1).Attr)), (.int .u8 ((rd d5.2.2.2.2.1 x14.1).FA)), (.int .u8 ((rd d5.2.2.2.2.1 x14.1).High)), (.int .u8 ((rd d5.2.2.2.2.1 x14.1).Color)), (.int .u8 ((rd d5.2.2.2.2.1 x14.1).f_Set))]) rfl rfl rp0 rfl rfl rfl rfl rfl rfl ?_)
              refine o_end ?_
              refine e_seq ?_
              refine c_seq ?_
              refine c_region ?_
              refine o1 rfl (o_ld (b := b936) (off := 0) (v := (.agg (List.toArray [(.int .u8 ((rd d5.2.2.2.2.1 x14.1).Char)), (.bool ((rd d5.2.2.2.2.1 x14.1).Attr)), (.int .u8 ((rd d5.2.2.2.2.1 x14.1).FA)), (.int .u8 ((rd d5.2.2.2.2.1 x14.1).High)), (.int .u8 ((rd d5.2.2.2.2.1 x14.1).Color)), (.int .u8 ((rd d5.2.2.2.2.1 x14.1).f_Set))]))) rfl rm0 rfl rfl ?_)
              refine o1 rfl (o_build (fs := [⟨ "Char", 5, 0, false, "", "", 0⟩, ⟨ "Attr", 4, 1, false, "", "", 1⟩, ⟨ "FA", 5, 2, false, "", "", 2⟩, ⟨ "High", 5, 3, false, "", "", 3⟩, ⟨ "Color", 5, 4, false, "", "", 4⟩, ⟨ "Set", 5, 5, false, "", "", 5⟩]) (ps := [(0, 1), (1, 1), (2, 1), (3, 1), (4, 1), (5, 1)]) (cs := [(.int .u8 0), (.bool false), (.int .u8 0), (.int .u8 0), (.int .u8 0), (.int .u8 0)]) rfl rfl rfl rfl rfl ?_)
              refine o1 rfl (o_neT (b := ((((rd d5.2.2.2.2.1 x14.1).Char) == 0) && ((((rd d5.2.2.2.2.1 x14.1).Attr) == false) && ((((rd d5.2.2.2.2.1 x14.1).FA) == 0) && ((((rd d5.2.2.2.2.1 x14.1).High) == 0) && ((((rd d5.2.2.2.2.1 x14.1).Color) == 0) && ((((rd d5.2.2.2.2.1 x14.1).f_Set) == 0) && true))))))) (xs := [(.int .u8 ((rd d5.2.2.2.2.1 x14.1).Char)), (.bool ((rd d5.2.2.2.2.1 x14.1).Attr)), (.int .u8 ((rd d5.2.2.2.2.1 x14.1).FA)), (.int .u8 ((rd d5.2.2.2.2.1 x14.1).High)), (.int .u8 ((rd d5.2.2.2.2.1 x14.1).Color)), (.int .u8 ((rd d5.2.2.2.2.1 x14.1).f_Set))]) (ys := [(.int .u8 0), (.bool false), (.int .u8 0), (.int .u8 0), (.int .u8 0), (.int .u8 0)]) rfl rfl (by kernel_rfl) stood rfl ?_)
              refine o_end ?_
              refine e_seq ?_
              replace h := bsome h
              obtain ⟨d17, h, hk17⟩ := h
              refine cj (D := Unit) (ι := Unit) (fun _ i17 => True) (fun _ i17 => [(49, (.int .i64 x14.1)), (48, (.int .i64 (d5.2.2.2.2.1.length : Int))), (47, (SV.val i5)), (9, (.pointer (some ⟨i4.1, 0, none⟩))), (7, (.pointer (some ⟨i2.1, 0, none⟩)))]) (fun _ i17 => X :: slO i5 42 en_Vapi_Cell d5.2.2.2.2.1 :: blk i4.1 (.cells (List.toArray [(.int .i64 d5.1), (.bool d5.2.1), (.int .i64 d5.2.2.1), (.int .i64 d5.2.2.2.1), (SV.val i5), (.int .i64 d5.2.2.2.2.2.1)]) 40 (0, 0)) :: blk i2.1 (.cells (List.toArray [(.int .i64 d17.1), (.bool d17.2.1), (.int .i64 d17.2.2.1), (.int .i64 d17.2.2.2.1), (SV.val i11), (.int .i64 d17.2.2.2.2.2.1), (.int .i64 d17.2.2.2.2.2.2)]) 76 (0, 0)) :: slO i11 42 en_Vapi_Cell d17.2.2.2.2.1 :: R) ?_ ?_
              · refine c_cond (b := (!((((rd d5.2.2.2.2.1 x14.1).Char) == 0) && ((((rd d5.2.2.2.2.1 x14.1).Attr) == false) && ((((rd d5.2.2.2.2.1 x14.1).FA) == 0) && ((((rd d5.2.2.2.2.1 x14.1).High) == 0) && ((((rd d5.2.2.2.2.1 x14.1).Color) == 0) && ((((rd d5.2.2.2.2.1 x14.1).f_Set) == 0) && true)))))))) rfl (fun hb938 => ?_) (fun hb938 => ?_)
                · replace h := cond_t hb938 h
                  refine c_region ?_
                  refine o1 rfl (o_p rfl ?_)
                  refine o1 rfl (o_p rfl ?_)
                  refine o1 rfl (o_ld (b := b936) (off := 0) (v := (.agg (List.toArray [(.int .u8 ((rd d5.2.2.2.2.1 x14.1).Char)), (.bool ((rd d5.2.2.2.2.1 x14.1).Attr)), (.int .u8 ((rd d5.2.2.2.2.1 x14.1).FA)), (.int .u8 ((rd d5.2.2.2.2.1 x14.1).High)), (.int .u8 ((rd d5.2.2.2.2.1 x14.1).Color)), (.int .u8 ((rd d5.2.2.2.2.1 x14.1).f_Set))]))) rfl rm0 rfl rfl ?_)
                  replace h := bsome h
                  obtain ⟨d18, h18, h⟩ := h
                  refine o1 rfl (o_call has29 rfl (c_space_Space_Set hg X (⟨x14.2.1, x14.2.2.1, (⟨x14.2.2.2.1, x14.2.2.2.2.1⟩ : Vaddr_Size), x14.2.2.2.2.2.1, x14.2.2.2.2.2.2.1, x14.2.2.2.2.2.2.2⟩ : Vspace_Space) i2.1 i11 x14.1 (rd d5.2.2.2.2.1 x14.1) _ h18) (pc rm1 (pc rm3 (pc rm3 pn))) ?_)
                  refine o_end ?_
                  have hd := Option.some.inj h
                  subst hd
                  exact ej () () trivial (sc rfl (sc rfl (sc rfl (sc rfl (sc rfl sn))))) (kc rm0 (kc rm3 (kc rm3 (kc rm0 (kc rm0 (kd kr))))))
                · replace h := cond_f hb938 h
                  refine c_skip ?_
                  have hd := Option.some.inj h
                  subst hd
                  exact ej () () trivial (sc rfl (sc rfl (sc rfl (sc rfl (sc rfl sn))))) (kc rm1 (kc rm1 (kc rm1 (kc rm1 (kc rm1 (kd kr))))))
              · rintro _ i17 _
                replace h := hk17
                clear hk17
                refine e_blk ?_
                refine e_seq ?_
                refine c_region ?_
                refine o1 rfl (o_p (v := (.int .i64 (w64 (x14.1 + 1)))) rfl ?_)
                refine o1 rfl (o_p rfl ?_)
                refine o_end ?_
                exact e_loop (l_sub (sc rfl (sc rfl (sc rfl (sc rfl (sc rfl sn))))) (l_keep (kc rm0 (kc rm0 (kc rm0 (kc rm0 (kc rm0 kr))))) (ih14 (w64 (x14.1 + 1), d17.1, d17.2.1, d17.2.2.1, d17.2.2.2.1, d17.2.2.2.2.1, d17.2.2.2.2.2.1, d17.2.2.2.2.2.2) () trivial h)))
            · replace h := cond_f hb934 h
              refine c_exit ?_
              refine e_then_exit ?_
              refine e_then_exit ?_
              refine e_blk_exit ?_
              have hd := Option.some.inj h
              subst hd
              exact ej () () trivial (sc rfl (sc rfl sn)) (kc rm0 (kc rm1 (kc rm1 (kc rm0 (kc rm0 kr)))))
          · rintro _ i13 _
            replace h := hk13
            clear hk13
            refine e_seq ?_
            refine c_seq ?_
            refine c_region ?_
            refine o1 rfl (o_p rfl ?_)
            refine o1 rfl (o_p rfl ?_)
            refine o1 rfl (o_p rfl ?_)
            refine o1 rfl (o_fa (fd := ⟨ "Cursor", 3, 5, false, "", "", 56⟩) rfl rfl rfl rfl rfl ?_)
            refine o1 rfl (o_ld (b := i4.1) (off := 5) (v := (.int .i64 d5.2.2.2.2.2.1)) rfl rm1 rfl rfl ?_)
            replace h := bsome h
            obtain ⟨d19, h19, h⟩ := h
            refine o1 rfl (o_call has30 rfl (c_space_Space_Place hg X (⟨d13.1, d13.2.1, (⟨d13.2.2.1, d13.2.2.2.1⟩ : Vaddr_Size), d13.2.2.2.2.1, d13.2.2.2.2.2.1, d13.2.2.2.2.2.2⟩ : Vspace_Space) i2.1 i11 d5.2.2.2.2.2.1 _ h19) (pc rm0 (pc rm1 (pc rm2 pn))) ?_)
            refine o_end ?_
            refine e_seq ?_
            refine c_seq ?_
            refine c_region ?_
            refine o1 rfl (o_p rfl ?_)
            refine o1 rfl (o_p rfl ?_)
            refine o1 rfl (o_p rfl ?_)
            refine o1 rfl (o_p rfl ?_)
            refine o_end ?_
            refine e_seq ?_
            refine c_ret ?_
            refine e_ret ?_
            refine r_endt rfl rfl (kc rm0 (kc rm0 (kc rm0 (kc rm0 (kc rm0 kr))))) ?_
            have hr := Option.some.inj h
            subst hr
            exact hk (i2.1, i11, i4.1, i5)

theorem c_vitrineref01_Copy {g : Gw} (hg : GK g) (X : HP) (p0 : List Int) (s0 : SV) (q0 : Rd X s0 5 (enI .u8) p0) (r : (List Int)) (h : m_vitrineref01_Copy p0 = some r) : Tri env g 38 (List.toArray [(SV.val s0)]) [X] (fun K R => ∀ (i0 : SV), K (SV.val i0) (X :: slO i0 5 (enI .u8) r :: R)) := by
  refine tri_of (fn := Tryd.f38) (N := 6) Tryd.func38 rfl rfl rfl ?_
  intro R K hk
  unfold m_vitrineref01_Copy at h
  change GC _ none _ [] [(0, (SV.val s0))] (X :: R) g _ _
  refine c_seq ?_
  refine c_region ?_
  refine o1 rfl (o_p rfl ?_)
  refine o_end ?_
  refine e_seq ?_
  refine c_seq ?_
  refine c_region ?_
  refine o1 rfl (o_bs (e := (enI .u8)) (l := ([] : List Int)) (zs := [(.int .u8 0)]) rfl rfl rfl rfl rfl rfl rfl rfl rfl rfl (fun s1101 => ?_))
  refine o1 rfl (o_p rfl ?_)
  replace h := gsome h
  obtain ⟨hg1103, h⟩ := h
  refine o1 rfl (o_app (s := s1101) (r := s0) (e := (enI .u8)) (l := ([] : List Int)) (l2 := p0) (zs := [(.int .u8 0)]) rfl rfl rfl rfl rfl rfl rfl rfl rfl rfl rfl rm0 rm0 q0 hg1103 (fun s1104 => ?_))
  refine o1 rfl (o_p rfl ?_)
  refine o_end ?_
  refine e_seq ?_
  refine c_ret ?_
  refine e_ret ?_
  refine r_endt rfl rfl (kc rm1 (kc rm0 kr)) ?_
  have hr := Option.some.inj h
  subst hr
  exact hk s1104

theorem c_vitrineref01_Cut {g : Gw} (hg : GK g) (X : HP) (p0 : List Int) (s0 : SV) (q0 : Rd X s0 5 (enI .u8) p0) (p1 : Int) (r : (List Int)) (h : m_vitrineref01_Cut p0 p1 = some r) : Tri env g 14 (List.toArray [(SV.val s0), (.int .i64 p1)]) [X] (fun K R => ∀ (i0 : SV), K (SV.val i0) (X :: slO i0 5 (enI .u8) r :: R)) := by
  refine tri_of (fn := Tryd.f14) (N := 14) Tryd.func14 rfl rfl rfl ?_
  intro R K hk
  unfold m_vitrineref01_Cut at h
  change GC _ none _ [] [(0, (SV.val s0)), (1, (.int .i64 p1))] (X :: R) g _ _
  refine c_seq ?_
  refine c_region ?_
  refine o1 rfl (o_p rfl ?_)
  refine o_end ?_
  refine e_seq ?_
  refine c_seq ?_
  refine c_seq ?_
  refine c_region ?_
  refine o1 rfl (o_p rfl ?_)
  refine o1 rfl (o_len (s := s0) rfl rfl rfl rm0 q0 ?_)
  refine o1 rfl (o_p rfl ?_)
  refine o1 rfl (o_p (v := (.bool (decide ((p0.length : Int) > p1)))) rfl ?_)
  refine o_end ?_
  refine e_seq ?_
  replace h := bsome h
  obtain ⟨d1, h, hk1⟩ := h
  refine cj (D := Unit) (ι := SV) (fun _ i1 => Rd X i1 5 (enI .u8) d1) (fun _ i1 => [(0, (SV.val i1))]) (fun _ i1 => X :: R) ?_ ?_
  · refine c_cond (b := (decide ((p0.length : Int) > p1))) rfl (fun hb1097 => ?_) (fun hb1097 => ?_)
    · replace h := cond_t hb1097 h
      refine c_region ?_
      refine o1 rfl (o_p rfl ?_)
      refine o1 rfl (o_p rfl ?_)
      replace h := gsome h
      obtain ⟨hg1098, h⟩ := h
      refine o1 rfl (o_sl (a := 0) (b := p1) (m := none) rfl rfl rfl rfl rfl rm0 q0 rfl rfl rfl (by decide) hg1098 mx_none (fun s1100 hr1099 => ?_))
      refine o1 rfl (o_p rfl ?_)
      refine o_end ?_
      have hd := Option.some.inj h
      subst hd
      exact ej () s1100 hr1099 (sc rfl sn) (kc rm0 kr)
    · replace h := cond_f hb1097 h
      refine c_skip ?_
      have hd := Option.some.inj h
      subst hd
      exact ej () s0 q0 (sc rfl sn) (kc rm0 kr)
  · rintro _ i1 f1_0
    replace h := hk1
    clear hk1
    refine e_seq ?_
    refine c_seq ?_
    refine c_region ?_
    refine o1 rfl (o_p rfl ?_)
    replace h := bsome h
    obtain ⟨d2, h2, h⟩ := h
    refine o1 rfl (o_call has38 rfl (c_vitrineref01_Copy hg X d1 i1 f1_0 _ h2) (pc rm0 pn) (fun i2 => ?_))
    refine o1 rfl (o_p rfl ?_)
    refine o_end ?_
    refine e_seq ?_
    refine c_ret ?_
    refine e_ret ?_
    refine r_endt rfl rfl (kc rm0 (kc rm0 kr)) ?_
    have hr := Option.some.inj h
    subst hr
    exact hk i2

theorem c_vitrineref01_Same {g : Gw} (hg : GK g) (X : HP) (p0 : List Int) (s0 : SV) (q0 : Rd X s0 5 (enI .u8) p0) (p1 : List Int) (s1 : SV) (q1 : Rd X s1 5 (enI .u8) p1) (r : Bool) (h : m_vitrineref01_Same p0 p1 = some r) : Tri env g 43 (List.toArray [(SV.val s0), (SV.val s1)]) [X] (fun K R => K (.bool r) (X :: R)) := by
  refine tri_of (fn := Tryd.f43) (N := 10) Tryd.func43 rfl rfl rfl ?_
  intro R K hk
  unfold m_vitrineref01_Same at h
  change GC _ none _ [] [(0, (SV.val s0)), (1, (SV.val s1))] (X :: R) g _ _
  refine c_seq ?_
  refine c_region ?_
  refine o1 rfl (o_p rfl ?_)
  refine o_end ?_
  refine e_seq ?_
  refine c_seq ?_
  refine c_region ?_
  refine o1 rfl (o_p rfl ?_)
  refine o1 rfl (o_b2s (s := s0) rfl rfl rfl rfl rfl rfl rfl rm0 q0 ?_)
  refine o1 rfl (o_p rfl ?_)
  refine o1 rfl (o_b2s (s := s1) rfl rfl rfl rfl rfl rfl rfl rm0 q1 ?_)
  refine o1 rfl (o_p (v := (.bool ((bstr p0).data.toList == (bstr p1).data.toList))) rfl ?_)
  refine o1 rfl (o_p rfl ?_)
  refine o_end ?_
  refine e_seq ?_
  refine c_ret ?_
  refine e_ret ?_
  refine r_endt rfl rfl (kc rm0 kr) ?_
  have hr := Option.some.inj h
  subst hr
  exact hk

theorem c_vitrineref17_Same {g : Gw} (hg : GK g) (X : HP) (p0 : Vvitrineref17_Result) (s0 : SV) (q0 : Rd X s0 5 (enI .u8) p0.Fields) (p1 : Vvitrineref17_Result) (s1 : SV) (q1 : Rd X s1 5 (enI .u8) p1.Fields) (r : Bool) (h : m_vitrineref17_Same p0 p1 = some r) : Tri env g 22 (List.toArray [(.agg (List.toArray [(.int .i64 p0.Command), (.bool p0.Restore), (.bool p0.Alarm), (.bool p0.Reset), (.int .i64 p0.Pieces), (SV.val s0)])), (.agg (List.toArray [(.int .i64 p1.Command), (.bool p1.Restore), (.bool p1.Alarm), (.bool p1.Reset), (.int .i64 p1.Pieces), (SV.val s1)]))]) [X] (fun K R => K (.bool r) (X :: R)) := by
  refine tri_of (fn := Tryd.f22) (N := 45) Tryd.func22 rfl rfl rfl ?_
  intro R K hk
  unfold m_vitrineref17_Same at h
  change GC _ none _ [] [(0, (.agg (List.toArray [(.int .i64 p0.Command), (.bool p0.Restore), (.bool p0.Alarm), (.bool p0.Reset), (.int .i64 p0.Pieces), (SV.val s0)]))), (1, (.agg (List.toArray [(.int .i64 p1.Command), (.bool p1.Restore), (.bool p1.Alarm), (.bool p1.Reset), (.int .i64 p1.Pieces), (SV.val s1)])))] (X :: R) g _ _
  refine c_seq ?_
  refine c_region ?_
  refine o1 rfl (o_box (cs := [(.int .i64 p0.Command), (.bool p0.Restore), (.bool p0.Alarm), (.bool p0.Reset), (.int .i64 p0.Pieces), (SV.val s0)]) rfl rfl (fun b1188 => ?_))
  refine o1 rfl (o_box (cs := [(.int .i64 p1.Command), (.bool p1.Restore), (.bool p1.Alarm), (.bool p1.Reset), (.int .i64 p1.Pieces), (SV.val s1)]) rfl rfl (fun b1190 => ?_))
  refine o1 rfl (o_p rfl ?_)
  refine o_end ?_
  refine e_seq ?_
  refine c_seq ?_
  replace h := bsome h
  obtain ⟨d1, h, hk1⟩ := h
  refine cj (D := Unit) (ι := Unit) (fun _ i1 => True) (fun _ i1 => [(4, (.bool d1))]) (fun _ i1 => X :: R) ?_ ?_
  · refine c_region ?_
    refine o1 rfl (o_fa (fd := ⟨ "Command", 3, 0, false, "", "", 0⟩) rfl rfl rfl rfl rfl ?_)
    refine o1 rfl (o_ld (b := b1188) (off := 0) (v := (.int .i64 p0.Command)) rfl rm1 rfl rfl ?_)
    refine o1 rfl (o_fa (fd := ⟨ "Command", 3, 0, false, "", "", 0⟩) rfl rfl rfl rfl rfl ?_)
    refine o1 rfl (o_ld (b := b1190) (off := 0) (v := (.int .i64 p1.Command)) rfl rm0 rfl rfl ?_)
    refine o1 rfl (o_p (v := (.bool (p0.Command == p1.Command))) rfl ?_)
    refine o1 rfl (o_p rfl ?_)
    rcases bool_or ((p0.Command == p1.Command)) with hb1192 | hb1192
    · replace h := cond_t hb1192 h
      refine oy rfl rfl rfl hb1192 (o_fa (fd := ⟨ "Restore", 4, 1, false, "", "", 8⟩) rfl rfl rfl rfl rfl ?_)
      refine oy rfl rfl rfl hb1192 (o_ld (b := b1188) (off := 1) (v := (.bool p0.Restore)) rfl rm1 rfl rfl ?_)
      refine oy rfl rfl rfl hb1192 (o_fa (fd := ⟨ "Restore", 4, 1, false, "", "", 8⟩) rfl rfl rfl rfl rfl ?_)
      refine oy rfl rfl rfl hb1192 (o_ld (b := b1190) (off := 1) (v := (.bool p1.Restore)) rfl rm0 rfl rfl ?_)
      refine oy rfl rfl rfl hb1192 (o_p (v := (.bool (p0.Restore == p1.Restore))) rfl ?_)
      refine o1 rfl (o_pick_t rfl hb1192 rfl ?_)
      refine o1 rfl (o_p rfl ?_)
      rcases bool_or ((p0.Restore == p1.Restore)) with hb1193 | hb1193
      · replace h := cond_t hb1193 h
        refine oy rfl rfl rfl hb1193 (o_fa (fd := ⟨ "Alarm", 4, 2, false, "", "", 9⟩) rfl rfl rfl rfl rfl ?_)
        refine oy rfl rfl rfl hb1193 (o_ld (b := b1188) (off := 2) (v := (.bool p0.Alarm)) rfl rm1 rfl rfl ?_)
        refine oy rfl rfl rfl hb1193 (o_fa (fd := ⟨ "Alarm", 4, 2, false, "", "", 9⟩) rfl rfl rfl rfl rfl ?_)
        refine oy rfl rfl rfl hb1193 (o_ld (b := b1190) (off := 2) (v := (.bool p1.Alarm)) rfl rm0 rfl rfl ?_)
        refine oy rfl rfl rfl hb1193 (o_p (v := (.bool (p0.Alarm == p1.Alarm))) rfl ?_)
        refine o1 rfl (o_pick_t rfl hb1193 rfl ?_)
        refine o1 rfl (o_p rfl ?_)
        rcases bool_or ((p0.Alarm == p1.Alarm)) with hb1194 | hb1194
        · replace h := cond_t hb1194 h
          refine oy rfl rfl rfl hb1194 (o_fa (fd := ⟨ "Reset", 4, 3, false, "", "", 10⟩) rfl rfl rfl rfl rfl ?_)
          refine oy rfl rfl rfl hb1194 (o_ld (b := b1188) (off := 3) (v := (.bool p0.Reset)) rfl rm1 rfl rfl ?_)
          refine oy rfl rfl rfl hb1194 (o_fa (fd := ⟨ "Reset", 4, 3, false, "", "", 10⟩) rfl rfl rfl rfl rfl ?_)
          refine oy rfl rfl rfl hb1194 (o_ld (b := b1190) (off := 3) (v := (.bool p1.Reset)) rfl rm0 rfl rfl ?_)
          refine oy rfl rfl rfl hb1194 (o_p (v := (.bool (p0.Reset == p1.Reset))) rfl ?_)
          refine o1 rfl (o_pick_t rfl hb1194 rfl ?_)
          refine o1 rfl (o_p rfl ?_)
          rcases bool_or ((p0.Reset == p1.Reset)) with hb1195 | hb1195
          · replace h := cond_t hb1195 h
            refine oy rfl rfl rfl hb1195 (o_fa (fd := ⟨ "Pieces", 3, 4, false, "", "", 16⟩) rfl rfl rfl rfl rfl ?_)
            refine oy rfl rfl rfl hb1195 (o_ld (b := b1188) (off := 4) (v := (.int .i64 p0.Pieces)) rfl rm1 rfl rfl ?_)
            refine oy rfl rfl rfl hb1195 (o_fa (fd := ⟨ "Pieces", 3, 4, false, "", "", 16⟩) rfl rfl rfl rfl rfl ?_)
            refine oy rfl rfl rfl hb1195 (o_ld (b := b1190) (off := 4) (v := (.int .i64 p1.Pieces)) rfl rm0 rfl rfl ?_)
            refine oy rfl rfl rfl hb1195 (o_p (v := (.bool (p0.Pieces == p1.Pieces))) rfl ?_)
            refine o1 rfl (o_pick_t rfl hb1195 rfl ?_)
            refine o1 rfl (o_p rfl ?_)
            rcases bool_or ((p0.Pieces == p1.Pieces)) with hb1196 | hb1196
            · replace h := cond_t hb1196 h
              refine oy rfl rfl rfl hb1196 (o_fa (fd := ⟨ "Fields", 28, 5, false, "", "", 24⟩) rfl rfl rfl rfl rfl ?_)
              refine oy rfl rfl rfl hb1196 (o_ld (b := b1188) (off := 5) (v := (SV.val s0)) rfl rm1 rfl rfl ?_)
              refine oy rfl rfl rfl hb1196 (o_fa (fd := ⟨ "Fields", 28, 5, false, "", "", 24⟩) rfl rfl rfl rfl rfl ?_)
              refine oy rfl rfl rfl hb1196 (o_ld (b := b1190) (off := 5) (v := (SV.val s1)) rfl rm0 rfl rfl ?_)
              replace h := bsome h
              obtain ⟨d2, h2, h⟩ := h
              refine oy rfl rfl rfl hb1196 (o_call has43 rfl (c_vitrineref01_Same hg X p0.Fields s0 q0 p1.Fields s1 q1 _ h2) (pc rm2 pn) ?_)
              refine o1 rfl (o_pick_t rfl hb1196 rfl ?_)
              refine o1 rfl (o_p rfl ?_)
              refine o_end ?_
              have hd := Option.some.inj h
              subst hd
              exact ej () () trivial (sc rfl sn) (kc rm0 (kd (kd kr)))
            · replace h := cond_f hb1196 h
              refine on rfl rfl rfl hb1196 ?_
              refine on rfl rfl rfl hb1196 ?_
              refine on rfl rfl rfl hb1196 ?_
              refine on rfl rfl rfl hb1196 ?_
              refine on rfl rfl rfl hb1196 ?_
              refine o1 rfl (o_pick_f rfl hb1196 rfl ?_)
              refine o1 rfl (o_p rfl ?_)
              refine o_end ?_
              have hd := Option.some.inj h
              subst hd
              exact ej () () trivial (sc rfl sn) (kc rm2 (kd (kd kr)))
          · replace h := cond_f hb1195 h
            refine on rfl rfl rfl hb1195 ?_
            refine on rfl rfl rfl hb1195 ?_
            refine on rfl rfl rfl hb1195 ?_
            refine on rfl rfl rfl hb1195 ?_
            refine on rfl rfl rfl hb1195 ?_
            refine o1 rfl (o_pick_f rfl hb1195 rfl ?_)
            refine o1 rfl (o_p rfl ?_)
            refine on rfl rfl rfl rfl ?_
            refine on rfl rfl rfl rfl ?_
            refine on rfl rfl rfl rfl ?_
            refine on rfl rfl rfl rfl ?_
            refine on rfl rfl rfl rfl ?_
            refine o1 rfl (o_pick_f rfl rfl rfl ?_)
            refine o1 rfl (o_p rfl ?_)
            refine o_end ?_
            have hd := Option.some.inj h
            subst hd
            exact ej () () trivial (sc rfl sn) (kc rm2 (kd (kd kr)))
        · replace h := cond_f hb1194 h
          refine on rfl rfl rfl hb1194 ?_
          refine on rfl rfl rfl hb1194 ?_
          refine on rfl rfl rfl hb1194 ?_
          refine on rfl rfl rfl hb1194 ?_
          refine on rfl rfl rfl hb1194 ?_
          refine o1 rfl (o_pick_f rfl hb1194 rfl ?_)
          refine o1 rfl (o_p rfl ?_)
          refine on rfl rfl rfl rfl ?_
          refine on rfl rfl rfl rfl ?_
          refine on rfl rfl rfl rfl ?_
          refine on rfl rfl rfl rfl ?_
          refine on rfl rfl rfl rfl ?_
          refine o1 rfl (o_pick_f rfl rfl rfl ?_)
          refine o1 rfl (o_p rfl ?_)
          refine on rfl rfl rfl rfl ?_
          refine on rfl rfl rfl rfl ?_
          refine on rfl rfl rfl rfl ?_
          refine on rfl rfl rfl rfl ?_
          refine on rfl rfl rfl rfl ?_
          refine o1 rfl (o_pick_f rfl rfl rfl ?_)
          refine o1 rfl (o_p rfl ?_)
          refine o_end ?_
          have hd := Option.some.inj h
          subst hd
          exact ej () () trivial (sc rfl sn) (kc rm2 (kd (kd kr)))
      · replace h := cond_f hb1193 h
        refine on rfl rfl rfl hb1193 ?_
        refine on rfl rfl rfl hb1193 ?_
        refine on rfl rfl rfl hb1193 ?_
        refine on rfl rfl rfl hb1193 ?_
        refine on rfl rfl rfl hb1193 ?_
        refine o1 rfl (o_pick_f rfl hb1193 rfl ?_)
        refine o1 rfl (o_p rfl ?_)
        refine on rfl rfl rfl rfl ?_
        refine on rfl rfl rfl rfl ?_
        refine on rfl rfl rfl rfl ?_
        refine on rfl rfl rfl rfl ?_
        refine on rfl rfl rfl rfl ?_
        refine o1 rfl (o_pick_f rfl rfl rfl ?_)
        refine o1 rfl (o_p rfl ?_)
        refine on rfl rfl rfl rfl ?_
        refine on rfl rfl rfl rfl ?_
        refine on rfl rfl rfl rfl ?_
        refine on rfl rfl rfl rfl ?_
        refine on rfl rfl rfl rfl ?_
        refine o1 rfl (o_pick_f rfl rfl rfl ?_)
        refine o1 rfl (o_p rfl ?_)
        refine on rfl rfl rfl rfl ?_
        refine on rfl rfl rfl rfl ?_
        refine on rfl rfl rfl rfl ?_
        refine on rfl rfl rfl rfl ?_
        refine on rfl rfl rfl rfl ?_
        refine o1 rfl (o_pick_f rfl rfl rfl ?_)
        refine o1 rfl (o_p rfl ?_)
        refine o_end ?_
        have hd := Option.some.inj h
        subst hd
        exact ej () () trivial (sc rfl sn) (kc rm2 (kd (kd kr)))
    · replace h := cond_f hb1192 h
      refine on rfl rfl rfl hb1192 ?_
      refine on rfl rfl rfl hb1192 ?_
      refine on rfl rfl rfl hb1192 ?_
      refine on rfl rfl rfl hb1192 ?_
      refine on rfl rfl rfl hb1192 ?_
      refine o1 rfl (o_pick_f rfl hb1192 rfl ?_)
      refine o1 rfl (o_p rfl ?_)
      refine on rfl rfl rfl rfl ?_
      refine on rfl rfl rfl rfl ?_
      refine on rfl rfl rfl rfl ?_
      refine on rfl rfl rfl rfl ?_
      refine on rfl rfl rfl rfl ?_
      refine o1 rfl (o_pick_f rfl rfl rfl ?_)
      refine o1 rfl (o_p rfl ?_)
      refine on rfl rfl rfl rfl ?_
      refine on rfl rfl rfl rfl ?_
      refine on rfl rfl rfl rfl ?_
      refine on rfl rfl rfl rfl ?_
      refine on rfl rfl rfl rfl ?_
      refine o1 rfl (o_pick_f rfl rfl rfl ?_)
      refine o1 rfl (o_p rfl ?_)
      refine on rfl rfl rfl rfl ?_
      refine on rfl rfl rfl rfl ?_
      refine on rfl rfl rfl rfl ?_
      refine on rfl rfl rfl rfl ?_
      refine on rfl rfl rfl rfl ?_
      refine o1 rfl (o_pick_f rfl rfl rfl ?_)
      refine o1 rfl (o_p rfl ?_)
      refine on rfl rfl rfl rfl ?_
      refine on rfl rfl rfl rfl ?_
      refine on rfl rfl rfl rfl ?_
      refine on rfl rfl rfl rfl ?_
      refine on rfl rfl rfl rfl ?_
      refine o1 rfl (o_pick_f rfl rfl rfl ?_)
      refine o1 rfl (o_p rfl ?_)
      refine o_end ?_
      have hd := Option.some.inj h
      subst hd
      exact ej () () trivial (sc rfl sn) (kc rm2 (kd (kd kr)))
  · rintro _ i1 _
    replace h := hk1
    clear hk1
    refine e_seq ?_
    refine c_ret ?_
    refine e_ret ?_
    refine r_endt rfl rfl (kc rm0 kr) ?_
    have hr := Option.some.inj h
    subst hr
    exact hk

theorem c_slices_Equal {g : Gw} (hg : GK g) (X : HP) (p0 : List Vapi_Cell) (s0 : SV) (q0 : Rd X s0 42 en_Vapi_Cell p0) (p1 : List Vapi_Cell) (s1 : SV) (q1 : Rd X s1 42 en_Vapi_Cell p1) (r : Bool) (h : m_slices_Equal p0 p1 = some r) : Tri env g 44 (List.toArray [(SV.val s0), (SV.val s1)]) [X] (fun K R => K (.bool r) (X :: R)) := by
  refine tri_of (fn := Tryd.f44) (N := 26) Tryd.func44 rfl rfl rfl ?_
  intro R K hk
  unfold m_slices_Equal at h
  change GC _ none _ [] [(0, (SV.val s0)), (1, (SV.val s1))] (X :: R) g _ _
  refine c_seq ?_
  refine c_region ?_
  refine o1 rfl (o_p rfl ?_)
  refine o_end ?_
  refine e_seq ?_
  refine c_seq ?_
  refine c_seq ?_
  refine c_region ?_
  refine o1 rfl (o_p rfl ?_)
  refine o1 rfl (o_len (s := s0) rfl rfl rfl rm0 q0 ?_)
  refine o1 rfl (o_p rfl ?_)
  refine o1 rfl (o_len (s := s1) rfl rfl rfl rm0 q1 ?_)
  refine o1 rfl (o_p (v := (.bool ((p0.length : Int) != (p1.length : Int)))) rfl ?_)
  refine o_end ?_
  refine e_seq ?_
  refine c_cond (b := ((p0.length : Int) != (p1.length : Int))) rfl (fun hb1214 => ?_) (fun hb1214 => ?_)
  · replace h := cond_t hb1214 h
    refine c_seq ?_
    refine c_region ?_
    refine o1 rfl (o_p rfl ?_)
    refine o_end ?_
    refine e_seq ?_
    refine c_ret ?_
    refine e_then_ret ?_
    refine e_ret ?_
    refine r_endt rfl rfl (kc rm0 kr) ?_
    have hr := Option.some.inj h
    subst hr
    exact hk
  · replace h := cond_f hb1214 h
    refine c_skip ?_
    refine e_seq ?_
    refine c_seq ?_
    refine c_seq ?_
    refine c_region ?_
    refine o1 rfl (o_p rfl ?_)
    refine o1 rfl (o_len (s := s0) rfl rfl rfl rm0 q0 ?_)
    refine o1 rfl (o_p rfl ?_)
    refine o_end ?_
    refine e_seq ?_
    replace h := jn_some h
    obtain ⟨y2, h, hk2⟩ := h
    refine cj (D := Unit) (ι := Unit) (fun d2 i2 => y2 = Sum.inl d2) (fun d2 i2 => []) (fun d2 i2 => X :: R) ?_ ?_
    · refine c_block ?_
      refine c_loop (l_sub (sc rfl (sc rfl (sc rfl (sc rfl sn)))) (l_keep (kc rm0 kr) (lf (X := Int) (ι := Unit) (fun k x => slices_Equal_l3 p0 p1 k x) _ (fun x3 i3 => True) (fun x3 i3 => [(13, (.int .i64 x3)), (12, (.int .i64 (p0.length : Int))), (0, (SV.val s0)), (1, (SV.val s1))]) (fun x3 i3 => X :: R) (fun _ => rfl) ?_ fuel 0 () trivial h)))
      clear h
      rintro k3 ih3 x3 i3 _ h
      rw [slices_Equal_l3.eq_2] at h
      refine l_round ?_
      refine c_seq ?_
      refine c_region ?_
      refine o1 rfl (o_p (v := (.bool (decide (x3 < (p0.length : Int))))) rfl ?_)
      refine o_end ?_
      refine e_seq ?_
      refine c_seq ?_
      refine c_cond (b := (decide (x3 < (p0.length : Int)))) rfl (fun hb1223 => ?_) (fun hb1223 => ?_)
      · replace h := cond_t hb1223 h
        refine c_skip ?_
        refine e_seq ?_
        refine c_seq ?_
        refine c_block ?_
        refine c_seq ?_
        refine c_region ?_
        refine o1 rfl (o_p rfl ?_)
        refine o1 rfl (o_p rfl ?_)
        refine o_end ?_
        refine e_seq ?_
        refine c_seq ?_
        replace h := gsome h
        obtain ⟨hg1224, h⟩ := h
        replace h := gsome h
        obtain ⟨hg1225, h⟩ := h
        refine c_draw (n := 0) (q := [(0, 16, (SV.val s0)), (1, 17, (.int .i64 x3)), (2, 18, (.pointer (some ⟨SV.blk s0, SV.off s0 + Int.toNat x3 * 6, none⟩))), (3, 19, (.agg (List.toArray [(.int .u8 ((rd p0 x3).Char)), (.bool ((rd p0 x3).Attr)), (.int .u8 ((rd p0 x3).FA)), (.int .u8 ((rd p0 x3).High)), (.int .u8 ((rd p0 x3).Color)), (.int .u8 ((rd p0 x3).f_Set))]))), (4, 20, (SV.val s1)), (5, 21, (.int .i64 x3)), (6, 22, (.pointer (some ⟨SV.blk s1, SV.off s1 + Int.toNat x3 * 6, none⟩))), (7, 23, (.agg (List.toArray [(.int .u8 ((rd p1 x3).Char)), (.bool ((rd p1 x3).Attr)), (.int .u8 ((rd p1 x3).FA)), (.int .u8 ((rd p1 x3).High)), (.int .u8 ((rd p1 x3).Color)), (.int .u8 ((rd p1 x3).f_Set))]))), (8, 24, (.bool (!((((rd p0 x3).Char) == ((rd p1 x3).Char)) && ((((rd p0 x3).Attr) == ((rd p1 x3).Attr)) && ((((rd p0 x3).FA) == ((rd p1 x3).FA)) && ((((rd p0 x3).High) == ((rd p1 x3).High)) && ((((rd p0 x3).Color) == ((rd p1 x3).Color)) && ((((rd p0 x3).f_Set) == ((rd p1 x3).f_Set)) && true)))))))))]) (pend := [0, 1, 2, 3, 4, 5, 6, 7, 8]) rfl rfl rfl ?_
        refine ⟨⟨fun _ => ⟨rfl, rfl, rfl, .inl ⟨rfl, (o_p rfl ⟨rfl, rfl⟩)⟩⟩, fun _ => ⟨rfl, rfl, rfl, .inl ⟨rfl, (o_p rfl ⟨rfl, rfl⟩)⟩⟩, fun _ => ⟨rfl, rfl, rfl, .inl ⟨rfl, (o_ix (s := s0) (n := x3) (e := en_Vapi_Cell) rfl rfl rfl rfl rfl rfl rm0 q0 hg1224 ⟨rfl, rfl⟩)⟩⟩, fun _ => ⟨rfl, rfl, rfl, .inl ⟨rfl, (o_ldE (s := s0) (e := en_Vapi_Cell) (n := x3) (f := 0) (v := (.agg (List.toArray [(.int .u8 ((rd p0 x3).Char)), (.bool ((rd p0 x3).Attr)), (.int .u8 ((rd p0 x3).FA)), (.int .u8 ((rd p0 x3).High)), (.int .u8 ((rd p0 x3).Color)), (.int .u8 ((rd p0 x3).f_Set))]))) rfl rm0 q0 hg1224 rfl rfl ⟨rfl, rfl⟩)⟩⟩, fun _ => ⟨rfl, rfl, rfl, .inl ⟨rfl, (o_p rfl ⟨rfl, rfl⟩)⟩⟩, fun _ => ⟨rfl, rfl, rfl, .inl ⟨rfl, (o_p rfl ⟨rfl, rfl⟩)⟩⟩, fun _ => ⟨rfl, rfl, rfl, .inl ⟨rfl, (o_ix (s := s1) (n := x3) (e := en_Vapi_Cell) rfl rfl rfl rfl rfl rfl rm0 q1 hg1225 ⟨rfl, rfl⟩)⟩⟩, fun _ => ⟨rfl, rfl, rfl, .inl ⟨rfl, (o_ldE (s := s1) (e := en_Vapi_Cell) (n := x3) (f := 0) (v := (.agg (List.toArray [(.int .u8 ((rd p1 x3).Char)), (.bool ((rd p1 x3).Attr)), (.int .u8 ((rd p1 x3).FA)), (.int .u8 ((rd p1 x3).High)), (.int .u8 ((rd p1 x3).Color)), (.int .u8 ((rd p1 x3).f_Set))]))) rfl rm0 q1 hg1225 rfl rfl ⟨rfl, rfl⟩)⟩⟩, fun _ => ⟨rfl, rfl, rfl, .inl ⟨rfl, (o_neT (b := ((((rd p0 x3).Char) == ((rd p1 x3).Char)) && ((((rd p0 x3).Attr) == ((rd p1 x3).Attr)) && ((((rd p0 x3).FA) == ((rd p1 x3).FA)) && ((((rd p0 x3).High) == ((rd p1 x3).High)) && ((((rd p0 x3).Color) == ((rd p1 x3).Color)) && ((((rd p0 x3).f_Set) == ((rd p1 x3).f_Set)) && true))))))) (xs := [(.int .u8 ((rd p0 x3).Char)), (.bool ((rd p0 x3).Attr)), (.int .u8 ((rd p0 x3).FA)), (.int .u8 ((rd p0 x3).High)), (.int .u8 ((rd p0 x3).Color)), (.int .u8 ((rd p0 x3).f_Set))]) (ys := [(.int .u8 ((rd p1 x3).Char)), (.bool ((rd p1 x3).Attr)), (.int .u8 ((rd p1 x3).FA)), (.int .u8 ((rd p1 x3).High)), (.int .u8 ((rd p1 x3).Color)), (.int .u8 ((rd p1 x3).f_Set))]) rfl rfl (by kernel_rfl) stood rfl ⟨rfl, rfl⟩)⟩⟩, trivial⟩, rfl, rfl, rfl, ?_⟩
        refine e_seq ?_
        refine c_cond (b := (!((((rd p0 x3).Char) == ((rd p1 x3).Char)) && ((((rd p0 x3).Attr) == ((rd p1 x3).Attr)) && ((((rd p0 x3).FA) == ((rd p1 x3).FA)) && ((((rd p0 x3).High) == ((rd p1 x3).High)) && ((((rd p0 x3).Color) == ((rd p1 x3).Color)) && ((((rd p0 x3).f_Set) == ((rd p1 x3).f_Set)) && true)))))))) rfl (fun hb1226 => ?_) (fun hb1226 => ?_)
        · replace h := cond_t hb1226 h
          refine c_seq ?_
          refine c_region ?_
          refine o1 rfl (o_p rfl ?_)
          refine o_end ?_
          refine e_seq ?_
          refine c_ret ?_
          refine e_blk_ret ?_
          refine e_then_ret ?_
          refine e_then_ret ?_
          refine e_blk_ret ?_
          refine ej_ret ?_
          replace h := esc_some h
          obtain ⟨z2, h, rfl⟩ := h
          obtain rfl := (hk2 : z2 = _)
          refine e_then_ret ?_
          refine e_ret ?_
          refine r_endt rfl rfl (kc rm0 kr) ?_
          have hr := Option.some.inj h
          subst hr
          exact hk
        · replace h := cond_f hb1226 h
          refine c_skip ?_
          refine e_blk ?_
          refine e_seq ?_
          refine c_region ?_
          refine o1 rfl (o_p (v := (.int .i64 (w64 (x3 + 1)))) rfl ?_)
          refine o1 rfl (o_p rfl ?_)
          refine o_end ?_
          exact e_loop (l_sub (sc rfl (sc rfl (sc rfl (sc rfl sn)))) (l_keep (kc rm0 kr) (ih3 (w64 (x3 + 1)) () trivial h)))
      · replace h := cond_f hb1223 h
        refine c_exit ?_
        refine e_then_exit ?_
        refine e_then_exit ?_
        refine e_blk_exit ?_
        have hd := Option.some.inj h
        subst hd
        exact ej () () rfl sn (kc rm0 kr)
    · rintro d2 i2 rfl
      replace h := JK_inl hk2
      clear hk2
      refine e_seq ?_
      refine c_seq ?_
      refine c_region ?_
      refine o1 rfl (o_p rfl ?_)
      refine o_end ?_
      refine e_seq ?_
      refine c_ret ?_
      refine e_ret ?_
      refine r_endt rfl rfl (kc rm0 kr) ?_
      have hr := Option.some.inj h
      subst hr
      exact hk

theorem c_space_Space_Same {g : Gw} (hg : GK g) (X : HP) (p0 : Vspace_Space) (b0 : Nat) (s0 : SV) (p1 : Vspace_Space) (b1 : Nat) (s1 : SV) (r : Vspace_Space × Vspace_Space × Bool) (h : m_space_Space_Same p0 p1 = some r) : Tri env g 23 (List.toArray [(.pointer (some ⟨b0, 0, none⟩)), (.pointer (some ⟨b1, 0, none⟩))]) [X, blk b0 (.cells (List.toArray [(.int .i64 p0.model), (.bool p0.alternate), (.int .i64 p0.size.Rows), (.int .i64 p0.size.Cols), (SV.val s0), (.int .i64 p0.cursor), (.int .i64 p0.attrs)]) 76 (0, 0)), slO s0 42 en_Vapi_Cell p0.cells, blk b1 (.cells (List.toArray [(.int .i64 p1.model), (.bool p1.alternate), (.int .i64 p1.size.Rows), (.int .i64 p1.size.Cols), (SV.val s1), (.int .i64 p1.cursor), (.int .i64 p1.attrs)]) 76 (0, 0)), slO s1 42 en_Vapi_Cell p1.cells] (fun K R => ∀ (i0 : HP), (Rd i0 s0 42 en_Vapi_Cell r.1.cells) → (Rd i0 s1 42 en_Vapi_Cell r.2.1.cells) → (Ext X i0) → K (.bool r.2.2) (i0 :: blk b0 (.cells (List.toArray [(.int .i64 r.1.model), (.bool r.1.alternate), (.int .i64 r.1.size.Rows), (.int .i64 r.1.size.Cols), (SV.val s0), (.int .i64 r.1.cursor), (.int .i64 r.1.attrs)]) 76 (0, 0)) :: blk b1 (.cells (List.toArray [(.int .i64 r.2.1.model), (.bool r.2.1.alternate), (.int .i64 r.2.1.size.Rows), (.int .i64 r.2.1.size.Cols), (SV.val s1), (.int .i64 r.2.1.cursor), (.int .i64 r.2.1.attrs)]) 76 (0, 0)) :: R)) := by
  refine tri_of (fn := Tryd.f23) (N := 56) Tryd.func23 rfl rfl rfl ?_
  intro R K hk
  unfold m_space_Space_Same at h
  change GC _ none _ [] [(0, (.pointer (some ⟨b0, 0, none⟩))), (1, (.pointer (some ⟨b1, 0, none⟩)))] (X :: blk b0 (.cells (List.toArray [(.int .i64 p0.model), (.bool p0.alternate), (.int .i64 p0.size.Rows), (.int .i64 p0.size.Cols), (SV.val s0), (.int .i64 p0.cursor), (.int .i64 p0.attrs)]) 76 (0, 0)) :: slO s0 42 en_Vapi_Cell p0.cells :: blk b1 (.cells (List.toArray [(.int .i64 p1.model), (.bool p1.alternate), (.int .i64 p1.size.Rows), (.int .i64 p1.size.Cols), (SV.val s1), (.int .i64 p1.cursor), (.int .i64 p1.attrs)]) 76 (0, 0)) :: slO s1 42 en_Vapi_Cell p1.cells :: R) g _ _
  refine c_seq ?_
  refine c_region ?_
  refine o1 rfl (o_p rfl ?_)
  refine o_end ?_
  refine e_seq ?_
  refine c_seq ?_
  refine c_seq ?_
  refine c_region ?_
  refine o1 rfl (o_p rfl ?_)
  refine o1 rfl (o_p (v := (.bool false)) rfl ?_)
  refine o1 rfl (o_p rfl ?_)
  refine oy rfl rfl rfl rfl (o_p rfl ?_)
  refine oy rfl rfl rfl rfl (o_p (v := (.bool false)) rfl ?_)
  refine o1 rfl (o_pick_f rfl rfl rfl ?_)
  refine o_end ?_
  refine e_seq ?_
  refine c_cond_f rfl rfl ?_
  refine c_skip ?_
  refine e_seq ?_
  refine c_seq ?_
  replace h := bsome h
  obtain ⟨d2, h, hk2⟩ := h
  refine cj (D := Unit) (ι := HP) (fun _ i2 => (Rd i2 s0 42 en_Vapi_Cell p0.cells) ∧ (Rd i2 s1 42 en_Vapi_Cell p1.cells) ∧ (Ext X i2)) (fun _ i2 => [(4, (.bool d2))]) (fun _ i2 => i2 :: blk b0 (.cells (List.toArray [(.int .i64 p0.model), (.bool p0.alternate), (.int .i64 p0.size.Rows), (.int .i64 p0.size.Cols), (SV.val s0), (.int .i64 p0.cursor), (.int .i64 p0.attrs)]) 76 (0, 0)) :: blk b1 (.cells (List.toArray [(.int .i64 p1.model), (.bool p1.alternate), (.int .i64 p1.size.Rows), (.int .i64 p1.size.Cols), (SV.val s1), (.int .i64 p1.cursor), (.int .i64 p1.attrs)]) 76 (0, 0)) :: R) ?_ ?_
  · refine c_fz rm2 rm0 (fun X1202 hx1203 hs1204 => ?_)
    refine c_fz rm3 rm0 (fun X1208 hx1209 hs1210 => ?_)
    refine c_sub (T' := [(10, (.bool false)), (9, (.bool false)), (8, (.pointer (some ⟨b1, 0, none⟩))), (7, (.bool false)), (6, (.bool false)), (5, (.pointer (some ⟨b0, 0, none⟩))), (0, (.pointer (some ⟨b0, 0, none⟩))), (1, (.pointer (some ⟨b1, 0, none⟩)))]) (sc rfl (sc rfl (sc rfl (sc rfl (sc rfl (sc rfl (sc rfl (sc rfl sn)))))))) ?_
    rcases bool_or ((p0.model == p1.model)) with hb1211 | hb1211
    · replace h := cond_t hb1211 h
      rcases bool_or ((p0.alternate == p1.alternate)) with hb1212 | hb1212
      · replace h := cond_t hb1212 h
        rcases bool_or ((p0.cursor == p1.cursor)) with hb1213 | hb1213
        · replace h := cond_t hb1213 h
          refine c_draw (n := 1) (q := [(32, 46, (.pointer (some ⟨b0, 0, none⟩))), (33, 47, (.pointer (some ⟨b0, 0, none⟩))), (34, 48, (.pointer (some ⟨b0, 4, none⟩))), (35, 49, (SV.val s0)), (36, 50, (.pointer (some ⟨b1, 0, none⟩))), (37, 51, (.pointer (some ⟨b1, 0, none⟩))), (38, 52, (.pointer (some ⟨b1, 4, none⟩))), (39, 53, (SV.val s1)), (21, 35, (.pointer (some ⟨b0, 0, none⟩))), (22, 36, (.pointer (some ⟨b0, 0, none⟩))), (23, 37, (.pointer (some ⟨b0, 5, none⟩))), (24, 38, (.int .i64 p0.cursor)), (25, 39, (.pointer (some ⟨b1, 0, none⟩))), (26, 40, (.pointer (some ⟨b1, 0, none⟩))), (27, 41, (.pointer (some ⟨b1, 5, none⟩))), (28, 42, (.int .i64 p1.cursor)), (29, 43, (.bool (p0.cursor == p1.cursor))), (30, 44, (.bool (p0.cursor == p1.cursor))), (31, 45, (.bool (p0.cursor == p1.cursor))), (10, 24, (.pointer (some ⟨b0, 0, none⟩))), (11, 25, (.pointer (some ⟨b0, 0, none⟩))), (12, 26, (.pointer (some ⟨b0, 1, none⟩))), (13, 27, (.bool p0.alternate)), (14, 28, (.pointer (some ⟨b1, 0, none⟩))), (15, 29, (.pointer (some ⟨b1, 0, none⟩))), (16, 30, (.pointer (some ⟨b1, 1, none⟩))), (17, 31, (.bool p1.alternate)), (18, 32, (.bool (p0.alternate == p1.alternate))), (19, 33, (.bool (p0.alternate == p1.alternate))), (20, 34, (.bool (p0.alternate == p1.alternate))), (0, 14, (.pointer (some ⟨b0, 0, none⟩))), (1, 15, (.pointer (some ⟨b0, 0, none⟩))), (2, 16, (.pointer (some ⟨b0, 0, none⟩))), (3, 17, (.int .i64 p0.model)), (4, 18, (.pointer (some ⟨b1, 0, none⟩))), (5, 19, (.pointer (some ⟨b1, 0, none⟩))), (6, 20, (.pointer (some ⟨b1, 0, none⟩))), (7, 21, (.int .i64 p1.model)), (8, 22, (.bool (p0.model == p1.model))), (9, 23, (.bool (p0.model == p1.model)))]) (pend := [0, 1, 2, 3, 4, 5, 6, 7, 8, 9, 10, 11, 12, 13, 14, 15, 16, 17, 18, 19, 20, 21, 22, 23, 24, 25, 26, 27, 28, 29, 30, 31, 32, 33, 34, 35, 36, 37, 38, 39]) rfl rfl rfl ?_
          replace h := bsome h
          obtain ⟨d3, h3, h⟩ := h
          refine ⟨⟨fun _ => ⟨rfl, rfl, rfl, .inr ⟨_, _, _, _, rfl, rfl, rfl, .inl ⟨hb1213, (o_p rfl ⟨rfl, rfl⟩)⟩⟩⟩, fun _ => ⟨rfl, rfl, rfl, .inr ⟨_, _, _, _, rfl, rfl, rfl, .inl ⟨hb1213, (o_p rfl ⟨rfl, rfl⟩)⟩⟩⟩, fun _ => ⟨rfl, rfl, rfl, .inr ⟨_, _, _, _, rfl, rfl, rfl, .inl ⟨hb1213, (o_fa (fd := ⟨ "cells", 38, 4, false, "", "vitrine/space", 32⟩) rfl rfl rfl rfl rfl ⟨rfl, rfl⟩)⟩⟩⟩, fun _ => ⟨rfl, rfl, rfl, .inr ⟨_, _, _, _, rfl, rfl, rfl, .inl ⟨hb1213, (o_ld (b := b0) (off := 4) (v := (SV.val s0)) rfl rm1 rfl rfl ⟨rfl, rfl⟩)⟩⟩⟩, fun _ => ⟨rfl, rfl, rfl, .inr ⟨_, _, _, _, rfl, rfl, rfl, .inl ⟨hb1213, (o_p rfl ⟨rfl, rfl⟩)⟩⟩⟩, fun _ => ⟨rfl, rfl, rfl, .inr ⟨_, _, _, _, rfl, rfl, rfl, .inl ⟨hb1213, (o_p rfl ⟨rfl, rfl⟩)⟩⟩⟩, fun _ => ⟨rfl, rfl, rfl, .inr ⟨_, _, _, _, rfl, rfl, rfl, .inl ⟨hb1213, (o_fa (fd := ⟨ "cells", 38, 4, false, "", "vitrine/space", 32⟩) rfl rfl rfl rfl rfl ⟨rfl, rfl⟩)⟩⟩⟩, fun _ => ⟨rfl, rfl, rfl, .inr ⟨_, _, _, _, rfl, rfl, rfl, .inl ⟨hb1213, (o_ld (b := b1) (off := 4) (v := (SV.val s1)) rfl rm2 rfl rfl ⟨rfl, rfl⟩)⟩⟩⟩, fun _ => ⟨rfl, rfl, rfl, .inr ⟨_, _, _, _, rfl, rfl, rfl, .inl ⟨hb1212, (o_p rfl ⟨rfl, rfl⟩)⟩⟩⟩, fun _ => ⟨rfl, rfl, rfl, .inr ⟨_, _, _, _, rfl, rfl, rfl, .inl ⟨hb1212, (o_p rfl ⟨rfl, rfl⟩)⟩⟩⟩, fun _ => ⟨rfl, rfl, rfl, .inr ⟨_, _, _, _, rfl, rfl, rfl, .inl ⟨hb1212, (o_fa (fd := ⟨ "cursor", 3, 5, false, "", "vitrine/space", 56⟩) rfl rfl rfl rfl rfl ⟨rfl, rfl⟩)⟩⟩⟩, fun _ => ⟨rfl, rfl, rfl, .inr ⟨_, _, _, _, rfl, rfl, rfl, .inl ⟨hb1212, (o_ld (b := b0) (off := 5) (v := (.int .i64 p0.cursor)) rfl rm1 rfl rfl ⟨rfl, rfl⟩)⟩⟩⟩, fun _ => ⟨rfl, rfl, rfl, .inr ⟨_, _, _, _, rfl, rfl, rfl, .inl ⟨hb1212, (o_p rfl ⟨rfl, rfl⟩)⟩⟩⟩, fun _ => ⟨rfl, rfl, rfl, .inr ⟨_, _, _, _, rfl, rfl, rfl, .inl ⟨hb1212, (o_p rfl ⟨rfl, rfl⟩)⟩⟩⟩, fun _ => ⟨rfl, rfl, rfl, .inr ⟨_, _, _, _, rfl, rfl, rfl, .inl ⟨hb1212, (o_fa (fd := ⟨ "cursor", 3, 5, false, "", "vitrine/space", 56⟩) rfl rfl rfl rfl rfl ⟨rfl, rfl⟩)⟩⟩⟩, fun _ => ⟨rfl, rfl, rfl, .inr ⟨_, _, _, _, rfl, rfl, rfl, .inl ⟨hb1212, (o_ld (b := b1) (off := 5) (v := (.int .i64 p1.cursor)) rfl rm2 rfl rfl ⟨rfl, rfl⟩)⟩⟩⟩, fun _ => ⟨rfl, rfl, rfl, .inr ⟨_, _, _, _, rfl, rfl, rfl, .inl ⟨hb1212, (o_p (v := (.bool (p0.cursor == p1.cursor))) rfl ⟨rfl, rfl⟩)⟩⟩⟩, fun _ => ⟨rfl, rfl, rfl, .inl ⟨rfl, (o_pick_t rfl hb1212 rfl ⟨rfl, rfl⟩)⟩⟩, fun _ => ⟨rfl, rfl, rfl, .inl ⟨rfl, (o_p rfl ⟨rfl, rfl⟩)⟩⟩, fun _ => ⟨rfl, rfl, rfl, .inr ⟨_, _, _, _, rfl, rfl, rfl, .inl ⟨hb1211, (o_p rfl ⟨rfl, rfl⟩)⟩⟩⟩, fun _ => ⟨rfl, rfl, rfl, .inr ⟨_, _, _, _, rfl, rfl, rfl, .inl ⟨hb1211, (o_p rfl ⟨rfl, rfl⟩)⟩⟩⟩, fun _ => ⟨rfl, rfl, rfl, .inr ⟨_, _, _, _, rfl, rfl, rfl, .inl ⟨hb1211, (o_fa (fd := ⟨ "alternate", 4, 1, false, "", "vitrine/space", 8⟩) rfl rfl rfl rfl rfl ⟨rfl, rfl⟩)⟩⟩⟩, fun _ => ⟨rfl, rfl, rfl, .inr ⟨_, _, _, _, rfl, rfl, rfl, .inl ⟨hb1211, (o_ld (b := b0) (off := 1) (v := (.bool p0.alternate)) rfl rm1 rfl rfl ⟨rfl, rfl⟩)⟩⟩⟩, fun _ => ⟨rfl, rfl, rfl, .inr ⟨_, _, _, _, rfl, rfl, rfl, .inl ⟨hb1211, (o_p rfl ⟨rfl, rfl⟩)⟩⟩⟩, fun _ => ⟨rfl, rfl, rfl, .inr ⟨_, _, _, _, rfl, rfl, rfl, .inl ⟨hb1211, (o_p rfl ⟨rfl, rfl⟩)⟩⟩⟩, fun _ => ⟨rfl, rfl, rfl, .inr ⟨_, _, _, _, rfl, rfl, rfl, .inl ⟨hb1211, (o_fa (fd := ⟨ "alternate", 4, 1, false, "", "vitrine/space", 8⟩) rfl rfl rfl rfl rfl ⟨rfl, rfl⟩)⟩⟩⟩, fun _ => ⟨rfl, rfl, rfl, .inr ⟨_, _, _, _, rfl, rfl, rfl, .inl ⟨hb1211, (o_ld (b := b1) (off := 1) (v := (.bool p1.alternate)) rfl rm2 rfl rfl ⟨rfl, rfl⟩)⟩⟩⟩, fun _ => ⟨rfl, rfl, rfl, .inr ⟨_, _, _, _, rfl, rfl, rfl, .inl ⟨hb1211, (o_p (v := (.bool (p0.alternate == p1.alternate))) rfl ⟨rfl, rfl⟩)⟩⟩⟩, fun _ => ⟨rfl, rfl, rfl, .inl ⟨rfl, (o_pick_t rfl hb1211 rfl ⟨rfl, rfl⟩)⟩⟩, fun _ => ⟨rfl, rfl, rfl, .inl ⟨rfl, (o_p rfl ⟨rfl, rfl⟩)⟩⟩, fun _ => ⟨rfl, rfl, rfl, .inl ⟨rfl, (o_p rfl ⟨rfl, rfl⟩)⟩⟩, fun _ => ⟨rfl, rfl, rfl, .inl ⟨rfl, (o_p rfl ⟨rfl, rfl⟩)⟩⟩, fun _ => ⟨rfl, rfl, rfl, .inl ⟨rfl, (o_fa (fd := ⟨ "model", 3, 0, false, "", "vitrine/space", 0⟩) rfl rfl rfl rfl rfl ⟨rfl, rfl⟩)⟩⟩, fun _ => ⟨rfl, rfl, rfl, .inl ⟨rfl, (o_ld (b := b0) (off := 0) (v := (.int .i64 p0.model)) rfl rm1 rfl rfl ⟨rfl, rfl⟩)⟩⟩, fun _ => ⟨rfl, rfl, rfl, .inl ⟨rfl, (o_p rfl ⟨rfl, rfl⟩)⟩⟩, fun _ => ⟨rfl, rfl, rfl, .inl ⟨rfl, (o_p rfl ⟨rfl, rfl⟩)⟩⟩, fun _ => ⟨rfl, rfl, rfl, .inl ⟨rfl, (o_fa (fd := ⟨ "model", 3, 0, false, "", "vitrine/space", 0⟩) rfl rfl rfl rfl rfl ⟨rfl, rfl⟩)⟩⟩, fun _ => ⟨rfl, rfl, rfl, .inl ⟨rfl, (o_ld (b := b1) (off := 0) (v := (.int .i64 p1.model)) rfl rm2 rfl rfl ⟨rfl, rfl⟩)⟩⟩, fun _ => ⟨rfl, rfl, rfl, .inl ⟨rfl, (o_p (v := (.bool (p0.model == p1.model))) rfl ⟨rfl, rfl⟩)⟩⟩, fun _ => ⟨rfl, rfl, rfl, .inl ⟨rfl, (o_p rfl ⟨rfl, rfl⟩)⟩⟩, trivial⟩, rfl, .inr ⟨[40], rfl, rfl, ⟨rfl, .inr ⟨_, _, _, _, rfl, rfl, rfl, hb1213⟩, ?_⟩, trivial⟩⟩
          refine (o_call has44 rfl (c_slices_Equal hg X1208 p0.cells s0 (Rd.ext hs1204 hx1209) p1.cells s1 hs1210 _ h3) (pc rm0 pn) ?_)
          refine ⟨[(41, 55, (.bool d3)), (42, 4, (.bool d3))], [41, 42], rfl, rfl, rfl, rfl, ?_⟩
          refine ⟨⟨fun _ => ⟨rfl, rfl, rfl, .inl ⟨rfl, (o_pick_t rfl hb1213 rfl ⟨rfl, rfl⟩)⟩⟩, fun _ => ⟨rfl, rfl, rfl, .inl ⟨rfl, (o_p rfl ⟨rfl, rfl⟩)⟩⟩, (fun h => nomatch h), (fun h => nomatch h), (fun h => nomatch h), (fun h => nomatch h), (fun h => nomatch h), (fun h => nomatch h), (fun h => nomatch h), (fun h => nomatch h), (fun h => nomatch h), (fun h => nomatch h), (fun h => nomatch h), (fun h => nomatch h), (fun h => nomatch h), (fun h => nomatch h), (fun h => nomatch h), (fun h => nomatch h), (fun h => nomatch h), (fun h => nomatch h), (fun h => nomatch h), (fun h => nomatch h), (fun h => nomatch h), (fun h => nomatch h), (fun h => nomatch h), (fun h => nomatch h), (fun h => nomatch h), (fun h => nomatch h), (fun h => nomatch h), (fun h => nomatch h), (fun h => nomatch h), (fun h => nomatch h), (fun h => nomatch h), (fun h => nomatch h), (fun h => nomatch h), (fun h => nomatch h), (fun h => nomatch h), (fun h => nomatch h), (fun h => nomatch h), (fun h => nomatch h), (fun h => nomatch h), (fun h => nomatch h), trivial⟩, rfl, rfl, rfl, ?_⟩
          have hd := Option.some.inj h
          subst hd
          exact ej () X1208 ⟨(Rd.ext hs1204 hx1209), hs1210, (Ext.trans hx1203 hx1209)⟩ (sc rfl sn) (kc rm0 (kc rm0 (kc rm0 kr)))
        · replace h := cond_f hb1213 h
          refine c_draw (n := 1) (q := [(32, 46, undef), (33, 47, undef), (34, 48, undef), (35, 49, undef), (36, 50, undef), (37, 51, undef), (38, 52, undef), (39, 53, undef), (40, 54, undef), (41, 55, (.bool false)), (42, 4, (.bool false)), (21, 35, (.pointer (some ⟨b0, 0, none⟩))), (22, 36, (.pointer (some ⟨b0, 0, none⟩))), (23, 37, (.pointer (some ⟨b0, 5, none⟩))), (24, 38, (.int .i64 p0.cursor)), (25, 39, (.pointer (some ⟨b1, 0, none⟩))), (26, 40, (.pointer (some ⟨b1, 0, none⟩))), (27, 41, (.pointer (some ⟨b1, 5, none⟩))), (28, 42, (.int .i64 p1.cursor)), (29, 43, (.bool (p0.cursor == p1.cursor))), (30, 44, (.bool (p0.cursor == p1.cursor))), (31, 45, (.bool (p0.cursor == p1.cursor))), (10, 24, (.pointer (some ⟨b0, 0, none⟩))), (11, 25, (.pointer (some ⟨b0, 0, none⟩))), (12, 26, (.pointer (some ⟨b0, 1, none⟩))), (13, 27, (.bool p0.alternate)), (14, 28, (.pointer (some ⟨b1, 0, none⟩))), (15, 29, (.pointer (some ⟨b1, 0, none⟩))), (16, 30, (.pointer (some ⟨b1, 1, none⟩))), (17, 31, (.bool p1.alternate)), (18, 32, (.bool (p0.alternate == p1.alternate))), (19, 33, (.bool (p0.alternate == p1.alternate))), (20, 34, (.bool (p0.alternate == p1.alternate))), (0, 14, (.pointer (some ⟨b0, 0, none⟩))), (1, 15, (.pointer (some ⟨b0, 0, none⟩))), (2, 16, (.pointer (some ⟨b0, 0, none⟩))), (3, 17, (.int .i64 p0.model)), (4, 18, (.pointer (some ⟨b1, 0, none⟩))), (5, 19, (.pointer (some ⟨b1, 0, none⟩))), (6, 20, (.pointer (some ⟨b1, 0, none⟩))), (7, 21, (.int .i64 p1.model)), (8, 22, (.bool (p0.model == p1.model))), (9, 23, (.bool (p0.model == p1.model)))]) (pend := [0, 1, 2, 3, 4, 5, 6, 7, 8, 9, 10, 11, 12, 13, 14, 15, 16, 17, 18, 19, 20, 21, 22, 23, 24, 25, 26, 27, 28, 29, 30, 31, 32, 33, 34, 35, 36, 37, 38, 39, 40, 41, 42]) rfl rfl rfl ?_
          refine ⟨⟨fun _ => ⟨rfl, rfl, rfl, .inr ⟨_, _, _, _, rfl, rfl, rfl, .inr ⟨hb1213, rfl⟩⟩⟩, fun _ => ⟨rfl, rfl, rfl, .inr ⟨_, _, _, _, rfl, rfl, rfl, .inr ⟨hb1213, rfl⟩⟩⟩, fun _ => ⟨rfl, rfl, rfl, .inr ⟨_, _, _, _, rfl, rfl, rfl, .inr ⟨hb1213, rfl⟩⟩⟩, fun _ => ⟨rfl, rfl, rfl, .inr ⟨_, _, _, _, rfl, rfl, rfl, .inr ⟨hb1213, rfl⟩⟩⟩, fun _ => ⟨rfl, rfl, rfl, .inr ⟨_, _, _, _, rfl, rfl, rfl, .inr ⟨hb1213, rfl⟩⟩⟩, fun _ => ⟨rfl, rfl, rfl, .inr ⟨_, _, _, _, rfl, rfl, rfl, .inr ⟨hb1213, rfl⟩⟩⟩, fun _ => ⟨rfl, rfl, rfl, .inr ⟨_, _, _, _, rfl, rfl, rfl, .inr ⟨hb1213, rfl⟩⟩⟩, fun _ => ⟨rfl, rfl, rfl, .inr ⟨_, _, _, _, rfl, rfl, rfl, .inr ⟨hb1213, rfl⟩⟩⟩, fun _ => ⟨rfl, rfl, rfl, .inr ⟨_, _, _, _, rfl, rfl, rfl, .inr ⟨hb1213, rfl⟩⟩⟩, fun _ => ⟨rfl, rfl, rfl, .inl ⟨rfl, (o_pick_f rfl hb1213 rfl ⟨rfl, rfl⟩)⟩⟩, fun _ => ⟨rfl, rfl, rfl, .inl ⟨rfl, (o_p rfl ⟨rfl, rfl⟩)⟩⟩, fun _ => ⟨rfl, rfl, rfl, .inr ⟨_, _, _, _, rfl, rfl, rfl, .inl ⟨hb1212, (o_p rfl ⟨rfl, rfl⟩)⟩⟩⟩, fun _ => ⟨rfl, rfl, rfl, .inr ⟨_, _, _, _, rfl, rfl, rfl, .inl ⟨hb1212, (o_p rfl ⟨rfl, rfl⟩)⟩⟩⟩, fun _ => ⟨rfl, rfl, rfl, .inr ⟨_, _, _, _, rfl, rfl, rfl, .inl ⟨hb1212, (o_fa (fd := ⟨ "cursor", 3, 5, false, "", "vitrine/space", 56⟩) rfl rfl rfl rfl rfl ⟨rfl, rfl⟩)⟩⟩⟩, fun _ => ⟨rfl, rfl, rfl, .inr ⟨_, _, _, _, rfl, rfl, rfl, .inl ⟨hb1212, (o_ld (b := b0) (off := 5) (v := (.int .i64 p0.cursor)) rfl rm1 rfl rfl ⟨rfl, rfl⟩)⟩⟩⟩, fun _ => ⟨rfl, rfl, rfl, .inr ⟨_, _, _, _, rfl, rfl, rfl, .inl ⟨hb1212, (o_p rfl ⟨rfl, rfl⟩)⟩⟩⟩, fun _ => ⟨rfl, rfl, rfl, .inr ⟨_, _, _, _, rfl, rfl, rfl, .inl ⟨hb1212, (o_p rfl ⟨rfl, rfl⟩)⟩⟩⟩, fun _ => ⟨rfl, rfl, rfl, .inr ⟨_, _, _, _, rfl, rfl, rfl, .inl ⟨hb1212, (o_fa (fd := ⟨ "cursor", 3, 5, false, "", "vitrine/space", 56⟩) rfl rfl rfl rfl rfl ⟨rfl, rfl⟩)⟩⟩⟩, fun _ => ⟨rfl, rfl, rfl, .inr ⟨_, _, _, _, rfl, rfl, rfl, .inl ⟨hb1212, (o_ld (b := b1) (off := 5) (v := (.int .i64 p1.cursor)) rfl rm2 rfl rfl ⟨rfl, rfl⟩)⟩⟩⟩, fun _ => ⟨rfl, rfl, rfl, .inr ⟨_, _, _, _, rfl, rfl, rfl, .inl ⟨hb1212, (o_p (v := (.bool (p0.cursor == p1.cursor))) rfl ⟨rfl, rfl⟩)⟩⟩⟩, fun _ => ⟨rfl, rfl, rfl, .inl ⟨rfl, (o_pick_t rfl hb1212 rfl ⟨rfl, rfl⟩)⟩⟩, fun _ => ⟨rfl, rfl, rfl, .inl ⟨rfl, (o_p rfl ⟨rfl, rfl⟩)⟩⟩, fun _ => ⟨rfl, rfl, rfl, .inr ⟨_, _, _, _, rfl, rfl, rfl, .inl ⟨hb1211, (o_p rfl ⟨rfl, rfl⟩)⟩⟩⟩, fun _ => ⟨rfl, rfl, rfl, .inr ⟨_, _, _, _, rfl, rfl, rfl, .inl ⟨hb1211, (o_p rfl ⟨rfl, rfl⟩)⟩⟩⟩, fun _ => ⟨rfl, rfl, rfl, .inr ⟨_, _, _, _, rfl, rfl, rfl, .inl ⟨hb1211, (o_fa (fd := ⟨ "alternate", 4, 1, false, "", "vitrine/space", 8⟩) rfl rfl rfl rfl rfl ⟨rfl, rfl⟩)⟩⟩⟩, fun _ => ⟨rfl, rfl, rfl, .inr ⟨_, _, _, _, rfl, rfl, rfl, .inl ⟨hb1211, (o_ld (b := b0) (off := 1) (v := (.bool p0.alternate)) rfl rm1 rfl rfl ⟨rfl, rfl⟩)⟩⟩⟩, fun _ => ⟨rfl, rfl, rfl, .inr ⟨_, _, _, _, rfl, rfl, rfl, .inl ⟨hb1211, (o_p rfl ⟨rfl, rfl⟩)⟩⟩⟩, fun _ => ⟨rfl, rfl, rfl, .inr ⟨_, _, _, _, rfl, rfl, rfl, .inl ⟨hb1211, (o_p rfl ⟨rfl, rfl⟩)⟩⟩⟩, fun _ => ⟨rfl, rfl, rfl, .inr ⟨_, _, _, _, rfl, rfl, rfl, .inl ⟨hb1211, (o_fa (fd := ⟨ "alternate", 4, 1, false, "", "vitrine/space", 8⟩) rfl rfl rfl rfl rfl ⟨rfl, rfl⟩)⟩⟩⟩, fun _ => ⟨rfl, rfl, rfl, .inr ⟨_, _, _, _, rfl, rfl, rfl, .inl ⟨hb1211, (o_ld (b := b1) (off := 1) (v := (.bool p1.alternate)) rfl rm2 rfl rfl ⟨rfl, rfl⟩)⟩⟩⟩, fun _ => ⟨rfl, rfl, rfl, .inr ⟨_, _, _, _, rfl, rfl, rfl, .inl ⟨hb1211, (o_p (v := (.bool (p0.alternate == p1.alternate))) rfl ⟨rfl, rfl⟩)⟩⟩⟩, fun _ => ⟨rfl, rfl, rfl, .inl ⟨rfl, (o_pick_t rfl hb1211 rfl ⟨rfl, rfl⟩)⟩⟩, fun _ => ⟨rfl, rfl, rfl, .inl ⟨rfl, (o_p rfl ⟨rfl, rfl⟩)⟩⟩, fun _ => ⟨rfl, rfl, rfl, .inl ⟨rfl, (o_p rfl ⟨rfl, rfl⟩)⟩⟩, fun _ => ⟨rfl, rfl, rfl, .inl ⟨rfl, (o_p rfl ⟨rfl, rfl⟩)⟩⟩, fun _ => ⟨rfl, rfl, rfl, .inl ⟨rfl, (o_fa (fd := ⟨ "model", 3, 0, false, "", "vitrine/space", 0⟩) rfl rfl rfl rfl rfl ⟨rfl, rfl⟩)⟩⟩, fun _ => ⟨rfl, rfl, rfl, .inl ⟨rfl, (o_ld (b := b0) (off := 0) (v := (.int .i64 p0.model)) rfl rm1 rfl rfl ⟨rfl, rfl⟩)⟩⟩, fun _ => ⟨rfl, rfl, rfl, .inl ⟨rfl, (o_p rfl ⟨rfl, rfl⟩)⟩⟩, fun _ => ⟨rfl, rfl, rfl, .inl ⟨rfl, (o_p rfl ⟨rfl, rfl⟩)⟩⟩, fun _ => ⟨rfl, rfl, rfl, .inl ⟨rfl, (o_fa (fd := ⟨ "model", 3, 0, false, "", "vitrine/space", 0⟩) rfl rfl rfl rfl rfl ⟨rfl, rfl⟩)⟩⟩, fun _ => ⟨rfl, rfl, rfl, .inl ⟨rfl, (o_ld (b := b1) (off := 0) (v := (.int .i64 p1.model)) rfl rm2 rfl rfl ⟨rfl, rfl⟩)⟩⟩, fun _ => ⟨rfl, rfl, rfl, .inl ⟨rfl, (o_p (v := (.bool (p0.model == p1.model))) rfl ⟨rfl, rfl⟩)⟩⟩, fun _ => ⟨rfl, rfl, rfl, .inl ⟨rfl, (o_p rfl ⟨rfl, rfl⟩)⟩⟩, trivial⟩, rfl, .inl ⟨rfl, rfl, ?_⟩⟩
          have hd := Option.some.inj h
          subst hd
          exact ej () X1208 ⟨(Rd.ext hs1204 hx1209), hs1210, (Ext.trans hx1203 hx1209)⟩ (sc rfl sn) (kc rm0 (kc rm0 (kc rm0 kr)))
      · replace h := cond_f hb1212 h
        refine c_draw (n := 1) (q := [(21, 35, undef), (22, 36, undef), (23, 37, undef), (24, 38, undef), (25, 39, undef), (26, 40, undef), (27, 41, undef), (28, 42, undef), (29, 43, undef), (30, 44, (.bool false)), (31, 45, (.bool false)), (32, 46, undef), (33, 47, undef), (34, 48, undef), (35, 49, undef), (36, 50, undef), (37, 51, undef), (38, 52, undef), (39, 53, undef), (40, 54, undef), (41, 55, (.bool false)), (42, 4, (.bool false)), (10, 24, (.pointer (some ⟨b0, 0, none⟩))), (11, 25, (.pointer (some ⟨b0, 0, none⟩))), (12, 26, (.pointer (some ⟨b0, 1, none⟩))), (13, 27, (.bool p0.alternate)), (14, 28, (.pointer (some ⟨b1, 0, none⟩))), (15, 29, (.pointer (some ⟨b1, 0, none⟩))), (16, 30, (.pointer (some ⟨b1, 1, none⟩))), (17, 31, (.bool p1.alternate)), (18, 32, (.bool (p0.alternate == p1.alternate))), (19, 33, (.bool (p0.alternate == p1.alternate))), (20, 34, (.bool (p0.alternate == p1.alternate))), (0, 14, (.pointer (some ⟨b0, 0, none⟩))), (1, 15, (.pointer (some ⟨b0, 0, none⟩))), (2, 16, (.pointer (some ⟨b0, 0, none⟩))), (3, 17, (.int .i64 p0.model)), (4, 18, (.pointer (some ⟨b1, 0, none⟩))), (5, 19, (.pointer (some ⟨b1, 0, none⟩))), (6, 20, (.pointer (some ⟨b1, 0, none⟩))), (7, 21, (.int .i64 p1.model)), (8, 22, (.bool (p0.model == p1.model))), (9, 23, (.bool (p0.model == p1.model)))]) (pend := [0, 1, 2, 3, 4, 5, 6, 7, 8, 9, 10, 11, 12, 13, 14, 15, 16, 17, 18, 19, 20, 21, 22, 23, 24, 25, 26, 27, 28, 29, 30, 31, 32, 33, 34, 35, 36, 37, 38, 39, 40, 41, 42]) rfl rfl rfl ?_
        refine ⟨⟨fun _ => ⟨rfl, rfl, rfl, .inr ⟨_, _, _, _, rfl, rfl, rfl, .inr ⟨hb1212, rfl⟩⟩⟩, fun _ => ⟨rfl, rfl, rfl, .inr ⟨_, _, _, _, rfl, rfl, rfl, .inr ⟨hb1212, rfl⟩⟩⟩, fun _ => ⟨rfl, rfl, rfl, .inr ⟨_, _, _, _, rfl, rfl, rfl, .inr ⟨hb1212, rfl⟩⟩⟩, fun _ => ⟨rfl, rfl, rfl, .inr ⟨_, _, _, _, rfl, rfl, rfl, .inr ⟨hb1212, rfl⟩⟩⟩, fun _ => ⟨rfl, rfl, rfl, .inr ⟨_, _, _, _, rfl, rfl, rfl, .inr ⟨hb1212, rfl⟩⟩⟩, fun _ => ⟨rfl, rfl, rfl, .inr ⟨_, _, _, _, rfl, rfl, rfl, .inr ⟨hb1212, rfl⟩⟩⟩, fun _ => ⟨rfl, rfl, rfl, .inr ⟨_, _, _, _, rfl, rfl, rfl, .inr ⟨hb1212, rfl⟩⟩⟩, fun _ => ⟨rfl, rfl, rfl, .inr ⟨_, _, _, _, rfl, rfl, rfl, .inr ⟨hb1212, rfl⟩⟩⟩, fun _ => ⟨rfl, rfl, rfl, .inr ⟨_, _, _, _, rfl, rfl, rfl, .inr ⟨hb1212, rfl⟩⟩⟩, fun _ => ⟨rfl, rfl, rfl, .inl ⟨rfl, (o_pick_f rfl hb1212 rfl ⟨rfl, rfl⟩)⟩⟩, fun _ => ⟨rfl, rfl, rfl, .inl ⟨rfl, (o_p rfl ⟨rfl, rfl⟩)⟩⟩, fun _ => ⟨rfl, rfl, rfl, .inr ⟨_, _, _, _, rfl, rfl, rfl, .inr ⟨rfl, rfl⟩⟩⟩, fun _ => ⟨rfl, rfl, rfl, .inr ⟨_, _, _, _, rfl, rfl, rfl, .inr ⟨rfl, rfl⟩⟩⟩, fun _ => ⟨rfl, rfl, rfl, .inr ⟨_, _, _, _, rfl, rfl, rfl, .inr ⟨rfl, rfl⟩⟩⟩, fun _ => ⟨rfl, rfl, rfl, .inr ⟨_, _, _, _, rfl, rfl, rfl, .inr ⟨rfl, rfl⟩⟩⟩, fun _ => ⟨rfl, rfl, rfl, .inr ⟨_, _, _, _, rfl, rfl, rfl, .inr ⟨rfl, rfl⟩⟩⟩, fun _ => ⟨rfl, rfl, rfl, .inr ⟨_, _, _, _, rfl, rfl, rfl, .inr ⟨rfl, rfl⟩⟩⟩, fun _ => ⟨rfl, rfl, rfl, .inr ⟨_, _, _, _, rfl, rfl, rfl, .inr ⟨rfl, rfl⟩⟩⟩, fun _ => ⟨rfl, rfl, rfl, .inr ⟨_, _, _, _, rfl, rfl, rfl, .inr ⟨rfl, rfl⟩⟩⟩, fun _ => ⟨rfl, rfl, rfl, .inr ⟨_, _, _, _, rfl, rfl, rfl, .inr ⟨rfl, rfl⟩⟩⟩, fun _ => ⟨rfl, rfl, rfl, .inl ⟨rfl, (o_pick_f rfl rfl rfl ⟨rfl, rfl⟩)⟩⟩, fun _ => ⟨rfl, rfl, rfl, .inl ⟨rfl, (o_p rfl ⟨rfl, rfl⟩)⟩⟩, fun _ => ⟨rfl, rfl, rfl, .inr ⟨_, _, _, _, rfl, rfl, rfl, .inl ⟨hb1211, (o_p rfl ⟨rfl, rfl⟩)⟩⟩⟩, fun _ => ⟨rfl, rfl, rfl, .inr ⟨_, _, _, _, rfl, rfl, rfl, .inl ⟨hb1211, (o_p rfl ⟨rfl, rfl⟩)⟩⟩⟩, fun _ => ⟨rfl, rfl, rfl, .inr ⟨_, _, _, _, rfl, rfl, rfl, .inl ⟨hb1211, (o_fa (fd := ⟨ "alternate", 4, 1, false, "", "vitrine/space", 8⟩) rfl rfl rfl rfl rfl ⟨rfl, rfl⟩)⟩⟩⟩, fun _ => ⟨rfl, rfl, rfl, .inr ⟨_, _, _, _, rfl, rfl, rfl, .inl ⟨hb1211, (o_ld (b := b0) (off := 1) (v := (.bool p0.alternate)) rfl rm1 rfl rfl ⟨rfl, rfl⟩)⟩⟩⟩, fun _ => ⟨rfl, rfl, rfl, .inr ⟨_, _, _, _, rfl, rfl, rfl, .inl ⟨hb1211, (o_p rfl ⟨rfl, rfl⟩)⟩⟩⟩, fun _ => ⟨rfl, rfl, rfl, .inr ⟨_, _, _, _, rfl, rfl, rfl, .inl ⟨hb1211, (o_p rfl ⟨rfl, rfl⟩)⟩⟩⟩, fun _ => ⟨rfl, rfl, rfl, .inr ⟨_, _, _, _, rfl, rfl, rfl, .inl ⟨hb1211, (o_fa (fd := ⟨ "alternate", 4, 1, false, "", "vitrine/space", 8⟩) rfl rfl rfl rfl rfl ⟨rfl, rfl⟩)⟩⟩⟩, fun _ => ⟨rfl, rfl, rfl, .inr ⟨_, _, _, _, rfl, rfl, rfl, .inl ⟨hb1211, (o_ld (b := b1) (off := 1) (v := (.bool p1.alternate)) rfl rm2 rfl rfl ⟨rfl, rfl⟩)⟩⟩⟩, fun _ => ⟨rfl, rfl, rfl, .inr ⟨_, _, _, _, rfl, rfl, rfl, .inl ⟨hb1211, (o_p (v := (.bool (p0.alternate == p1.alternate))) rfl ⟨rfl, rfl⟩)⟩⟩⟩, fun _ => ⟨rfl, rfl, rfl, .inl ⟨rfl, (o_pick_t rfl hb1211 rfl ⟨rfl, rfl⟩)⟩⟩, fun _ => ⟨rfl, rfl, rfl, .inl ⟨rfl, (o_p rfl ⟨rfl, rfl⟩)⟩⟩, fun _ => ⟨rfl, rfl, rfl, .inl ⟨rfl, (o_p rfl ⟨rfl, rfl⟩)⟩⟩, fun _ => ⟨rfl, rfl, rfl, .inl ⟨rfl, (o_p rfl ⟨rfl, rfl⟩)⟩⟩, fun _ => ⟨rfl, rfl, rfl, .inl ⟨rfl, (o_fa (fd := ⟨ "model", 3, 0, false, "", "vitrine/space", 0⟩) rfl rfl rfl rfl rfl ⟨rfl, rfl⟩)⟩⟩, fun _ => ⟨rfl, rfl, rfl, .inl ⟨rfl, (o_ld (b := b0) (off := 0) (v := (.int .i64 p0.model)) rfl rm1 rfl rfl ⟨rfl, rfl⟩)⟩⟩, fun _ => ⟨rfl, rfl, rfl, .inl ⟨rfl, (o_p rfl ⟨rfl, rfl⟩)⟩⟩, fun _ => ⟨rfl, rfl, rfl, .inl ⟨rfl, (o_p rfl ⟨rfl, rfl⟩)⟩⟩, fun _ => ⟨rfl, rfl, rfl, .inl ⟨rfl, (o_fa (fd := ⟨ "model", 3, 0, false, "", "vitrine/space", 0⟩) rfl rfl rfl rfl rfl ⟨rfl, rfl⟩)⟩⟩, fun _ => ⟨rfl, rfl, rfl, .inl ⟨rfl, (o_ld (b := b1) (off := 0) (v := (.int .i64 p1.model)) rfl rm2 rfl rfl ⟨rfl, rfl⟩)⟩⟩, fun _ => ⟨rfl, rfl, rfl, .inl ⟨rfl, (o_p (v := (.bool (p0.model == p1.model))) rfl ⟨rfl, rfl⟩)⟩⟩, fun _ => ⟨rfl, rfl, rfl, .inl ⟨rfl, (o_p rfl ⟨rfl, rfl⟩)⟩⟩, trivial⟩, rfl, .inl ⟨rfl, rfl, ?_⟩⟩
        have hd := Option.some.inj h
        subst hd
        exact ej () X1208 ⟨(Rd.ext hs1204 hx1209), hs1210, (Ext.trans hx1203 hx1209)⟩ (sc rfl sn) (kc rm0 (kc rm0 (kc rm0 kr)))
    · replace h := cond_f hb1211 h
      refine c_draw (n := 1) (q := [(10, 24, undef), (11, 25, undef), (12, 26, undef), (13, 27, undef), (14, 28, undef), (15, 29, undef), (16, 30, undef), (17, 31, undef), (18, 32, undef), (19, 33, (.bool false)), (20, 34, (.bool false)), (21, 35, undef), (22, 36, undef), (23, 37, undef), (24, 38, undef), (25, 39, undef), (26, 40, undef), (27, 41, undef), (28, 42, undef), (29, 43, undef), (30, 44, (.bool false)), (31, 45, (.bool false)), (32, 46, undef), (33, 47, undef), (34, 48, undef), (35, 49, undef), (36, 50, undef), (37, 51, undef), (38, 52, undef), (39, 53, undef), (40, 54, undef), (41, 55, (.bool false)), (42, 4, (.bool false)), (0, 14, (.pointer (some ⟨b0, 0, none⟩))), (1, 15, (.pointer (some ⟨b0, 0, none⟩))), (2, 16, (.pointer (some ⟨b0, 0, none⟩))), (3, 17, (.int .i64 p0.model)), (4, 18, (.pointer (some ⟨b1, 0, none⟩))), (5, 19, (.pointer (some ⟨b1, 0, none⟩))), (6, 20, (.pointer (some ⟨b1, 0, none⟩))), (7, 21, (.int .i64 p1.model)), (8, 22, (.bool (p0.model == p1.model))), (9, 23, (.bool (p0.model == p1.model)))]) (pend := [0, 1, 2, 3, 4, 5, 6, 7, 8, 9, 10, 11, 12, 13, 14, 15, 16, 17, 18, 19, 20, 21, 22, 23, 24, 25, 26, 27, 28, 29, 30, 31, 32, 33, 34, 35, 36, 37, 38, 39, 40, 41, 42]) rfl rfl rfl ?_
      refine ⟨⟨fun _ => ⟨rfl, rfl, rfl, .inr ⟨_, _, _, _, rfl, rfl, rfl, .inr ⟨hb1211, rfl⟩⟩⟩, fun _ => ⟨rfl, rfl, rfl, .inr ⟨_, _, _, _, rfl, rfl, rfl, .inr ⟨hb1211, rfl⟩⟩⟩, fun _ => ⟨rfl, rfl, rfl, .inr ⟨_, _, _, _, rfl, rfl, rfl, .inr ⟨hb1211, rfl⟩⟩⟩, fun _ => ⟨rfl, rfl, rfl, .inr ⟨_, _, _, _, rfl, rfl, rfl, .inr ⟨hb1211, rfl⟩⟩⟩, fun _ => ⟨rfl, rfl, rfl, .inr ⟨_, _, _, _, rfl, rfl, rfl, .inr ⟨hb1211, rfl⟩⟩⟩, fun _ => ⟨rfl, rfl, rfl, .inr ⟨_, _, _, _, rfl, rfl, rfl, .inr ⟨hb1211, rfl⟩⟩⟩, fun _ => ⟨rfl, rfl, rfl, .inr ⟨_, _, _, _, rfl, rfl, rfl, .inr ⟨hb1211, rfl⟩⟩⟩, fun _ => ⟨rfl, rfl, rfl, .inr ⟨_, _, _, _, rfl, rfl, rfl, .inr ⟨hb1211, rfl⟩⟩⟩, fun _ => ⟨rfl, rfl, rfl, .inr ⟨_, _, _, _, rfl, rfl, rfl, .inr ⟨hb1211, rfl⟩⟩⟩, fun _ => ⟨rfl, rfl, rfl, .inl ⟨rfl, (o_pick_f rfl hb1211 rfl ⟨rfl, rfl⟩)⟩⟩, fun _ => ⟨rfl, rfl, rfl, .inl ⟨rfl, (o_p rfl ⟨rfl, rfl⟩)⟩⟩, fun _ => ⟨rfl, rfl, rfl, .inr ⟨_, _, _, _, rfl, rfl, rfl, .inr ⟨rfl, rfl⟩⟩⟩, fun _ => ⟨rfl, rfl, rfl, .inr ⟨_, _, _, _, rfl, rfl, rfl, .inr ⟨rfl, rfl⟩⟩⟩, fun _ => ⟨rfl, rfl, rfl, .inr ⟨_, _, _, _, rfl, rfl, rfl, .inr ⟨rfl, rfl⟩⟩⟩, fun _ => ⟨rfl, rfl, rfl, .inr ⟨_, _, _, _, rfl, rfl, rfl, .inr ⟨rfl, rfl⟩⟩⟩, fun _ => ⟨rfl, rfl, rfl, .inr ⟨_, _, _, _, rfl, rfl, rfl, .inr ⟨rfl, rfl⟩⟩⟩, fun _ => ⟨rfl, rfl, rfl, .inr ⟨_, _, _, _, rfl, rfl, rfl, .inr ⟨rfl, rfl⟩⟩⟩, fun _ => ⟨rfl, rfl, rfl, .inr ⟨_, _, _, _, rfl, rfl, rfl, .inr ⟨rfl, rfl⟩⟩⟩, fun _ => ⟨rfl, rfl, rfl, .inr ⟨_, _, _, _, rfl, rfl, rfl, .inr ⟨rfl, rfl⟩⟩⟩, fun _ => ⟨rfl, rfl, rfl, .inr ⟨_, _, _, _, rfl, rfl, rfl, .inr ⟨rfl, rfl⟩⟩⟩, fun _ => ⟨rfl, rfl, rfl, .inl ⟨rfl, (o_pick_f rfl rfl rfl ⟨rfl, rfl⟩)⟩⟩, fun _ => ⟨rfl, rfl, rfl, .inl ⟨rfl, (o_p rfl ⟨rfl, rfl⟩)⟩⟩, fun _ => ⟨rfl, rfl, rfl, .inr ⟨_, _, _, _, rfl, rfl, rfl, .inr ⟨rfl, rfl⟩⟩⟩, fun _ => ⟨rfl, rfl, rfl, .inr ⟨_, _, _, _, rfl, rfl, rfl, .inr ⟨rfl, rfl⟩⟩⟩, fun _ => ⟨rfl, rfl, rfl, .inr ⟨_, _, _, _, rfl, rfl, rfl, .inr ⟨rfl, rfl⟩⟩⟩, fun _ => ⟨rfl, rfl, rfl, .inr ⟨_, _, _, _, rfl, rfl, rfl, .inr ⟨rfl, rfl⟩⟩⟩, fun _ => ⟨rfl, rfl, rfl, .inr ⟨_, _, _, _, rfl, rfl, rfl, .inr ⟨rfl, rfl⟩⟩⟩, fun _ => ⟨rfl, rfl, rfl, .inr ⟨_, _, _, _, rfl, rfl, rfl, .inr ⟨rfl, rfl⟩⟩⟩, fun _ => ⟨rfl, rfl, rfl, .inr ⟨_, _, _, _, rfl, rfl, rfl, .inr ⟨rfl, rfl⟩⟩⟩, fun _ => ⟨rfl, rfl, rfl, .inr ⟨_, _, _, _, rfl, rfl, rfl, .inr ⟨rfl, rfl⟩⟩⟩, fun _ => ⟨rfl, rfl, rfl, .inr ⟨_, _, _, _, rfl, rfl, rfl, .inr ⟨rfl, rfl⟩⟩⟩, fun _ => ⟨rfl, rfl, rfl, .inl ⟨rfl, (o_pick_f rfl rfl rfl ⟨rfl, rfl⟩)⟩⟩, fun _ => ⟨rfl, rfl, rfl, .inl ⟨rfl, (o_p rfl ⟨rfl, rfl⟩)⟩⟩, fun _ => ⟨rfl, rfl, rfl, .inl ⟨rfl, (o_p rfl ⟨rfl, rfl⟩)⟩⟩, fun _ => ⟨rfl, rfl, rfl, .inl ⟨rfl, (o_p rfl ⟨rfl, rfl⟩)⟩⟩, fun _ => ⟨rfl, rfl, rfl, .inl ⟨rfl, (o_fa (fd := ⟨ "model", 3, 0, false, "", "vitrine/space", 0⟩) rfl rfl rfl rfl rfl ⟨rfl, rfl⟩)⟩⟩, fun _ => ⟨rfl, rfl, rfl, .inl ⟨rfl, (o_ld (b := b0) (off := 0) (v := (.int .i64 p0.model)) rfl rm1 rfl rfl ⟨rfl, rfl⟩)⟩⟩, fun _ => ⟨rfl, rfl, rfl, .inl ⟨rfl, (o_p rfl ⟨rfl, rfl⟩)⟩⟩, fun _ => ⟨rfl, rfl, rfl, .inl ⟨rfl, (o_p rfl ⟨rfl, rfl⟩)⟩⟩, fun _ => ⟨rfl, rfl, rfl, .inl ⟨rfl, (o_fa (fd := ⟨ "model", 3, 0, false, "", "vitrine/space", 0⟩) rfl rfl rfl rfl rfl ⟨rfl, rfl⟩)⟩⟩, fun _ => ⟨rfl, rfl, rfl, .inl ⟨rfl, (o_ld (b := b1) (off := 0) (v := (.int .i64 p1.model)) rfl rm2 rfl rfl ⟨rfl, rfl⟩)⟩⟩, fun _ => ⟨rfl, rfl, rfl, .inl ⟨rfl, (o_p (v := (.bool (p0.model == p1.model))) rfl ⟨rfl, rfl⟩)⟩⟩, fun _ => ⟨rfl, rfl, rfl, .inl ⟨rfl, (o_p rfl ⟨rfl, rfl⟩)⟩⟩, trivial⟩, rfl, .inl ⟨rfl, rfl, ?_⟩⟩
      have hd := Option.some.inj h
      subst hd
      exact ej () X1208 ⟨(Rd.ext hs1204 hx1209), hs1210, (Ext.trans hx1203 hx1209)⟩ (sc rfl sn) (kc rm0 (kc rm0 (kc rm0 kr)))
  · rintro _ i2 ⟨f2_0, f2_1, f2_2⟩
    replace h := hk2
    clear hk2
    refine e_seq ?_
    refine c_ret ?_
    refine e_ret ?_
    refine r_endt rfl rfl (kc rm0 (kc rm0 (kc rm0 kr))) ?_
    have hr := Option.some.inj h
    subst hr
    exact hk i2 f2_0 f2_1 f2_2

theorem c_space_Space_Alternate {g : Gw} (hg : GK g) (X : HP) (p0 : Vspace_Space) (b0 : Nat) (s0 : SV) (q0 : Rd X s0 42 en_Vapi_Cell p0.cells) (r : Bool) (h : m_space_Space_Alternate p0 = some r) : Tri env g 24 (List.toArray [(.pointer (some ⟨b0, 0, none⟩))]) [X, blk b0 (.cells (List.toArray [(.int .i64 p0.model), (.bool p0.alternate), (.int .i64 p0.size.Rows), (.int .i64 p0.size.Cols), (SV.val s0), (.int .i64 p0.cursor), (.int .i64 p0.attrs)]) 76 (0, 0))] (fun K R => K (.bool r) (X :: blk b0 (.cells (List.toArray [(.int .i64 p0.model), (.bool p0.alternate), (.int .i64 p0.size.Rows), (.int .i64 p0.size.Cols), (SV.val s0), (.int .i64 p0.cursor), (.int .i64 p0.attrs)]) 76 (0, 0)) :: R)) := by
  refine tri_of (fn := Tryd.f24) (N := 11) Tryd.func24 rfl rfl rfl ?_
  intro R K hk
  unfold m_space_Space_Alternate at h
  change GC _ none _ [] [(0, (.pointer (some ⟨b0, 0, none⟩)))] (X :: blk b0 (.cells (List.toArray [(.int .i64 p0.model), (.bool p0.alternate), (.int .i64 p0.size.Rows), (.int .i64 p0.size.Cols), (SV.val s0), (.int .i64 p0.cursor), (.int .i64 p0.attrs)]) 76 (0, 0)) :: R) g _ _
  refine c_seq ?_
  refine c_region ?_
  refine o1 rfl (o_p rfl ?_)
  refine o_end ?_
  refine e_seq ?_
  refine c_seq ?_
  refine c_region ?_
  refine o1 rfl (o_p rfl ?_)
  refine o1 rfl (o_p (v := (.bool true)) rfl ?_)
  refine o1 rfl (o_p rfl ?_)
  refine oy rfl rfl rfl rfl (o_p rfl ?_)
  refine oy rfl rfl rfl rfl (o_p rfl ?_)
  refine oy rfl rfl rfl rfl (o_fa (fd := ⟨ "alternate", 4, 1, false, "", "vitrine/space", 8⟩) rfl rfl rfl rfl rfl ?_)
  refine oy rfl rfl rfl rfl (o_ld (b := b0) (off := 1) (v := (.bool p0.alternate)) rfl rm1 rfl rfl ?_)
  refine o1 rfl (o_pick_t rfl rfl rfl ?_)
  refine o1 rfl (o_p rfl ?_)
  refine o_end ?_
  refine e_seq ?_
  refine c_ret ?_
  refine e_ret ?_
  refine r_endt rfl rfl (kc rm0 (kc rm0 kr)) ?_
  have hr := Option.some.inj h
  subst hr
  exact hk

theorem c_vitrinelaw17_WriteAgain {g : Gw} (hg : GK g) (X : HP) (p0 : Int) (p1 : List Vvitrineref12_Act) (s0 : SV) (q0r : RdN X s0 66 en_Vvitrineref12_Act D_Vvitrineref12_Act p1) (p2 : List Vvitrineref12_Act) (s1 : SV) (q1r : RdN X s1 66 en_Vvitrineref12_Act D_Vvitrineref12_Act p2) (p3 : List Int) (s2 : SV) (q2 : Rd X s2 5 (enI .u8) p3) (p4 : Bool) (r : Bool) (h : m_vitrinelaw17_WriteAgain p0 p1 p2 p3 p4 = some r) : Tri env g 5 (List.toArray [(.int .u8 p0), (SV.val s0), (SV.val s1), (SV.val s2), (.bool p4)]) [X] (fun K R => ∀ (i0 : HP), (Ext X i0) → K (.bool r) (i0 :: R)) := by
  refine tri_of (fn := Tryd.f5) (N := 71) Tryd.func5 rfl rfl rfl ?_
  intro R K hk
  obtain ⟨L_q0, q0, n_q0⟩ := q0r
  obtain ⟨L_q1, q1, n_q1⟩ := q1r
  unfold m_vitrinelaw17_WriteAgain at h
  change GC _ none _ [] [(0, (.int .u8 p0)), (1, (SV.val s0)), (2, (SV.val s1)), (3, (SV.val s2)), (4, (.bool p4))] (X :: R) g _ _
  refine c_seq ?_
  refine c_region ?_
  refine o1 rfl (o_p rfl ?_)
  refine o_end ?_
  refine e_seq ?_
  refine c_seq ?_
  refine c_seq ?_
  refine c_region ?_
  replace h := bsome h
  obtain ⟨d1, h1, h⟩ := h
  refine o1 rfl (o_call has6 rfl (c_vitrinelaw17_awake hg X _ h1) (pc rm0 pn) (fun i1 f1_0 => ?_))
  refine o1 rfl (o_p (v := (.bool (!d1))) rfl ?_)
  refine o_end ?_
  refine e_seq ?_
  refine c_cond (b := (!d1)) rfl (fun hb1163 => ?_) (fun hb1163 => ?_)
  · replace h := cond_t hb1163 h
    refine c_seq ?_
    refine c_region ?_
    refine o1 rfl (o_p rfl ?_)
    refine o_end ?_
    refine e_seq ?_
    refine c_ret ?_
    refine e_then_ret ?_
    refine e_ret ?_
    refine r_endt rfl rfl (kc rm0 kr) ?_
    have hr := Option.some.inj h
    subst hr
    exact hk i1 f1_0
  · replace h := cond_f hb1163 h
    refine c_skip ?_
    refine e_seq ?_
    refine c_seq ?_
    refine c_region ?_
    refine o1 rfl (o_p rfl ?_)
    refine o1 rfl (o_p rfl ?_)
    replace h := bsome h
    obtain ⟨d4, h4, h⟩ := h
    refine o1 rfl (o_call has7 rfl (c_vitrinelaw17_lay hg i1 p0 p1 s0 ⟨_, (Rd.ext q0 f1_0), (NL.mono n_q0 (D_Vvitrineref12_Act.ext f1_0))⟩ _ h4) (pc rm0 pn) (fun i4 => ?_))
    refine o1 rfl (o_p rfl ?_)
    refine o1 rfl (o_p rfl ?_)
    refine o1 rfl (o_p rfl ?_)
    refine o1 rfl (o_p rfl ?_)
    refine o1 rfl (o_p rfl ?_)
    refine o_end ?_
    refine e_seq ?_
    refine c_seq ?_
    refine c_region ?_
    refine o1 rfl (o_p rfl ?_)
    refine o1 rfl (o_p rfl ?_)
    replace h := bsome h
    obtain ⟨d6, h6, h⟩ := h
    refine o1 rfl (o_call has7 rfl (c_vitrinelaw17_lay hg i1 p0 p2 s1 ⟨_, (Rd.ext q1 f1_0), (NL.mono n_q1 (D_Vvitrineref12_Act.ext f1_0))⟩ _ h6) (pc rm0 pn) (fun i6 => ?_))
    refine o1 rfl (o_p rfl ?_)
    refine o1 rfl (o_p rfl ?_)
    refine o1 rfl (o_p rfl ?_)
    refine o1 rfl (o_p rfl ?_)
    refine o1 rfl (o_p rfl ?_)
    refine o_end ?_
    refine e_seq ?_
    refine c_seq ?_
    refine c_region ?_
    refine o1 rfl (o_p rfl ?_)
    refine o_end ?_
    refine e_seq ?_
    refine c_seq ?_
    refine c_seq ?_
    refine c_region ?_
    refine o1 rfl (o_p rfl ?_)
    refine o_end ?_
    refine e_seq ?_
    replace h := bsome h
    obtain ⟨d7, h, hk7⟩ := h
    refine cj (D := Unit) (ι := Unit) (fun _ i7 => True) (fun _ i7 => [(15, (.int .u8 d7)), (13, (.pointer (some ⟨i6.1, 0, none⟩))), (11, (.pointer (some ⟨i4.1, 0, none⟩))), (3, (SV.val s2)), (4, (.bool p4))]) (fun _ i7 => i1 :: blk i6.1 (.cells (List.toArray [(.int .i64 d6.1.model), (.bool d6.1.alternate), (.int .i64 d6.1.size.Rows), (.int .i64 d6.1.size.Cols), (SV.val i6.2.1), (.int .i64 d6.1.cursor), (.int .i64 d6.1.attrs)]) 76 (0, 0)) :: blk i4.1 (.cells (List.toArray [(.int .i64 d4.1.model), (.bool d4.1.alternate), (.int .i64 d4.1.size.Rows), (.int .i64 d4.1.size.Cols), (SV.val i4.2.1), (.int .i64 d4.1.cursor), (.int .i64 d4.1.attrs)]) 76 (0, 0)) :: slO i6.2.1 42 en_Vapi_Cell d6.1.cells :: slO i4.2.1 42 en_Vapi_Cell d4.1.cells :: R) ?_ ?_
    · refine c_cond (b := p4) rfl (fun hb1172 => ?_) (fun hb1172 => ?_)
      · replace h := cond_t hb1172 h
        refine c_region ?_
        refine o1 rfl (o_p rfl ?_)
        refine o_end ?_
        have hd := Option.some.inj h
        subst hd
        exact ej () () trivial (sc rfl (sc rfl (sc rfl (sc rfl (sc rfl sn))))) (kc rm0 (kc rm0 (kc rm3 (kc rm0 (kc rm2 (kd (kd (kd (kd kr)))))))))
      · replace h := cond_f hb1172 h
        refine c_skip ?_
        have hd := Option.some.inj h
        subst hd
        exact ej () () trivial (sc rfl (sc rfl (sc rfl (sc rfl (sc rfl sn))))) (kc rm0 (kc rm0 (kc rm3 (kc rm0 (kc rm2 (kd (kd (kd (kd kr)))))))))
    · rintro _ i7 _
      replace h := hk7
      clear hk7
      refine e_seq ?_
      refine c_seq ?_
      refine c_region ?_
      refine o1 rfl (o_p rfl ?_)
      refine o1 rfl (o_bs (e := (enI .u8)) (l := [d7]) (zs := [(.int .u8 0)]) rfl rfl rfl rfl rfl rfl rfl rfl rfl rfl (fun s1173 => ?_))
      refine o1 rfl (o_p rfl ?_)
      replace h := bsome h
      obtain ⟨d8, h8, h⟩ := h
      refine o1 rfl (o_call has14 rfl (c_vitrineref01_Cut hg i1 p3 s2 (Rd.ext q2 f1_0) 400 _ h8) (pc rm1 pn) (fun i8 => ?_))
      replace h := gsome h
      obtain ⟨hg1176, h⟩ := h
      refine o1 rfl (o_app (s := s1173) (r := i8) (e := (enI .u8)) (l := [d7]) (l2 := d8) (zs := [(.int .u8 0)]) rfl rfl rfl rfl rfl rfl rfl rfl rfl rfl rfl rm2 rm1 (rd_own _ _ _ _) hg1176 (fun s1177 => ?_))
      refine o1 rfl (o_p rfl ?_)
      refine o_end ?_
      refine e_seq ?_
      refine c_seq ?_
      refine c_region ?_
      refine o1 rfl (o_p rfl ?_)
      refine o1 rfl (o_p rfl ?_)
      refine o_fz rm0 rm0 (fun X1179 hx1180 hs1181 => ?_)
      replace h := bsome h
      obtain ⟨d9, h9, h⟩ := h
      refine o1 rfl (o_call has8 rfl (c_write_Run hg X1179 (⟨d4.1.model, d4.1.alternate, d4.1.size, d4.1.cells, d4.1.cursor, d4.1.attrs⟩ : Vspace_Space) i4.1 i4.2.1 ([d7] ++ d8) s1177 hs1181 _ h9) (pc rm0 (pc rm2 (pc rm3 pn))) (fun i9 f9_0 f9_1 => ?_))
      refine o1 rfl (o_p rfl ?_)
      refine o1 rfl (o_p rfl ?_)
      refine o1 rfl (o_p rfl ?_)
      refine o1 rfl (o_alloc (cs := [(.int .i64 0), (.bool false), (.bool false), (.bool false), (.int .i64 0), (SV.val SV.nil)]) rfl rfl (fun b1183 => ?_))
      refine o0 (o_st (b := b1183) (off := 0) (vs := [(.int .i64 d9.2.1.Command), (.bool d9.2.1.Restore), (.bool d9.2.1.Alarm), (.bool d9.2.1.Reset), (.int .i64 d9.2.1.Pieces), (SV.val i9.2.2)]) (cs' := [(.int .i64 d9.2.1.Command), (.bool d9.2.1.Restore), (.bool d9.2.1.Alarm), (.bool d9.2.1.Reset), (.int .i64 d9.2.1.Pieces), (SV.val i9.2.2)]) rfl rfl rp0 rfl rfl rfl rfl rfl rfl ?_)
      refine o1 rfl (o_p rfl ?_)
      refine o_end ?_
      refine e_seq ?_
      refine c_seq ?_
      refine c_region ?_
      refine o1 rfl (o_p rfl ?_)
      refine o1 rfl (o_p rfl ?_)
      replace h := bsome h
      obtain ⟨d10, h10, h⟩ := h
      refine o1 rfl (o_call has8 rfl (c_write_Run hg i9.1 (⟨d6.1.model, d6.1.alternate, d6.1.size, d6.1.cells, d6.1.cursor, d6.1.attrs⟩ : Vspace_Space) i6.1 i6.2.1 ([d7] ++ d8) s1177 (Rd.ext hs1181 f9_1) _ h10) (pc rm1 (pc rm4 (pc rm4 pn))) (fun i10 f10_0 f10_1 => ?_))
      refine o1 rfl (o_p rfl ?_)
      refine o1 rfl (o_p rfl ?_)
      refine o1 rfl (o_p rfl ?_)
      refine o1 rfl (o_alloc (cs := [(.int .i64 0), (.bool false), (.bool false), (.bool false), (.int .i64 0), (SV.val SV.nil)]) rfl rfl (fun b1186 => ?_))
      refine o0 (o_st (b := b1186) (off := 0) (vs := [(.int .i64 d10.2.1.Command), (.bool d10.2.1.Restore), (.bool d10.2.1.Alarm), (.bool d10.2.1.Reset), (.int .i64 d10.2.1.Pieces), (SV.val i10.2.2)]) (cs' := [(.int .i64 d10.2.1.Command), (.bool d10.2.1.Restore), (.bool d10.2.1.Alarm), (.bool d10.2.1.Reset), (.int .i64 d10.2.1.Pieces), (SV.val i10.2.2)]) rfl rfl rp0 rfl rfl rfl rfl rfl rfl ?_)
      refine o1 rfl (o_p rfl ?_)
      refine o_end ?_
      refine e_seq ?_
      refine c_seq ?_
      replace h := bsome h
      obtain ⟨d11, h, hk11⟩ := h
      refine cj (D := Unit) (ι := HP) (fun _ i11 => Ext X i11) (fun _ i11 => [(10, (.bool d11))]) (fun _ i11 => i11 :: R) ?_ ?_
      · refine c_region ?_
        refine o1 rfl (o_ld (b := b1183) (off := 0) (v := (.agg (List.toArray [(.int .i64 d9.2.1.Command), (.bool d9.2.1.Restore), (.bool d9.2.1.Alarm), (.bool d9.2.1.Reset), (.int .i64 d9.2.1.Pieces), (SV.val i9.2.2)]))) rfl rm4 rfl rfl ?_)
        refine o1 rfl (o_ld (b := b1186) (off := 0) (v := (.agg (List.toArray [(.int .i64 d10.2.1.Command), (.bool d10.2.1.Restore), (.bool d10.2.1.Alarm), (.bool d10.2.1.Reset), (.int .i64 d10.2.1.Pieces), (SV.val i10.2.2)]))) rfl rm0 rfl rfl ?_)
        replace h := bsome h
        obtain ⟨d12, h12, h⟩ := h
        refine o1 rfl (o_call has22 rfl (c_vitrineref17_Same hg i10.1 (⟨d9.2.1.Command, d9.2.1.Restore, d9.2.1.Alarm, d9.2.1.Reset, d9.2.1.Pieces, d9.2.1.Fields⟩ : Vvitrineref17_Result) i9.2.2 (Rd.ext f9_0 f10_1) (⟨d10.2.1.Command, d10.2.1.Restore, d10.2.1.Alarm, d10.2.1.Reset, d10.2.1.Pieces, d10.2.1.Fields⟩ : Vvitrineref17_Result) i10.2.2 f10_0 _ h12) (pc rm1 pn) ?_)
        refine o1 rfl (o_p rfl ?_)
        rcases bool_or (d12) with hb1197 | hb1197
        · replace h := cond_t hb1197 h
          refine oy rfl rfl rfl hb1197 (o_p rfl ?_)
          refine oy rfl rfl rfl hb1197 (o_p rfl ?_)
          refine oy rfl rfl rfl hb1197 (o_p (v := (.bool (d9.2.2 == d10.2.2))) rfl ?_)
          refine o1 rfl (o_pick_t rfl hb1197 rfl ?_)
          refine o1 rfl (o_p rfl ?_)
          rcases bool_or ((d9.2.2 == d10.2.2)) with hb1198 | hb1198
          · replace h := cond_t hb1198 h
            refine oy rfl rfl rfl hb1198 (o_p rfl ?_)
            refine oy rfl rfl rfl hb1198 (o_p rfl ?_)
            replace h := bsome h
            obtain ⟨d13, h13, h⟩ := h
            refine oy rfl rfl rfl hb1198 (o_call has23 rfl (c_space_Space_Same hg i10.1 (⟨d9.1.model, d9.1.alternate, d9.1.size, d9.1.cells, d9.1.cursor, d9.1.attrs⟩ : Vspace_Space) i4.1 i9.2.1 (⟨d10.1.model, d10.1.alternate, d10.1.size, d10.1.cells, d10.1.cursor, d10.1.attrs⟩ : Vspace_Space) i6.1 i10.2.1 _ h13) (pc rm0 (pc rm4 (pc rm4 (pc rm1 (pc rm1 pn))))) (fun i13 f13_0 f13_1 f13_2 => ?_))
            refine o1 rfl (o_pick_t rfl hb1198 rfl ?_)
            refine o1 rfl (o_p rfl ?_)
            rcases bool_or (d13.2.2) with hb1227 | hb1227
            · replace h := cond_t hb1227 h
              refine oy rfl rfl rfl hb1227 (o_p rfl ?_)
              replace h := bsome h
              obtain ⟨d14, h14, h⟩ := h
              refine oy rfl rfl rfl hb1227 (o_call has24 rfl (c_space_Space_Alternate hg i13 d13.1 i4.1 i9.2.1 f13_0 _ h14) (pc rm0 (pc rm0 pn)) ?_)
              refine oy rfl rfl rfl hb1227 (o_p rfl ?_)
              refine oy rfl rfl rfl hb1227 (o_p (v := (.bool (d14 == p4))) rfl ?_)
              refine o1 rfl (o_pick_t rfl hb1227 rfl ?_)
              refine o1 rfl (o_p rfl ?_)
              refine o_end ?_
              have hd := Option.some.inj h
              subst hd
              exact ej () i13 (Ext.trans (Ext.trans (Ext.trans (Ext.trans f1_0 hx1180) f9_1) f10_1) f13_2) (sc rfl sn) (kc rm0 (kd (kd (kd (kd (kd kr))))))
            · replace h := cond_f hb1227 h
              refine on rfl rfl rfl hb1227 ?_
              refine on rfl rfl rfl hb1227 ?_
              refine on rfl rfl rfl hb1227 ?_
              refine on rfl rfl rfl hb1227 ?_
              refine o1 rfl (o_pick_f rfl hb1227 rfl ?_)
              refine o1 rfl (o_p rfl ?_)
              refine o_end ?_
              have hd := Option.some.inj h
              subst hd
              exact ej () i13 (Ext.trans (Ext.trans (Ext.trans (Ext.trans f1_0 hx1180) f9_1) f10_1) f13_2) (sc rfl sn) (kc rm0 (kd (kd (kd (kd (kd kr))))))
          · replace h := cond_f hb1198 h
            refine on rfl rfl rfl hb1198 ?_
            refine on rfl rfl rfl hb1198 ?_
            refine on rfl rfl rfl hb1198 ?_
            refine o1 rfl (o_pick_f rfl hb1198 rfl ?_)
            refine o1 rfl (o_p rfl ?_)
            refine on rfl rfl rfl rfl ?_
            refine on rfl rfl rfl rfl ?_
            refine on rfl rfl rfl rfl ?_
            refine on rfl rfl rfl rfl ?_
            refine o1 rfl (o_pick_f rfl rfl rfl ?_)
            refine o1 rfl (o_p rfl ?_)
            refine o_end ?_
            have hd := Option.some.inj h
            subst hd
            exact ej () i10.1 (Ext.trans (Ext.trans (Ext.trans f1_0 hx1180) f9_1) f10_1) (sc rfl sn) (kc rm0 (kd (kd (kd (kd (kd (kd (kd kr))))))))
        · replace h := cond_f hb1197 h
          refine on rfl rfl rfl hb1197 ?_
          refine on rfl rfl rfl hb1197 ?_
          refine on rfl rfl rfl hb1197 ?_
          refine o1 rfl (o_pick_f rfl hb1197 rfl ?_)
          refine o1 rfl (o_p rfl ?_)
          refine on rfl rfl rfl rfl ?_
          refine on rfl rfl rfl rfl ?_
          refine on rfl rfl rfl rfl ?_
          refine o1 rfl (o_pick_f rfl rfl rfl ?_)
          refine o1 rfl (o_p rfl ?_)
          refine on rfl rfl rfl rfl ?_
          refine on rfl rfl rfl rfl ?_
          refine on rfl rfl rfl rfl ?_
          refine on rfl rfl rfl rfl ?_
          refine o1 rfl (o_pick_f rfl rfl rfl ?_)
          refine o1 rfl (o_p rfl ?_)
          refine o_end ?_
          have hd := Option.some.inj h
          subst hd
          exact ej () i10.1 (Ext.trans (Ext.trans (Ext.trans f1_0 hx1180) f9_1) f10_1) (sc rfl sn) (kc rm0 (kd (kd (kd (kd (kd (kd (kd kr))))))))
      · rintro _ i11 f11_0
        replace h := hk11
        clear hk11
        refine e_seq ?_
        refine c_ret ?_
        refine e_ret ?_
        refine r_endt rfl rfl (kc rm0 kr) ?_
        have hr := Option.some.inj h
        subst hr
        exact hk i11 f11_0

end Go.Vt
