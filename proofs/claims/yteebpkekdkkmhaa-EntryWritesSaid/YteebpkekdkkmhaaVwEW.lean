/- The walks: each function does what its model says. No conditions. -/
import Derived.Test.YteebpkekdkkmhaaVwEWa
set_option linter.unusedVariables false
set_option maxRecDepth 100000
set_option maxHeartbeats 4000000
namespace Go.Vt
open Go.Proofs
theorem c_order_Op_Bytes {g : Gw} (X : HP) (p0 : Vorder_Op) (s0 : SV) (q0 : Rd X s0 196 en_Vattr_Pair p0.Pairs) (s1 : SV) (q1 : Rd X s1 5 (enI .u8) p0.Text) (r : (List Int) × Int) (h : m_order_Op_Bytes p0 = some r) : Tri env g 95 (List.toArray [(.agg (List.toArray [(.int .i64 p0.Kind), (.int .i64 p0.Addr), (.int .u8 p0.Code), (.bool p0.Graph), (.int .u8 p0.FA), (SV.val s0), (SV.val s1)]))]) [X] (fun K R => ∀ (i0 : SV), K (.tuple (List.toArray [(SV.val i0), (.int .i64 r.2)])) (X :: slO i0 5 (enI .u8) r.1 :: R)) := by
  refine tri_of (fn := Try.f95) (N := 118) Try.func95 rfl rfl rfl ?_
  intro R K hk
  unfold m_order_Op_Bytes at h
  change GC _ none _ [] [(0, (.agg (List.toArray [(.int .i64 p0.Kind), (.int .i64 p0.Addr), (.int .u8 p0.Code), (.bool p0.Graph), (.int .u8 p0.FA), (SV.val s0), (SV.val s1)])))] (X :: R) g _ _
  refine c_seq ?_
  refine c_region ?_
  refine o1 rfl (o_box (cs := [(.int .i64 p0.Kind), (.int .i64 p0.Addr), (.int .u8 p0.Code), (.bool p0.Graph), (.int .u8 p0.FA), (SV.val s0), (SV.val s1)]) rfl rfl (fun b471 => ?_))
  refine o1 rfl (o_p rfl ?_)
  refine o1 rfl (o_p rfl ?_)
  refine o_end ?_
  refine e_seq ?_
  refine c_seq ?_
  refine c_region ?_
  refine o1 rfl (o_fa (fd := ⟨ "Kind", 3, 0, false, "", "", 0⟩) rfl rfl rfl rfl rfl ?_)
  refine o1 rfl (o_ld (b := b471) (off := 0) (v := (.int .i64 p0.Kind)) rfl rm0 rfl rfl ?_)
  refine o1 rfl (o_p (v := (.int .u8 (IntKind.wrap .u8 (p0.Kind)))) rfl ?_)
  refine o1 rfl (o_p rfl ?_)
  refine o_end ?_
  refine e_seq ?_
  refine c_seq ?_
  refine c_seq ?_
  refine c_region ?_
  refine o1 rfl (o_fa (fd := ⟨ "Kind", 3, 0, false, "", "", 0⟩) rfl rfl rfl rfl rfl ?_)
  refine o1 rfl (o_ld (b := b471) (off := 0) (v := (.int .i64 p0.Kind)) rfl rm0 rfl rfl ?_)
  refine o_end ?_
  refine e_seq ?_
  refine c_block ?_
  refine c_seq ?_
  refine c_region ?_
  refine o1 rfl (o_p (v := (.bool (p0.Kind == 0))) rfl ?_)
  refine o1 rfl (o_p rfl ?_)
  refine o_end ?_
  refine e_seq ?_
  refine c_cond (b := (p0.Kind == 0)) rfl (fun hb473 => ?_) (fun hb473 => ?_)
  · replace h := cond_t hb473 h
    refine c_seq ?_
    refine c_seq ?_
    replace h := bsome h
    obtain ⟨d3, h, hk3⟩ := h
    refine cj (D := Unit) (ι := Unit) (fun _ i3 => True) (fun _ i3 => [(22, (.bool d3)), (1, (.pointer (some ⟨b471, 0, none⟩)))]) (fun _ i3 => X :: blk b471 (.cells (List.toArray [(.int .i64 p0.Kind), (.int .i64 p0.Addr), (.int .u8 p0.Code), (.bool p0.Graph), (.int .u8 p0.FA), (SV.val s0), (SV.val s1)]) 115 (0, 0)) :: R) ?_ ?_
    · refine c_region ?_
      refine o1 rfl (o_fa (fd := ⟨ "Text", 31, 6, false, "", "", 48⟩) rfl rfl rfl rfl rfl ?_)
      refine o1 rfl (o_ld (b := b471) (off := 6) (v := (SV.val s1)) rfl rm0 rfl rfl ?_)
      refine o1 rfl (o_len (s := s1) rfl rfl rfl rm1 q1 ?_)
      refine o1 rfl (o_p (v := (.bool ((p0.Text.length : Int) == 0))) rfl ?_)
      refine o1 rfl (o_p rfl ?_)
      rcases bool_or (((p0.Text.length : Int) == 0)) with hb474 | hb474
      · replace h := cond_t hb474 h
        refine on rfl rfl rfl hb474 ?_
        refine on rfl rfl rfl hb474 ?_
        refine on rfl rfl rfl hb474 ?_
        refine o1 rfl (o_pick_t rfl hb474 rfl ?_)
        refine o_end ?_
        have hd := Option.some.inj h
        subst hd
        exact ej () () trivial (sc rfl (sc rfl sn)) (kc rm1 (kc rm0 kr))
      · replace h := cond_f hb474 h
        refine oy rfl rfl rfl hb474 (o_fa (fd := ⟨ "Text", 31, 6, false, "", "", 48⟩) rfl rfl rfl rfl rfl ?_)
        refine oy rfl rfl rfl hb474 (o_ld (b := b471) (off := 6) (v := (SV.val s1)) rfl rm0 rfl rfl ?_)
        replace h := bsome h
        obtain ⟨d4, h4, h⟩ := h
        refine oy rfl rfl rfl hb474 (o_call has116 rfl (c_slices_ContainsFunc X p0.Text s1 q1 _ h4) (pc rm1 pn) ?_)
        refine o1 rfl (o_pick_f rfl hb474 rfl ?_)
        refine o_end ?_
        have hd := Option.some.inj h
        subst hd
        exact ej () () trivial (sc rfl (sc rfl sn)) (kc rm0 (kc rm0 kr))
    · rintro _ i3 _
      replace h := hk3
      clear hk3
      refine e_seq ?_
      refine c_cond (b := d3) rfl (fun hb484 => ?_) (fun hb484 => ?_)
      · replace h := cond_t hb484 h
        refine c_seq ?_
        refine c_region ?_
        refine o1 rfl (o_p rfl ?_)
        refine o1 rfl (o_p rfl ?_)
        refine o_end ?_
        refine e_seq ?_
        refine c_ret ?_
        refine e_then_ret ?_
        refine e_blk_ret ?_
        refine e_then_ret ?_
        refine e_ret ?_
        refine r_add (slO SV.nil 5 (enI .u8) []) (slO_nil _ _ _) ?_
        refine r_endt rfl rfl (kc rm1 (kc rm0 (kd kr))) ?_
        have hr := Option.some.inj h
        subst hr
        exact hk SV.nil
      · replace h := cond_f hb484 h
        refine c_skip ?_
        refine e_seq ?_
        refine c_seq ?_
        refine c_region ?_
        refine o1 rfl (o_fa (fd := ⟨ "Text", 31, 6, false, "", "", 48⟩) rfl rfl rfl rfl rfl ?_)
        refine o1 rfl (o_ld (b := b471) (off := 6) (v := (SV.val s1)) rfl rm1 rfl rfl ?_)
        replace h := bsome h
        obtain ⟨d6, h6, h⟩ := h
        refine o1 rfl (o_call has117 rfl (c_bytes_Clone X p0.Text s1 q1 _ h6) (pc rm0 pn) (fun i6 => ?_))
        refine o1 rfl (o_p rfl ?_)
        refine o1 rfl (o_p rfl ?_)
        refine o_end ?_
        refine e_seq ?_
        refine c_ret ?_
        refine e_blk_ret ?_
        refine e_then_ret ?_
        refine e_ret ?_
        refine r_endt rfl rfl (kc rm0 (kc rm0 (kd kr))) ?_
        have hr := Option.some.inj h
        subst hr
        exact hk i6
  · replace h := cond_f hb473 h
    refine c_seq ?_
    refine c_seq ?_
    refine c_region ?_
    refine o1 rfl (o_p (v := (.bool (p0.Kind == 19))) rfl ?_)
    refine o1 rfl (o_p rfl ?_)
    refine o_end ?_
    refine e_seq ?_
    replace h := bsome h
    obtain ⟨d7, h, hk7⟩ := h
    refine cj (D := Unit) (ι := Unit) (fun _ i7 => True) (fun _ i7 => [(26, (.bool d7)), (11, (.int .i64 p0.Kind)), (4, (.int .u8 (IntKind.wrap .u8 (p0.Kind)))), (1, (.pointer (some ⟨b471, 0, none⟩)))]) (fun _ i7 => X :: blk b471 (.cells (List.toArray [(.int .i64 p0.Kind), (.int .i64 p0.Addr), (.int .u8 p0.Code), (.bool p0.Graph), (.int .u8 p0.FA), (SV.val s0), (SV.val s1)]) 115 (0, 0)) :: R) ?_ ?_
    · refine c_cond (b := (p0.Kind == 19)) rfl (fun hb486 => ?_) (fun hb486 => ?_)
      · replace h := cond_t hb486 h
        refine c_skip ?_
        have hd := Option.some.inj h
        subst hd
        exact ej () () trivial (sc rfl (sc rfl (sc rfl (sc rfl sn)))) (kc rm1 (kc rm0 kr))
      · replace h := cond_f hb486 h
        refine c_region ?_
        refine o1 rfl (o_p (v := (.bool (p0.Kind == 5))) rfl ?_)
        refine o1 rfl (o_p rfl ?_)
        refine o_end ?_
        have hd := Option.some.inj h
        subst hd
        exact ej () () trivial (sc rfl (sc rfl (sc rfl (sc rfl sn)))) (kc rm1 (kc rm0 kr))
    · rintro _ i7 _
      replace h := hk7
      clear hk7
      refine e_seq ?_
      refine c_cond (b := d7) rfl (fun hb487 => ?_) (fun hb487 => ?_)
      · replace h := cond_t hb487 h
        refine c_seq ?_
        refine c_region ?_
        refine o1 rfl (o_p rfl ?_)
        refine o1 rfl (o_bs (e := (enI .u8)) (l := [IntKind.wrap .u8 (p0.Kind)]) (zs := [(.int .u8 0)]) rfl rfl rfl rfl rfl rfl rfl rfl rfl rfl (fun s488 => ?_))
        refine o1 rfl (o_p rfl ?_)
        refine o1 rfl (o_p rfl ?_)
        refine o_end ?_
        refine e_seq ?_
        refine c_ret ?_
        refine e_blk_ret ?_
        refine e_then_ret ?_
        refine e_ret ?_
        refine r_endt rfl rfl (kc rm1 (kc rm0 (kd kr))) ?_
        have hr := Option.some.inj h
        subst hr
        exact hk s488
      · replace h := cond_f hb487 h
        refine c_seq ?_
        refine c_region ?_
        refine o1 rfl (o_p (v := (.bool (p0.Kind == 29))) rfl ?_)
        refine o1 rfl (o_p rfl ?_)
        refine o_end ?_
        refine e_seq ?_
        refine c_cond (b := (p0.Kind == 29)) rfl (fun hb490 => ?_) (fun hb490 => ?_)
        · replace h := cond_t hb490 h
          refine c_seq ?_
          refine c_region ?_
          refine o1 rfl (o_p rfl ?_)
          refine o1 rfl (o_fa (fd := ⟨ "FA", 5, 4, false, "", "", 18⟩) rfl rfl rfl rfl rfl ?_)
          refine o1 rfl (o_ld (b := b471) (off := 4) (v := (.int .u8 p0.FA)) rfl rm1 rfl rfl ?_)
          refine o1 rfl (o_bs (e := (enI .u8)) (l := [IntKind.wrap .u8 (p0.Kind), p0.FA]) (zs := [(.int .u8 0)]) rfl rfl rfl rfl rfl rfl rfl rfl rfl rfl (fun s491 => ?_))
          refine o1 rfl (o_p rfl ?_)
          refine o1 rfl (o_p rfl ?_)
          refine o_end ?_
          refine e_seq ?_
          refine c_ret ?_
          refine e_blk_ret ?_
          refine e_then_ret ?_
          refine e_ret ?_
          refine r_endt rfl rfl (kc rm1 (kc rm0 (kd kr))) ?_
          have hr := Option.some.inj h
          subst hr
          exact hk s491
        · replace h := cond_f hb490 h
          refine c_seq ?_
          refine c_region ?_
          refine o1 rfl (o_p (v := (.bool (p0.Kind == 8))) rfl ?_)
          refine o1 rfl (o_p rfl ?_)
          refine o_end ?_
          refine e_seq ?_
          refine c_cond (b := (p0.Kind == 8)) rfl (fun hb493 => ?_) (fun hb493 => ?_)
          · replace h := cond_t hb493 h
            refine c_seq ?_
            refine c_seq ?_
            refine c_region ?_
            refine o1 rfl (o_fa (fd := ⟨ "Code", 5, 2, false, "", "", 16⟩) rfl rfl rfl rfl rfl ?_)
            refine o1 rfl (o_ld (b := b471) (off := 2) (v := (.int .u8 p0.Code)) rfl rm1 rfl rfl ?_)
            replace h := bsome h
            obtain ⟨d8, h8, h⟩ := h
            refine o1 rfl (o_call has104 rfl (c_order_Is X p0.Code _ h8) (pc rm0 pn) ?_)
            refine o_end ?_
            refine e_seq ?_
            refine c_cond (b := d8) rfl (fun hb494 => ?_) (fun hb494 => ?_)
            · replace h := cond_t hb494 h
              refine c_seq ?_
              refine c_region ?_
              refine o1 rfl (o_p rfl ?_)
              refine o1 rfl (o_p rfl ?_)
              refine o_end ?_
              refine e_seq ?_
              refine c_ret ?_
              refine e_then_ret ?_
              refine e_blk_ret ?_
              refine e_then_ret ?_
              refine e_ret ?_
              refine r_add (slO SV.nil 5 (enI .u8) []) (slO_nil _ _ _) ?_
              refine r_endt rfl rfl (kc rm1 (kc rm0 (kd kr))) ?_
              have hr := Option.some.inj h
              subst hr
              exact hk SV.nil
            · replace h := cond_f hb494 h
              refine c_skip ?_
              refine e_seq ?_
              refine c_seq ?_
              refine c_region ?_
              refine o1 rfl (o_p rfl ?_)
              refine o1 rfl (o_fa (fd := ⟨ "Code", 5, 2, false, "", "", 16⟩) rfl rfl rfl rfl rfl ?_)
              refine o1 rfl (o_ld (b := b471) (off := 2) (v := (.int .u8 p0.Code)) rfl rm1 rfl rfl ?_)
              refine o1 rfl (o_bs (e := (enI .u8)) (l := [IntKind.wrap .u8 (p0.Kind), p0.Code]) (zs := [(.int .u8 0)]) rfl rfl rfl rfl rfl rfl rfl rfl rfl rfl (fun s495 => ?_))
              refine o1 rfl (o_p rfl ?_)
              refine o1 rfl (o_p rfl ?_)
              refine o_end ?_
              refine e_seq ?_
              refine c_ret ?_
              refine e_blk_ret ?_
              refine e_then_ret ?_
              refine e_ret ?_
              refine r_endt rfl rfl (kc rm1 (kc rm0 (kd kr))) ?_
              have hr := Option.some.inj h
              subst hr
              exact hk s495
          · replace h := cond_f hb493 h
            refine c_seq ?_
            refine c_seq ?_
            refine c_region ?_
            refine o1 rfl (o_p (v := (.bool (p0.Kind == 17))) rfl ?_)
            refine o1 rfl (o_p rfl ?_)
            refine o_end ?_
            refine e_seq ?_
            replace h := bsome h
            obtain ⟨d10, h, hk10⟩ := h
            refine cj (D := Unit) (ι := Unit) (fun _ i10 => True) (fun _ i10 => [(46, (.bool d10)), (11, (.int .i64 p0.Kind)), (4, (.int .u8 (IntKind.wrap .u8 (p0.Kind)))), (1, (.pointer (some ⟨b471, 0, none⟩)))]) (fun _ i10 => X :: blk b471 (.cells (List.toArray [(.int .i64 p0.Kind), (.int .i64 p0.Addr), (.int .u8 p0.Code), (.bool p0.Graph), (.int .u8 p0.FA), (SV.val s0), (SV.val s1)]) 115 (0, 0)) :: R) ?_ ?_
            · refine c_cond (b := (p0.Kind == 17)) rfl (fun hb497 => ?_) (fun hb497 => ?_)
              · replace h := cond_t hb497 h
                refine c_skip ?_
                have hd := Option.some.inj h
                subst hd
                exact ej () () trivial (sc rfl (sc rfl (sc rfl (sc rfl sn)))) (kc rm0 (kc rm0 kr))
              · replace h := cond_f hb497 h
                refine c_region ?_
                refine o1 rfl (o_p (v := (.bool (p0.Kind == 18))) rfl ?_)
                refine o1 rfl (o_p rfl ?_)
                refine o_end ?_
                have hd := Option.some.inj h
                subst hd
                exact ej () () trivial (sc rfl (sc rfl (sc rfl (sc rfl sn)))) (kc rm0 (kc rm0 kr))
            · rintro _ i10 _
              replace h := hk10
              clear hk10
              refine e_seq ?_
              refine c_cond (b := d10) rfl (fun hb498 => ?_) (fun hb498 => ?_)
              · replace h := cond_t hb498 h
                refine c_seq ?_
                refine c_region ?_
                refine o1 rfl (o_p rfl ?_)
                refine o1 rfl (o_fa (fd := ⟨ "Addr", 3, 1, false, "", "", 8⟩) rfl rfl rfl rfl rfl ?_)
                refine o1 rfl (o_ld (b := b471) (off := 1) (v := (.int .i64 p0.Addr)) rfl rm1 rfl rfl ?_)
                replace h := bsome h
                obtain ⟨d11, h11, h⟩ := h
                refine o1 rfl (o_call has118 rfl (c_order_place X (IntKind.wrap .u8 (p0.Kind)) p0.Addr _ h11) (pc rm0 pn) (fun i11 => ?_))
                refine o1 rfl (o_p rfl ?_)
                refine o1 rfl (o_p rfl ?_)
                refine o1 rfl (o_p rfl ?_)
                refine o1 rfl (o_p rfl ?_)
                refine o_end ?_
                refine e_seq ?_
                refine c_ret ?_
                refine e_blk_ret ?_
                refine e_then_ret ?_
                refine e_ret ?_
                refine r_endt rfl rfl (kc rm0 (kc rm0 (kd kr))) ?_
                have hr := Option.some.inj h
                subst hr
                exact hk i11
              · replace h := cond_f hb498 h
                refine c_seq ?_
                refine c_region ?_
                refine o1 rfl (o_p (v := (.bool (p0.Kind == 60))) rfl ?_)
                refine o1 rfl (o_p rfl ?_)
                refine o_end ?_
                refine e_seq ?_
                refine c_cond (b := (p0.Kind == 60)) rfl (fun hb509 => ?_) (fun hb509 => ?_)
                · replace h := cond_t hb509 h
                  refine c_seq ?_
                  refine c_region ?_
                  refine o1 rfl (o_p rfl ?_)
                  refine o1 rfl (o_fa (fd := ⟨ "Addr", 3, 1, false, "", "", 8⟩) rfl rfl rfl rfl rfl ?_)
                  refine o1 rfl (o_ld (b := b471) (off := 1) (v := (.int .i64 p0.Addr)) rfl rm1 rfl rfl ?_)
                  replace h := bsome h
                  obtain ⟨d12, h12, h⟩ := h
                  refine o1 rfl (o_call has118 rfl (c_order_place X (IntKind.wrap .u8 (p0.Kind)) p0.Addr _ h12) (pc rm0 pn) (fun i12 => ?_))
                  refine o1 rfl (o_p rfl ?_)
                  refine o1 rfl (o_p rfl ?_)
                  refine o1 rfl (o_p rfl ?_)
                  refine o1 rfl (o_p rfl ?_)
                  refine o1 rfl (o_p rfl ?_)
                  refine o_end ?_
                  refine e_seq ?_
                  refine c_seq ?_
                  refine c_block ?_
                  refine c_seq ?_
                  refine c_region ?_
                  refine o1 rfl (o_p rfl ?_)
                  refine o1 rfl (o_p (v := (.bool (d12.2 != 0))) rfl ?_)
                  refine o1 rfl (o_p rfl ?_)
                  refine o_end ?_
                  refine e_seq ?_
                  replace h := jn_some h
                  obtain ⟨y14, h, hk14⟩ := h
                  refine cj (D := (List Int)) (ι := SV) (fun d14 i14 => y14 = Sum.inl d14) (fun d14 i14 => [(5, (SV.val i14)), (1, (.pointer (some ⟨b471, 0, none⟩)))]) (fun d14 i14 => X :: slO i14 5 (enI .u8) d14 :: blk b471 (.cells (List.toArray [(.int .i64 p0.Kind), (.int .i64 p0.Addr), (.int .u8 p0.Code), (.bool p0.Graph), (.int .u8 p0.FA), (SV.val s0), (SV.val s1)]) 115 (0, 0)) :: R) ?_ ?_
                  · refine c_cond (b := (d12.2 != 0)) rfl (fun hb511 => ?_) (fun hb511 => ?_)
                    · replace h := cond_t hb511 h
                      refine c_seq ?_
                      refine c_region ?_
                      refine o1 rfl (o_p rfl ?_)
                      refine o1 rfl (o_p rfl ?_)
                      refine o1 rfl (o_p rfl ?_)
                      refine o_end ?_
                      refine e_seq ?_
                      refine c_ret ?_
                      refine ej_ret ?_
                      replace h := esc_some h
                      obtain ⟨z14, h, rfl⟩ := h
                      obtain rfl := (hk14 : z14 = _)
                      refine e_blk_ret ?_
                      refine e_then_ret ?_
                      refine e_blk_ret ?_
                      refine e_then_ret ?_
                      refine e_ret ?_
                      refine r_add (slO SV.nil 5 (enI .u8) []) (slO_nil _ _ _) ?_
                      refine r_endt rfl rfl (kc rm1 (kc rm0 (kd (kd kr)))) ?_
                      have hr := Option.some.inj h
                      subst hr
                      exact hk SV.nil
                    · replace h := cond_f hb511 h
                      refine c_seq ?_
                      refine c_region ?_
                      refine o1 rfl (o_fa (fd := ⟨ "Code", 5, 2, false, "", "", 16⟩) rfl rfl rfl rfl rfl ?_)
                      refine o1 rfl (o_ld (b := b471) (off := 2) (v := (.int .u8 p0.Code)) rfl rm2 rfl rfl ?_)
                      replace h := bsome h
                      obtain ⟨d15, h15, h⟩ := h
                      refine o1 rfl (o_call has104 rfl (c_order_Is X p0.Code _ h15) (pc rm0 pn) ?_)
                      refine o1 rfl (o_p rfl ?_)
                      refine o_end ?_
                      refine e_seq ?_
                      refine c_cond (b := d15) rfl (fun hb512 => ?_) (fun hb512 => ?_)
                      · replace h := cond_t hb512 h
                        refine c_seq ?_
                        refine c_region ?_
                        refine o1 rfl (o_p rfl ?_)
                        refine o1 rfl (o_p rfl ?_)
                        refine o_end ?_
                        refine e_seq ?_
                        refine c_ret ?_
                        refine ej_ret ?_
                        replace h := esc_some h
                        obtain ⟨z14, h, rfl⟩ := h
                        obtain rfl := (hk14 : z14 = _)
                        refine e_blk_ret ?_
                        refine e_then_ret ?_
                        refine e_blk_ret ?_
                        refine e_then_ret ?_
                        refine e_ret ?_
                        refine r_add (slO SV.nil 5 (enI .u8) []) (slO_nil _ _ _) ?_
                        refine r_endt rfl rfl (kc rm1 (kc rm0 (kd (kd kr)))) ?_
                        have hr := Option.some.inj h
                        subst hr
                        exact hk SV.nil
                      · replace h := cond_f hb512 h
                        refine c_seq ?_
                        refine c_region ?_
                        refine o1 rfl (o_fa (fd := ⟨ "Graph", 4, 3, false, "", "", 17⟩) rfl rfl rfl rfl rfl ?_)
                        refine o1 rfl (o_ld (b := b471) (off := 3) (v := (.bool p0.Graph)) rfl rm2 rfl rfl ?_)
                        refine o1 rfl (o_p rfl ?_)
                        refine o_end ?_
                        refine e_seq ?_
                        refine c_cond (b := p0.Graph) rfl (fun hb513 => ?_) (fun hb513 => ?_)
                        · replace h := cond_t hb513 h
                          refine c_region ?_
                          refine o1 rfl (o_p rfl ?_)
                          refine o1 rfl (o_bs (e := (enI .u8)) (l := [8]) (zs := [(.int .u8 0)]) rfl rfl rfl rfl rfl rfl rfl rfl rfl rfl (fun s514 => ?_))
                          replace h := gsome h
                          obtain ⟨hg516, h⟩ := h
                          refine o1 rfl (o_app (s := i12) (r := s514) (e := (enI .u8)) (l := d12.1) (l2 := [8]) (zs := [(.int .u8 0)]) rfl rfl rfl rfl rfl rfl rfl rfl rfl rfl rfl rm2 rm0 (rd_own _ _ _ _) hg516 (fun s517 => ?_))
                          refine o1 rfl (o_p rfl ?_)
                          refine o_end ?_
                          have hd := Option.some.inj h
                          subst hd
                          exact ej (d12.1 ++ [8]) s517 rfl (sc rfl (sc rfl sn)) (kc rm2 (kc rm0 (kc rm1 (kd kr))))
                        · replace h := cond_f hb513 h
                          refine c_skip ?_
                          have hd := Option.some.inj h
                          subst hd
                          exact ej d12.1 i12 rfl (sc rfl (sc rfl sn)) (kc rm0 (kc rm0 (kc rm0 kr)))
                  · rintro d14 i14 rfl
                    replace h := JK_inl hk14
                    clear hk14
                    refine e_blk ?_
                    refine e_seq ?_
                    refine c_seq ?_
                    refine c_region ?_
                    refine o1 rfl (o_p rfl ?_)
                    refine o1 rfl (o_fa (fd := ⟨ "Code", 5, 2, false, "", "", 16⟩) rfl rfl rfl rfl rfl ?_)
                    refine o1 rfl (o_ld (b := b471) (off := 2) (v := (.int .u8 p0.Code)) rfl rm2 rfl rfl ?_)
                    refine o1 rfl (o_bs (e := (enI .u8)) (l := [p0.Code]) (zs := [(.int .u8 0)]) rfl rfl rfl rfl rfl rfl rfl rfl rfl rfl (fun s520 => ?_))
                    replace h := gsome h
                    obtain ⟨hg522, h⟩ := h
                    refine o1 rfl (o_app (s := i14) (r := s520) (e := (enI .u8)) (l := d14) (l2 := [p0.Code]) (zs := [(.int .u8 0)]) rfl rfl rfl rfl rfl rfl rfl rfl rfl rfl rfl rm2 rm0 (rd_own _ _ _ _) hg522 (fun s523 => ?_))
                    refine o1 rfl (o_p rfl ?_)
                    refine o1 rfl (o_p rfl ?_)
                    refine o_end ?_
                    refine e_seq ?_
                    refine c_ret ?_
                    refine e_blk_ret ?_
                    refine e_then_ret ?_
                    refine e_ret ?_
                    refine r_endt rfl rfl (kc rm2 (kc rm0 (kd (kd kr)))) ?_
                    have hr := Option.some.inj h
                    subst hr
                    exact hk s523
                · replace h := cond_f hb509 h
                  refine c_seq ?_
                  refine c_region ?_
                  refine o1 rfl (o_p (v := (.bool (p0.Kind == 40))) rfl ?_)
                  refine o1 rfl (o_p rfl ?_)
                  refine o_end ?_
                  refine e_seq ?_
                  refine c_cond (b := (p0.Kind == 40)) rfl (fun hb525 => ?_) (fun hb525 => ?_)
                  · replace h := cond_t hb525 h
                    refine c_seq ?_
                    refine c_seq ?_
                    replace h := bsome h
                    obtain ⟨d16, h, hk16⟩ := h
                    refine cj (D := Unit) (ι := Unit) (fun _ i16 => True) (fun _ i16 => [(96, (.bool d16)), (4, (.int .u8 (IntKind.wrap .u8 (p0.Kind)))), (1, (.pointer (some ⟨b471, 0, none⟩)))]) (fun _ i16 => X :: blk b471 (.cells (List.toArray [(.int .i64 p0.Kind), (.int .i64 p0.Addr), (.int .u8 p0.Code), (.bool p0.Graph), (.int .u8 p0.FA), (SV.val s0), (SV.val s1)]) 115 (0, 0)) :: R) ?_ ?_
                    · refine c_region ?_
                      refine o1 rfl (o_fa (fd := ⟨ "Pairs", 113, 5, false, "", "", 24⟩) rfl rfl rfl rfl rfl ?_)
                      refine o1 rfl (o_ld (b := b471) (off := 5) (v := (SV.val s0)) rfl rm1 rfl rfl ?_)
                      refine o1 rfl (o_len (s := s0) rfl rfl rfl rm0 q0 ?_)
                      refine o1 rfl (o_p (v := (.bool ((p0.Pairs.length : Int) != 1))) rfl ?_)
                      refine o1 rfl (o_p rfl ?_)
                      rcases bool_or (((p0.Pairs.length : Int) != 1)) with hb526 | hb526
                      · replace h := cond_t hb526 h
                        refine on rfl rfl rfl hb526 ?_
                        refine on rfl rfl rfl hb526 ?_
                        refine on rfl rfl rfl hb526 ?_
                        refine on rfl rfl rfl hb526 ?_
                        refine on rfl rfl rfl hb526 ?_
                        refine on rfl rfl rfl hb526 ?_
                        refine o1 rfl (o_pick_t rfl hb526 rfl ?_)
                        refine o_end ?_
                        have hd := Option.some.inj h
                        subst hd
                        exact ej () () trivial (sc rfl (sc rfl (sc rfl sn))) (kc rm0 (kc rm0 kr))
                      · replace h := cond_f hb526 h
                        refine oy rfl rfl rfl hb526 (o_fa (fd := ⟨ "Pairs", 113, 5, false, "", "", 24⟩) rfl rfl rfl rfl rfl ?_)
                        refine oy rfl rfl rfl hb526 (o_ld (b := b471) (off := 5) (v := (SV.val s0)) rfl rm1 rfl rfl ?_)
                        replace h := gsome h
                        obtain ⟨hg527, h⟩ := h
                        refine oy rfl rfl rfl hb526 (o_ix (s := s0) (n := 0) (e := en_Vattr_Pair) rfl rfl rfl rfl rfl rfl rm0 q0 hg527 ?_)
                        refine oy rfl rfl rfl hb526 (o_ldE (s := s0) (e := en_Vattr_Pair) (n := 0) (f := 0) (v := (.agg (List.toArray [(.int .u8 ((rd p0.Pairs 0).f_Type)), (.int .u8 ((rd p0.Pairs 0).Value))]))) rfl rm0 q0 hg527 rfl rfl ?_)
                        replace h := bsome h
                        obtain ⟨d17, h17, h⟩ := h
                        refine oy rfl rfl rfl hb526 (o_call has119 rfl (c_attr_Pair_Check X (rd p0.Pairs 0) _ h17) (pc rm0 pn) ?_)
                        refine oy rfl rfl rfl hb526 (o_p (v := (.bool (d17 != 0))) rfl ?_)
                        refine o1 rfl (o_pick_f rfl hb526 rfl ?_)
                        refine o_end ?_
                        have hd := Option.some.inj h
                        subst hd
                        exact ej () () trivial (sc rfl (sc rfl (sc rfl sn))) (kc rm0 (kc rm0 kr))
                    · rintro _ i16 _
                      replace h := hk16
                      clear hk16
                      refine e_seq ?_
                      refine c_cond (b := d16) rfl (fun hb528 => ?_) (fun hb528 => ?_)
                      · replace h := cond_t hb528 h
                        refine c_seq ?_
                        refine c_region ?_
                        refine o1 rfl (o_p rfl ?_)
                        refine o1 rfl (o_p rfl ?_)
                        refine o_end ?_
                        refine e_seq ?_
                        refine c_ret ?_
                        refine e_then_ret ?_
                        refine e_blk_ret ?_
                        refine e_then_ret ?_
                        refine e_ret ?_
                        refine r_add (slO SV.nil 5 (enI .u8) []) (slO_nil _ _ _) ?_
                        refine r_endt rfl rfl (kc rm1 (kc rm0 (kd kr))) ?_
                        have hr := Option.some.inj h
                        subst hr
                        exact hk SV.nil
                      · replace h := cond_f hb528 h
                        refine c_skip ?_
                        refine e_seq ?_
                        refine c_seq ?_
                        replace h := gsome h
                        obtain ⟨hg529, h⟩ := h
                        replace h := gsome h
                        obtain ⟨hg530, h⟩ := h
                        refine c_draw (n := 1) (q := [(0, 97, (.int .u8 (IntKind.wrap .u8 (p0.Kind)))), (1, 98, (.pointer (some ⟨b471, 5, none⟩))), (2, 99, (SV.val s0)), (3, 100, (.pointer (some ⟨SV.blk s0, SV.off s0 + Int.toNat 0 * 2, none⟩))), (4, 101, (.pointer (some ⟨SV.blk s0, SV.off s0 + Int.toNat 0 * 2, none⟩))), (5, 102, (.int .u8 ((rd p0.Pairs 0).f_Type))), (6, 103, (.pointer (some ⟨b471, 5, none⟩))), (7, 104, (SV.val s0)), (8, 105, (.pointer (some ⟨SV.blk s0, SV.off s0 + Int.toNat 0 * 2, none⟩))), (9, 106, (.pointer (some ⟨SV.blk s0, SV.off s0 + Int.toNat 0 * 2 + 1, none⟩))), (10, 107, (.int .u8 ((rd p0.Pairs 0).Value)))]) (pend := [0, 1, 2, 3, 4, 5, 6, 7, 8, 9, 10]) rfl rfl rfl ?_
                        refine ⟨⟨fun _ => ⟨rfl, rfl, rfl, .inl ⟨rfl, (o_p rfl ⟨rfl, rfl⟩)⟩⟩, fun _ => ⟨rfl, rfl, rfl, .inl ⟨rfl, (o_fa (fd := ⟨ "Pairs", 113, 5, false, "", "", 24⟩) rfl rfl rfl rfl rfl ⟨rfl, rfl⟩)⟩⟩, fun _ => ⟨rfl, rfl, rfl, .inl ⟨rfl, (o_ld (b := b471) (off := 5) (v := (SV.val s0)) rfl rm1 rfl rfl ⟨rfl, rfl⟩)⟩⟩, fun _ => ⟨rfl, rfl, rfl, .inl ⟨rfl, (o_ix (s := s0) (n := 0) (e := en_Vattr_Pair) rfl rfl rfl rfl rfl rfl rm0 q0 hg529 ⟨rfl, rfl⟩)⟩⟩, fun _ => ⟨rfl, rfl, rfl, .inl ⟨rfl, (o_fa (fd := ⟨ "Type", 5, 0, false, "", "", 0⟩) rfl rfl rfl rfl rfl ⟨rfl, rfl⟩)⟩⟩, fun _ => ⟨rfl, rfl, rfl, .inl ⟨rfl, (o_ldE (s := s0) (e := en_Vattr_Pair) (n := 0) (f := 0) (v := (.int .u8 ((rd p0.Pairs 0).f_Type))) rfl rm0 q0 hg529 rfl rfl ⟨rfl, rfl⟩)⟩⟩, fun _ => ⟨rfl, rfl, rfl, .inl ⟨rfl, (o_fa (fd := ⟨ "Pairs", 113, 5, false, "", "", 24⟩) rfl rfl rfl rfl rfl ⟨rfl, rfl⟩)⟩⟩, fun _ => ⟨rfl, rfl, rfl, .inl ⟨rfl, (o_ld (b := b471) (off := 5) (v := (SV.val s0)) rfl rm1 rfl rfl ⟨rfl, rfl⟩)⟩⟩, fun _ => ⟨rfl, rfl, rfl, .inl ⟨rfl, (o_ix (s := s0) (n := 0) (e := en_Vattr_Pair) rfl rfl rfl rfl rfl rfl rm0 q0 hg530 ⟨rfl, rfl⟩)⟩⟩, fun _ => ⟨rfl, rfl, rfl, .inl ⟨rfl, (o_fa (fd := ⟨ "Value", 5, 1, false, "", "", 1⟩) rfl rfl rfl rfl rfl ⟨rfl, rfl⟩)⟩⟩, fun _ => ⟨rfl, rfl, rfl, .inl ⟨rfl, (o_ldE (s := s0) (e := en_Vattr_Pair) (n := 0) (f := 1) (v := (.int .u8 ((rd p0.Pairs 0).Value))) rfl rm0 q0 hg530 rfl rfl ⟨rfl, rfl⟩)⟩⟩, trivial⟩, rfl, .inr ⟨[11], rfl, rfl, ⟨rfl, .inl rfl, ?_⟩, trivial⟩⟩
                        refine (o_bs (e := (enI .u8)) (l := [IntKind.wrap .u8 (p0.Kind), (rd p0.Pairs 0).f_Type, (rd p0.Pairs 0).Value]) (zs := [(.int .u8 0)]) rfl rfl rfl rfl rfl rfl rfl rfl rfl rfl (fun s531 => ?_))
                        refine ⟨[(12, 2, (SV.val s531)), (13, 3, (.int .i64 0))], [12, 13], rfl, rfl, rfl, rfl, ?_⟩
                        refine ⟨⟨fun _ => ⟨rfl, rfl, rfl, .inl ⟨rfl, (o_p rfl ⟨rfl, rfl⟩)⟩⟩, fun _ => ⟨rfl, rfl, rfl, .inl ⟨rfl, (o_p rfl ⟨rfl, rfl⟩)⟩⟩, (fun h => nomatch h), (fun h => nomatch h), (fun h => nomatch h), (fun h => nomatch h), (fun h => nomatch h), (fun h => nomatch h), (fun h => nomatch h), (fun h => nomatch h), (fun h => nomatch h), (fun h => nomatch h), (fun h => nomatch h), trivial⟩, rfl, rfl, rfl, ?_⟩
                        refine e_seq ?_
                        refine c_ret ?_
                        refine e_blk_ret ?_
                        refine e_then_ret ?_
                        refine e_ret ?_
                        refine r_endt rfl rfl (kc rm1 (kc rm0 (kd kr))) ?_
                        have hr := Option.some.inj h
                        subst hr
                        exact hk s531
                  · replace h := cond_f hb525 h
                    refine c_seq ?_
                    refine c_seq ?_
                    refine c_region ?_
                    refine o1 rfl (o_p (v := (.bool (p0.Kind == 41))) rfl ?_)
                    refine o1 rfl (o_p rfl ?_)
                    refine o_end ?_
                    refine e_seq ?_
                    replace h := bsome h
                    obtain ⟨d20, h, hk20⟩ := h
                    refine cj (D := Unit) (ι := Unit) (fun _ i20 => True) (fun _ i20 => [(109, (.bool d20)), (4, (.int .u8 (IntKind.wrap .u8 (p0.Kind)))), (1, (.pointer (some ⟨b471, 0, none⟩)))]) (fun _ i20 => X :: blk b471 (.cells (List.toArray [(.int .i64 p0.Kind), (.int .i64 p0.Addr), (.int .u8 p0.Code), (.bool p0.Graph), (.int .u8 p0.FA), (SV.val s0), (SV.val s1)]) 115 (0, 0)) :: R) ?_ ?_
                    · refine c_cond (b := (p0.Kind == 41)) rfl (fun hb533 => ?_) (fun hb533 => ?_)
                      · replace h := cond_t hb533 h
                        refine c_skip ?_
                        have hd := Option.some.inj h
                        subst hd
                        exact ej () () trivial (sc rfl (sc rfl (sc rfl sn))) (kc rm0 (kc rm0 kr))
                      · replace h := cond_f hb533 h
                        refine c_region ?_
                        refine o1 rfl (o_p (v := (.bool (p0.Kind == 44))) rfl ?_)
                        refine o1 rfl (o_p rfl ?_)
                        refine o_end ?_
                        have hd := Option.some.inj h
                        subst hd
                        exact ej () () trivial (sc rfl (sc rfl (sc rfl sn))) (kc rm0 (kc rm0 kr))
                    · rintro _ i20 _
                      replace h := hk20
                      clear hk20
                      refine e_seq ?_
                      refine c_cond (b := d20) rfl (fun hb534 => ?_) (fun hb534 => ?_)
                      · replace h := cond_t hb534 h
                        refine c_seq ?_
                        refine c_region ?_
                        refine o1 rfl (o_p rfl ?_)
                        refine o1 rfl (o_fa (fd := ⟨ "Pairs", 113, 5, false, "", "", 24⟩) rfl rfl rfl rfl rfl ?_)
                        refine o1 rfl (o_ld (b := b471) (off := 5) (v := (SV.val s0)) rfl rm1 rfl rfl ?_)
                        replace h := bsome h
                        obtain ⟨d21, h21, h⟩ := h
                        refine o1 rfl (o_call has120 rfl (c_order_looks X (IntKind.wrap .u8 (p0.Kind)) p0.Pairs s0 q0 _ h21) (pc rm0 pn) (fun i21 => ?_))
                        refine o1 rfl (o_p rfl ?_)
                        refine o1 rfl (o_p rfl ?_)
                        refine o1 rfl (o_p rfl ?_)
                        refine o1 rfl (o_p rfl ?_)
                        refine o_end ?_
                        refine e_seq ?_
                        refine c_ret ?_
                        refine e_blk_ret ?_
                        refine e_then_ret ?_
                        refine e_ret ?_
                        refine r_endt rfl rfl (kc rm0 (kc rm0 (kd kr))) ?_
                        have hr := Option.some.inj h
                        subst hr
                        exact hk i21
                      · replace h := cond_f hb534 h
                        refine c_skip ?_
                        refine e_blk ?_
                        refine e_seq ?_
                        refine c_seq ?_
                        refine c_region ?_
                        refine o1 rfl (o_p rfl ?_)
                        refine o1 rfl (o_p rfl ?_)
                        refine o_end ?_
                        refine e_seq ?_
                        refine c_ret ?_
                        refine e_ret ?_
                        refine r_add (slO SV.nil 5 (enI .u8) []) (slO_nil _ _ _) ?_
                        refine r_endt rfl rfl (kc rm1 (kc rm0 (kd kr))) ?_
                        have hr := Option.some.inj h
                        subst hr
                        exact hk SV.nil

theorem c_order_Bytes {g : Gw} (X : HP) (p0 : List Vorder_Op) (s0 : SV) (q0r : RdN X s0 115 en_Vorder_Op D_Vorder_Op p0) (r : (List Int) × Int) (h : m_order_Bytes p0 = some r) : Tri env g 61 (List.toArray [(SV.val s0)]) [X] (fun K R => ∀ (i0 : SV), K (.tuple (List.toArray [(SV.val i0), (.int .i64 r.2)])) (X :: slO i0 5 (enI .u8) r.1 :: R)) := by
  refine tri_of (fn := Try.f61) (N := 28) Try.func61 rfl rfl rfl ?_
  intro R K hk
  obtain ⟨L_q0, q0, n_q0⟩ := q0r
  unfold m_order_Bytes at h
  change GC _ none _ [] [(0, (SV.val s0))] (X :: R) g _ _
  refine c_seq ?_
  refine c_region ?_
  refine o1 rfl (o_p rfl ?_)
  refine o1 rfl (o_p rfl ?_)
  refine o_end ?_
  refine e_seq ?_
  refine c_seq ?_
  refine c_region ?_
  refine o1 rfl (o_p rfl ?_)
  refine o_end ?_
  refine e_seq ?_
  refine c_seq ?_
  refine c_seq ?_
  refine c_region ?_
  refine o1 rfl (o_p rfl ?_)
  refine o1 rfl (o_lenN (s := s0) rfl rfl rfl rm0 q0 n_q0 ?_)
  refine o1 rfl (o_p rfl ?_)
  refine o_end ?_
  refine e_seq ?_
  replace h := jn_some h
  obtain ⟨y1, h, hk1⟩ := h
  refine cj (D := (List Int)) (ι := SV) (fun d1 i1 => y1 = Sum.inl d1) (fun d1 i1 => [(4, (SV.val i1))]) (fun d1 i1 => X :: slO i1 5 (enI .u8) d1 :: R) ?_ ?_
  · refine c_block ?_
    refine c_add (slO SV.nil 5 (enI .u8) []) (slO_nil _ _ _) ?_
    refine c_loop (l_sub (sc rfl (sc rfl (sc rfl (sc rfl sn)))) (l_keep (kc rm1 (kc rm0 kr)) (lf (X := Int × (List Int)) (ι := SV) (fun k x => order_Bytes_l2 p0 k x) _ (fun x2 i2 => True) (fun x2 i2 => [(11, (.int .i64 x2.1)), (10, (.int .i64 (p0.length : Int))), (9, (SV.val s0)), (4, (SV.val i2))]) (fun x2 i2 => X :: slO i2 5 (enI .u8) x2.2 :: R) (fun _ => rfl) ?_ fuel (0, ([] : List Int)) SV.nil trivial h)))
    clear h
    rintro k2 ih2 x2 i2 _ h
    rw [order_Bytes_l2.eq_2] at h
    refine l_round ?_
    refine c_seq ?_
    refine c_region ?_
    refine o1 rfl (o_p (v := (.bool (decide (x2.1 < (p0.length : Int))))) rfl ?_)
    refine o_end ?_
    refine e_seq ?_
    refine c_seq ?_
    refine c_cond (b := (decide (x2.1 < (p0.length : Int)))) rfl (fun hb612 => ?_) (fun hb612 => ?_)
    · replace h := cond_t hb612 h
      refine c_skip ?_
      refine e_seq ?_
      refine c_seq ?_
      refine c_block ?_
      refine c_seq ?_
      refine c_region ?_
      replace h := gsome h
      obtain ⟨hg613, h⟩ := h
      refine o1 rfl (o_ix (s := s0) (n := x2.1) (e := en_Vorder_Op) rfl rfl rfl rfl rfl rfl rm0 q0 (NL.lt n_q0 hg613) ?_)
      obtain ⟨sv614, he_sv614, hd_sv614⟩ := NL.rd n_q0 hg613
      have hr615 : Rd X sv614.1 196 en_Vattr_Pair ((rd p0 x2.1).Pairs) := hd_sv614.1
      have hr616 : Rd X sv614.2 5 (enI .u8) ((rd p0 x2.1).Text) := hd_sv614.2
      refine o1 rfl (o_ldE (s := s0) (e := en_Vorder_Op) (n := x2.1) (f := 0) (v := (.agg (List.toArray [(.int .i64 ((rd p0 x2.1).Kind)), (.int .i64 ((rd p0 x2.1).Addr)), (.int .u8 ((rd p0 x2.1).Code)), (.bool ((rd p0 x2.1).Graph)), (.int .u8 ((rd p0 x2.1).FA)), (SV.val sv614.1), (SV.val sv614.2)]))) rfl rm0 q0 (NL.lt n_q0 hg613) rfl (by rw [he_sv614]; rfl) ?_)
      refine o1 rfl (o_alloc (cs := [(.int .i64 0), (.int .i64 0), (.int .u8 0), (.bool false), (.int .u8 0), (SV.val SV.nil), (SV.val SV.nil)]) rfl rfl (fun b617 => ?_))
      refine o0 (o_st (b := b617) (off := 0) (vs := [(.int .i64 ((rd p0 x2.1).Kind)), (.int .i64 ((rd p0 x2.1).Addr)), (.int .u8 ((rd p0 x2.1).Code)), (.bool ((rd p0 x2.1).Graph)), (.int .u8 ((rd p0 x2.1).FA)), (SV.val sv614.1), (SV.val sv614.2)]) (cs' := [(.int .i64 ((rd p0 x2.1).Kind)), (.int .i64 ((rd p0 x2.1).Addr)), (.int .u8 ((rd p0 x2.1).Code)), (.bool ((rd p0 x2.1).Graph)), (.int .u8 ((rd p0 x2.1).FA)), (SV.val sv614.1), (SV.val sv614.2)]) rfl rfl rp0 rfl rfl rfl rfl rfl rfl ?_)
      refine o_end ?_
      refine e_seq ?_
      refine c_seq ?_
      refine c_region ?_
      refine o1 rfl (o_ld (b := b617) (off := 0) (v := (.agg (List.toArray [(.int .i64 ((rd p0 x2.1).Kind)), (.int .i64 ((rd p0 x2.1).Addr)), (.int .u8 ((rd p0 x2.1).Code)), (.bool ((rd p0 x2.1).Graph)), (.int .u8 ((rd p0 x2.1).FA)), (SV.val sv614.1), (SV.val sv614.2)]))) rfl rm0 rfl rfl ?_)
      replace h := bsome h
      obtain ⟨d5, h5, h⟩ := h
      refine o1 rfl (o_call has95 rfl (c_order_Op_Bytes X (rd p0 x2.1) sv614.1 hr615 sv614.2 hr616 _ h5) (pc rm1 pn) (fun i5 => ?_))
      refine o1 rfl (o_p rfl ?_)
      refine o1 rfl (o_p rfl ?_)
      refine o1 rfl (o_p rfl ?_)
      refine o1 rfl (o_p rfl ?_)
      refine o1 rfl (o_p rfl ?_)
      refine o_end ?_
      refine e_seq ?_
      refine c_seq ?_
      refine c_seq ?_
      refine c_region ?_
      refine o1 rfl (o_p rfl ?_)
      refine o1 rfl (o_p (v := (.bool (d5.2 != 0))) rfl ?_)
      refine o_end ?_
      refine e_seq ?_
      refine c_cond (b := (d5.2 != 0)) rfl (fun hb620 => ?_) (fun hb620 => ?_)
      · replace h := cond_t hb620 h
        refine c_seq ?_
        refine c_region ?_
        refine o1 rfl (o_p rfl ?_)
        refine o1 rfl (o_p rfl ?_)
        refine o1 rfl (o_p rfl ?_)
        refine o_end ?_
        refine e_seq ?_
        refine c_ret ?_
        refine e_then_ret ?_
        refine e_blk_ret ?_
        refine e_then_ret ?_
        refine e_then_ret ?_
        refine e_blk_ret ?_
        refine ej_ret ?_
        replace h := esc_some h
        obtain ⟨z1, h, rfl⟩ := h
        obtain rfl := (hk1 : z1 = _)
        refine e_then_ret ?_
        refine e_ret ?_
        refine r_add (slO SV.nil 5 (enI .u8) []) (slO_nil _ _ _) ?_
        refine r_endt rfl rfl (kc rm1 (kc rm0 (kd (kd (kd kr))))) ?_
        have hr := Option.some.inj h
        subst hr
        exact hk SV.nil
      · replace h := cond_f hb620 h
        refine c_skip ?_
        refine e_seq ?_
        refine c_region ?_
        refine o1 rfl (o_p rfl ?_)
        refine o1 rfl (o_p rfl ?_)
        replace h := gsome h
        obtain ⟨hg621, h⟩ := h
        refine o1 rfl (o_app (s := i2) (r := i5) (e := (enI .u8)) (l := x2.2) (l2 := d5.1) (zs := [(.int .u8 0)]) rfl rfl rfl rfl rfl rfl rfl rfl rfl rfl rfl rm3 rm1 (rd_own _ _ _ _) hg621 (fun s622 => ?_))
        refine o1 rfl (o_p rfl ?_)
        refine o_end ?_
        refine e_blk ?_
        refine e_seq ?_
        refine c_region ?_
        refine o1 rfl (o_p (v := (.int .i64 (w64 (x2.1 + 1)))) rfl ?_)
        refine o1 rfl (o_p rfl ?_)
        refine o_end ?_
        exact e_loop (l_sub (sc rfl (sc rfl (sc rfl (sc rfl sn)))) (l_keep (kc rm1 (kc rm0 (kd (kd kr)))) (ih2 (w64 (x2.1 + 1), (x2.2 ++ d5.1)) s622 trivial h)))
    · replace h := cond_f hb612 h
      refine c_exit ?_
      refine e_then_exit ?_
      refine e_then_exit ?_
      refine e_blk_exit ?_
      have hd := Option.some.inj h
      subst hd
      exact ej x2.2 i2 rfl (sc rfl sn) (kc rm0 (kc rm0 kr))
  · rintro d1 i1 rfl
    replace h := JK_inl hk1
    clear hk1
    refine e_seq ?_
    refine c_seq ?_
    refine c_region ?_
    refine o1 rfl (o_p rfl ?_)
    refine o1 rfl (o_p rfl ?_)
    refine o1 rfl (o_p rfl ?_)
    refine o_end ?_
    refine e_seq ?_
    refine c_ret ?_
    refine e_ret ?_
    refine r_endt rfl rfl (kc rm0 (kc rm0 kr)) ?_
    have hr := Option.some.inj h
    subst hr
    exact hk i1

theorem c_entry_Bytes {g : Gw} (X : HP) (p0 : Ventry_Report) (s0 : SV) (q0r : RdN X s0 109 en_Ventry_Entry D_Ventry_Entry p0.Entries) (r : (List Int) × Int) (h : m_entry_Bytes p0 = some r) : Tri env g 25 (List.toArray [(.agg (List.toArray [(.int .u8 p0.AID), (.bool p0.Short), (.int .i64 p0.Cursor), (SV.val s0)]))]) [X] (fun K R => ∀ (i0 : HP × SV), (Ext X i0.1) → K (.tuple (List.toArray [(SV.val i0.2), (.int .i64 r.2)])) (i0.1 :: slO i0.2 5 (enI .u8) r.1 :: R)) := by
  refine tri_of (fn := Try.f25) (N := 91) Try.func25 rfl rfl rfl ?_
  intro R K hk
  obtain ⟨L_q0, q0, n_q0⟩ := q0r
  unfold m_entry_Bytes at h
  change GC _ none _ [] [(0, (.agg (List.toArray [(.int .u8 p0.AID), (.bool p0.Short), (.int .i64 p0.Cursor), (SV.val s0)])))] (X :: R) g _ _
  refine c_seq ?_
  refine c_region ?_
  refine o1 rfl (o_box (cs := [(.int .u8 p0.AID), (.bool p0.Short), (.int .i64 p0.Cursor), (SV.val s0)]) rfl rfl (fun b406 => ?_))
  refine o1 rfl (o_p rfl ?_)
  refine o1 rfl (o_p rfl ?_)
  refine o_end ?_
  refine e_seq ?_
  refine c_seq ?_
  refine c_seq ?_
  refine c_region ?_
  refine o1 rfl (o_fa (fd := ⟨ "Short", 4, 1, false, "", "", 1⟩) rfl rfl rfl rfl rfl ?_)
  refine o1 rfl (o_ld (b := b406) (off := 1) (v := (.bool p0.Short)) rfl rm0 rfl rfl ?_)
  refine o_end ?_
  refine e_seq ?_
  refine c_cond (b := p0.Short) rfl (fun hb408 => ?_) (fun hb408 => ?_)
  · replace h := cond_t hb408 h
    refine c_seq ?_
    refine c_region ?_
    refine o1 rfl (o_fa (fd := ⟨ "AID", 5, 0, false, "", "", 0⟩) rfl rfl rfl rfl rfl ?_)
    refine o1 rfl (o_ld (b := b406) (off := 0) (v := (.int .u8 p0.AID)) rfl rm0 rfl rfl ?_)
    refine o1 rfl (o_bs (e := (enI .u8)) (l := [p0.AID]) (zs := [(.int .u8 0)]) rfl rfl rfl rfl rfl rfl rfl rfl rfl rfl (fun s409 => ?_))
    refine o1 rfl (o_p rfl ?_)
    refine o1 rfl (o_p rfl ?_)
    refine o_end ?_
    refine e_seq ?_
    refine c_ret ?_
    refine e_then_ret ?_
    refine e_ret ?_
    refine r_endt rfl rfl (kc rm2 (kc rm0 (kd kr))) ?_
    have hr := Option.some.inj h
    subst hr
    exact hk (X, s409) (Ext.refl _)
  · replace h := cond_f hb408 h
    refine c_skip ?_
    refine e_seq ?_
    refine c_seq ?_
    refine c_region ?_
    refine o1 rfl (o_fa (fd := ⟨ "Cursor", 3, 2, false, "", "", 8⟩) rfl rfl rfl rfl rfl ?_)
    refine o1 rfl (o_ld (b := b406) (off := 2) (v := (.int .i64 p0.Cursor)) rfl rm0 rfl rfl ?_)
    replace h := bsome h
    obtain ⟨d2, h2, h⟩ := h
    refine o1 rfl (o_call has60 rfl (c_addr_Encode X 12 p0.Cursor _ h2) (pc rm1 pn) (fun i2 => ?_))
    refine o1 rfl (o_p rfl ?_)
    refine o1 rfl (o_p rfl ?_)
    refine o1 rfl (o_p rfl ?_)
    refine o1 rfl (o_p rfl ?_)
    refine o1 rfl (o_p rfl ?_)
    refine o_end ?_
    refine e_seq ?_
    refine c_seq ?_
    refine c_seq ?_
    refine c_region ?_
    refine o1 rfl (o_p rfl ?_)
    refine o1 rfl (o_p (v := (.bool (d2.2 != 0))) rfl ?_)
    refine o_end ?_
    refine e_seq ?_
    refine c_cond (b := (d2.2 != 0)) rfl (fun hb426 => ?_) (fun hb426 => ?_)
    · replace h := cond_t hb426 h
      refine c_seq ?_
      refine c_region ?_
      refine o1 rfl (o_p rfl ?_)
      refine o1 rfl (o_p rfl ?_)
      refine o1 rfl (o_p rfl ?_)
      refine o_end ?_
      refine e_seq ?_
      refine c_ret ?_
      refine e_then_ret ?_
      refine e_ret ?_
      refine r_add (slO SV.nil 5 (enI .u8) []) (slO_nil _ _ _) ?_
      refine r_endt rfl rfl (kc rm1 (kc rm0 (kd (kd kr)))) ?_
      have hr := Option.some.inj h
      subst hr
      exact hk (X, SV.nil) (Ext.refl _)
    · replace h := cond_f hb426 h
      refine c_skip ?_
      refine e_seq ?_
      refine c_seq ?_
      refine c_region ?_
      refine o1 rfl (o_fa (fd := ⟨ "AID", 5, 0, false, "", "", 0⟩) rfl rfl rfl rfl rfl ?_)
      refine o1 rfl (o_ld (b := b406) (off := 0) (v := (.int .u8 p0.AID)) rfl rm2 rfl rfl ?_)
      refine o1 rfl (o_bs (e := (enI .u8)) (l := [p0.AID]) (zs := [(.int .u8 0)]) rfl rfl rfl rfl rfl rfl rfl rfl rfl rfl (fun s427 => ?_))
      refine o1 rfl (o_p rfl ?_)
      replace h := gsome h
      obtain ⟨hg429, h⟩ := h
      refine o1 rfl (o_app (s := s427) (r := i2) (e := (enI .u8)) (l := [p0.AID]) (l2 := d2.1) (zs := [(.int .u8 0)]) rfl rfl rfl rfl rfl rfl rfl rfl rfl rfl rfl rm0 rm1 (rd_own _ _ _ _) hg429 (fun s430 => ?_))
      refine o1 rfl (o_p rfl ?_)
      refine o_end ?_
      refine e_seq ?_
      refine c_seq ?_
      replace h := bsome h
      obtain ⟨d4, h, hk4⟩ := h
      refine cj (D := Unit) (ι := Unit) (fun _ i4 => True) (fun _ i4 => [(7, (.bool d4)), (6, (SV.val s430)), (1, (.pointer (some ⟨b406, 0, none⟩)))]) (fun _ i4 => X :: slO s430 5 (enI .u8) ([p0.AID] ++ d2.1) :: blk b406 (.cells (List.toArray [(.int .u8 p0.AID), (.bool p0.Short), (.int .i64 p0.Cursor), (SV.val s0)]) 65 (0, 0)) :: R) ?_ ?_
      · refine c_region ?_
        refine o1 rfl (o_fa (fd := ⟨ "Entries", 63, 3, false, "", "", 16⟩) rfl rfl rfl rfl rfl ?_)
        refine o1 rfl (o_ld (b := b406) (off := 3) (v := (SV.val s0)) rfl rm3 rfl rfl ?_)
        refine o1 rfl (o_lenN (s := s0) rfl rfl rfl rm1 q0 n_q0 ?_)
        refine o1 rfl (o_p (v := (.bool ((p0.Entries.length : Int) == 1))) rfl ?_)
        refine o1 rfl (o_p rfl ?_)
        rcases bool_or (((p0.Entries.length : Int) == 1)) with hb432 | hb432
        · replace h := cond_t hb432 h
          refine oy rfl rfl rfl hb432 (o_fa (fd := ⟨ "Entries", 63, 3, false, "", "", 16⟩) rfl rfl rfl rfl rfl ?_)
          refine oy rfl rfl rfl hb432 (o_ld (b := b406) (off := 3) (v := (SV.val s0)) rfl rm3 rfl rfl ?_)
          replace h := gsome h
          obtain ⟨hg433, h⟩ := h
          refine oy rfl rfl rfl hb432 (o_ix (s := s0) (n := 0) (e := en_Ventry_Entry) rfl rfl rfl rfl rfl rfl rm1 q0 (NL.lt n_q0 hg433) ?_)
          refine oy rfl rfl rfl hb432 (o_fa (fd := ⟨ "Addr", 3, 0, false, "", "", 0⟩) rfl rfl rfl rfl rfl ?_)
          obtain ⟨sv434, he_sv434, hd_sv434⟩ := NL.rd n_q0 hg433
          have hr435 : Rd X sv434 5 (enI .u8) ((rd p0.Entries 0).Text) := hd_sv434
          refine oy rfl rfl rfl hb432 (o_ldE (s := s0) (e := en_Ventry_Entry) (n := 0) (f := 0) (v := (.int .i64 ((rd p0.Entries 0).Addr))) rfl rm1 q0 (NL.lt n_q0 hg433) rfl (by rw [he_sv434]; rfl) ?_)
          refine oy rfl rfl rfl hb432 (o_p (v := (.bool (((rd p0.Entries 0).Addr) == 0))) rfl ?_)
          refine o1 rfl (o_pick_t rfl hb432 rfl ?_)
          refine o1 rfl (o_p rfl ?_)
          rcases bool_or ((((rd p0.Entries 0).Addr) == 0)) with hb436 | hb436
          · replace h := cond_t hb436 h
            refine oy rfl rfl rfl hb436 (o_fa (fd := ⟨ "Entries", 63, 3, false, "", "", 16⟩) rfl rfl rfl rfl rfl ?_)
            refine oy rfl rfl rfl hb436 (o_ld (b := b406) (off := 3) (v := (SV.val s0)) rfl rm3 rfl rfl ?_)
            replace h := gsome h
            obtain ⟨hg437, h⟩ := h
            refine oy rfl rfl rfl hb436 (o_ix (s := s0) (n := 0) (e := en_Ventry_Entry) rfl rfl rfl rfl rfl rfl rm1 q0 (NL.lt n_q0 hg437) ?_)
            refine oy rfl rfl rfl hb436 (o_fa (fd := ⟨ "Text", 31, 1, false, "", "", 8⟩) rfl rfl rfl rfl rfl ?_)
            obtain ⟨sv438, he_sv438, hd_sv438⟩ := NL.rd n_q0 hg437
            have hr439 : Rd X sv438 5 (enI .u8) ((rd p0.Entries 0).Text) := hd_sv438
            refine oy rfl rfl rfl hb436 (o_ldE (s := s0) (e := en_Ventry_Entry) (n := 0) (f := 1) (v := (SV.val sv438)) rfl rm1 q0 (NL.lt n_q0 hg437) rfl (by rw [he_sv438]; rfl) ?_)
            refine oy rfl rfl rfl hb436 (o_len (s := sv438) rfl rfl rfl rm1 hr439 ?_)
            refine oy rfl rfl rfl hb436 (o_p (v := (.bool (decide ((((rd p0.Entries 0).Text).length : Int) > 0)))) rfl ?_)
            refine o1 rfl (o_pick_t rfl hb436 rfl ?_)
            refine o1 rfl (o_p rfl ?_)
            refine o_end ?_
            have hd := Option.some.inj h
            subst hd
            exact ej () () trivial (sc rfl (sc rfl (sc rfl sn))) (kc rm1 (kc rm0 (kc rm1 (kd kr))))
          · replace h := cond_f hb436 h
            refine on rfl rfl rfl hb436 ?_
            refine on rfl rfl rfl hb436 ?_
            refine on rfl rfl rfl hb436 ?_
            refine on rfl rfl rfl hb436 ?_
            refine on rfl rfl rfl hb436 ?_
            refine on rfl rfl rfl hb436 ?_
            refine on rfl rfl rfl hb436 ?_
            refine o1 rfl (o_pick_f rfl hb436 rfl ?_)
            refine o1 rfl (o_p rfl ?_)
            refine o_end ?_
            have hd := Option.some.inj h
            subst hd
            exact ej () () trivial (sc rfl (sc rfl (sc rfl sn))) (kc rm1 (kc rm0 (kc rm1 (kd kr))))
        · replace h := cond_f hb432 h
          refine on rfl rfl rfl hb432 ?_
          refine on rfl rfl rfl hb432 ?_
          refine on rfl rfl rfl hb432 ?_
          refine on rfl rfl rfl hb432 ?_
          refine on rfl rfl rfl hb432 ?_
          refine on rfl rfl rfl hb432 ?_
          refine o1 rfl (o_pick_f rfl hb432 rfl ?_)
          refine o1 rfl (o_p rfl ?_)
          refine on rfl rfl rfl rfl ?_
          refine on rfl rfl rfl rfl ?_
          refine on rfl rfl rfl rfl ?_
          refine on rfl rfl rfl rfl ?_
          refine on rfl rfl rfl rfl ?_
          refine on rfl rfl rfl rfl ?_
          refine on rfl rfl rfl rfl ?_
          refine o1 rfl (o_pick_f rfl rfl rfl ?_)
          refine o1 rfl (o_p rfl ?_)
          refine o_end ?_
          have hd := Option.some.inj h
          subst hd
          exact ej () () trivial (sc rfl (sc rfl (sc rfl sn))) (kc rm1 (kc rm0 (kc rm1 (kd kr))))
      · rintro _ i4 _
        replace h := hk4
        clear hk4
        refine e_seq ?_
        refine c_seq ?_
        refine c_seq ?_
        refine c_region ?_
        refine o1 rfl (o_fa (fd := ⟨ "Entries", 63, 3, false, "", "", 16⟩) rfl rfl rfl rfl rfl ?_)
        refine o1 rfl (o_ld (b := b406) (off := 3) (v := (SV.val s0)) rfl rm2 rfl rfl ?_)
        refine o1 rfl (o_lenN (s := s0) rfl rfl rfl rm0 q0 n_q0 ?_)
        refine o1 rfl (o_p rfl ?_)
        refine o_end ?_
        refine e_seq ?_
        replace h := jn_some h
        obtain ⟨y5, h, hk5⟩ := h
        refine cj (D := (List Int)) (ι := HP × SV) (fun d5 i5 => (y5 = Sum.inl d5) ∧ (Ext X i5.1)) (fun d5 i5 => [(6, (SV.val i5.2))]) (fun d5 i5 => i5.1 :: slO i5.2 5 (enI .u8) d5 :: R) ?_ ?_
        · refine c_block ?_
          refine c_loop (l_sub (sc rfl (sc rfl (sc rfl (sc rfl (sc rfl sn))))) (l_keep (kc rm0 (kc rm0 (kd kr))) (lf (X := Int × (List Int)) (ι := HP × SV) (fun k x => entry_Bytes_l6 p0 d4 k x) _ (fun x6 i6 => (RdN i6.1 s0 109 en_Ventry_Entry D_Ventry_Entry p0.Entries) ∧ (Ext X i6.1)) (fun x6 i6 => [(56, (.int .i64 x6.1)), (55, (.int .i64 (p0.Entries.length : Int))), (54, (SV.val s0)), (7, (.bool d4)), (6, (SV.val i6.2))]) (fun x6 i6 => i6.1 :: slO i6.2 5 (enI .u8) x6.2 :: R) (fun _ => rfl) ?_ fuel (0, ([p0.AID] ++ d2.1)) (X, s430) ⟨⟨_, q0, n_q0⟩, (Ext.refl _)⟩ h)))
          clear h
          rintro k6 ih6 x6 i6 ⟨⟨L_f6_0, f6_0, n_f6_0⟩, f6_1⟩ h
          rw [entry_Bytes_l6.eq_2] at h
          refine l_round ?_
          refine c_seq ?_
          refine c_region ?_
          refine o1 rfl (o_p (v := (.bool (decide (x6.1 < (p0.Entries.length : Int))))) rfl ?_)
          refine o_end ?_
          refine e_seq ?_
          refine c_seq ?_
          refine c_cond (b := (decide (x6.1 < (p0.Entries.length : Int)))) rfl (fun hb667 => ?_) (fun hb667 => ?_)
          · replace h := cond_t hb667 h
            refine c_skip ?_
            refine e_seq ?_
            refine c_seq ?_
            refine c_block ?_
            refine c_seq ?_
            refine c_region ?_
            replace h := gsome h
            obtain ⟨hg668, h⟩ := h
            refine o1 rfl (o_ix (s := s0) (n := x6.1) (e := en_Ventry_Entry) rfl rfl rfl rfl rfl rfl rm0 f6_0 (NL.lt n_f6_0 hg668) ?_)
            obtain ⟨sv669, he_sv669, hd_sv669⟩ := NL.rd n_f6_0 hg668
            have hr670 : Rd i6.1 sv669 5 (enI .u8) ((rd p0.Entries x6.1).Text) := hd_sv669
            refine o1 rfl (o_ldE (s := s0) (e := en_Ventry_Entry) (n := x6.1) (f := 0) (v := (.agg (List.toArray [(.int .i64 ((rd p0.Entries x6.1).Addr)), (SV.val sv669)]))) rfl rm0 f6_0 (NL.lt n_f6_0 hg668) rfl (by rw [he_sv669]; rfl) ?_)
            refine o1 rfl (o_alloc (cs := [(.int .i64 0), (SV.val SV.nil)]) rfl rfl (fun b671 => ?_))
            refine o0 (o_st (b := b671) (off := 0) (vs := [(.int .i64 ((rd p0.Entries x6.1).Addr)), (SV.val sv669)]) (cs' := [(.int .i64 ((rd p0.Entries x6.1).Addr)), (SV.val sv669)]) rfl rfl rp0 rfl rfl rfl rfl rfl rfl ?_)
            refine o_end ?_
            refine e_seq ?_
            refine c_seq ?_
            refine c_region ?_
            refine o1 rfl (o_p rfl ?_)
            refine o_end ?_
            refine e_seq ?_
            refine c_seq ?_
            refine c_seq ?_
            refine c_region ?_
            refine o1 rfl (o_p rfl ?_)
            refine o1 rfl (o_p (v := (.bool (!d4))) rfl ?_)
            refine o_end ?_
            refine e_seq ?_
            replace h := bsome h
            obtain ⟨d9, h, hk9⟩ := h
            refine cj (D := Unit) (ι := SV × (List (Vorder_Op × SV × SV))) (fun _ i9 => NL (D_Vorder_Op i6.1) i9.2 d9) (fun _ i9 => [(10, (SV.val i9.1)), (9, (.pointer (some ⟨b671, 0, none⟩))), (56, (.int .i64 x6.1)), (55, (.int .i64 (p0.Entries.length : Int))), (54, (SV.val s0)), (7, (.bool d4)), (6, (SV.val i6.2))]) (fun _ i9 => i6.1 :: slO i9.1 115 en_Vorder_Op i9.2 :: blk b671 (.cells (List.toArray [(.int .i64 ((rd p0.Entries x6.1).Addr)), (SV.val sv669)]) 109 (0, 0)) :: slO i6.2 5 (enI .u8) x6.2 :: R) ?_ ?_
            · refine c_cond (b := (!d4)) rfl (fun hb673 => ?_) (fun hb673 => ?_)
              · replace h := cond_t hb673 h
                refine c_region ?_
                refine o1 rfl (o_p rfl ?_)
                refine o1 rfl (o_fa (fd := ⟨ "Addr", 3, 0, false, "", "", 0⟩) rfl rfl rfl rfl rfl ?_)
                refine o1 rfl (o_ld (b := b671) (off := 0) (v := (.int .i64 ((rd p0.Entries x6.1).Addr))) rfl rm0 rfl rfl ?_)
                refine o1 rfl (o_build (fs := [⟨ "Kind", 3, 0, false, "", "", 0⟩, ⟨ "Addr", 3, 1, false, "", "", 8⟩, ⟨ "Code", 5, 2, false, "", "", 16⟩, ⟨ "Graph", 4, 3, false, "", "", 17⟩, ⟨ "FA", 5, 4, false, "", "", 18⟩, ⟨ "Pairs", 113, 5, false, "", "", 24⟩, ⟨ "Text", 31, 6, false, "", "", 48⟩]) (ps := [(0, 1), (1, 1), (2, 1), (3, 1), (4, 1), (5, 1), (6, 1)]) (cs := [(.int .i64 17), (.int .i64 ((rd p0.Entries x6.1).Addr)), (.int .u8 0), (.bool false), (.int .u8 0), (SV.val SV.nil), (SV.val SV.nil)]) rfl rfl rfl rfl rfl ?_)
                refine o1 rfl (o_bs (e := en_Vorder_Op) (l := [((⟨17, (rd p0.Entries x6.1).Addr, 0, false, 0, ([] : List Vattr_Pair), ([] : List Int)⟩ : Vorder_Op), (SV.nil, SV.nil))]) (zs := [(.int .i64 0), (.int .i64 0), (.int .u8 0), (.bool false), (.int .u8 0), (SV.val SV.nil), (SV.val SV.nil)]) rfl rfl rfl rfl rfl rfl rfl rfl rfl rfl (fun s674 => ?_))
                refine o_add (slO SV.nil 115 en_Vorder_Op []) (slO_nil _ _ _) ?_
                replace h := gsome h
                obtain ⟨hg677, h⟩ := h
                refine o1 rfl (o_app (s := SV.nil) (r := s674) (e := en_Vorder_Op) (l := []) (l2 := [((⟨17, (rd p0.Entries x6.1).Addr, 0, false, 0, ([] : List Vattr_Pair), ([] : List Int)⟩ : Vorder_Op), (SV.nil, SV.nil))]) (zs := [(.int .i64 0), (.int .i64 0), (.int .u8 0), (.bool false), (.int .u8 0), (SV.val SV.nil), (SV.val SV.nil)]) rfl rfl rfl rfl rfl rfl rfl rfl rfl rfl rfl rm0 rm0 (rd_own _ _ _ _) (len2 (D := D_Vorder_Op i6.1) (D' := D_Vorder_Op i6.1) NL.nil (NL.cons (D := D_Vorder_Op i6.1) (x := (⟨17, (rd p0.Entries x6.1).Addr, 0, false, 0, ([] : List Vattr_Pair), ([] : List Int)⟩ : Vorder_Op)) (s := (SV.nil, SV.nil)) ⟨(rd_nil _ _ _), (rd_nil _ _ _)⟩ NL.nil) hg677) (fun s678 => ?_))
                refine o1 rfl (o_p rfl ?_)
                refine o_end ?_
                have hd := Option.some.inj h
                subst hd
                exact ej () (s678, ([] ++ [((⟨17, (rd p0.Entries x6.1).Addr, 0, false, 0, ([] : List Vattr_Pair), ([] : List Int)⟩ : Vorder_Op), (SV.nil, SV.nil))])) (NL.app NL.nil (NL.cons (D := D_Vorder_Op i6.1) (x := (⟨17, (rd p0.Entries x6.1).Addr, 0, false, 0, ([] : List Vattr_Pair), ([] : List Int)⟩ : Vorder_Op)) (s := (SV.nil, SV.nil)) ⟨(rd_nil _ _ _), (rd_nil _ _ _)⟩ NL.nil)) (sc rfl (sc rfl (sc rfl (sc rfl (sc rfl (sc rfl (sc rfl sn))))))) (kc rm3 (kc rm0 (kc rm1 (kc rm1 (kd kr)))))
              · replace h := cond_f hb673 h
                refine c_skip ?_
                refine e_add (slO SV.nil 115 en_Vorder_Op []) (slO_nil _ _ _) ?_
                have hd := Option.some.inj h
                subst hd
                exact ej () (SV.nil, []) NL.nil (sc rfl (sc rfl (sc rfl (sc rfl (sc rfl (sc rfl (sc rfl sn))))))) (kc rm2 (kc rm0 (kc rm0 (kc rm0 kr))))
            · rintro _ i9 f9_0
              replace h := hk9
              clear hk9
              refine e_seq ?_
              refine c_seq ?_
              refine c_seq ?_
              refine c_region ?_
              refine o1 rfl (o_fa (fd := ⟨ "Text", 31, 1, false, "", "", 8⟩) rfl rfl rfl rfl rfl ?_)
              refine o1 rfl (o_ld (b := b671) (off := 1) (v := (SV.val sv669)) rfl rm2 rfl rfl ?_)
              refine o1 rfl (o_len (s := sv669) rfl rfl rfl rm0 hr670 ?_)
              refine o1 rfl (o_p (v := (.bool (decide ((((rd p0.Entries x6.1).Text).length : Int) > 0)))) rfl ?_)
              refine o_end ?_
              refine e_seq ?_
              replace h := bsome h
              obtain ⟨d10, h, hk10⟩ := h
              refine cj (D := Unit) (ι := SV × (List (Vorder_Op × SV × SV))) (fun _ i10 => NL (D_Vorder_Op i6.1) i10.2 d10) (fun _ i10 => [(10, (SV.val i10.1)), (56, (.int .i64 x6.1)), (55, (.int .i64 (p0.Entries.length : Int))), (54, (SV.val s0)), (7, (.bool d4)), (6, (SV.val i6.2))]) (fun _ i10 => i6.1 :: slO i10.1 115 en_Vorder_Op i10.2 :: slO i6.2 5 (enI .u8) x6.2 :: R) ?_ ?_
              · refine c_cond (b := (decide ((((rd p0.Entries x6.1).Text).length : Int) > 0))) rfl (fun hb681 => ?_) (fun hb681 => ?_)
                · replace h := cond_t hb681 h
                  refine c_region ?_
                  refine o1 rfl (o_p rfl ?_)
                  refine o1 rfl (o_fa (fd := ⟨ "Text", 31, 1, false, "", "", 8⟩) rfl rfl rfl rfl rfl ?_)
                  refine o1 rfl (o_ld (b := b671) (off := 1) (v := (SV.val sv669)) rfl rm2 rfl rfl ?_)
                  refine o1 rfl (o_build (fs := [⟨ "Kind", 3, 0, false, "", "", 0⟩, ⟨ "Addr", 3, 1, false, "", "", 8⟩, ⟨ "Code", 5, 2, false, "", "", 16⟩, ⟨ "Graph", 4, 3, false, "", "", 17⟩, ⟨ "FA", 5, 4, false, "", "", 18⟩, ⟨ "Pairs", 113, 5, false, "", "", 24⟩, ⟨ "Text", 31, 6, false, "", "", 48⟩]) (ps := [(0, 1), (1, 1), (2, 1), (3, 1), (4, 1), (5, 1), (6, 1)]) (cs := [(.int .i64 0), (.int .i64 0), (.int .u8 0), (.bool false), (.int .u8 0), (SV.val SV.nil), (SV.val sv669)]) rfl rfl rfl rfl rfl ?_)
                  refine o1 rfl (o_bs (e := en_Vorder_Op) (l := [((⟨0, 0, 0, false, 0, ([] : List Vattr_Pair), (rd p0.Entries x6.1).Text⟩ : Vorder_Op), (SV.nil, sv669))]) (zs := [(.int .i64 0), (.int .i64 0), (.int .u8 0), (.bool false), (.int .u8 0), (SV.val SV.nil), (SV.val SV.nil)]) rfl rfl rfl rfl rfl rfl rfl rfl rfl rfl (fun s682 => ?_))
                  replace h := gsome h
                  obtain ⟨hg684, h⟩ := h
                  refine o1 rfl (o_app (s := i9.1) (r := s682) (e := en_Vorder_Op) (l := i9.2) (l2 := [((⟨0, 0, 0, false, 0, ([] : List Vattr_Pair), (rd p0.Entries x6.1).Text⟩ : Vorder_Op), (SV.nil, sv669))]) (zs := [(.int .i64 0), (.int .i64 0), (.int .u8 0), (.bool false), (.int .u8 0), (SV.val SV.nil), (SV.val SV.nil)]) rfl rfl rfl rfl rfl rfl rfl rfl rfl rfl rfl rm2 rm0 (rd_own _ _ _ _) (len2 (D := D_Vorder_Op i6.1) (D' := D_Vorder_Op i6.1) f9_0 (NL.cons (D := D_Vorder_Op i6.1) (x := (⟨0, 0, 0, false, 0, ([] : List Vattr_Pair), (rd p0.Entries x6.1).Text⟩ : Vorder_Op)) (s := (SV.nil, sv669)) ⟨(rd_nil _ _ _), hr670⟩ NL.nil) hg684) (fun s685 => ?_))
                  refine o1 rfl (o_p rfl ?_)
                  refine o_end ?_
                  have hd := Option.some.inj h
                  subst hd
                  exact ej () (s685, (i9.2 ++ [((⟨0, 0, 0, false, 0, ([] : List Vattr_Pair), (rd p0.Entries x6.1).Text⟩ : Vorder_Op), (SV.nil, sv669))])) (NL.app f9_0 (NL.cons (D := D_Vorder_Op i6.1) (x := (⟨0, 0, 0, false, 0, ([] : List Vattr_Pair), (rd p0.Entries x6.1).Text⟩ : Vorder_Op)) (s := (SV.nil, sv669)) ⟨(rd_nil _ _ _), hr670⟩ NL.nil)) (sc rfl (sc rfl (sc rfl (sc rfl (sc rfl (sc rfl sn)))))) (kc rm2 (kc rm0 (kc rm2 (kd (kd kr)))))
                · replace h := cond_f hb681 h
                  refine c_skip ?_
                  have hd := Option.some.inj h
                  subst hd
                  exact ej () (i9.1, i9.2) f9_0 (sc rfl (sc rfl (sc rfl (sc rfl (sc rfl (sc rfl sn)))))) (kc rm0 (kc rm0 (kc rm1 (kd kr))))
              · rintro _ i10 f10_0
                replace h := hk10
                clear hk10
                refine e_seq ?_
                refine c_seq ?_
                refine c_region ?_
                refine o1 rfl (o_p rfl ?_)
                refine o_fz rm1 rm0 (fun X688 hx689 hs690 => ?_)
                replace h := bsome h
                obtain ⟨d11, h11, h⟩ := h
                refine o1 rfl (o_call has61 rfl (c_order_Bytes X688 d10 i10.1 ⟨_, hs690, (NL.mono f10_0 (D_Vorder_Op.ext hx689))⟩ _ h11) (pc rm0 pn) (fun i11 => ?_))
                refine o1 rfl (o_p rfl ?_)
                refine o1 rfl (o_p rfl ?_)
                refine o1 rfl (o_p rfl ?_)
                refine o1 rfl (o_p rfl ?_)
                refine o1 rfl (o_p rfl ?_)
                refine o_end ?_
                refine e_seq ?_
                refine c_seq ?_
                refine c_seq ?_
                refine c_region ?_
                refine o1 rfl (o_p rfl ?_)
                refine o1 rfl (o_p (v := (.bool (d11.2 != 0))) rfl ?_)
                refine o_end ?_
                refine e_seq ?_
                refine c_cond (b := (d11.2 != 0)) rfl (fun hb692 => ?_) (fun hb692 => ?_)
                · replace h := cond_t hb692 h
                  refine c_seq ?_
                  refine c_region ?_
                  refine o1 rfl (o_p rfl ?_)
                  refine o1 rfl (o_p rfl ?_)
                  refine o1 rfl (o_p rfl ?_)
                  refine o_end ?_
                  refine e_seq ?_
                  refine c_ret ?_
                  refine e_then_ret ?_
                  refine e_blk_ret ?_
                  refine e_then_ret ?_
                  refine e_then_ret ?_
                  refine e_blk_ret ?_
                  refine ej_ret ?_
                  replace h := esc_some h
                  obtain ⟨z5, h, rfl⟩ := h
                  obtain rfl := (hk5 : z5 = _)
                  refine e_then_ret ?_
                  refine e_ret ?_
                  refine r_add (slO SV.nil 5 (enI .u8) []) (slO_nil _ _ _) ?_
                  refine r_endt rfl rfl (kc rm1 (kc rm0 (kd (kd kr)))) ?_
                  have hr := Option.some.inj h
                  subst hr
                  exact hk (X688, SV.nil) (Ext.trans f6_1 hx689)
                · replace h := cond_f hb692 h
                  refine c_skip ?_
                  refine e_seq ?_
                  refine c_region ?_
                  refine o1 rfl (o_p rfl ?_)
                  refine o1 rfl (o_p rfl ?_)
                  replace h := gsome h
                  obtain ⟨hg693, h⟩ := h
                  refine o1 rfl (o_app (s := i6.2) (r := i11) (e := (enI .u8)) (l := x6.2) (l2 := d11.1) (zs := [(.int .u8 0)]) rfl rfl rfl rfl rfl rfl rfl rfl rfl rfl rfl rm2 rm1 (rd_own _ _ _ _) hg693 (fun s694 => ?_))
                  refine o1 rfl (o_p rfl ?_)
                  refine o_end ?_
                  refine e_blk ?_
                  refine e_seq ?_
                  refine c_region ?_
                  refine o1 rfl (o_p (v := (.int .i64 (w64 (x6.1 + 1)))) rfl ?_)
                  refine o1 rfl (o_p rfl ?_)
                  refine o_end ?_
                  exact e_loop (l_sub (sc rfl (sc rfl (sc rfl (sc rfl (sc rfl sn))))) (l_keep (kc rm1 (kc rm0 (kd kr))) (ih6 (w64 (x6.1 + 1), (x6.2 ++ d11.1)) (X688, s694) ⟨⟨_, (Rd.ext f6_0 hx689), (NL.mono n_f6_0 (D_Ventry_Entry.ext hx689))⟩, (Ext.trans f6_1 hx689)⟩ h)))
          · replace h := cond_f hb667 h
            refine c_exit ?_
            refine e_then_exit ?_
            refine e_then_exit ?_
            refine e_blk_exit ?_
            have hd := Option.some.inj h
            subst hd
            exact ej x6.2 (i6.1, i6.2) ⟨rfl, f6_1⟩ (sc rfl sn) (kc rm0 (kc rm0 kr))
        · rintro d5 i5 ⟨rfl, f5_0⟩
          replace h := JK_inl hk5
          clear hk5
          refine e_seq ?_
          refine c_seq ?_
          refine c_region ?_
          refine o1 rfl (o_p rfl ?_)
          refine o1 rfl (o_p rfl ?_)
          refine o1 rfl (o_p rfl ?_)
          refine o_end ?_
          refine e_seq ?_
          refine c_ret ?_
          refine e_ret ?_
          refine r_endt rfl rfl (kc rm0 (kc rm0 kr)) ?_
          have hr := Option.some.inj h
          subst hr
          exact hk (i5.1, i5.2) f5_0

theorem c_vitrinelaw20_back {g : Gw} (X : HP) (p0 : Ventry_Report) (s0 : SV) (q0r : RdN X s0 109 en_Ventry_Entry D_Ventry_Entry p0.Entries) (r : Vvitrineref20_Report) (h : m_vitrinelaw20_back p0 = some r) : Tri env g 30 (List.toArray [(.agg (List.toArray [(.int .u8 p0.AID), (.bool p0.Short), (.int .i64 p0.Cursor), (SV.val s0)]))]) [X] (fun K R => ∀ (i0 : SV × (List (Vvitrineref20_Entry × SV))), (NL (D_Vvitrineref20_Entry X) i0.2 r.Entries) → K (.agg (List.toArray [(.int .u8 r.AID), (.bool r.Short), (.int .i64 r.Cursor), (SV.val i0.1)])) (X :: slO i0.1 60 en_Vvitrineref20_Entry i0.2 :: R)) := by
  refine tri_of (fn := Try.f30) (N := 28) Try.func30 rfl rfl rfl ?_
  intro R K hk
  obtain ⟨L_q0, q0, n_q0⟩ := q0r
  unfold m_vitrinelaw20_back at h
  change GC _ none _ [] [(0, (.agg (List.toArray [(.int .u8 p0.AID), (.bool p0.Short), (.int .i64 p0.Cursor), (SV.val s0)])))] (X :: R) g _ _
  refine c_seq ?_
  refine c_region ?_
  refine o1 rfl (o_box (cs := [(.int .u8 p0.AID), (.bool p0.Short), (.int .i64 p0.Cursor), (SV.val s0)]) rfl rfl (fun b715 => ?_))
  refine o1 rfl (o_alloc (cs := [(.int .u8 0), (.bool false), (.int .i64 0), (SV.val SV.nil)]) rfl rfl (fun b717 => ?_))
  refine o_end ?_
  refine e_seq ?_
  refine c_seq ?_
  refine c_region ?_
  refine o1 rfl (o_fa (fd := ⟨ "AID", 5, 0, false, "", "", 0⟩) rfl rfl rfl rfl rfl ?_)
  refine o1 rfl (o_ld (b := b715) (off := 0) (v := (.int .u8 p0.AID)) rfl rm1 rfl rfl ?_)
  refine o1 rfl (o_fa (fd := ⟨ "Short", 4, 1, false, "", "", 1⟩) rfl rfl rfl rfl rfl ?_)
  refine o1 rfl (o_ld (b := b715) (off := 1) (v := (.bool p0.Short)) rfl rm1 rfl rfl ?_)
  refine o1 rfl (o_fa (fd := ⟨ "Cursor", 3, 2, false, "", "", 8⟩) rfl rfl rfl rfl rfl ?_)
  refine o1 rfl (o_ld (b := b715) (off := 2) (v := (.int .i64 p0.Cursor)) rfl rm1 rfl rfl ?_)
  refine o1 rfl (o_build (fs := [⟨ "AID", 5, 0, false, "", "", 0⟩, ⟨ "Short", 4, 1, false, "", "", 1⟩, ⟨ "Cursor", 3, 2, false, "", "", 8⟩, ⟨ "Entries", 56, 3, false, "", "", 16⟩]) (ps := [(0, 1), (1, 1), (2, 1), (3, 1)]) (cs := [(.int .u8 p0.AID), (.bool p0.Short), (.int .i64 p0.Cursor), (SV.val SV.nil)]) rfl rfl rfl rfl rfl ?_)
  refine o1 rfl (o_alloc (cs := [(.int .u8 0), (.bool false), (.int .i64 0), (SV.val SV.nil)]) rfl rfl (fun b719 => ?_))
  refine o0 (o_st (b := b719) (off := 0) (vs := [(.int .u8 p0.AID), (.bool p0.Short), (.int .i64 p0.Cursor), (SV.val SV.nil)]) (cs' := [(.int .u8 p0.AID), (.bool p0.Short), (.int .i64 p0.Cursor), (SV.val SV.nil)]) rfl rfl rp0 rfl rfl rfl rfl rfl rfl ?_)
  refine o_end ?_
  refine e_seq ?_
  refine c_seq ?_
  refine c_seq ?_
  refine c_region ?_
  refine o1 rfl (o_fa (fd := ⟨ "Entries", 63, 3, false, "", "", 16⟩) rfl rfl rfl rfl rfl ?_)
  refine o1 rfl (o_ld (b := b715) (off := 3) (v := (SV.val s0)) rfl rm2 rfl rfl ?_)
  refine o1 rfl (o_lenN (s := s0) rfl rfl rfl rm3 q0 n_q0 ?_)
  refine o1 rfl (o_p rfl ?_)
  refine o_end ?_
  refine e_seq ?_
  replace h := bsome h
  obtain ⟨d1, h, hk1⟩ := h
  refine cj (D := Unit) (ι := SV × (List (Vvitrineref20_Entry × SV))) (fun _ i1 => NL (D_Vvitrineref20_Entry X) i1.2 d1) (fun _ i1 => [(3, (.pointer (some ⟨b719, 0, none⟩))), (2, (.pointer (some ⟨b717, 0, none⟩)))]) (fun _ i1 => X :: blk b719 (.cells (List.toArray [(.int .u8 p0.AID), (.bool p0.Short), (.int .i64 p0.Cursor), (SV.val i1.1)]) 58 (0, 0)) :: blk b717 (.cells (List.toArray [(.int .u8 0), (.bool false), (.int .i64 0), (SV.val SV.nil)]) 58 (0, 0)) :: slO i1.1 60 en_Vvitrineref20_Entry i1.2 :: R) ?_ ?_
  · refine c_block ?_
    refine c_add (slO SV.nil 60 en_Vvitrineref20_Entry []) (slO_nil _ _ _) ?_
    refine c_loop (l_sub (sc rfl (sc rfl (sc rfl (sc rfl (sc rfl sn))))) (l_keep (kc rm4 (kc rm1 (kc rm1 (kc rm0 (kd kr))))) (lf (X := Int × (List Vvitrineref20_Entry)) (ι := SV × (List (Vvitrineref20_Entry × SV))) (fun k x => vitrinelaw20_back_l2 p0 k x) _ (fun x2 i2 => NL (D_Vvitrineref20_Entry X) i2.2 x2.2) (fun x2 i2 => [(16, (.int .i64 x2.1)), (15, (.int .i64 (p0.Entries.length : Int))), (14, (SV.val s0)), (3, (.pointer (some ⟨b719, 0, none⟩))), (2, (.pointer (some ⟨b717, 0, none⟩)))]) (fun x2 i2 => X :: blk b719 (.cells (List.toArray [(.int .u8 p0.AID), (.bool p0.Short), (.int .i64 p0.Cursor), (SV.val i2.1)]) 58 (0, 0)) :: blk b717 (.cells (List.toArray [(.int .u8 0), (.bool false), (.int .i64 0), (SV.val SV.nil)]) 58 (0, 0)) :: slO i2.1 60 en_Vvitrineref20_Entry i2.2 :: R) (fun _ => rfl) ?_ fuel (0, ([] : List Vvitrineref20_Entry)) (SV.nil, []) NL.nil h)))
    clear h
    rintro k2 ih2 x2 i2 f2_0 h
    rw [vitrinelaw20_back_l2.eq_2] at h
    refine l_round ?_
    refine c_seq ?_
    refine c_region ?_
    refine o1 rfl (o_p (v := (.bool (decide (x2.1 < (p0.Entries.length : Int))))) rfl ?_)
    refine o_end ?_
    refine e_seq ?_
    refine c_seq ?_
    refine c_cond (b := (decide (x2.1 < (p0.Entries.length : Int)))) rfl (fun hb746 => ?_) (fun hb746 => ?_)
    · replace h := cond_t hb746 h
      refine c_skip ?_
      refine e_seq ?_
      refine c_seq ?_
      refine c_block ?_
      refine c_seq ?_
      refine c_region ?_
      replace h := gsome h
      obtain ⟨hg747, h⟩ := h
      refine o1 rfl (o_ix (s := s0) (n := x2.1) (e := en_Ventry_Entry) rfl rfl rfl rfl rfl rfl rm0 q0 (NL.lt n_q0 hg747) ?_)
      obtain ⟨sv748, he_sv748, hd_sv748⟩ := NL.rd n_q0 hg747
      have hr749 : Rd X sv748 5 (enI .u8) ((rd p0.Entries x2.1).Text) := hd_sv748
      refine o1 rfl (o_ldE (s := s0) (e := en_Ventry_Entry) (n := x2.1) (f := 0) (v := (.agg (List.toArray [(.int .i64 ((rd p0.Entries x2.1).Addr)), (SV.val sv748)]))) rfl rm0 q0 (NL.lt n_q0 hg747) rfl (by rw [he_sv748]; rfl) ?_)
      refine o1 rfl (o_alloc (cs := [(.int .i64 0), (SV.val SV.nil)]) rfl rfl (fun b750 => ?_))
      refine o0 (o_st (b := b750) (off := 0) (vs := [(.int .i64 ((rd p0.Entries x2.1).Addr)), (SV.val sv748)]) (cs' := [(.int .i64 ((rd p0.Entries x2.1).Addr)), (SV.val sv748)]) rfl rfl rp0 rfl rfl rfl rfl rfl rfl ?_)
      refine o_end ?_
      refine e_seq ?_
      refine c_region ?_
      refine o1 rfl (o_fa (fd := ⟨ "Entries", 56, 3, false, "", "", 16⟩) rfl rfl rfl rfl rfl ?_)
      refine o1 rfl (o_ld (b := b719) (off := 3) (v := (SV.val i2.1)) rfl rm2 rfl rfl ?_)
      refine o1 rfl (o_ld (b := b750) (off := 0) (v := (.agg (List.toArray [(.int .i64 ((rd p0.Entries x2.1).Addr)), (SV.val sv748)]))) rfl rm0 rfl rfl ?_)
      refine o1 rfl (o_bs (e := en_Vvitrineref20_Entry) (l := [((⟨(rd p0.Entries x2.1).Addr, (rd p0.Entries x2.1).Text⟩ : Vvitrineref20_Entry), sv748)]) (zs := [(.int .i64 0), (SV.val SV.nil)]) rfl rfl rfl rfl rfl rfl rfl rfl rfl rfl (fun s752 => ?_))
      replace h := gsome h
      obtain ⟨hg754, h⟩ := h
      refine o1 rfl (o_app (s := i2.1) (r := s752) (e := en_Vvitrineref20_Entry) (l := i2.2) (l2 := [((⟨(rd p0.Entries x2.1).Addr, (rd p0.Entries x2.1).Text⟩ : Vvitrineref20_Entry), sv748)]) (zs := [(.int .i64 0), (SV.val SV.nil)]) rfl rfl rfl rfl rfl rfl rfl rfl rfl rfl rfl rm5 rm0 (rd_own _ _ _ _) (len2 (D := D_Vvitrineref20_Entry X) (D' := D_Vvitrineref20_Entry X) f2_0 (NL.cons (D := D_Vvitrineref20_Entry X) (x := (⟨(rd p0.Entries x2.1).Addr, (rd p0.Entries x2.1).Text⟩ : Vvitrineref20_Entry)) (s := sv748) hr749 NL.nil) hg754) (fun s755 => ?_))
      refine o1 rfl (o_fa (fd := ⟨ "Entries", 56, 3, false, "", "", 16⟩) rfl rfl rfl rfl rfl ?_)
      refine o0 (o_st (b := b719) (off := 3) (vs := [(SV.val s755)]) (cs' := [(.int .u8 p0.AID), (.bool p0.Short), (.int .i64 p0.Cursor), (SV.val s755)]) rfl rfl rp4 rfl rfl rfl rfl rfl rfl ?_)
      refine o_end ?_
      refine e_blk ?_
      refine e_seq ?_
      refine c_region ?_
      refine o1 rfl (o_p (v := (.int .i64 (w64 (x2.1 + 1)))) rfl ?_)
      refine o1 rfl (o_p rfl ?_)
      refine o_end ?_
      exact e_loop (l_sub (sc rfl (sc rfl (sc rfl (sc rfl (sc rfl sn))))) (l_keep (kc rm3 (kc rm3 (kc rm3 (kc rm0 (kd (kd kr)))))) (ih2 (w64 (x2.1 + 1), (x2.2 ++ [(⟨(rd p0.Entries x2.1).Addr, (rd p0.Entries x2.1).Text⟩ : Vvitrineref20_Entry)])) (s755, (i2.2 ++ [((⟨(rd p0.Entries x2.1).Addr, (rd p0.Entries x2.1).Text⟩ : Vvitrineref20_Entry), sv748)])) (NL.app f2_0 (NL.cons (D := D_Vvitrineref20_Entry X) (x := (⟨(rd p0.Entries x2.1).Addr, (rd p0.Entries x2.1).Text⟩ : Vvitrineref20_Entry)) (s := sv748) hr749 NL.nil)) h)))
    · replace h := cond_f hb746 h
      refine c_exit ?_
      refine e_then_exit ?_
      refine e_then_exit ?_
      refine e_blk_exit ?_
      have hd := Option.some.inj h
      subst hd
      exact ej () (i2.1, i2.2) f2_0 (sc rfl (sc rfl sn)) (kc rm0 (kc rm0 (kc rm0 (kc rm0 kr))))
  · rintro _ i1 f1_0
    replace h := hk1
    clear hk1
    refine e_seq ?_
    refine c_seq ?_
    refine c_region ?_
    refine o1 rfl (o_ld (b := b719) (off := 0) (v := (.agg (List.toArray [(.int .u8 p0.AID), (.bool p0.Short), (.int .i64 p0.Cursor), (SV.val i1.1)]))) rfl rm1 rfl rfl ?_)
    refine o0 (o_st (b := b717) (off := 0) (vs := [(.int .u8 p0.AID), (.bool p0.Short), (.int .i64 p0.Cursor), (SV.val i1.1)]) (cs' := [(.int .u8 p0.AID), (.bool p0.Short), (.int .i64 p0.Cursor), (SV.val i1.1)]) rfl rfl rp2 rfl rfl rfl rfl rfl rfl ?_)
    refine o_end ?_
    refine e_seq ?_
    refine c_ret ?_
    refine e_ret ?_
    refine r_endc (B := [[(.int .u8 p0.AID), (.bool p0.Short), (.int .i64 p0.Cursor), (SV.val i1.1)]]) rfl ⟨⟨_, _, _, _, rfl, rm2⟩, trivial⟩ rfl (kc rm0 (kc rm2 (kd (kd kr)))) ?_
    have hr := Option.some.inj h
    subst hr
    exact hk (i1.1, i1.2) f1_0

theorem c_vitrineref01_Same {g : Gw} (X : HP) (p0 : List Int) (s0 : SV) (q0 : Rd X s0 5 (enI .u8) p0) (p1 : List Int) (s1 : SV) (q1 : Rd X s1 5 (enI .u8) p1) (r : Bool) (h : m_vitrineref01_Same p0 p1 = some r) : Tri env g 20 (List.toArray [(SV.val s0), (SV.val s1)]) [X] (fun K R => K (.bool r) (X :: R)) := by
  refine tri_of (fn := Try.f20) (N := 10) Try.func20 rfl rfl rfl ?_
  intro R K hk
  unfold m_vitrineref01_Same at h
  change GC _ none _ [] [(0, (SV.val s0)), (1, (SV.val s1))] (X :: R) g _ _
  refine c_seq ?_
  refine c_region ?_
  refine o1 rfl (o_p rfl ?_)
  refine o_end ?_
  refine e_seq ?_
  refine c_seq ?_
  refine c_region ?_
  refine o1 rfl (o_p rfl ?_)
  refine o1 rfl (o_b2s (s := s0) rfl rfl rfl rfl rfl rfl rfl rm0 q0 ?_)
  refine o1 rfl (o_p rfl ?_)
  refine o1 rfl (o_b2s (s := s1) rfl rfl rfl rfl rfl rfl rfl rm0 q1 ?_)
  refine o1 rfl (o_p (v := (.bool ((bstr p0).data.toList == (bstr p1).data.toList))) rfl ?_)
  refine o1 rfl (o_p rfl ?_)
  refine o_end ?_
  refine e_seq ?_
  refine c_ret ?_
  refine e_ret ?_
  refine r_endt rfl rfl (kc rm0 kr) ?_
  have hr := Option.some.inj h
  subst hr
  exact hk

theorem c_vitrinelaw20_own {g : Gw} (X : HP) (p0 : Vvitrineref20_Report) (s0 : SV) (q0r : RdN X s0 60 en_Vvitrineref20_Entry D_Vvitrineref20_Entry p0.Entries) (r : Ventry_Report) (h : m_vitrinelaw20_own p0 = some r) : Tri env g 26 (List.toArray [(.agg (List.toArray [(.int .u8 p0.AID), (.bool p0.Short), (.int .i64 p0.Cursor), (SV.val s0)]))]) [X] (fun K R => ∀ (i0 : HP × SV × (List (Ventry_Entry × SV))), (NL (D_Ventry_Entry i0.1) i0.2.2 r.Entries) → (Ext X i0.1) → K (.agg (List.toArray [(.int .u8 r.AID), (.bool r.Short), (.int .i64 r.Cursor), (SV.val i0.2.1)])) (i0.1 :: slO i0.2.1 109 en_Ventry_Entry i0.2.2 :: R)) := by
  refine tri_of (fn := Try.f26) (N := 33) Try.func26 rfl rfl rfl ?_
  intro R K hk
  obtain ⟨L_q0, q0, n_q0⟩ := q0r
  unfold m_vitrinelaw20_own at h
  change GC _ none _ [] [(0, (.agg (List.toArray [(.int .u8 p0.AID), (.bool p0.Short), (.int .i64 p0.Cursor), (SV.val s0)])))] (X :: R) g _ _
  refine c_seq ?_
  refine c_region ?_
  refine o1 rfl (o_box (cs := [(.int .u8 p0.AID), (.bool p0.Short), (.int .i64 p0.Cursor), (SV.val s0)]) rfl rfl (fun b886 => ?_))
  refine o1 rfl (o_alloc (cs := [(.int .u8 0), (.bool false), (.int .i64 0), (SV.val SV.nil)]) rfl rfl (fun b888 => ?_))
  refine o_end ?_
  refine e_seq ?_
  refine c_seq ?_
  refine c_region ?_
  refine o1 rfl (o_fa (fd := ⟨ "AID", 5, 0, false, "", "", 0⟩) rfl rfl rfl rfl rfl ?_)
  refine o1 rfl (o_ld (b := b886) (off := 0) (v := (.int .u8 p0.AID)) rfl rm1 rfl rfl ?_)
  refine o1 rfl (o_fa (fd := ⟨ "Short", 4, 1, false, "", "", 1⟩) rfl rfl rfl rfl rfl ?_)
  refine o1 rfl (o_ld (b := b886) (off := 1) (v := (.bool p0.Short)) rfl rm1 rfl rfl ?_)
  refine o1 rfl (o_fa (fd := ⟨ "Cursor", 3, 2, false, "", "", 8⟩) rfl rfl rfl rfl rfl ?_)
  refine o1 rfl (o_ld (b := b886) (off := 2) (v := (.int .i64 p0.Cursor)) rfl rm1 rfl rfl ?_)
  refine o1 rfl (o_build (fs := [⟨ "AID", 5, 0, false, "", "", 0⟩, ⟨ "Short", 4, 1, false, "", "", 1⟩, ⟨ "Cursor", 3, 2, false, "", "", 8⟩, ⟨ "Entries", 63, 3, false, "", "", 16⟩]) (ps := [(0, 1), (1, 1), (2, 1), (3, 1)]) (cs := [(.int .u8 p0.AID), (.bool p0.Short), (.int .i64 p0.Cursor), (SV.val SV.nil)]) rfl rfl rfl rfl rfl ?_)
  refine o1 rfl (o_alloc (cs := [(.int .u8 0), (.bool false), (.int .i64 0), (SV.val SV.nil)]) rfl rfl (fun b890 => ?_))
  refine o0 (o_st (b := b890) (off := 0) (vs := [(.int .u8 p0.AID), (.bool p0.Short), (.int .i64 p0.Cursor), (SV.val SV.nil)]) (cs' := [(.int .u8 p0.AID), (.bool p0.Short), (.int .i64 p0.Cursor), (SV.val SV.nil)]) rfl rfl rp0 rfl rfl rfl rfl rfl rfl ?_)
  refine o_end ?_
  refine e_seq ?_
  refine c_seq ?_
  refine c_seq ?_
  refine c_region ?_
  refine o1 rfl (o_fa (fd := ⟨ "Entries", 56, 3, false, "", "", 16⟩) rfl rfl rfl rfl rfl ?_)
  refine o1 rfl (o_ld (b := b886) (off := 3) (v := (SV.val s0)) rfl rm2 rfl rfl ?_)
  refine o1 rfl (o_lenN (s := s0) rfl rfl rfl rm3 q0 n_q0 ?_)
  refine o1 rfl (o_p rfl ?_)
  refine o_end ?_
  refine e_seq ?_
  replace h := bsome h
  obtain ⟨d1, h, hk1⟩ := h
  refine cj (D := Unit) (ι := HP × SV × (List (Ventry_Entry × SV)) × (List (Ventry_Entry × SV))) (fun _ i1 => (NL (D_Ventry_Entry i1.1) i1.2.2.1 d1) ∧ (NL (D_Ventry_Entry i1.1) i1.2.2.2 ([] : List Ventry_Entry)) ∧ (Ext X i1.1)) (fun _ i1 => [(3, (.pointer (some ⟨b890, 0, none⟩))), (2, (.pointer (some ⟨b888, 0, none⟩)))]) (fun _ i1 => i1.1 :: blk b890 (.cells (List.toArray [(.int .u8 p0.AID), (.bool p0.Short), (.int .i64 p0.Cursor), (SV.val i1.2.1)]) 65 (0, 0)) :: blk b888 (.cells (List.toArray [(.int .u8 0), (.bool false), (.int .i64 0), (SV.val SV.nil)]) 65 (0, 0)) :: slO i1.2.1 109 en_Ventry_Entry i1.2.2.1 :: slO SV.nil 109 en_Ventry_Entry i1.2.2.2 :: R) ?_ ?_
  · refine c_block ?_
    refine c_add (slO SV.nil 109 en_Ventry_Entry []) (slO_nil _ _ _) ?_
    refine c_add (slO SV.nil 109 en_Ventry_Entry []) (slO_nil _ _ _) ?_
    refine c_loop (l_sub (sc rfl (sc rfl (sc rfl (sc rfl (sc rfl sn))))) (l_keep (kc rm5 (kc rm2 (kc rm2 (kc rm1 (kc rm0 (kd kr)))))) (lf (X := Int × (List Ventry_Entry)) (ι := HP × SV × (List (Ventry_Entry × SV)) × (List (Ventry_Entry × SV))) (fun k x => vitrinelaw20_own_l2 p0 k x) _ (fun x2 i2 => (RdN i2.1 s0 60 en_Vvitrineref20_Entry D_Vvitrineref20_Entry p0.Entries) ∧ (NL (D_Ventry_Entry i2.1) i2.2.2.1 x2.2) ∧ (NL (D_Ventry_Entry i2.1) i2.2.2.2 ([] : List Ventry_Entry)) ∧ (Ext X i2.1)) (fun x2 i2 => [(16, (.int .i64 x2.1)), (15, (.int .i64 (p0.Entries.length : Int))), (14, (SV.val s0)), (3, (.pointer (some ⟨b890, 0, none⟩))), (2, (.pointer (some ⟨b888, 0, none⟩)))]) (fun x2 i2 => i2.1 :: blk b890 (.cells (List.toArray [(.int .u8 p0.AID), (.bool p0.Short), (.int .i64 p0.Cursor), (SV.val i2.2.1)]) 65 (0, 0)) :: blk b888 (.cells (List.toArray [(.int .u8 0), (.bool false), (.int .i64 0), (SV.val SV.nil)]) 65 (0, 0)) :: slO i2.2.1 109 en_Ventry_Entry i2.2.2.1 :: slO SV.nil 109 en_Ventry_Entry i2.2.2.2 :: R) (fun _ => rfl) ?_ fuel (0, ([] : List Ventry_Entry)) (X, SV.nil, [], []) ⟨⟨_, q0, n_q0⟩, NL.nil, NL.nil, (Ext.refl _)⟩ h)))
    clear h
    rintro k2 ih2 x2 i2 ⟨⟨L_f2_0, f2_0, n_f2_0⟩, f2_1, f2_2, f2_3⟩ h
    rw [vitrinelaw20_own_l2.eq_2] at h
    refine l_round ?_
    refine c_seq ?_
    refine c_region ?_
    refine o1 rfl (o_p (v := (.bool (decide (x2.1 < (p0.Entries.length : Int))))) rfl ?_)
    refine o_end ?_
    refine e_seq ?_
    refine c_seq ?_
    refine c_cond (b := (decide (x2.1 < (p0.Entries.length : Int)))) rfl (fun hb936 => ?_) (fun hb936 => ?_)
    · replace h := cond_t hb936 h
      refine c_skip ?_
      refine e_seq ?_
      refine c_seq ?_
      refine c_block ?_
      refine c_seq ?_
      refine c_region ?_
      replace h := gsome h
      obtain ⟨hg937, h⟩ := h
      refine o1 rfl (o_ix (s := s0) (n := x2.1) (e := en_Vvitrineref20_Entry) rfl rfl rfl rfl rfl rfl rm0 f2_0 (NL.lt n_f2_0 hg937) ?_)
      obtain ⟨sv938, he_sv938, hd_sv938⟩ := NL.rd n_f2_0 hg937
      have hr939 : Rd i2.1 sv938 5 (enI .u8) ((rd p0.Entries x2.1).Text) := hd_sv938
      refine o1 rfl (o_ldE (s := s0) (e := en_Vvitrineref20_Entry) (n := x2.1) (f := 0) (v := (.agg (List.toArray [(.int .i64 ((rd p0.Entries x2.1).Addr)), (SV.val sv938)]))) rfl rm0 f2_0 (NL.lt n_f2_0 hg937) rfl (by rw [he_sv938]; rfl) ?_)
      refine o1 rfl (o_alloc (cs := [(.int .i64 0), (SV.val SV.nil)]) rfl rfl (fun b940 => ?_))
      refine o0 (o_st (b := b940) (off := 0) (vs := [(.int .i64 ((rd p0.Entries x2.1).Addr)), (SV.val sv938)]) (cs' := [(.int .i64 ((rd p0.Entries x2.1).Addr)), (SV.val sv938)]) rfl rfl rp0 rfl rfl rfl rfl rfl rfl ?_)
      refine o_end ?_
      refine e_seq ?_
      refine c_draw (n := 4) (q := [(0, 20, (.pointer (some ⟨b890, 3, none⟩))), (1, 21, (SV.val i2.2.1)), (2, 22, (.pointer (some ⟨b940, 0, none⟩))), (3, 23, (.int .i64 ((rd p0.Entries x2.1).Addr))), (4, 24, (.pointer (some ⟨b940, 1, none⟩))), (5, 25, (SV.val sv938))]) (pend := [0, 1, 2, 3, 4, 5]) rfl rfl rfl ?_
      replace h := bsome h
      obtain ⟨d7, h7, h⟩ := h
      refine ⟨⟨fun _ => ⟨rfl, rfl, rfl, .inl ⟨rfl, (o_fa (fd := ⟨ "Entries", 63, 3, false, "", "", 16⟩) rfl rfl rfl rfl rfl ⟨rfl, rfl⟩)⟩⟩, fun _ => ⟨rfl, rfl, rfl, .inl ⟨rfl, (o_ld (b := b890) (off := 3) (v := (SV.val i2.2.1)) rfl rm2 rfl rfl ⟨rfl, rfl⟩)⟩⟩, fun _ => ⟨rfl, rfl, rfl, .inl ⟨rfl, (o_fa (fd := ⟨ "Addr", 3, 0, false, "", "", 0⟩) rfl rfl rfl rfl rfl ⟨rfl, rfl⟩)⟩⟩, fun _ => ⟨rfl, rfl, rfl, .inl ⟨rfl, (o_ld (b := b940) (off := 0) (v := (.int .i64 ((rd p0.Entries x2.1).Addr))) rfl rm0 rfl rfl ⟨rfl, rfl⟩)⟩⟩, fun _ => ⟨rfl, rfl, rfl, .inl ⟨rfl, (o_fa (fd := ⟨ "Text", 31, 1, false, "", "", 8⟩) rfl rfl rfl rfl rfl ⟨rfl, rfl⟩)⟩⟩, fun _ => ⟨rfl, rfl, rfl, .inl ⟨rfl, (o_ld (b := b940) (off := 1) (v := (SV.val sv938)) rfl rm0 rfl rfl ⟨rfl, rfl⟩)⟩⟩, trivial⟩, rfl, .inr ⟨[6], rfl, rfl, ⟨rfl, .inl rfl, ?_⟩, trivial⟩⟩
      refine opw_z (o_call has59 rfl (c_vitrineref01_Copy i2.1 ((rd p0.Entries x2.1).Text) sv938 hr939 _ h7) (pc rm1 pn) (fun i7 => ?_))
      refine kz_fz rm1 rm0 (fun X944 hx945 hs946 => ?_)
      refine kz_done ?_
      refine ⟨[(7, 27, (.agg (List.toArray [(.int .i64 ((rd p0.Entries x2.1).Addr)), (SV.val i7)])))], [0, 1, 2, 3, 7], rfl, rfl, rfl, rfl, ?_⟩
      refine ⟨⟨fun _ => ⟨rfl, rfl, rfl, .inl ⟨rfl, (o_build (fs := [⟨ "Addr", 3, 0, false, "", "", 0⟩, ⟨ "Text", 31, 1, false, "", "", 8⟩]) (ps := [(0, 1), (1, 1)]) (cs := [(.int .i64 ((rd p0.Entries x2.1).Addr)), (SV.val i7)]) rfl rfl rfl rfl rfl ⟨rfl, rfl⟩)⟩⟩, fun _ => ⟨rfl, rfl, rfl, .inl ⟨rfl, (o_fa (fd := ⟨ "Entries", 63, 3, false, "", "", 16⟩) rfl rfl rfl rfl rfl ⟨rfl, rfl⟩)⟩⟩, fun _ => ⟨rfl, rfl, rfl, .inl ⟨rfl, (o_ld (b := b890) (off := 3) (v := (SV.val i2.2.1)) rfl rm2 rfl rfl ⟨rfl, rfl⟩)⟩⟩, fun _ => ⟨rfl, rfl, rfl, .inl ⟨rfl, (o_fa (fd := ⟨ "Addr", 3, 0, false, "", "", 0⟩) rfl rfl rfl rfl rfl ⟨rfl, rfl⟩)⟩⟩, fun _ => ⟨rfl, rfl, rfl, .inl ⟨rfl, (o_ld (b := b940) (off := 0) (v := (.int .i64 ((rd p0.Entries x2.1).Addr))) rfl rm1 rfl rfl ⟨rfl, rfl⟩)⟩⟩, (fun h => nomatch h), (fun h => nomatch h), trivial⟩, rfl, .inr ⟨[8], rfl, rfl, ⟨rfl, .inl rfl, ?_⟩, trivial⟩⟩
      refine (o_bs (e := en_Ventry_Entry) (l := [((⟨(rd p0.Entries x2.1).Addr, d7⟩ : Ventry_Entry), i7)]) (zs := [(.int .i64 0), (SV.val SV.nil)]) rfl rfl rfl rfl rfl rfl rfl rfl rfl rfl (fun s947 => ?_))
      refine ⟨[], [0, 1], rfl, rfl, rfl, rfl, ?_⟩
      replace h := gsome h
      obtain ⟨hg949, h⟩ := h
      refine ⟨⟨(fun h => nomatch h), fun _ => ⟨rfl, rfl, rfl, .inl ⟨rfl, (o_fa (fd := ⟨ "Entries", 63, 3, false, "", "", 16⟩) rfl rfl rfl rfl rfl ⟨rfl, rfl⟩)⟩⟩, fun _ => ⟨rfl, rfl, rfl, .inl ⟨rfl, (o_ld (b := b890) (off := 3) (v := (SV.val i2.2.1)) rfl rm3 rfl rfl ⟨rfl, rfl⟩)⟩⟩, (fun h => nomatch h), (fun h => nomatch h), (fun h => nomatch h), (fun h => nomatch h), trivial⟩, rfl, .inr ⟨[9], rfl, rfl, ⟨rfl, .inl rfl, ?_⟩, trivial⟩⟩
      refine (o_app (s := i2.2.1) (r := s947) (e := en_Ventry_Entry) (l := i2.2.2.1) (l2 := [((⟨(rd p0.Entries x2.1).Addr, d7⟩ : Ventry_Entry), i7)]) (zs := [(.int .i64 0), (SV.val SV.nil)]) rfl rfl rfl rfl rfl rfl rfl rfl rfl rfl rfl rm5 rm0 (rd_own _ _ _ _) (len2 (D := D_Ventry_Entry X944) (D' := D_Ventry_Entry X944) (NL.mono f2_1 (D_Ventry_Entry.ext hx945)) (NL.cons (D := D_Ventry_Entry X944) (x := (⟨(rd p0.Entries x2.1).Addr, d7⟩ : Ventry_Entry)) (s := i7) hs946 NL.nil) hg949) (fun s950 => ?_))
      refine ⟨[(10, 30, (.pointer (some ⟨b890, 3, none⟩)))], [10], rfl, rfl, rfl, rfl, ?_⟩
      refine ⟨⟨fun _ => ⟨rfl, rfl, rfl, .inl ⟨rfl, (o_fa (fd := ⟨ "Entries", 63, 3, false, "", "", 16⟩) rfl rfl rfl rfl rfl ⟨rfl, rfl⟩)⟩⟩, (fun h => nomatch h), (fun h => nomatch h), (fun h => nomatch h), (fun h => nomatch h), (fun h => nomatch h), (fun h => nomatch h), (fun h => nomatch h), trivial⟩, rfl, .inr ⟨[11], rfl, rfl, ⟨rfl, .inl rfl, ?_⟩, trivial⟩⟩
      refine (o_st (b := b890) (off := 3) (vs := [(SV.val s950)]) (cs' := [(.int .u8 p0.AID), (.bool p0.Short), (.int .i64 p0.Cursor), (SV.val s950)]) rfl rfl rp4 rfl rfl rfl rfl rfl rfl ?_)
      refine ⟨[], [], rfl, rfl, ?_⟩
      refine ⟨⟨(fun h => nomatch h), (fun h => nomatch h), (fun h => nomatch h), (fun h => nomatch h), (fun h => nomatch h), (fun h => nomatch h), (fun h => nomatch h), (fun h => nomatch h), trivial⟩, rfl, rfl, rfl, ?_⟩
      refine e_blk ?_
      refine e_seq ?_
      refine c_region ?_
      refine o1 rfl (o_p (v := (.int .i64 (w64 (x2.1 + 1)))) rfl ?_)
      refine o1 rfl (o_p rfl ?_)
      refine o_end ?_
      exact e_loop (l_sub (sc rfl (sc rfl (sc rfl (sc rfl (sc rfl sn))))) (l_keep (kc rm2 (kc rm3 (kc rm3 (kc rm0 (kc rm2 (kd (kd kr))))))) (ih2 (w64 (x2.1 + 1), (x2.2 ++ [(⟨(rd p0.Entries x2.1).Addr, d7⟩ : Ventry_Entry)])) (X944, s950, (i2.2.2.1 ++ [((⟨(rd p0.Entries x2.1).Addr, d7⟩ : Ventry_Entry), i7)]), i2.2.2.2) ⟨⟨_, (Rd.ext f2_0 hx945), (NL.mono n_f2_0 (D_Vvitrineref20_Entry.ext hx945))⟩, (NL.app (NL.mono f2_1 (D_Ventry_Entry.ext hx945)) (NL.cons (D := D_Ventry_Entry X944) (x := (⟨(rd p0.Entries x2.1).Addr, d7⟩ : Ventry_Entry)) (s := i7) hs946 NL.nil)), (NL.mono f2_2 (D_Ventry_Entry.ext hx945)), (Ext.trans f2_3 hx945)⟩ h)))
    · replace h := cond_f hb936 h
      refine c_exit ?_
      refine e_then_exit ?_
      refine e_then_exit ?_
      refine e_blk_exit ?_
      have hd := Option.some.inj h
      subst hd
      exact ej () (i2.1, i2.2.1, i2.2.2.1, i2.2.2.2) ⟨f2_1, f2_2, f2_3⟩ (sc rfl (sc rfl sn)) (kc rm0 (kc rm0 (kc rm0 (kc rm0 (kc rm0 kr)))))
  · rintro _ i1 ⟨f1_0, f1_1, f1_2⟩
    replace h := hk1
    clear hk1
    refine e_seq ?_
    refine c_seq ?_
    refine c_region ?_
    refine o1 rfl (o_ld (b := b890) (off := 0) (v := (.agg (List.toArray [(.int .u8 p0.AID), (.bool p0.Short), (.int .i64 p0.Cursor), (SV.val i1.2.1)]))) rfl rm1 rfl rfl ?_)
    refine o0 (o_st (b := b888) (off := 0) (vs := [(.int .u8 p0.AID), (.bool p0.Short), (.int .i64 p0.Cursor), (SV.val i1.2.1)]) (cs' := [(.int .u8 p0.AID), (.bool p0.Short), (.int .i64 p0.Cursor), (SV.val i1.2.1)]) rfl rfl rp2 rfl rfl rfl rfl rfl rfl ?_)
    refine o_end ?_
    refine e_seq ?_
    refine c_ret ?_
    refine e_ret ?_
    refine r_endc (B := [[(.int .u8 p0.AID), (.bool p0.Short), (.int .i64 p0.Cursor), (SV.val i1.2.1)]]) rfl ⟨⟨_, _, _, _, rfl, rm2⟩, trivial⟩ rfl (kc rm0 (kc rm2 (kd (kd (kd kr))))) ?_
    have hr := Option.some.inj h
    subst hr
    exact hk (i1.1, i1.2.1, i1.2.2.1) f1_0 f1_2

theorem c_vitrineref04_Mod {g : Gw} (X : HP) (p0 : Int) (p1 : Int) (r : Int) (h : m_vitrineref04_Mod p0 p1 = some r) : Tri env g 56 (List.toArray [(.int .i64 p0), (.int .i64 p1)]) [X] (fun K R => K (.int .i64 r) (X :: R)) := by
  refine tri_of (fn := Try.f56) (N := 14) Try.func56 rfl rfl rfl ?_
  intro R K hk
  unfold m_vitrineref04_Mod at h
  change GC _ none _ [] [(0, (.int .i64 p0)), (1, (.int .i64 p1))] (X :: R) g _ _
  refine c_seq ?_
  refine c_region ?_
  refine o1 rfl (o_p rfl ?_)
  refine o_end ?_
  refine e_seq ?_
  refine c_seq ?_
  refine c_seq ?_
  refine c_region ?_
  refine o1 rfl (o_p rfl ?_)
  refine o1 rfl (o_p (v := (.bool (decide (p1 < 1)))) rfl ?_)
  refine o_end ?_
  refine e_seq ?_
  refine c_cond (b := (decide (p1 < 1))) rfl (fun hb975 => ?_) (fun hb975 => ?_)
  · replace h := cond_t hb975 h
    refine c_seq ?_
    refine c_region ?_
    refine o1 rfl (o_p rfl ?_)
    refine o_end ?_
    refine e_seq ?_
    refine c_ret ?_
    refine e_then_ret ?_
    refine e_ret ?_
    refine r_endt rfl rfl (kc rm0 kr) ?_
    have hr := Option.some.inj h
    subst hr
    exact hk
  · replace h := cond_f hb975 h
    refine c_skip ?_
    refine e_seq ?_
    refine c_seq ?_
    refine c_region ?_
    refine o1 rfl (o_p rfl ?_)
    refine o1 rfl (o_p rfl ?_)
    replace h := gsome h
    obtain ⟨hg976, h⟩ := h
    refine o1 rfl (o_rem (m := p0) (n := p1) rfl rfl hg976 ?_)
    refine o1 rfl (o_p rfl ?_)
    refine o1 rfl (o_p (v := (.int .i64 (w64 ((Int.tmod p0 p1) + p1)))) rfl ?_)
    refine o1 rfl (o_p rfl ?_)
    replace h := gsome h
    obtain ⟨hg977, h⟩ := h
    refine o1 rfl (o_rem (m := w64 ((Int.tmod p0 p1) + p1)) (n := p1) rfl rfl hg977 ?_)
    refine o1 rfl (o_p rfl ?_)
    refine o_end ?_
    refine e_seq ?_
    refine c_ret ?_
    refine e_ret ?_
    refine r_endt rfl rfl (kc rm0 kr) ?_
    have hr := Option.some.inj h
    subst hr
    exact hk

theorem c_vitrineref01_Num {g : Gw} (X : HP) (p0 : ByteArray) (r : Int) (h : m_vitrineref01_Num p0 = some r) : Tri env g 74 (List.toArray [(.string p0)]) [X] (fun K R => K (.int .i64 r) (X :: R)) := by
  refine tri_of (fn := Try.f74) (N := 32) Try.func74 rfl rfl rfl ?_
  intro R K hk
  unfold m_vitrineref01_Num at h
  change GC _ none _ [] [(0, (.string p0))] (X :: R) g _ _
  refine c_seq ?_
  refine c_region ?_
  refine o1 rfl (o_p rfl ?_)
  refine o_end ?_
  refine e_seq ?_
  refine c_seq ?_
  refine c_region ?_
  refine o1 rfl (o_p rfl ?_)
  refine o_end ?_
  refine e_seq ?_
  refine c_seq ?_
  refine c_seq ?_
  refine c_region ?_
  refine o1 rfl (o_p rfl ?_)
  refine o_end ?_
  refine e_seq ?_
  replace h := bsome h
  obtain ⟨d1, h, hk1⟩ := h
  refine cj (D := Unit) (ι := Unit) (fun _ i1 => True) (fun _ i1 => [(3, (.int .i64 d1))]) (fun _ i1 => X :: R) ?_ ?_
  · refine c_block ?_
    refine c_loop (l_sub (sc rfl (sc rfl (sc rfl sn))) (l_keep (kc rm0 kr) (lf (X := Int × Int) (ι := Unit) (fun k x => vitrineref01_Num_l2 p0 k x) _ (fun x2 i2 => True) (fun x2 i2 => [(4, (.int .i64 x2.1)), (3, (.int .i64 x2.2)), (0, (.string p0))]) (fun x2 i2 => X :: R) (fun _ => rfl) ?_ fuel (0, 0) () trivial h)))
    clear h
    rintro k2 ih2 x2 i2 _ h
    rw [vitrineref01_Num_l2.eq_2] at h
    refine l_round ?_
    refine c_seq ?_
    refine c_seq ?_
    refine c_region ?_
    refine o1 rfl (o_p rfl ?_)
    refine o1 rfl (o_p rfl ?_)
    refine o1 rfl (o_lens (s := p0) rfl rfl rfl ?_)
    refine o1 rfl (o_p (v := (.bool (decide (x2.1 < (p0.size : Int))))) rfl ?_)
    refine o_end ?_
    refine e_seq ?_
    refine c_cond (b := (decide (x2.1 < (p0.size : Int)))) rfl (fun hb989 => ?_) (fun hb989 => ?_)
    · replace h := cond_t hb989 h
      refine c_skip ?_
      refine e_seq ?_
      refine c_seq ?_
      refine c_block ?_
      refine c_seq ?_
      refine c_region ?_
      refine o1 rfl (o_p rfl ?_)
      refine o1 rfl (o_p rfl ?_)
      replace h := gsome h
      obtain ⟨hg990, h⟩ := h
      refine o1 rfl (o_sidx (s := p0) (n := x2.1) rfl rfl rfl rfl hg990 ?_)
      refine o1 rfl (o_p (v := (.int .u8 (IntKind.wrap .u8 ((sbyte p0 x2.1) - 48)))) rfl ?_)
      refine o1 rfl (o_p (v := (.int .i64 (w64 (IntKind.wrap .u8 ((sbyte p0 x2.1) - 48))))) rfl ?_)
      refine o1 rfl (o_p rfl ?_)
      refine o_end ?_
      refine e_seq ?_
      refine c_seq ?_
      refine c_seq ?_
      refine c_region ?_
      refine o1 rfl (o_p rfl ?_)
      refine o1 rfl (o_p rfl ?_)
      replace h := gsome h
      obtain ⟨hg991, h⟩ := h
      refine o1 rfl (o_sidx (s := p0) (n := x2.1) rfl rfl rfl rfl hg991 ?_)
      refine o1 rfl (o_p (v := (.bool (decide ((sbyte p0 x2.1) ≥ 97)))) rfl ?_)
      refine o_end ?_
      refine e_seq ?_
      replace h := bsome h
      obtain ⟨d5, h, hk5⟩ := h
      refine cj (D := Unit) (ι := Unit) (fun _ i5 => True) (fun _ i5 => [(5, (.int .i64 d5)), (4, (.int .i64 x2.1)), (3, (.int .i64 x2.2)), (0, (.string p0))]) (fun _ i5 => X :: R) ?_ ?_
      · refine c_cond (b := (decide ((sbyte p0 x2.1) ≥ 97))) rfl (fun hb992 => ?_) (fun hb992 => ?_)
        · replace h := cond_t hb992 h
          refine c_region ?_
          refine o1 rfl (o_p rfl ?_)
          refine o1 rfl (o_p rfl ?_)
          replace h := gsome h
          obtain ⟨hg993, h⟩ := h
          refine o1 rfl (o_sidx (s := p0) (n := x2.1) rfl rfl rfl rfl hg993 ?_)
          refine o1 rfl (o_p (v := (.int .u8 (IntKind.wrap .u8 ((sbyte p0 x2.1) - 97)))) rfl ?_)
          refine o1 rfl (o_p (v := (.int .i64 (w64 (IntKind.wrap .u8 ((sbyte p0 x2.1) - 97))))) rfl ?_)
          refine o1 rfl (o_p (v := (.int .i64 (w64 ((w64 (IntKind.wrap .u8 ((sbyte p0 x2.1) - 97))) + 10)))) rfl ?_)
          refine o1 rfl (o_p rfl ?_)
          refine o_end ?_
          have hd := Option.some.inj h
          subst hd
          exact ej () () trivial (sc rfl (sc rfl (sc rfl (sc rfl sn)))) (kc rm0 kr)
        · replace h := cond_f hb992 h
          refine c_skip ?_
          have hd := Option.some.inj h
          subst hd
          exact ej () () trivial (sc rfl (sc rfl (sc rfl (sc rfl sn)))) (kc rm0 kr)
      · rintro _ i5 _
        replace h := hk5
        clear hk5
        refine e_seq ?_
        refine c_region ?_
        refine o1 rfl (o_p rfl ?_)
        refine o1 rfl (o_p (v := (.int .i64 (w64 (16 * x2.2)))) rfl ?_)
        refine o1 rfl (o_p rfl ?_)
        refine o1 rfl (o_p (v := (.int .i64 (w64 ((w64 (16 * x2.2)) + d5)))) rfl ?_)
        refine o1 rfl (o_p rfl ?_)
        refine o_end ?_
        refine e_blk ?_
        refine e_seq ?_
        refine c_region ?_
        refine o1 rfl (o_p rfl ?_)
        refine o1 rfl (o_p (v := (.int .i64 (w64 (x2.1 + 1)))) rfl ?_)
        refine o1 rfl (o_p rfl ?_)
        refine o_end ?_
        exact e_loop (l_sub (sc rfl (sc rfl (sc rfl sn))) (l_keep (kc rm0 kr) (ih2 (w64 (x2.1 + 1), w64 ((w64 (16 * x2.2)) + d5)) () trivial h)))
    · replace h := cond_f hb989 h
      refine c_exit ?_
      refine e_then_exit ?_
      refine e_then_exit ?_
      refine e_blk_exit ?_
      have hd := Option.some.inj h
      subst hd
      exact ej () () trivial (sc rfl sn) (kc rm0 kr)
  · rintro _ i1 _
    replace h := hk1
    clear hk1
    refine e_seq ?_
    refine c_seq ?_
    refine c_region ?_
    refine o1 rfl (o_p rfl ?_)
    refine o1 rfl (o_p rfl ?_)
    refine o_end ?_
    refine e_seq ?_
    refine c_ret ?_
    refine e_ret ?_
    refine r_endt rfl rfl (kc rm0 kr) ?_
    have hr := Option.some.inj h
    subst hr
    exact hk

theorem c_vitrineref04_Six {g : Gw} (X : HP) (p0 : Int) (r : Int) (h : m_vitrineref04_Six p0 = some r) : Tri env g 52 (List.toArray [(.int .i64 p0)]) [X] (fun K R => K (.int .u8 r) (X :: R)) := by
  refine tri_of (fn := Try.f52) (N := 13) Try.func52 rfl rfl rfl ?_
  intro R K hk
  unfold m_vitrineref04_Six at h
  change GC _ none _ [] [(0, (.int .i64 p0))] (X :: R) g _ _
  refine c_seq ?_
  refine c_region ?_
  refine o1 rfl (o_p rfl ?_)
  refine o_end ?_
  refine e_seq ?_
  refine c_seq ?_
  refine c_region ?_
  refine o1 rfl (o_p rfl ?_)
  replace h := bsome h
  obtain ⟨d1, h1, h⟩ := h
  refine o1 rfl (o_call has56 rfl (c_vitrineref04_Mod X p0 64 _ h1) (pc rm0 pn) ?_)
  refine o1 rfl (o_p (v := (.int .i64 (w64 (2 * d1)))) rfl ?_)
  refine o1 rfl (o_p rfl ?_)
  refine o_end ?_
  refine e_seq ?_
  refine c_seq ?_
  refine c_region ?_
  refine o1 rfl (o_p rfl ?_)
  refine o1 rfl (o_p rfl ?_)
  refine o1 rfl (o_p (v := (.int .i64 (w64 ((w64 (2 * d1)) + 2)))) rfl ?_)
  replace h := gsome h
  obtain ⟨hg978, h⟩ := h
  refine o1 rfl (o_ssl (s := (ByteArray.mk (List.toArray [52, 48, 99, 49, 99, 50, 99, 51, 99, 52, 99, 53, 99, 54, 99, 55, 99, 56, 99, 57, 52, 97, 52, 98, 52, 99, 52, 100, 52, 101, 52, 102, 53, 48, 100, 49, 100, 50, 100, 51, 100, 52, 100, 53, 100, 54, 100, 55, 100, 56, 100, 57, 53, 97, 53, 98, 53, 99, 53, 100, 53, 101, 53, 102, 54, 48, 54, 49, 101, 50, 101, 51, 101, 52, 101, 53, 101, 54, 101, 55, 101, 56, 101, 57, 54, 97, 54, 98, 54, 99, 54, 100, 54, 101, 54, 102, 102, 48, 102, 49, 102, 50, 102, 51, 102, 52, 102, 53, 102, 54, 102, 55, 102, 56, 102, 57, 55, 97, 55, 98, 55, 99, 55, 100, 55, 101, 55, 102]))) (a := w64 (2 * d1)) (b := w64 ((w64 (2 * d1)) + 2)) rfl rfl rfl rfl rfl hg978 ?_)
  replace h := bsome h
  obtain ⟨d2, h2, h⟩ := h
  refine o1 rfl (o_call has74 rfl (c_vitrineref01_Num X (ByteArray.extract (ByteArray.mk (List.toArray [52, 48, 99, 49, 99, 50, 99, 51, 99, 52, 99, 53, 99, 54, 99, 55, 99, 56, 99, 57, 52, 97, 52, 98, 52, 99, 52, 100, 52, 101, 52, 102, 53, 48, 100, 49, 100, 50, 100, 51, 100, 52, 100, 53, 100, 54, 100, 55, 100, 56, 100, 57, 53, 97, 53, 98, 53, 99, 53, 100, 53, 101, 53, 102, 54, 48, 54, 49, 101, 50, 101, 51, 101, 52, 101, 53, 101, 54, 101, 55, 101, 56, 101, 57, 54, 97, 54, 98, 54, 99, 54, 100, 54, 101, 54, 102, 102, 48, 102, 49, 102, 50, 102, 51, 102, 52, 102, 53, 102, 54, 102, 55, 102, 56, 102, 57, 55, 97, 55, 98, 55, 99, 55, 100, 55, 101, 55, 102])) (Int.toNat (w64 (2 * d1))) (Int.toNat (w64 ((w64 (2 * d1)) + 2)))) _ h2) (pc rm0 pn) ?_)
  refine o1 rfl (o_p (v := (.int .u8 (IntKind.wrap .u8 (d2)))) rfl ?_)
  refine o1 rfl (o_p rfl ?_)
  refine o_end ?_
  refine e_seq ?_
  refine c_ret ?_
  refine e_ret ?_
  refine r_endt rfl rfl (kc rm0 kr) ?_
  have hr := Option.some.inj h
  subst hr
  exact hk

theorem c_vitrineref04_Encode {g : Gw} (X : HP) (p0 : Int) (p1 : Int) (r : (List Int) × Int) (h : m_vitrineref04_Encode p0 p1 = some r) : Tri env g 15 (List.toArray [(.int .i64 p0), (.int .i64 p1)]) [X] (fun K R => ∀ (i0 : SV), K (.tuple (List.toArray [(SV.val i0), (.int .i64 r.2)])) (X :: slO i0 5 (enI .u8) r.1 :: R)) := by
  refine tri_of (fn := Try.f15) (N := 37) Try.func15 rfl rfl rfl ?_
  intro R K hk
  unfold m_vitrineref04_Encode at h
  change GC _ none _ [] [(0, (.int .i64 p0)), (1, (.int .i64 p1))] (X :: R) g _ _
  refine c_seq ?_
  refine c_region ?_
  refine o1 rfl (o_p rfl ?_)
  refine o1 rfl (o_p rfl ?_)
  refine o_end ?_
  refine e_seq ?_
  refine c_seq ?_
  refine c_region ?_
  refine o1 rfl (o_p rfl ?_)
  refine o_end ?_
  refine e_seq ?_
  refine c_seq ?_
  refine c_seq ?_
  refine c_region ?_
  refine o1 rfl (o_p rfl ?_)
  refine o_end ?_
  refine e_seq ?_
  refine c_block ?_
  refine c_seq ?_
  refine c_region ?_
  refine o1 rfl (o_p (v := (.bool (p0 == 12))) rfl ?_)
  refine o1 rfl (o_p rfl ?_)
  refine o_end ?_
  refine e_seq ?_
  replace h := jn_some h
  obtain ⟨y2, h, hk2⟩ := h
  refine cj (D := Int) (ι := Unit) (fun d2 i2 => y2 = Sum.inl d2) (fun d2 i2 => [(6, (.int .i64 d2)), (0, (.int .i64 p0)), (1, (.int .i64 p1))]) (fun d2 i2 => X :: R) ?_ ?_
  · refine c_cond (b := (p0 == 12)) rfl (fun hb969 => ?_) (fun hb969 => ?_)
    · replace h := cond_t hb969 h
      refine c_region ?_
      refine o1 rfl (o_p rfl ?_)
      refine o_end ?_
      have hd := Option.some.inj h
      subst hd
      exact ej 4095 () rfl (sc rfl (sc rfl (sc rfl sn))) (kc rm0 kr)
    · replace h := cond_f hb969 h
      refine c_seq ?_
      refine c_region ?_
      refine o1 rfl (o_p (v := (.bool (p0 == 14))) rfl ?_)
      refine o1 rfl (o_p rfl ?_)
      refine o_end ?_
      refine e_seq ?_
      refine c_cond (b := (p0 == 14)) rfl (fun hb970 => ?_) (fun hb970 => ?_)
      · replace h := cond_t hb970 h
        refine c_region ?_
        refine o1 rfl (o_p rfl ?_)
        refine o_end ?_
        have hd := Option.some.inj h
        subst hd
        exact ej 16383 () rfl (sc rfl (sc rfl (sc rfl sn))) (kc rm0 kr)
      · replace h := cond_f hb970 h
        refine c_seq ?_
        refine c_region ?_
        refine o1 rfl (o_p (v := (.bool (p0 == 16))) rfl ?_)
        refine o1 rfl (o_p rfl ?_)
        refine o_end ?_
        refine e_seq ?_
        refine c_cond (b := (p0 == 16)) rfl (fun hb971 => ?_) (fun hb971 => ?_)
        · replace h := cond_t hb971 h
          refine c_region ?_
          refine o1 rfl (o_p rfl ?_)
          refine o_end ?_
          have hd := Option.some.inj h
          subst hd
          exact ej 65535 () rfl (sc rfl (sc rfl (sc rfl sn))) (kc rm0 kr)
        · replace h := cond_f hb971 h
          refine c_seq ?_
          refine c_region ?_
          refine o1 rfl (o_p rfl ?_)
          refine o1 rfl (o_p rfl ?_)
          refine o_end ?_
          refine e_seq ?_
          refine c_ret ?_
          refine ej_ret ?_
          replace h := esc_some h
          obtain ⟨z2, h, rfl⟩ := h
          obtain rfl := (hk2 : z2 = _)
          refine e_blk_ret ?_
          refine e_then_ret ?_
          refine e_ret ?_
          refine r_add (slO SV.nil 5 (enI .u8) []) (slO_nil _ _ _) ?_
          refine r_endt rfl rfl (kc rm1 (kc rm0 kr)) ?_
          have hr := Option.some.inj h
          subst hr
          exact hk SV.nil
  · rintro d2 i2 rfl
    replace h := JK_inl hk2
    clear hk2
    refine e_blk ?_
    refine e_seq ?_
    refine c_seq ?_
    refine c_seq ?_
    replace h := bsome h
    obtain ⟨d3, h, hk3⟩ := h
    refine cj (D := Unit) (ι := Unit) (fun _ i3 => True) (fun _ i3 => [(20, (.bool d3)), (0, (.int .i64 p0)), (1, (.int .i64 p1))]) (fun _ i3 => X :: R) ?_ ?_
    · refine c_region ?_
      refine o1 rfl (o_p rfl ?_)
      refine o1 rfl (o_p (v := (.bool (decide (p1 < 0)))) rfl ?_)
      refine o1 rfl (o_p rfl ?_)
      rcases bool_or ((decide (p1 < 0))) with hb972 | hb972
      · replace h := cond_t hb972 h
        refine on rfl rfl rfl hb972 ?_
        refine on rfl rfl rfl hb972 ?_
        refine on rfl rfl rfl hb972 ?_
        refine o1 rfl (o_pick_t rfl hb972 rfl ?_)
        refine o_end ?_
        have hd := Option.some.inj h
        subst hd
        exact ej () () trivial (sc rfl (sc rfl (sc rfl sn))) (kc rm0 kr)
      · replace h := cond_f hb972 h
        refine oy rfl rfl rfl hb972 (o_p rfl ?_)
        refine oy rfl rfl rfl hb972 (o_p rfl ?_)
        refine oy rfl rfl rfl hb972 (o_p (v := (.bool (decide (p1 > d2)))) rfl ?_)
        refine o1 rfl (o_pick_f rfl hb972 rfl ?_)
        refine o_end ?_
        have hd := Option.some.inj h
        subst hd
        exact ej () () trivial (sc rfl (sc rfl (sc rfl sn))) (kc rm0 kr)
    · rintro _ i3 _
      replace h := hk3
      clear hk3
      refine e_seq ?_
      refine c_cond (b := d3) rfl (fun hb973 => ?_) (fun hb973 => ?_)
      · replace h := cond_t hb973 h
        refine c_seq ?_
        refine c_region ?_
        refine o1 rfl (o_p rfl ?_)
        refine o1 rfl (o_p rfl ?_)
        refine o_end ?_
        refine e_seq ?_
        refine c_ret ?_
        refine e_then_ret ?_
        refine e_ret ?_
        refine r_add (slO SV.nil 5 (enI .u8) []) (slO_nil _ _ _) ?_
        refine r_endt rfl rfl (kc rm1 (kc rm0 kr)) ?_
        have hr := Option.some.inj h
        subst hr
        exact hk SV.nil
      · replace h := cond_f hb973 h
        refine c_skip ?_
        refine e_seq ?_
        refine c_seq ?_
        refine c_seq ?_
        refine c_region ?_
        refine o1 rfl (o_p rfl ?_)
        refine o1 rfl (o_p (v := (.bool (p0 == 12))) rfl ?_)
        refine o_end ?_
        refine e_seq ?_
        refine c_cond (b := (p0 == 12)) rfl (fun hb974 => ?_) (fun hb974 => ?_)
        · replace h := cond_t hb974 h
          refine c_seq ?_
          refine c_region ?_
          refine o1 rfl (o_p rfl ?_)
          refine o1 rfl (o_quo (m := p1) (n := 64) rfl rfl (by decide) ?_)
          replace h := bsome h
          obtain ⟨d6, h6, h⟩ := h
          refine o1 rfl (o_call has52 rfl (c_vitrineref04_Six X (w64 (Int.tdiv p1 64)) _ h6) (pc rm0 pn) ?_)
          refine o1 rfl (o_p rfl ?_)
          refine o1 rfl (o_rem (m := p1) (n := 64) rfl rfl (by decide) ?_)
          replace h := bsome h
          obtain ⟨d7, h7, h⟩ := h
          refine o1 rfl (o_call has52 rfl (c_vitrineref04_Six X (Int.tmod p1 64) _ h7) (pc rm0 pn) ?_)
          refine o1 rfl (o_bs (e := (enI .u8)) (l := [d6, d7]) (zs := [(.int .u8 0)]) rfl rfl rfl rfl rfl rfl rfl rfl rfl rfl (fun s994 => ?_))
          refine o1 rfl (o_p rfl ?_)
          refine o1 rfl (o_p rfl ?_)
          refine o_end ?_
          refine e_seq ?_
          refine c_ret ?_
          refine e_then_ret ?_
          refine e_ret ?_
          refine r_endt rfl rfl (kc rm1 (kc rm0 kr)) ?_
          have hr := Option.some.inj h
          subst hr
          exact hk s994
        · replace h := cond_f hb974 h
          refine c_skip ?_
          refine e_seq ?_
          refine c_seq ?_
          refine c_region ?_
          refine o1 rfl (o_p rfl ?_)
          refine o1 rfl (o_quo (m := p1) (n := 256) rfl rfl (by decide) ?_)
          refine o1 rfl (o_p (v := (.int .u8 (IntKind.wrap .u8 (w64 (Int.tdiv p1 256))))) rfl ?_)
          refine o1 rfl (o_p rfl ?_)
          refine o1 rfl (o_rem (m := p1) (n := 256) rfl rfl (by decide) ?_)
          refine o1 rfl (o_p (v := (.int .u8 (IntKind.wrap .u8 (Int.tmod p1 256)))) rfl ?_)
          refine o1 rfl (o_bs (e := (enI .u8)) (l := [IntKind.wrap .u8 (w64 (Int.tdiv p1 256)), IntKind.wrap .u8 (Int.tmod p1 256)]) (zs := [(.int .u8 0)]) rfl rfl rfl rfl rfl rfl rfl rfl rfl rfl (fun s996 => ?_))
          refine o1 rfl (o_p rfl ?_)
          refine o1 rfl (o_p rfl ?_)
          refine o_end ?_
          refine e_seq ?_
          refine c_ret ?_
          refine e_ret ?_
          refine r_endt rfl rfl (kc rm1 (kc rm0 kr)) ?_
          have hr := Option.some.inj h
          subst hr
          exact hk s996

theorem c_vitrineref16_Name {g : Gw} (X : HP) (p0 : Int) (r : ByteArray) (h : m_vitrineref16_Name p0 = some r) : Tri env g 96 (List.toArray [(.int .i64 p0)]) [X] (fun K R => K (.string r) (X :: R)) := by
  refine tri_of (fn := Try.f96) (N := 22) Try.func96 rfl rfl rfl ?_
  intro R K hk
  unfold m_vitrineref16_Name at h
  change GC _ none _ [] [(0, (.int .i64 p0))] (X :: R) g _ _
  refine c_seq ?_
  refine c_region ?_
  refine o1 rfl (o_p rfl ?_)
  refine o_end ?_
  refine e_seq ?_
  refine c_seq ?_
  refine c_region ?_
  refine o1 rfl (o_bs (e := enS) (l := [(ByteArray.mk (List.toArray [84, 101, 120, 116])), (ByteArray.mk (List.toArray [80, 84])), (ByteArray.mk (List.toArray [71, 69])), (ByteArray.mk (List.toArray [83, 66, 65])), (ByteArray.mk (List.toArray [69, 85, 65])), (ByteArray.mk (List.toArray [73, 67])), (ByteArray.mk (List.toArray [83, 70])), (ByteArray.mk (List.toArray [83, 65])), (ByteArray.mk (List.toArray [83, 70, 69])), (ByteArray.mk (List.toArray [77, 70])), (ByteArray.mk (List.toArray [82, 65]))]) (zs := [(.string ByteArray.empty)]) rfl rfl rfl rfl rfl rfl rfl rfl rfl rfl (fun s1031 => ?_))
  refine o1 rfl (o_p rfl ?_)
  refine o_end ?_
  refine e_seq ?_
  refine c_seq ?_
  refine c_seq ?_
  refine c_region ?_
  refine o1 rfl (o_bs (e := (enI .i64)) (l := [0, 5, 8, 17, 18, 19, 29, 40, 41, 44, 60]) (zs := [(.int .i64 0)]) rfl rfl rfl rfl rfl rfl rfl rfl rfl rfl (fun s1033 => ?_))
  refine o1 rfl (o_len (s := s1033) rfl rfl rfl rm0 (rd_own _ _ _ _) ?_)
  refine o1 rfl (o_p rfl ?_)
  refine o_end ?_
  refine e_seq ?_
  replace h := jn_some h
  obtain ⟨y1, h, hk1⟩ := h
  refine cj (D := Unit) (ι := Unit) (fun d1 i1 => y1 = Sum.inl d1) (fun d1 i1 => []) (fun d1 i1 => X :: R) ?_ ?_
  · refine c_block ?_
    refine c_loop (l_sub (sc rfl (sc rfl (sc rfl (sc rfl (sc rfl sn))))) (l_keep (kc rm2 (kc rm0 (kc rm0 kr))) (lf (X := Int) (ι := Unit) (fun k x => vitrineref16_Name_l2 p0 k x) _ (fun x2 i2 => True) (fun x2 i2 => [(9, (.int .i64 x2)), (8, (.int .i64 ([0, 5, 8, 17, 18, 19, 29, 40, 41, 44, 60].length : Int))), (7, (SV.val s1033)), (3, (SV.val s1031)), (0, (.int .i64 p0))]) (fun x2 i2 => X :: slO s1033 3 (enI .i64) [0, 5, 8, 17, 18, 19, 29, 40, 41, 44, 60] :: slO s1031 9 enS [(ByteArray.mk (List.toArray [84, 101, 120, 116])), (ByteArray.mk (List.toArray [80, 84])), (ByteArray.mk (List.toArray [71, 69])), (ByteArray.mk (List.toArray [83, 66, 65])), (ByteArray.mk (List.toArray [69, 85, 65])), (ByteArray.mk (List.toArray [73, 67])), (ByteArray.mk (List.toArray [83, 70])), (ByteArray.mk (List.toArray [83, 65])), (ByteArray.mk (List.toArray [83, 70, 69])), (ByteArray.mk (List.toArray [77, 70])), (ByteArray.mk (List.toArray [82, 65]))] :: R) (fun _ => rfl) ?_ fuel 0 () trivial h)))
    clear h
    rintro k2 ih2 x2 i2 _ h
    rw [vitrineref16_Name_l2.eq_2] at h
    refine l_round ?_
    refine c_seq ?_
    refine c_region ?_
    refine o1 rfl (o_p (v := (.bool (decide (x2 < ([0, 5, 8, 17, 18, 19, 29, 40, 41, 44, 60].length : Int))))) rfl ?_)
    refine o_end ?_
    refine e_seq ?_
    refine c_seq ?_
    refine c_cond (b := (decide (x2 < ([0, 5, 8, 17, 18, 19, 29, 40, 41, 44, 60].length : Int)))) rfl (fun hb1043 => ?_) (fun hb1043 => ?_)
    · replace h := cond_t hb1043 h
      refine c_skip ?_
      refine e_seq ?_
      refine c_seq ?_
      refine c_block ?_
      refine c_seq ?_
      refine c_region ?_
      refine o1 rfl (o_p rfl ?_)
      replace h := gsome h
      obtain ⟨hg1044, h⟩ := h
      refine o1 rfl (o_ix (s := s1033) (n := x2) (e := (enI .i64)) rfl rfl rfl rfl rfl rfl rm1 (rd_own _ _ _ _) hg1044 ?_)
      refine o1 rfl (o_ldE (s := s1033) (e := (enI .i64)) (n := x2) (f := 0) (v := (.int .i64 (rd [0, 5, 8, 17, 18, 19, 29, 40, 41, 44, 60] x2))) rfl rm1 (rd_own _ _ _ _) hg1044 rfl rfl ?_)
      refine o1 rfl (o_p rfl ?_)
      refine o1 rfl (o_p rfl ?_)
      refine o_end ?_
      refine e_seq ?_
      refine c_seq ?_
      refine c_region ?_
      refine o1 rfl (o_p rfl ?_)
      refine o1 rfl (o_p rfl ?_)
      refine o1 rfl (o_p (v := (.bool ((rd [0, 5, 8, 17, 18, 19, 29, 40, 41, 44, 60] x2) == p0))) rfl ?_)
      refine o_end ?_
      refine e_seq ?_
      refine c_cond (b := ((rd [0, 5, 8, 17, 18, 19, 29, 40, 41, 44, 60] x2) == p0)) rfl (fun hb1045 => ?_) (fun hb1045 => ?_)
      · replace h := cond_t hb1045 h
        refine c_seq ?_
        refine c_region ?_
        refine o1 rfl (o_p rfl ?_)
        refine o1 rfl (o_p rfl ?_)
        replace h := gsome h
        obtain ⟨hg1046, h⟩ := h
        refine o1 rfl (o_ix (s := s1031) (n := x2) (e := enS) rfl rfl rfl rfl rfl rfl rm2 (rd_own _ _ _ _) hg1046 ?_)
        refine o1 rfl (o_ldE (s := s1031) (e := enS) (n := x2) (f := 0) (v := (.string (rd [(ByteArray.mk (List.toArray [84, 101, 120, 116])), (ByteArray.mk (List.toArray [80, 84])), (ByteArray.mk (List.toArray [71, 69])), (ByteArray.mk (List.toArray [83, 66, 65])), (ByteArray.mk (List.toArray [69, 85, 65])), (ByteArray.mk (List.toArray [73, 67])), (ByteArray.mk (List.toArray [83, 70])), (ByteArray.mk (List.toArray [83, 65])), (ByteArray.mk (List.toArray [83, 70, 69])), (ByteArray.mk (List.toArray [77, 70])), (ByteArray.mk (List.toArray [82, 65]))] x2))) rfl rm2 (rd_own _ _ _ _) hg1046 rfl rfl ?_)
        refine o1 rfl (o_p rfl ?_)
        refine o_end ?_
        refine e_seq ?_
        refine c_ret ?_
        refine e_blk_ret ?_
        refine e_then_ret ?_
        refine e_then_ret ?_
        refine e_blk_ret ?_
        refine ej_ret ?_
        replace h := esc_some h
        obtain ⟨z1, h, rfl⟩ := h
        obtain rfl := (hk1 : z1 = _)
        refine e_then_ret ?_
        refine e_ret ?_
        refine r_endt rfl rfl (kc rm0 (kd (kd kr))) ?_
        have hr := Option.some.inj h
        subst hr
        exact hk
      · replace h := cond_f hb1045 h
        refine c_skip ?_
        refine e_blk ?_
        refine e_seq ?_
        refine c_region ?_
        refine o1 rfl (o_p (v := (.int .i64 (w64 (x2 + 1)))) rfl ?_)
        refine o1 rfl (o_p rfl ?_)
        refine o_end ?_
        exact e_loop (l_sub (sc rfl (sc rfl (sc rfl (sc rfl (sc rfl sn))))) (l_keep (kc rm0 (kc rm0 (kc rm0 kr))) (ih2 (w64 (x2 + 1)) () trivial h)))
    · replace h := cond_f hb1043 h
      refine c_exit ?_
      refine e_then_exit ?_
      refine e_then_exit ?_
      refine e_blk_exit ?_
      have hd := Option.some.inj h
      subst hd
      exact ej () () rfl sn (kc rm0 (kd (kd kr)))
  · rintro d1 i1 rfl
    replace h := JK_inl hk1
    clear hk1
    refine e_seq ?_
    refine c_seq ?_
    refine c_region ?_
    refine o1 rfl (o_p rfl ?_)
    refine o_end ?_
    refine e_seq ?_
    refine c_ret ?_
    refine e_ret ?_
    refine r_endt rfl rfl (kc rm0 kr) ?_
    have hr := Option.some.inj h
    subst hr
    exact hk

theorem c_vitrineref16_Is {g : Gw} (X : HP) (p0 : Int) (r : Bool) (h : m_vitrineref16_Is p0 = some r) : Tri env g 62 (List.toArray [(.int .u8 p0)]) [X] (fun K R => K (.bool r) (X :: R)) := by
  refine tri_of (fn := Try.f62) (N := 11) Try.func62 rfl rfl rfl ?_
  intro R K hk
  unfold m_vitrineref16_Is at h
  change GC _ none _ [] [(0, (.int .u8 p0))] (X :: R) g _ _
  refine c_seq ?_
  refine c_region ?_
  refine o1 rfl (o_p rfl ?_)
  refine o_end ?_
  refine e_seq ?_
  refine c_seq ?_
  replace h := bsome h
  obtain ⟨d1, h, hk1⟩ := h
  refine cj (D := Unit) (ι := Unit) (fun _ i1 => True) (fun _ i1 => [(2, (.bool d1))]) (fun _ i1 => X :: R) ?_ ?_
  · refine c_region ?_
    refine o1 rfl (o_p rfl ?_)
    refine o1 rfl (o_p (v := (.bool (p0 != 0))) rfl ?_)
    refine o1 rfl (o_p rfl ?_)
    rcases bool_or ((p0 != 0)) with hb1030 | hb1030
    · replace h := cond_t hb1030 h
      refine oy rfl rfl rfl hb1030 (o_p rfl ?_)
      refine oy rfl rfl rfl hb1030 (o_p (v := (.int .i64 (w64 (p0)))) rfl ?_)
      replace h := bsome h
      obtain ⟨d2, h2, h⟩ := h
      refine oy rfl rfl rfl hb1030 (o_call has96 rfl (c_vitrineref16_Name X (w64 (p0)) _ h2) (pc rm0 pn) ?_)
      refine oy rfl rfl rfl hb1030 (o_p (v := (.bool (!(d2.data.toList == (ByteArray.mk (List.toArray [])).data.toList)))) rfl ?_)
      refine o1 rfl (o_pick_t rfl hb1030 rfl ?_)
      refine o1 rfl (o_p rfl ?_)
      refine o_end ?_
      have hd := Option.some.inj h
      subst hd
      exact ej () () trivial (sc rfl sn) (kc rm0 kr)
    · replace h := cond_f hb1030 h
      refine on rfl rfl rfl hb1030 ?_
      refine on rfl rfl rfl hb1030 ?_
      refine on rfl rfl rfl hb1030 ?_
      refine on rfl rfl rfl hb1030 ?_
      refine o1 rfl (o_pick_f rfl hb1030 rfl ?_)
      refine o1 rfl (o_p rfl ?_)
      refine o_end ?_
      have hd := Option.some.inj h
      subst hd
      exact ej () () trivial (sc rfl sn) (kc rm0 kr)
  · rintro _ i1 _
    replace h := hk1
    clear hk1
    refine e_seq ?_
    refine c_ret ?_
    refine e_ret ?_
    refine r_endt rfl rfl (kc rm0 kr) ?_
    have hr := Option.some.inj h
    subst hr
    exact hk

theorem c_vitrineref20_Bytes {g : Gw} (X : HP) (p0 : Vvitrineref20_Report) (s0 : SV) (q0r : RdN X s0 60 en_Vvitrineref20_Entry D_Vvitrineref20_Entry p0.Entries) (r : (List Int) × Int) (h : m_vitrineref20_Bytes p0 = some r) : Tri env g 27 (List.toArray [(.agg (List.toArray [(.int .u8 p0.AID), (.bool p0.Short), (.int .i64 p0.Cursor), (SV.val s0)]))]) [X] (fun K R => ∀ (i0 : SV), K (.tuple (List.toArray [(SV.val i0), (.int .i64 r.2)])) (X :: slO i0 5 (enI .u8) r.1 :: R)) := by
  refine tri_of (fn := Try.f27) (N := 82) Try.func27 rfl rfl rfl ?_
  intro R K hk
  obtain ⟨L_q0, q0, n_q0⟩ := q0r
  unfold m_vitrineref20_Bytes at h
  change GC _ none _ [] [(0, (.agg (List.toArray [(.int .u8 p0.AID), (.bool p0.Short), (.int .i64 p0.Cursor), (SV.val s0)])))] (X :: R) g _ _
  refine c_seq ?_
  refine c_region ?_
  refine o1 rfl (o_box (cs := [(.int .u8 p0.AID), (.bool p0.Short), (.int .i64 p0.Cursor), (SV.val s0)]) rfl rfl (fun b964 => ?_))
  refine o1 rfl (o_p rfl ?_)
  refine o1 rfl (o_p rfl ?_)
  refine o_end ?_
  refine e_seq ?_
  refine c_seq ?_
  refine c_seq ?_
  refine c_region ?_
  refine o1 rfl (o_fa (fd := ⟨ "Short", 4, 1, false, "", "", 1⟩) rfl rfl rfl rfl rfl ?_)
  refine o1 rfl (o_ld (b := b964) (off := 1) (v := (.bool p0.Short)) rfl rm0 rfl rfl ?_)
  refine o_end ?_
  refine e_seq ?_
  refine c_cond (b := p0.Short) rfl (fun hb966 => ?_) (fun hb966 => ?_)
  · replace h := cond_t hb966 h
    refine c_seq ?_
    refine c_region ?_
    refine o1 rfl (o_fa (fd := ⟨ "AID", 5, 0, false, "", "", 0⟩) rfl rfl rfl rfl rfl ?_)
    refine o1 rfl (o_ld (b := b964) (off := 0) (v := (.int .u8 p0.AID)) rfl rm0 rfl rfl ?_)
    refine o1 rfl (o_bs (e := (enI .u8)) (l := [p0.AID]) (zs := [(.int .u8 0)]) rfl rfl rfl rfl rfl rfl rfl rfl rfl rfl (fun s967 => ?_))
    refine o1 rfl (o_p rfl ?_)
    refine o1 rfl (o_p rfl ?_)
    refine o_end ?_
    refine e_seq ?_
    refine c_ret ?_
    refine e_then_ret ?_
    refine e_ret ?_
    refine r_endt rfl rfl (kc rm2 (kc rm0 (kd kr))) ?_
    have hr := Option.some.inj h
    subst hr
    exact hk s967
  · replace h := cond_f hb966 h
    refine c_skip ?_
    refine e_seq ?_
    refine c_seq ?_
    refine c_region ?_
    refine o1 rfl (o_fa (fd := ⟨ "Cursor", 3, 2, false, "", "", 8⟩) rfl rfl rfl rfl rfl ?_)
    refine o1 rfl (o_ld (b := b964) (off := 2) (v := (.int .i64 p0.Cursor)) rfl rm0 rfl rfl ?_)
    replace h := bsome h
    obtain ⟨d2, h2, h⟩ := h
    refine o1 rfl (o_call has15 rfl (c_vitrineref04_Encode X 12 p0.Cursor _ h2) (pc rm1 pn) (fun i2 => ?_))
    refine o1 rfl (o_p rfl ?_)
    refine o1 rfl (o_p rfl ?_)
    refine o1 rfl (o_p rfl ?_)
    refine o1 rfl (o_p rfl ?_)
    refine o1 rfl (o_p rfl ?_)
    refine o_end ?_
    refine e_seq ?_
    refine c_seq ?_
    refine c_seq ?_
    refine c_region ?_
    refine o1 rfl (o_p rfl ?_)
    refine o1 rfl (o_p (v := (.bool (d2.2 != 0))) rfl ?_)
    refine o_end ?_
    refine e_seq ?_
    refine c_cond (b := (d2.2 != 0)) rfl (fun hb1002 => ?_) (fun hb1002 => ?_)
    · replace h := cond_t hb1002 h
      refine c_seq ?_
      refine c_region ?_
      refine o1 rfl (o_p rfl ?_)
      refine o1 rfl (o_p rfl ?_)
      refine o1 rfl (o_p rfl ?_)
      refine o_end ?_
      refine e_seq ?_
      refine c_ret ?_
      refine e_then_ret ?_
      refine e_ret ?_
      refine r_add (slO SV.nil 5 (enI .u8) []) (slO_nil _ _ _) ?_
      refine r_endt rfl rfl (kc rm1 (kc rm0 (kd (kd kr)))) ?_
      have hr := Option.some.inj h
      subst hr
      exact hk SV.nil
    · replace h := cond_f hb1002 h
      refine c_skip ?_
      refine e_seq ?_
      refine c_seq ?_
      refine c_region ?_
      refine o1 rfl (o_fa (fd := ⟨ "AID", 5, 0, false, "", "", 0⟩) rfl rfl rfl rfl rfl ?_)
      refine o1 rfl (o_ld (b := b964) (off := 0) (v := (.int .u8 p0.AID)) rfl rm2 rfl rfl ?_)
      refine o1 rfl (o_bs (e := (enI .u8)) (l := [p0.AID]) (zs := [(.int .u8 0)]) rfl rfl rfl rfl rfl rfl rfl rfl rfl rfl (fun s1003 => ?_))
      refine o1 rfl (o_p rfl ?_)
      replace h := gsome h
      obtain ⟨hg1005, h⟩ := h
      refine o1 rfl (o_app (s := s1003) (r := i2) (e := (enI .u8)) (l := [p0.AID]) (l2 := d2.1) (zs := [(.int .u8 0)]) rfl rfl rfl rfl rfl rfl rfl rfl rfl rfl rfl rm0 rm1 (rd_own _ _ _ _) hg1005 (fun s1006 => ?_))
      refine o1 rfl (o_p rfl ?_)
      refine o_end ?_
      refine e_seq ?_
      refine c_seq ?_
      refine c_seq ?_
      refine c_region ?_
      refine o1 rfl (o_fa (fd := ⟨ "Entries", 56, 3, false, "", "", 16⟩) rfl rfl rfl rfl rfl ?_)
      refine o1 rfl (o_ld (b := b964) (off := 3) (v := (SV.val s0)) rfl rm3 rfl rfl ?_)
      refine o1 rfl (o_lenN (s := s0) rfl rfl rfl rm1 q0 n_q0 ?_)
      refine o1 rfl (o_p rfl ?_)
      refine o_end ?_
      refine e_seq ?_
      replace h := jn_some h
      obtain ⟨y4, h, hk4⟩ := h
      refine cj (D := (List Int)) (ι := SV) (fun d4 i4 => y4 = Sum.inl d4) (fun d4 i4 => [(6, (SV.val i4))]) (fun d4 i4 => X :: slO i4 5 (enI .u8) d4 :: R) ?_ ?_
      · refine c_block ?_
        refine c_loop (l_sub (sc rfl (sc rfl (sc rfl (sc rfl (sc rfl sn))))) (l_keep (kc rm1 (kc rm0 (kc rm1 (kd kr)))) (lf (X := Int × (List Int)) (ι := SV) (fun k x => vitrineref20_Bytes_l5 p0 k x) _ (fun x5 i5 => True) (fun x5 i5 => [(33, (.int .i64 x5.1)), (32, (.int .i64 (p0.Entries.length : Int))), (31, (SV.val s0)), (6, (SV.val i5)), (1, (.pointer (some ⟨b964, 0, none⟩)))]) (fun x5 i5 => X :: slO i5 5 (enI .u8) x5.2 :: blk b964 (.cells (List.toArray [(.int .u8 p0.AID), (.bool p0.Short), (.int .i64 p0.Cursor), (SV.val s0)]) 58 (0, 0)) :: R) (fun _ => rfl) ?_ fuel (0, ([p0.AID] ++ d2.1)) s1006 trivial h)))
        clear h
        rintro k5 ih5 x5 i5 _ h
        rw [vitrineref20_Bytes_l5.eq_2] at h
        refine l_round ?_
        refine c_seq ?_
        refine c_region ?_
        refine o1 rfl (o_p (v := (.bool (decide (x5.1 < (p0.Entries.length : Int))))) rfl ?_)
        refine o_end ?_
        refine e_seq ?_
        refine c_seq ?_
        refine c_cond (b := (decide (x5.1 < (p0.Entries.length : Int)))) rfl (fun hb1093 => ?_) (fun hb1093 => ?_)
        · replace h := cond_t hb1093 h
          refine c_skip ?_
          refine e_seq ?_
          refine c_seq ?_
          replace h := jn_some h
          obtain ⟨y7, h, hk7⟩ := h
          refine cj (D := (List Int)) (ι := SV) (fun d7 i7 => y7 = Sum.inl d7) (fun d7 i7 => [(6, (SV.val i7)), (33, (.int .i64 x5.1)), (32, (.int .i64 (p0.Entries.length : Int))), (31, (SV.val s0)), (1, (.pointer (some ⟨b964, 0, none⟩)))]) (fun d7 i7 => X :: slO i7 5 (enI .u8) d7 :: blk b964 (.cells (List.toArray [(.int .u8 p0.AID), (.bool p0.Short), (.int .i64 p0.Cursor), (SV.val s0)]) 58 (0, 0)) :: R) ?_ ?_
          · refine c_block ?_
            refine c_seq ?_
            refine c_region ?_
            replace h := gsome h
            obtain ⟨hg1094, h⟩ := h
            refine o1 rfl (o_ix (s := s0) (n := x5.1) (e := en_Vvitrineref20_Entry) rfl rfl rfl rfl rfl rfl rm0 q0 (NL.lt n_q0 hg1094) ?_)
            obtain ⟨sv1095, he_sv1095, hd_sv1095⟩ := NL.rd n_q0 hg1094
            have hr1096 : Rd X sv1095 5 (enI .u8) ((rd p0.Entries x5.1).Text) := hd_sv1095
            refine o1 rfl (o_ldE (s := s0) (e := en_Vvitrineref20_Entry) (n := x5.1) (f := 0) (v := (.agg (List.toArray [(.int .i64 ((rd p0.Entries x5.1).Addr)), (SV.val sv1095)]))) rfl rm0 q0 (NL.lt n_q0 hg1094) rfl (by rw [he_sv1095]; rfl) ?_)
            refine o1 rfl (o_alloc (cs := [(.int .i64 0), (SV.val SV.nil)]) rfl rfl (fun b1097 => ?_))
            refine o0 (o_st (b := b1097) (off := 0) (vs := [(.int .i64 ((rd p0.Entries x5.1).Addr)), (SV.val sv1095)]) (cs' := [(.int .i64 ((rd p0.Entries x5.1).Addr)), (SV.val sv1095)]) rfl rfl rp0 rfl rfl rfl rfl rfl rfl ?_)
            refine o_end ?_
            refine e_seq ?_
            refine c_seq ?_
            refine c_seq ?_
            replace h := bsome h
            obtain ⟨d8, h, hk8⟩ := h
            refine cj (D := Unit) (ι := Unit) (fun _ i8 => True) (fun _ i8 => [(51, (.bool d8)), (8, (.pointer (some ⟨b1097, 0, none⟩))), (33, (.int .i64 x5.1)), (32, (.int .i64 (p0.Entries.length : Int))), (31, (SV.val s0)), (6, (SV.val i5)), (1, (.pointer (some ⟨b964, 0, none⟩)))]) (fun _ i8 => X :: blk b1097 (.cells (List.toArray [(.int .i64 ((rd p0.Entries x5.1).Addr)), (SV.val sv1095)]) 60 (0, 0)) :: slO i5 5 (enI .u8) x5.2 :: blk b964 (.cells (List.toArray [(.int .u8 p0.AID), (.bool p0.Short), (.int .i64 p0.Cursor), (SV.val s0)]) 58 (0, 0)) :: R) ?_ ?_
            · refine c_region ?_
              refine o1 rfl (o_fa (fd := ⟨ "Entries", 56, 3, false, "", "", 16⟩) rfl rfl rfl rfl rfl ?_)
              refine o1 rfl (o_ld (b := b964) (off := 3) (v := (SV.val s0)) rfl rm3 rfl rfl ?_)
              refine o1 rfl (o_lenN (s := s0) rfl rfl rfl rm1 q0 n_q0 ?_)
              refine o1 rfl (o_p (v := (.bool (decide ((p0.Entries.length : Int) > 1)))) rfl ?_)
              refine o1 rfl (o_p rfl ?_)
              rcases bool_or ((decide ((p0.Entries.length : Int) > 1))) with hb1099 | hb1099
              · replace h := cond_t hb1099 h
                refine on rfl rfl rfl hb1099 ?_
                refine on rfl rfl rfl hb1099 ?_
                refine on rfl rfl rfl hb1099 ?_
                refine o1 rfl (o_pick_t rfl hb1099 rfl ?_)
                refine o1 rfl (o_p rfl ?_)
                refine on rfl rfl rfl rfl ?_
                refine on rfl rfl rfl rfl ?_
                refine on rfl rfl rfl rfl ?_
                refine on rfl rfl rfl rfl ?_
                refine o1 rfl (o_pick_t rfl rfl rfl ?_)
                refine o_end ?_
                have hd := Option.some.inj h
                subst hd
                exact ej () () trivial (sc rfl (sc rfl (sc rfl (sc rfl (sc rfl (sc rfl (sc rfl sn))))))) (kc rm1 (kc rm0 (kc rm0 (kc rm0 kr))))
              · replace h := cond_f hb1099 h
                refine oy rfl rfl rfl hb1099 (o_fa (fd := ⟨ "Addr", 3, 0, false, "", "", 0⟩) rfl rfl rfl rfl rfl ?_)
                refine oy rfl rfl rfl hb1099 (o_ld (b := b1097) (off := 0) (v := (.int .i64 ((rd p0.Entries x5.1).Addr))) rfl rm0 rfl rfl ?_)
                refine oy rfl rfl rfl hb1099 (o_p (v := (.bool (((rd p0.Entries x5.1).Addr) != 0))) rfl ?_)
                refine o1 rfl (o_pick_f rfl hb1099 rfl ?_)
                refine o1 rfl (o_p rfl ?_)
                rcases bool_or ((((rd p0.Entries x5.1).Addr) != 0)) with hb1100 | hb1100
                · replace h := cond_t hb1100 h
                  refine on rfl rfl rfl hb1100 ?_
                  refine on rfl rfl rfl hb1100 ?_
                  refine on rfl rfl rfl hb1100 ?_
                  refine on rfl rfl rfl hb1100 ?_
                  refine o1 rfl (o_pick_t rfl hb1100 rfl ?_)
                  refine o_end ?_
                  have hd := Option.some.inj h
                  subst hd
                  exact ej () () trivial (sc rfl (sc rfl (sc rfl (sc rfl (sc rfl (sc rfl (sc rfl sn))))))) (kc rm1 (kc rm0 (kc rm0 (kc rm0 kr))))
                · replace h := cond_f hb1100 h
                  refine oy rfl rfl rfl hb1100 (o_fa (fd := ⟨ "Text", 31, 1, false, "", "", 8⟩) rfl rfl rfl rfl rfl ?_)
                  refine oy rfl rfl rfl hb1100 (o_ld (b := b1097) (off := 1) (v := (SV.val sv1095)) rfl rm0 rfl rfl ?_)
                  refine oy rfl rfl rfl hb1100 (o_len (s := sv1095) rfl rfl rfl rm1 hr1096 ?_)
                  refine oy rfl rfl rfl hb1100 (o_p (v := (.bool ((((rd p0.Entries x5.1).Text).length : Int) == 0))) rfl ?_)
                  refine o1 rfl (o_pick_f rfl hb1100 rfl ?_)
                  refine o_end ?_
                  have hd := Option.some.inj h
                  subst hd
                  exact ej () () trivial (sc rfl (sc rfl (sc rfl (sc rfl (sc rfl (sc rfl (sc rfl sn))))))) (kc rm1 (kc rm0 (kc rm0 (kc rm0 kr))))
            · rintro _ i8 _
              replace h := hk8
              clear hk8
              refine e_seq ?_
              replace h := jn_some h
              obtain ⟨y9, h, hk9⟩ := h
              refine cj (D := (List Int)) (ι := SV) (fun d9 i9 => y9 = Sum.inl d9) (fun d9 i9 => [(6, (SV.val i9)), (8, (.pointer (some ⟨b1097, 0, none⟩))), (33, (.int .i64 x5.1)), (32, (.int .i64 (p0.Entries.length : Int))), (31, (SV.val s0)), (1, (.pointer (some ⟨b964, 0, none⟩)))]) (fun d9 i9 => X :: slO i9 5 (enI .u8) d9 :: blk b1097 (.cells (List.toArray [(.int .i64 ((rd p0.Entries x5.1).Addr)), (SV.val sv1095)]) 60 (0, 0)) :: blk b964 (.cells (List.toArray [(.int .u8 p0.AID), (.bool p0.Short), (.int .i64 p0.Cursor), (SV.val s0)]) 58 (0, 0)) :: R) ?_ ?_
              · refine c_cond (b := d8) rfl (fun hb1101 => ?_) (fun hb1101 => ?_)
                · replace h := cond_t hb1101 h
                  refine c_seq ?_
                  refine c_region ?_
                  refine o1 rfl (o_fa (fd := ⟨ "Addr", 3, 0, false, "", "", 0⟩) rfl rfl rfl rfl rfl ?_)
                  refine o1 rfl (o_ld (b := b1097) (off := 0) (v := (.int .i64 ((rd p0.Entries x5.1).Addr))) rfl rm1 rfl rfl ?_)
                  replace h := bsome h
                  obtain ⟨d10, h10, h⟩ := h
                  refine o1 rfl (o_call has15 rfl (c_vitrineref04_Encode X 12 ((rd p0.Entries x5.1).Addr) _ h10) (pc rm0 pn) (fun i10 => ?_))
                  refine o1 rfl (o_p rfl ?_)
                  refine o1 rfl (o_p rfl ?_)
                  refine o1 rfl (o_p rfl ?_)
                  refine o1 rfl (o_p rfl ?_)
                  refine o1 rfl (o_p rfl ?_)
                  refine o_end ?_
                  refine e_seq ?_
                  refine c_seq ?_
                  refine c_seq ?_
                  refine c_region ?_
                  refine o1 rfl (o_p rfl ?_)
                  refine o1 rfl (o_p (v := (.bool (d10.2 != 0))) rfl ?_)
                  refine o_end ?_
                  refine e_seq ?_
                  refine c_cond (b := (d10.2 != 0)) rfl (fun hb1103 => ?_) (fun hb1103 => ?_)
                  · replace h := cond_t hb1103 h
                    refine c_seq ?_
                    refine c_region ?_
                    refine o1 rfl (o_p rfl ?_)
                    refine o1 rfl (o_p rfl ?_)
                    refine o1 rfl (o_p rfl ?_)
                    refine o_end ?_
                    refine e_seq ?_
                    refine c_ret ?_
                    refine e_then_ret ?_
                    refine ej_ret ?_
                    replace h := esc_some h
                    obtain ⟨z9, h, rfl⟩ := h
                    obtain rfl := (hk9 : z9 = _)
                    refine e_then_ret ?_
                    refine e_blk_ret ?_
                    refine ej_ret ?_
                    replace h := esc_some h
                    obtain ⟨z7, h, rfl⟩ := h
                    obtain rfl := (hk7 : z7 = _)
                    refine e_then_ret ?_
                    refine e_then_ret ?_
                    refine e_blk_ret ?_
                    refine ej_ret ?_
                    replace h := esc_some h
                    obtain ⟨z4, h, rfl⟩ := h
                    obtain rfl := (hk4 : z4 = _)
                    refine e_then_ret ?_
                    refine e_ret ?_
                    refine r_add (slO SV.nil 5 (enI .u8) []) (slO_nil _ _ _) ?_
                    refine r_endt rfl rfl (kc rm1 (kc rm0 (kd (kd (kd (kd kr)))))) ?_
                    have hr := Option.some.inj h
                    subst hr
                    exact hk SV.nil
                  · replace h := cond_f hb1103 h
                    refine c_skip ?_
                    refine e_seq ?_
                    refine c_region ?_
                    refine o1 rfl (o_p rfl ?_)
                    refine o1 rfl (o_bs (e := (enI .u8)) (l := [17]) (zs := [(.int .u8 0)]) rfl rfl rfl rfl rfl rfl rfl rfl rfl rfl (fun s1104 => ?_))
                    replace h := gsome h
                    obtain ⟨hg1106, h⟩ := h
                    refine o1 rfl (o_app (s := i5) (r := s1104) (e := (enI .u8)) (l := x5.2) (l2 := [17]) (zs := [(.int .u8 0)]) rfl rfl rfl rfl rfl rfl rfl rfl rfl rfl rfl rm4 rm0 (rd_own _ _ _ _) hg1106 (fun s1107 => ?_))
                    refine o1 rfl (o_p rfl ?_)
                    replace h := gsome h
                    obtain ⟨hg1109, h⟩ := h
                    refine o1 rfl (o_app (s := s1107) (r := i10) (e := (enI .u8)) (l := (x5.2 ++ [17])) (l2 := d10.1) (zs := [(.int .u8 0)]) rfl rfl rfl rfl rfl rfl rfl rfl rfl rfl rfl rm0 rm2 (rd_own _ _ _ _) hg1109 (fun s1110 => ?_))
                    refine o1 rfl (o_p rfl ?_)
                    refine o_end ?_
                    have hd := Option.some.inj h
                    subst hd
                    exact ej ((x5.2 ++ [17]) ++ d10.1) s1110 rfl (sc rfl (sc rfl (sc rfl (sc rfl (sc rfl (sc rfl sn)))))) (kc rm2 (kc rm0 (kc rm2 (kc rm2 (kd (kd kr))))))
                · replace h := cond_f hb1101 h
                  refine c_skip ?_
                  have hd := Option.some.inj h
                  subst hd
                  exact ej x5.2 i5 rfl (sc rfl (sc rfl (sc rfl (sc rfl (sc rfl (sc rfl sn)))))) (kc rm0 (kc rm1 (kc rm0 (kc rm0 kr))))
              · rintro d9 i9 rfl
                replace h := JK_inl hk9
                clear hk9
                refine e_seq ?_
                refine c_seq ?_
                refine c_seq ?_
                refine c_region ?_
                refine o1 rfl (o_fa (fd := ⟨ "Text", 31, 1, false, "", "", 8⟩) rfl rfl rfl rfl rfl ?_)
                refine o1 rfl (o_ld (b := b1097) (off := 1) (v := (SV.val sv1095)) rfl rm2 rfl rfl ?_)
                refine o1 rfl (o_len (s := sv1095) rfl rfl rfl rm0 hr1096 ?_)
                refine o1 rfl (o_p rfl ?_)
                refine o_end ?_
                refine e_seq ?_
                replace h := jn_some h
                obtain ⟨y12, h, hk12⟩ := h
                refine cj (D := Unit) (ι := Unit) (fun d12 i12 => y12 = Sum.inl d12) (fun d12 i12 => [(6, (SV.val i9)), (8, (.pointer (some ⟨b1097, 0, none⟩))), (33, (.int .i64 x5.1)), (32, (.int .i64 (p0.Entries.length : Int))), (31, (SV.val s0)), (1, (.pointer (some ⟨b964, 0, none⟩)))]) (fun d12 i12 => X :: slO i9 5 (enI .u8) d9 :: blk b1097 (.cells (List.toArray [(.int .i64 ((rd p0.Entries x5.1).Addr)), (SV.val sv1095)]) 60 (0, 0)) :: blk b964 (.cells (List.toArray [(.int .u8 p0.AID), (.bool p0.Short), (.int .i64 p0.Cursor), (SV.val s0)]) 58 (0, 0)) :: R) ?_ ?_
                · refine c_block ?_
                  refine c_loop (l_sub (sc rfl (sc rfl (sc rfl (sc rfl (sc rfl (sc rfl (sc rfl (sc rfl (sc rfl sn))))))))) (l_keep (kc rm0 (kc rm0 (kc rm0 (kc rm0 kr)))) (lf (X := Int) (ι := Unit) (fun k x => vitrineref20_Bytes_l13 p0 x5 k x) _ (fun x13 i13 => True) (fun x13 i13 => [(69, (.int .i64 x13)), (68, (.int .i64 (((rd p0.Entries x5.1).Text).length : Int))), (67, (SV.val sv1095)), (6, (SV.val i9)), (8, (.pointer (some ⟨b1097, 0, none⟩))), (33, (.int .i64 x5.1)), (32, (.int .i64 (p0.Entries.length : Int))), (31, (SV.val s0)), (1, (.pointer (some ⟨b964, 0, none⟩)))]) (fun x13 i13 => X :: slO i9 5 (enI .u8) d9 :: blk b1097 (.cells (List.toArray [(.int .i64 ((rd p0.Entries x5.1).Addr)), (SV.val sv1095)]) 60 (0, 0)) :: blk b964 (.cells (List.toArray [(.int .u8 p0.AID), (.bool p0.Short), (.int .i64 p0.Cursor), (SV.val s0)]) 58 (0, 0)) :: R) (fun _ => rfl) ?_ fuel 0 () trivial h)))
                  clear h
                  rintro k13 ih13 x13 i13 _ h
                  rw [vitrineref20_Bytes_l13.eq_2] at h
                  refine l_round ?_
                  refine c_seq ?_
                  refine c_region ?_
                  refine o1 rfl (o_p (v := (.bool (decide (x13 < (((rd p0.Entries x5.1).Text).length : Int))))) rfl ?_)
                  refine o_end ?_
                  refine e_seq ?_
                  refine c_seq ?_
                  refine c_cond (b := (decide (x13 < (((rd p0.Entries x5.1).Text).length : Int)))) rfl (fun hb1119 => ?_) (fun hb1119 => ?_)
                  · replace h := cond_t hb1119 h
                    refine c_skip ?_
                    refine e_seq ?_
                    refine c_seq ?_
                    refine c_block ?_
                    refine c_seq ?_
                    refine c_region ?_
                    replace h := gsome h
                    obtain ⟨hg1120, h⟩ := h
                    refine o1 rfl (o_ix (s := sv1095) (n := x13) (e := (enI .u8)) rfl rfl rfl rfl rfl rfl rm0 hr1096 hg1120 ?_)
                    refine o1 rfl (o_ldE (s := sv1095) (e := (enI .u8)) (n := x13) (f := 0) (v := (.int .u8 (rd ((rd p0.Entries x5.1).Text) x13))) rfl rm0 hr1096 hg1120 rfl rfl ?_)
                    refine o1 rfl (o_p rfl ?_)
                    refine o_end ?_
                    refine e_seq ?_
                    refine c_seq ?_
                    refine c_region ?_
                    refine o1 rfl (o_p rfl ?_)
                    replace h := bsome h
                    obtain ⟨d16, h16, h⟩ := h
                    refine o1 rfl (o_call has62 rfl (c_vitrineref16_Is X (rd ((rd p0.Entries x5.1).Text) x13) _ h16) (pc rm0 pn) ?_)
                    refine o_end ?_
                    refine e_seq ?_
                    refine c_cond (b := d16) rfl (fun hb1121 => ?_) (fun hb1121 => ?_)
                    · replace h := cond_t hb1121 h
                      refine c_seq ?_
                      refine c_region ?_
                      refine o1 rfl (o_p rfl ?_)
                      refine o1 rfl (o_p rfl ?_)
                      refine o_end ?_
                      refine e_seq ?_
                      refine c_ret ?_
                      refine e_blk_ret ?_
                      refine e_then_ret ?_
                      refine e_then_ret ?_
                      refine e_blk_ret ?_
                      refine ej_ret ?_
                      replace h := esc_some h
                      obtain ⟨z12, h, rfl⟩ := h
                      obtain rfl := (hk12 : z12 = _)
                      refine e_then_ret ?_
                      refine e_blk_ret ?_
                      refine ej_ret ?_
                      replace h := esc_some h
                      obtain ⟨z7, h, rfl⟩ := h
                      obtain rfl := (hk7 : z7 = _)
                      refine e_then_ret ?_
                      refine e_then_ret ?_
                      refine e_blk_ret ?_
                      refine ej_ret ?_
                      replace h := esc_some h
                      obtain ⟨z4, h, rfl⟩ := h
                      obtain rfl := (hk4 : z4 = _)
                      refine e_then_ret ?_
                      refine e_ret ?_
                      refine r_add (slO SV.nil 5 (enI .u8) []) (slO_nil _ _ _) ?_
                      refine r_endt rfl rfl (kc rm1 (kc rm0 (kd (kd (kd kr))))) ?_
                      have hr := Option.some.inj h
                      subst hr
                      exact hk SV.nil
                    · replace h := cond_f hb1121 h
                      refine c_skip ?_
                      refine e_blk ?_
                      refine e_seq ?_
                      refine c_region ?_
                      refine o1 rfl (o_p (v := (.int .i64 (w64 (x13 + 1)))) rfl ?_)
                      refine o1 rfl (o_p rfl ?_)
                      refine o_end ?_
                      exact e_loop (l_sub (sc rfl (sc rfl (sc rfl (sc rfl (sc rfl (sc rfl (sc rfl (sc rfl (sc rfl sn))))))))) (l_keep (kc rm0 (kc rm0 (kc rm0 (kc rm0 kr)))) (ih13 (w64 (x13 + 1)) () trivial h)))
                  · replace h := cond_f hb1119 h
                    refine c_exit ?_
                    refine e_then_exit ?_
                    refine e_then_exit ?_
                    refine e_blk_exit ?_
                    have hd := Option.some.inj h
                    subst hd
                    exact ej () () rfl (sc rfl (sc rfl (sc rfl (sc rfl (sc rfl (sc rfl sn)))))) (kc rm0 (kc rm0 (kc rm0 (kc rm0 kr))))
                · rintro d12 i12 rfl
                  replace h := JK_inl hk12
                  clear hk12
                  refine e_seq ?_
                  refine c_region ?_
                  refine o1 rfl (o_p rfl ?_)
                  refine o1 rfl (o_fa (fd := ⟨ "Text", 31, 1, false, "", "", 8⟩) rfl rfl rfl rfl rfl ?_)
                  refine o1 rfl (o_ld (b := b1097) (off := 1) (v := (SV.val sv1095)) rfl rm2 rfl rfl ?_)
                  replace h := gsome h
                  obtain ⟨hg1122, h⟩ := h
                  refine o1 rfl (o_app (s := i9) (r := sv1095) (e := (enI .u8)) (l := d9) (l2 := (rd p0.Entries x5.1).Text) (zs := [(.int .u8 0)]) rfl rfl rfl rfl rfl rfl rfl rfl rfl rfl rfl rm1 rm0 hr1096 hg1122 (fun s1123 => ?_))
                  refine o1 rfl (o_p rfl ?_)
                  refine o_end ?_
                  refine e_blk ?_
                  have hd := Option.some.inj h
                  subst hd
                  exact ej (d9 ++ (rd p0.Entries x5.1).Text) s1123 rfl (sc rfl (sc rfl (sc rfl (sc rfl (sc rfl sn))))) (kc rm1 (kc rm0 (kc rm1 (kd kr))))
          · rintro d7 i7 rfl
            replace h := JK_inl hk7
            clear hk7
            refine e_seq ?_
            refine c_region ?_
            refine o1 rfl (o_p (v := (.int .i64 (w64 (x5.1 + 1)))) rfl ?_)
            refine o1 rfl (o_p rfl ?_)
            refine o_end ?_
            exact e_loop (l_sub (sc rfl (sc rfl (sc rfl (sc rfl (sc rfl sn))))) (l_keep (kc rm0 (kc rm0 (kc rm0 kr))) (ih5 (w64 (x5.1 + 1), d7) i7 trivial h)))
        · replace h := cond_f hb1093 h
          refine c_exit ?_
          refine e_then_exit ?_
          refine e_then_exit ?_
          refine e_blk_exit ?_
          have hd := Option.some.inj h
          subst hd
          exact ej x5.2 i5 rfl (sc rfl sn) (kc rm0 (kc rm0 (kd kr)))
      · rintro d4 i4 rfl
        replace h := JK_inl hk4
        clear hk4
        refine e_seq ?_
        refine c_seq ?_
        refine c_region ?_
        refine o1 rfl (o_p rfl ?_)
        refine o1 rfl (o_p rfl ?_)
        refine o1 rfl (o_p rfl ?_)
        refine o_end ?_
        refine e_seq ?_
        refine c_ret ?_
        refine e_ret ?_
        refine r_endt rfl rfl (kc rm0 (kc rm0 kr)) ?_
        have hr := Option.some.inj h
        subst hr
        exact hk i4

theorem c_vitrineref20_Same_2 {g : Gw} (X : HP) (p0 : Vvitrineref20_Report) (s0 : SV) (L0 : List (Vvitrineref20_Entry × SV)) (q0 : NL (D_Vvitrineref20_Entry X) L0 p0.Entries) (p1 : Vvitrineref20_Report) (s1 : SV) (q1r : RdN X s1 60 en_Vvitrineref20_Entry D_Vvitrineref20_Entry p1.Entries) (r : Bool) (h : m_vitrineref20_Same_2 p0 p1 = some r) : Tri env g 29 (List.toArray [(.agg (List.toArray [(.int .u8 p0.AID), (.bool p0.Short), (.int .i64 p0.Cursor), (SV.val s0)])), (.agg (List.toArray [(.int .u8 p1.AID), (.bool p1.Short), (.int .i64 p1.Cursor), (SV.val s1)]))]) [X, slO s0 60 en_Vvitrineref20_Entry L0] (fun K R => K (.bool r) (X :: R)) := by
  refine tri_of (fn := Try.f29) (N := 70) Try.func29 rfl rfl rfl ?_
  intro R K hk
  obtain ⟨L_q1, q1, n_q1⟩ := q1r
  unfold m_vitrineref20_Same_2 at h
  change GC _ none _ [] [(0, (.agg (List.toArray [(.int .u8 p0.AID), (.bool p0.Short), (.int .i64 p0.Cursor), (SV.val s0)]))), (1, (.agg (List.toArray [(.int .u8 p1.AID), (.bool p1.Short), (.int .i64 p1.Cursor), (SV.val s1)])))] (X :: slO s0 60 en_Vvitrineref20_Entry L0 :: R) g _ _
  refine c_seq ?_
  refine c_region ?_
  refine o1 rfl (o_box (cs := [(.int .u8 p0.AID), (.bool p0.Short), (.int .i64 p0.Cursor), (SV.val s0)]) rfl rfl (fun b1152 => ?_))
  refine o1 rfl (o_box (cs := [(.int .u8 p1.AID), (.bool p1.Short), (.int .i64 p1.Cursor), (SV.val s1)]) rfl rfl (fun b1154 => ?_))
  refine o1 rfl (o_p rfl ?_)
  refine o_end ?_
  refine e_seq ?_
  refine c_seq ?_
  refine c_seq ?_
  replace h := bsome h
  obtain ⟨d1, h, hk1⟩ := h
  refine cj (D := Unit) (ι := Unit) (fun _ i1 => True) (fun _ i1 => [(33, (.bool d1)), (3, (.pointer (some ⟨b1154, 0, none⟩))), (2, (.pointer (some ⟨b1152, 0, none⟩)))]) (fun _ i1 => X :: blk b1154 (.cells (List.toArray [(.int .u8 p1.AID), (.bool p1.Short), (.int .i64 p1.Cursor), (SV.val s1)]) 58 (0, 0)) :: blk b1152 (.cells (List.toArray [(.int .u8 p0.AID), (.bool p0.Short), (.int .i64 p0.Cursor), (SV.val s0)]) 58 (0, 0)) :: slO s0 60 en_Vvitrineref20_Entry L0 :: R) ?_ ?_
  · refine c_region ?_
    refine o1 rfl (o_fa (fd := ⟨ "AID", 5, 0, false, "", "", 0⟩) rfl rfl rfl rfl rfl ?_)
    refine o1 rfl (o_ld (b := b1152) (off := 0) (v := (.int .u8 p0.AID)) rfl rm1 rfl rfl ?_)
    refine o1 rfl (o_fa (fd := ⟨ "AID", 5, 0, false, "", "", 0⟩) rfl rfl rfl rfl rfl ?_)
    refine o1 rfl (o_ld (b := b1154) (off := 0) (v := (.int .u8 p1.AID)) rfl rm0 rfl rfl ?_)
    refine o1 rfl (o_p (v := (.bool (p0.AID != p1.AID))) rfl ?_)
    refine o1 rfl (o_p rfl ?_)
    rcases bool_or ((p0.AID != p1.AID)) with hb1156 | hb1156
    · replace h := cond_t hb1156 h
      refine on rfl rfl rfl hb1156 ?_
      refine on rfl rfl rfl hb1156 ?_
      refine on rfl rfl rfl hb1156 ?_
      refine on rfl rfl rfl hb1156 ?_
      refine on rfl rfl rfl hb1156 ?_
      refine o1 rfl (o_pick_t rfl hb1156 rfl ?_)
      refine o1 rfl (o_p rfl ?_)
      refine on rfl rfl rfl rfl ?_
      refine on rfl rfl rfl rfl ?_
      refine on rfl rfl rfl rfl ?_
      refine on rfl rfl rfl rfl ?_
      refine on rfl rfl rfl rfl ?_
      refine o1 rfl (o_pick_t rfl rfl rfl ?_)
      refine o1 rfl (o_p rfl ?_)
      refine on rfl rfl rfl rfl ?_
      refine on rfl rfl rfl rfl ?_
      refine on rfl rfl rfl rfl ?_
      refine on rfl rfl rfl rfl ?_
      refine on rfl rfl rfl rfl ?_
      refine on rfl rfl rfl rfl ?_
      refine on rfl rfl rfl rfl ?_
      refine o1 rfl (o_pick_t rfl rfl rfl ?_)
      refine o_end ?_
      have hd := Option.some.inj h
      subst hd
      exact ej () () trivial (sc rfl (sc rfl (sc rfl sn))) (kc rm2 (kc rm0 (kc rm0 (kc rm0 kr))))
    · replace h := cond_f hb1156 h
      refine oy rfl rfl rfl hb1156 (o_fa (fd := ⟨ "Short", 4, 1, false, "", "", 1⟩) rfl rfl rfl rfl rfl ?_)
      refine oy rfl rfl rfl hb1156 (o_ld (b := b1152) (off := 1) (v := (.bool p0.Short)) rfl rm1 rfl rfl ?_)
      refine oy rfl rfl rfl hb1156 (o_fa (fd := ⟨ "Short", 4, 1, false, "", "", 1⟩) rfl rfl rfl rfl rfl ?_)
      refine oy rfl rfl rfl hb1156 (o_ld (b := b1154) (off := 1) (v := (.bool p1.Short)) rfl rm0 rfl rfl ?_)
      refine oy rfl rfl rfl hb1156 (o_p (v := (.bool (!(p0.Short == p1.Short)))) rfl ?_)
      refine o1 rfl (o_pick_f rfl hb1156 rfl ?_)
      refine o1 rfl (o_p rfl ?_)
      rcases bool_or ((!(p0.Short == p1.Short))) with hb1157 | hb1157
      · replace h := cond_t hb1157 h
        refine on rfl rfl rfl hb1157 ?_
        refine on rfl rfl rfl hb1157 ?_
        refine on rfl rfl rfl hb1157 ?_
        refine on rfl rfl rfl hb1157 ?_
        refine on rfl rfl rfl hb1157 ?_
        refine o1 rfl (o_pick_t rfl hb1157 rfl ?_)
        refine o1 rfl (o_p rfl ?_)
        refine on rfl rfl rfl rfl ?_
        refine on rfl rfl rfl rfl ?_
        refine on rfl rfl rfl rfl ?_
        refine on rfl rfl rfl rfl ?_
        refine on rfl rfl rfl rfl ?_
        refine on rfl rfl rfl rfl ?_
        refine on rfl rfl rfl rfl ?_
        refine o1 rfl (o_pick_t rfl rfl rfl ?_)
        refine o_end ?_
        have hd := Option.some.inj h
        subst hd
        exact ej () () trivial (sc rfl (sc rfl (sc rfl sn))) (kc rm2 (kc rm0 (kc rm0 (kc rm0 kr))))
      · replace h := cond_f hb1157 h
        refine oy rfl rfl rfl hb1157 (o_fa (fd := ⟨ "Cursor", 3, 2, false, "", "", 8⟩) rfl rfl rfl rfl rfl ?_)
        refine oy rfl rfl rfl hb1157 (o_ld (b := b1152) (off := 2) (v := (.int .i64 p0.Cursor)) rfl rm1 rfl rfl ?_)
        refine oy rfl rfl rfl hb1157 (o_fa (fd := ⟨ "Cursor", 3, 2, false, "", "", 8⟩) rfl rfl rfl rfl rfl ?_)
        refine oy rfl rfl rfl hb1157 (o_ld (b := b1154) (off := 2) (v := (.int .i64 p1.Cursor)) rfl rm0 rfl rfl ?_)
        refine oy rfl rfl rfl hb1157 (o_p (v := (.bool (p0.Cursor != p1.Cursor))) rfl ?_)
        refine o1 rfl (o_pick_f rfl hb1157 rfl ?_)
        refine o1 rfl (o_p rfl ?_)
        rcases bool_or ((p0.Cursor != p1.Cursor)) with hb1158 | hb1158
        · replace h := cond_t hb1158 h
          refine on rfl rfl rfl hb1158 ?_
          refine on rfl rfl rfl hb1158 ?_
          refine on rfl rfl rfl hb1158 ?_
          refine on rfl rfl rfl hb1158 ?_
          refine on rfl rfl rfl hb1158 ?_
          refine on rfl rfl rfl hb1158 ?_
          refine on rfl rfl rfl hb1158 ?_
          refine o1 rfl (o_pick_t rfl hb1158 rfl ?_)
          refine o_end ?_
          have hd := Option.some.inj h
          subst hd
          exact ej () () trivial (sc rfl (sc rfl (sc rfl sn))) (kc rm2 (kc rm0 (kc rm0 (kc rm0 kr))))
        · replace h := cond_f hb1158 h
          refine oy rfl rfl rfl hb1158 (o_fa (fd := ⟨ "Entries", 56, 3, false, "", "", 16⟩) rfl rfl rfl rfl rfl ?_)
          refine oy rfl rfl rfl hb1158 (o_ld (b := b1152) (off := 3) (v := (SV.val s0)) rfl rm1 rfl rfl ?_)
          refine oy rfl rfl rfl hb1158 (o_lenN (s := s0) rfl rfl rfl rm3 (rd_own _ _ _ _) q0 ?_)
          refine oy rfl rfl rfl hb1158 (o_fa (fd := ⟨ "Entries", 56, 3, false, "", "", 16⟩) rfl rfl rfl rfl rfl ?_)
          refine oy rfl rfl rfl hb1158 (o_ld (b := b1154) (off := 3) (v := (SV.val s1)) rfl rm0 rfl rfl ?_)
          refine oy rfl rfl rfl hb1158 (o_lenN (s := s1) rfl rfl rfl rm2 q1 n_q1 ?_)
          refine oy rfl rfl rfl hb1158 (o_p (v := (.bool ((p0.Entries.length : Int) != (p1.Entries.length : Int)))) rfl ?_)
          refine o1 rfl (o_pick_f rfl hb1158 rfl ?_)
          refine o_end ?_
          have hd := Option.some.inj h
          subst hd
          exact ej () () trivial (sc rfl (sc rfl (sc rfl sn))) (kc rm2 (kc rm0 (kc rm0 (kc rm0 kr))))
  · rintro _ i1 _
    replace h := hk1
    clear hk1
    refine e_seq ?_
    refine c_cond (b := d1) rfl (fun hb1159 => ?_) (fun hb1159 => ?_)
    · replace h := cond_t hb1159 h
      refine c_seq ?_
      refine c_region ?_
      refine o1 rfl (o_p rfl ?_)
      refine o_end ?_
      refine e_seq ?_
      refine c_ret ?_
      refine e_then_ret ?_
      refine e_ret ?_
      refine r_endt rfl rfl (kc rm0 (kd (kd (kd kr)))) ?_
      have hr := Option.some.inj h
      subst hr
      exact hk
    · replace h := cond_f hb1159 h
      refine c_skip ?_
      refine e_seq ?_
      refine c_seq ?_
      refine c_seq ?_
      refine c_region ?_
      refine o1 rfl (o_fa (fd := ⟨ "Entries", 56, 3, false, "", "", 16⟩) rfl rfl rfl rfl rfl ?_)
      refine o1 rfl (o_ld (b := b1152) (off := 3) (v := (SV.val s0)) rfl rm2 rfl rfl ?_)
      refine o1 rfl (o_lenN (s := s0) rfl rfl rfl rm3 (rd_own _ _ _ _) q0 ?_)
      refine o1 rfl (o_p rfl ?_)
      refine o_end ?_
      refine e_seq ?_
      replace h := jn_some h
      obtain ⟨y3, h, hk3⟩ := h
      refine cj (D := Unit) (ι := Unit) (fun d3 i3 => y3 = Sum.inl d3) (fun d3 i3 => []) (fun d3 i3 => X :: R) ?_ ?_
      · refine c_block ?_
        refine c_loop (l_sub (sc rfl (sc rfl (sc rfl (sc rfl sn)))) (l_keep (kc rm0 (kc rm0 (kc rm0 (kc rm0 kr)))) (lf (X := Int) (ι := Unit) (fun k x => vitrineref20_Same_2_l4 p0 p1 k x) _ (fun x4 i4 => True) (fun x4 i4 => [(37, (.int .i64 x4)), (36, (.int .i64 (p0.Entries.length : Int))), (3, (.pointer (some ⟨b1154, 0, none⟩))), (2, (.pointer (some ⟨b1152, 0, none⟩)))]) (fun x4 i4 => X :: blk b1154 (.cells (List.toArray [(.int .u8 p1.AID), (.bool p1.Short), (.int .i64 p1.Cursor), (SV.val s1)]) 58 (0, 0)) :: blk b1152 (.cells (List.toArray [(.int .u8 p0.AID), (.bool p0.Short), (.int .i64 p0.Cursor), (SV.val s0)]) 58 (0, 0)) :: slO s0 60 en_Vvitrineref20_Entry L0 :: R) (fun _ => rfl) ?_ fuel 0 () trivial h)))
        clear h
        rintro k4 ih4 x4 i4 _ h
        rw [vitrineref20_Same_2_l4.eq_2] at h
        refine l_round ?_
        refine c_seq ?_
        refine c_region ?_
        refine o1 rfl (o_p (v := (.bool (decide (x4 < (p0.Entries.length : Int))))) rfl ?_)
        refine o_end ?_
        refine e_seq ?_
        refine c_seq ?_
        refine c_cond (b := (decide (x4 < (p0.Entries.length : Int)))) rfl (fun hb1190 => ?_) (fun hb1190 => ?_)
        · replace h := cond_t hb1190 h
          refine c_skip ?_
          refine e_seq ?_
          refine c_seq ?_
          refine c_block ?_
          refine c_seq ?_
          refine c_region ?_
          refine o1 rfl (o_p rfl ?_)
          refine o1 rfl (o_p rfl ?_)
          refine o_end ?_
          refine e_seq ?_
          refine c_seq ?_
          replace h := bsome h
          obtain ⟨d7, h, hk7⟩ := h
          refine cj (D := Unit) (ι := Unit) (fun _ i7 => True) (fun _ i7 => [(68, (.bool d7)), (37, (.int .i64 x4)), (36, (.int .i64 (p0.Entries.length : Int))), (3, (.pointer (some ⟨b1154, 0, none⟩))), (2, (.pointer (some ⟨b1152, 0, none⟩)))]) (fun _ i7 => X :: blk b1154 (.cells (List.toArray [(.int .u8 p1.AID), (.bool p1.Short), (.int .i64 p1.Cursor), (SV.val s1)]) 58 (0, 0)) :: blk b1152 (.cells (List.toArray [(.int .u8 p0.AID), (.bool p0.Short), (.int .i64 p0.Cursor), (SV.val s0)]) 58 (0, 0)) :: slO s0 60 en_Vvitrineref20_Entry L0 :: R) ?_ ?_
          · replace h := gsome h
            obtain ⟨hg1191, h⟩ := h
            obtain ⟨sv1192, he_sv1192, hd_sv1192⟩ := NL.rd q0 hg1191
            have hr1193 : Rd X sv1192 5 (enI .u8) ((rd p0.Entries x4).Text) := hd_sv1192
            replace h := gsome h
            obtain ⟨hg1194, h⟩ := h
            obtain ⟨sv1195, he_sv1195, hd_sv1195⟩ := NL.rd n_q1 hg1194
            have hr1196 : Rd X sv1195 5 (enI .u8) ((rd p1.Entries x4).Text) := hd_sv1195
            rcases bool_or ((((rd p0.Entries x4).Addr) != ((rd p1.Entries x4).Addr))) with hb1197 | hb1197
            · replace h := cond_t hb1197 h
              refine c_draw (n := 1) (q := [(14, 54, undef), (15, 55, undef), (16, 56, undef), (17, 57, undef), (18, 58, undef), (19, 59, undef), (20, 60, undef), (21, 61, undef), (22, 62, undef), (23, 63, undef), (24, 64, undef), (25, 65, undef), (26, 66, undef), (27, 67, undef), (28, 68, (.bool true)), (0, 40, (.pointer (some ⟨b1152, 3, none⟩))), (1, 41, (SV.val s0)), (2, 42, (.int .i64 x4)), (3, 43, (.pointer (some ⟨SV.blk s0, SV.off s0 + Int.toNat x4 * 2, none⟩))), (4, 44, (.pointer (some ⟨SV.blk s0, SV.off s0 + Int.toNat x4 * 2, none⟩))), (5, 45, (.int .i64 ((rd p0.Entries x4).Addr))), (6, 46, (.pointer (some ⟨b1154, 3, none⟩))), (7, 47, (SV.val s1)), (8, 48, (.int .i64 x4)), (9, 49, (.pointer (some ⟨SV.blk s1, SV.off s1 + Int.toNat x4 * 2, none⟩))), (10, 50, (.pointer (some ⟨SV.blk s1, SV.off s1 + Int.toNat x4 * 2, none⟩))), (11, 51, (.int .i64 ((rd p1.Entries x4).Addr))), (12, 52, (.bool (((rd p0.Entries x4).Addr) != ((rd p1.Entries x4).Addr)))), (13, 53, (.bool (((rd p0.Entries x4).Addr) != ((rd p1.Entries x4).Addr))))]) (pend := [0, 1, 2, 3, 4, 5, 6, 7, 8, 9, 10, 11, 12, 13, 14, 15, 16, 17, 18, 19, 20, 21, 22, 23, 24, 25, 26, 27, 28]) rfl rfl rfl ?_
              refine ⟨⟨fun _ => ⟨rfl, rfl, rfl, .inr ⟨_, _, _, _, rfl, rfl, rfl, .inr ⟨hb1197, rfl⟩⟩⟩, fun _ => ⟨rfl, rfl, rfl, .inr ⟨_, _, _, _, rfl, rfl, rfl, .inr ⟨hb1197, rfl⟩⟩⟩, fun _ => ⟨rfl, rfl, rfl, .inr ⟨_, _, _, _, rfl, rfl, rfl, .inr ⟨hb1197, rfl⟩⟩⟩, fun _ => ⟨rfl, rfl, rfl, .inr ⟨_, _, _, _, rfl, rfl, rfl, .inr ⟨hb1197, rfl⟩⟩⟩, fun _ => ⟨rfl, rfl, rfl, .inr ⟨_, _, _, _, rfl, rfl, rfl, .inr ⟨hb1197, rfl⟩⟩⟩, fun _ => ⟨rfl, rfl, rfl, .inr ⟨_, _, _, _, rfl, rfl, rfl, .inr ⟨hb1197, rfl⟩⟩⟩, fun _ => ⟨rfl, rfl, rfl, .inr ⟨_, _, _, _, rfl, rfl, rfl, .inr ⟨hb1197, rfl⟩⟩⟩, fun _ => ⟨rfl, rfl, rfl, .inr ⟨_, _, _, _, rfl, rfl, rfl, .inr ⟨hb1197, rfl⟩⟩⟩, fun _ => ⟨rfl, rfl, rfl, .inr ⟨_, _, _, _, rfl, rfl, rfl, .inr ⟨hb1197, rfl⟩⟩⟩, fun _ => ⟨rfl, rfl, rfl, .inr ⟨_, _, _, _, rfl, rfl, rfl, .inr ⟨hb1197, rfl⟩⟩⟩, fun _ => ⟨rfl, rfl, rfl, .inr ⟨_, _, _, _, rfl, rfl, rfl, .inr ⟨hb1197, rfl⟩⟩⟩, fun _ => ⟨rfl, rfl, rfl, .inr ⟨_, _, _, _, rfl, rfl, rfl, .inr ⟨hb1197, rfl⟩⟩⟩, fun _ => ⟨rfl, rfl, rfl, .inr ⟨_, _, _, _, rfl, rfl, rfl, .inr ⟨hb1197, rfl⟩⟩⟩, fun _ => ⟨rfl, rfl, rfl, .inr ⟨_, _, _, _, rfl, rfl, rfl, .inr ⟨hb1197, rfl⟩⟩⟩, fun _ => ⟨rfl, rfl, rfl, .inl ⟨rfl, (o_pick_t rfl hb1197 rfl ⟨rfl, rfl⟩)⟩⟩, fun _ => ⟨rfl, rfl, rfl, .inl ⟨rfl, (o_fa (fd := ⟨ "Entries", 56, 3, false, "", "", 16⟩) rfl rfl rfl rfl rfl ⟨rfl, rfl⟩)⟩⟩, fun _ => ⟨rfl, rfl, rfl, .inl ⟨rfl, (o_ld (b := b1152) (off := 3) (v := (SV.val s0)) rfl rm2 rfl rfl ⟨rfl, rfl⟩)⟩⟩, fun _ => ⟨rfl, rfl, rfl, .inl ⟨rfl, (o_p rfl ⟨rfl, rfl⟩)⟩⟩, fun _ => ⟨rfl, rfl, rfl, .inl ⟨rfl, (o_ix (s := s0) (n := x4) (e := en_Vvitrineref20_Entry) rfl rfl rfl rfl rfl rfl rm3 (rd_own _ _ _ _) (NL.lt q0 hg1191) ⟨rfl, rfl⟩)⟩⟩, fun _ => ⟨rfl, rfl, rfl, .inl ⟨rfl, (o_fa (fd := ⟨ "Addr", 3, 0, false, "", "", 0⟩) rfl rfl rfl rfl rfl ⟨rfl, rfl⟩)⟩⟩, fun _ => ⟨rfl, rfl, rfl, .inl ⟨rfl, (o_ldE (s := s0) (e := en_Vvitrineref20_Entry) (n := x4) (f := 0) (v := (.int .i64 ((rd p0.Entries x4).Addr))) rfl rm3 (rd_own _ _ _ _) (NL.lt q0 hg1191) rfl (by rw [he_sv1192]; rfl) ⟨rfl, rfl⟩)⟩⟩, fun _ => ⟨rfl, rfl, rfl, .inl ⟨rfl, (o_fa (fd := ⟨ "Entries", 56, 3, false, "", "", 16⟩) rfl rfl rfl rfl rfl ⟨rfl, rfl⟩)⟩⟩, fun _ => ⟨rfl, rfl, rfl, .inl ⟨rfl, (o_ld (b := b1154) (off := 3) (v := (SV.val s1)) rfl rm1 rfl rfl ⟨rfl, rfl⟩)⟩⟩, fun _ => ⟨rfl, rfl, rfl, .inl ⟨rfl, (o_p rfl ⟨rfl, rfl⟩)⟩⟩, fun _ => ⟨rfl, rfl, rfl, .inl ⟨rfl, (o_ix (s := s1) (n := x4) (e := en_Vvitrineref20_Entry) rfl rfl rfl rfl rfl rfl rm0 q1 (NL.lt n_q1 hg1194) ⟨rfl, rfl⟩)⟩⟩, fun _ => ⟨rfl, rfl, rfl, .inl ⟨rfl, (o_fa (fd := ⟨ "Addr", 3, 0, false, "", "", 0⟩) rfl rfl rfl rfl rfl ⟨rfl, rfl⟩)⟩⟩, fun _ => ⟨rfl, rfl, rfl, .inl ⟨rfl, (o_ldE (s := s1) (e := en_Vvitrineref20_Entry) (n := x4) (f := 0) (v := (.int .i64 ((rd p1.Entries x4).Addr))) rfl rm0 q1 (NL.lt n_q1 hg1194) rfl (by rw [he_sv1195]; rfl) ⟨rfl, rfl⟩)⟩⟩, fun _ => ⟨rfl, rfl, rfl, .inl ⟨rfl, (o_p (v := (.bool (((rd p0.Entries x4).Addr) != ((rd p1.Entries x4).Addr)))) rfl ⟨rfl, rfl⟩)⟩⟩, fun _ => ⟨rfl, rfl, rfl, .inl ⟨rfl, (o_p rfl ⟨rfl, rfl⟩)⟩⟩, trivial⟩, rfl, .inl ⟨rfl, rfl, ?_⟩⟩
              have hd := Option.some.inj h
              subst hd
              exact ej () () trivial (sc rfl (sc rfl (sc rfl (sc rfl (sc rfl sn))))) (kc rm0 (kc rm0 (kc rm0 (kc rm0 kr))))
            · replace h := cond_f hb1197 h
              replace h := gsome h
              obtain ⟨hg1198, h⟩ := h
              obtain ⟨sv1199, he_sv1199, hd_sv1199⟩ := NL.rd q0 hg1198
              have hr1200 : Rd X sv1199 5 (enI .u8) ((rd p0.Entries x4).Text) := hd_sv1199
              replace h := gsome h
              obtain ⟨hg1201, h⟩ := h
              obtain ⟨sv1202, he_sv1202, hd_sv1202⟩ := NL.rd n_q1 hg1201
              have hr1203 : Rd X sv1202 5 (enI .u8) ((rd p1.Entries x4).Text) := hd_sv1202
              refine c_draw (n := 1) (q := [(14, 54, (.pointer (some ⟨b1152, 3, none⟩))), (15, 55, (SV.val s0)), (16, 56, (.int .i64 x4)), (17, 57, (.pointer (some ⟨SV.blk s0, SV.off s0 + Int.toNat x4 * 2, none⟩))), (18, 58, (.pointer (some ⟨SV.blk s0, SV.off s0 + Int.toNat x4 * 2 + 1, none⟩))), (19, 59, (SV.val sv1199)), (20, 60, (.pointer (some ⟨b1154, 3, none⟩))), (21, 61, (SV.val s1)), (22, 62, (.int .i64 x4)), (23, 63, (.pointer (some ⟨SV.blk s1, SV.off s1 + Int.toNat x4 * 2, none⟩))), (24, 64, (.pointer (some ⟨SV.blk s1, SV.off s1 + Int.toNat x4 * 2 + 1, none⟩))), (25, 65, (SV.val sv1202)), (0, 40, (.pointer (some ⟨b1152, 3, none⟩))), (1, 41, (SV.val s0)), (2, 42, (.int .i64 x4)), (3, 43, (.pointer (some ⟨SV.blk s0, SV.off s0 + Int.toNat x4 * 2, none⟩))), (4, 44, (.pointer (some ⟨SV.blk s0, SV.off s0 + Int.toNat x4 * 2, none⟩))), (5, 45, (.int .i64 ((rd p0.Entries x4).Addr))), (6, 46, (.pointer (some ⟨b1154, 3, none⟩))), (7, 47, (SV.val s1)), (8, 48, (.int .i64 x4)), (9, 49, (.pointer (some ⟨SV.blk s1, SV.off s1 + Int.toNat x4 * 2, none⟩))), (10, 50, (.pointer (some ⟨SV.blk s1, SV.off s1 + Int.toNat x4 * 2, none⟩))), (11, 51, (.int .i64 ((rd p1.Entries x4).Addr))), (12, 52, (.bool (((rd p0.Entries x4).Addr) != ((rd p1.Entries x4).Addr)))), (13, 53, (.bool (((rd p0.Entries x4).Addr) != ((rd p1.Entries x4).Addr))))]) (pend := [0, 1, 2, 3, 4, 5, 6, 7, 8, 9, 10, 11, 12, 13, 14, 15, 16, 17, 18, 19, 20, 21, 22, 23, 24, 25]) rfl rfl rfl ?_
              replace h := bsome h
              obtain ⟨d8, h8, h⟩ := h
              refine ⟨⟨fun _ => ⟨rfl, rfl, rfl, .inr ⟨_, _, _, _, rfl, rfl, rfl, .inl ⟨hb1197, (o_fa (fd := ⟨ "Entries", 56, 3, false, "", "", 16⟩) rfl rfl rfl rfl rfl ⟨rfl, rfl⟩)⟩⟩⟩, fun _ => ⟨rfl, rfl, rfl, .inr ⟨_, _, _, _, rfl, rfl, rfl, .inl ⟨hb1197, (o_ld (b := b1152) (off := 3) (v := (SV.val s0)) rfl rm2 rfl rfl ⟨rfl, rfl⟩)⟩⟩⟩, fun _ => ⟨rfl, rfl, rfl, .inr ⟨_, _, _, _, rfl, rfl, rfl, .inl ⟨hb1197, (o_p rfl ⟨rfl, rfl⟩)⟩⟩⟩, fun _ => ⟨rfl, rfl, rfl, .inr ⟨_, _, _, _, rfl, rfl, rfl, .inl ⟨hb1197, (o_ix (s := s0) (n := x4) (e := en_Vvitrineref20_Entry) rfl rfl rfl rfl rfl rfl rm3 (rd_own _ _ _ _) (NL.lt q0 hg1198) ⟨rfl, rfl⟩)⟩⟩⟩, fun _ => ⟨rfl, rfl, rfl, .inr ⟨_, _, _, _, rfl, rfl, rfl, .inl ⟨hb1197, (o_fa (fd := ⟨ "Text", 31, 1, false, "", "", 8⟩) rfl rfl rfl rfl rfl ⟨rfl, rfl⟩)⟩⟩⟩, fun _ => ⟨rfl, rfl, rfl, .inr ⟨_, _, _, _, rfl, rfl, rfl, .inl ⟨hb1197, (o_ldE (s := s0) (e := en_Vvitrineref20_Entry) (n := x4) (f := 1) (v := (SV.val sv1199)) rfl rm3 (rd_own _ _ _ _) (NL.lt q0 hg1198) rfl (by rw [he_sv1199]; rfl) ⟨rfl, rfl⟩)⟩⟩⟩, fun _ => ⟨rfl, rfl, rfl, .inr ⟨_, _, _, _, rfl, rfl, rfl, .inl ⟨hb1197, (o_fa (fd := ⟨ "Entries", 56, 3, false, "", "", 16⟩) rfl rfl rfl rfl rfl ⟨rfl, rfl⟩)⟩⟩⟩, fun _ => ⟨rfl, rfl, rfl, .inr ⟨_, _, _, _, rfl, rfl, rfl, .inl ⟨hb1197, (o_ld (b := b1154) (off := 3) (v := (SV.val s1)) rfl rm1 rfl rfl ⟨rfl, rfl⟩)⟩⟩⟩, fun _ => ⟨rfl, rfl, rfl, .inr ⟨_, _, _, _, rfl, rfl, rfl, .inl ⟨hb1197, (o_p rfl ⟨rfl, rfl⟩)⟩⟩⟩, fun _ => ⟨rfl, rfl, rfl, .inr ⟨_, _, _, _, rfl, rfl, rfl, .inl ⟨hb1197, (o_ix (s := s1) (n := x4) (e := en_Vvitrineref20_Entry) rfl rfl rfl rfl rfl rfl rm0 q1 (NL.lt n_q1 hg1201) ⟨rfl, rfl⟩)⟩⟩⟩, fun _ => ⟨rfl, rfl, rfl, .inr ⟨_, _, _, _, rfl, rfl, rfl, .inl ⟨hb1197, (o_fa (fd := ⟨ "Text", 31, 1, false, "", "", 8⟩) rfl rfl rfl rfl rfl ⟨rfl, rfl⟩)⟩⟩⟩, fun _ => ⟨rfl, rfl, rfl, .inr ⟨_, _, _, _, rfl, rfl, rfl, .inl ⟨hb1197, (o_ldE (s := s1) (e := en_Vvitrineref20_Entry) (n := x4) (f := 1) (v := (SV.val sv1202)) rfl rm0 q1 (NL.lt n_q1 hg1201) rfl (by rw [he_sv1202]; rfl) ⟨rfl, rfl⟩)⟩⟩⟩, fun _ => ⟨rfl, rfl, rfl, .inl ⟨rfl, (o_fa (fd := ⟨ "Entries", 56, 3, false, "", "", 16⟩) rfl rfl rfl rfl rfl ⟨rfl, rfl⟩)⟩⟩, fun _ => ⟨rfl, rfl, rfl, .inl ⟨rfl, (o_ld (b := b1152) (off := 3) (v := (SV.val s0)) rfl rm2 rfl rfl ⟨rfl, rfl⟩)⟩⟩, fun _ => ⟨rfl, rfl, rfl, .inl ⟨rfl, (o_p rfl ⟨rfl, rfl⟩)⟩⟩, fun _ => ⟨rfl, rfl, rfl, .inl ⟨rfl, (o_ix (s := s0) (n := x4) (e := en_Vvitrineref20_Entry) rfl rfl rfl rfl rfl rfl rm3 (rd_own _ _ _ _) (NL.lt q0 hg1191) ⟨rfl, rfl⟩)⟩⟩, fun _ => ⟨rfl, rfl, rfl, .inl ⟨rfl, (o_fa (fd := ⟨ "Addr", 3, 0, false, "", "", 0⟩) rfl rfl rfl rfl rfl ⟨rfl, rfl⟩)⟩⟩, fun _ => ⟨rfl, rfl, rfl, .inl ⟨rfl, (o_ldE (s := s0) (e := en_Vvitrineref20_Entry) (n := x4) (f := 0) (v := (.int .i64 ((rd p0.Entries x4).Addr))) rfl rm3 (rd_own _ _ _ _) (NL.lt q0 hg1191) rfl (by rw [he_sv1192]; rfl) ⟨rfl, rfl⟩)⟩⟩, fun _ => ⟨rfl, rfl, rfl, .inl ⟨rfl, (o_fa (fd := ⟨ "Entries", 56, 3, false, "", "", 16⟩) rfl rfl rfl rfl rfl ⟨rfl, rfl⟩)⟩⟩, fun _ => ⟨rfl, rfl, rfl, .inl ⟨rfl, (o_ld (b := b1154) (off := 3) (v := (SV.val s1)) rfl rm1 rfl rfl ⟨rfl, rfl⟩)⟩⟩, fun _ => ⟨rfl, rfl, rfl, .inl ⟨rfl, (o_p rfl ⟨rfl, rfl⟩)⟩⟩, fun _ => ⟨rfl, rfl, rfl, .inl ⟨rfl, (o_ix (s := s1) (n := x4) (e := en_Vvitrineref20_Entry) rfl rfl rfl rfl rfl rfl rm0 q1 (NL.lt n_q1 hg1194) ⟨rfl, rfl⟩)⟩⟩, fun _ => ⟨rfl, rfl, rfl, .inl ⟨rfl, (o_fa (fd := ⟨ "Addr", 3, 0, false, "", "", 0⟩) rfl rfl rfl rfl rfl ⟨rfl, rfl⟩)⟩⟩, fun _ => ⟨rfl, rfl, rfl, .inl ⟨rfl, (o_ldE (s := s1) (e := en_Vvitrineref20_Entry) (n := x4) (f := 0) (v := (.int .i64 ((rd p1.Entries x4).Addr))) rfl rm0 q1 (NL.lt n_q1 hg1194) rfl (by rw [he_sv1195]; rfl) ⟨rfl, rfl⟩)⟩⟩, fun _ => ⟨rfl, rfl, rfl, .inl ⟨rfl, (o_p (v := (.bool (((rd p0.Entries x4).Addr) != ((rd p1.Entries x4).Addr)))) rfl ⟨rfl, rfl⟩)⟩⟩, fun _ => ⟨rfl, rfl, rfl, .inl ⟨rfl, (o_p rfl ⟨rfl, rfl⟩)⟩⟩, trivial⟩, rfl, .inr ⟨[26], rfl, rfl, ⟨rfl, .inr ⟨_, _, _, _, rfl, rfl, rfl, hb1197⟩, ?_⟩, trivial⟩⟩
              refine (o_call has20 rfl (c_vitrineref01_Same X ((rd p0.Entries x4).Text) sv1199 hr1200 ((rd p1.Entries x4).Text) sv1202 hr1203 _ h8) (pc rm0 pn) ?_)
              refine ⟨[(27, 67, (.bool (!d8))), (28, 68, (.bool (!d8)))], [27, 28], rfl, rfl, rfl, rfl, ?_⟩
              refine ⟨⟨fun _ => ⟨rfl, rfl, rfl, .inr ⟨_, _, _, _, rfl, rfl, rfl, .inl ⟨hb1197, (o_p (v := (.bool (!d8))) rfl ⟨rfl, rfl⟩)⟩⟩⟩, fun _ => ⟨rfl, rfl, rfl, .inl ⟨rfl, (o_pick_f rfl hb1197 rfl ⟨rfl, rfl⟩)⟩⟩, (fun h => nomatch h), (fun h => nomatch h), (fun h => nomatch h), (fun h => nomatch h), (fun h => nomatch h), (fun h => nomatch h), (fun h => nomatch h), (fun h => nomatch h), (fun h => nomatch h), (fun h => nomatch h), (fun h => nomatch h), (fun h => nomatch h), (fun h => nomatch h), (fun h => nomatch h), (fun h => nomatch h), (fun h => nomatch h), (fun h => nomatch h), (fun h => nomatch h), (fun h => nomatch h), (fun h => nomatch h), (fun h => nomatch h), (fun h => nomatch h), (fun h => nomatch h), (fun h => nomatch h), (fun h => nomatch h), (fun h => nomatch h), trivial⟩, rfl, rfl, rfl, ?_⟩
              have hd := Option.some.inj h
              subst hd
              exact ej () () trivial (sc rfl (sc rfl (sc rfl (sc rfl (sc rfl sn))))) (kc rm0 (kc rm0 (kc rm0 (kc rm0 kr))))
          · rintro _ i7 _
            replace h := hk7
            clear hk7
            refine e_seq ?_
            refine c_cond (b := d7) rfl (fun hb1204 => ?_) (fun hb1204 => ?_)
            · replace h := cond_t hb1204 h
              refine c_seq ?_
              refine c_region ?_
              refine o1 rfl (o_p rfl ?_)
              refine o_end ?_
              refine e_seq ?_
              refine c_ret ?_
              refine e_blk_ret ?_
              refine e_then_ret ?_
              refine e_then_ret ?_
              refine e_blk_ret ?_
              refine ej_ret ?_
              replace h := esc_some h
              obtain ⟨z3, h, rfl⟩ := h
              obtain rfl := (hk3 : z3 = _)
              refine e_then_ret ?_
              refine e_ret ?_
              refine r_endt rfl rfl (kc rm0 (kd (kd (kd kr)))) ?_
              have hr := Option.some.inj h
              subst hr
              exact hk
            · replace h := cond_f hb1204 h
              refine c_skip ?_
              refine e_blk ?_
              refine e_seq ?_
              refine c_region ?_
              refine o1 rfl (o_p (v := (.int .i64 (w64 (x4 + 1)))) rfl ?_)
              refine o1 rfl (o_p rfl ?_)
              refine o_end ?_
              exact e_loop (l_sub (sc rfl (sc rfl (sc rfl (sc rfl sn)))) (l_keep (kc rm0 (kc rm0 (kc rm0 (kc rm0 kr)))) (ih4 (w64 (x4 + 1)) () trivial h)))
        · replace h := cond_f hb1190 h
          refine c_exit ?_
          refine e_then_exit ?_
          refine e_then_exit ?_
          refine e_blk_exit ?_
          have hd := Option.some.inj h
          subst hd
          exact ej () () rfl sn (kc rm0 (kd (kd (kd kr))))
      · rintro d3 i3 rfl
        replace h := JK_inl hk3
        clear hk3
        refine e_seq ?_
        refine c_seq ?_
        refine c_region ?_
        refine o1 rfl (o_p rfl ?_)
        refine o_end ?_
        refine e_seq ?_
        refine c_ret ?_
        refine e_ret ?_
        refine r_endt rfl rfl (kc rm0 kr) ?_
        have hr := Option.some.inj h
        subst hr
        exact hk

theorem c_vitrinelaw20_EntryWrites {g : Gw} (X : HP) (p0 : Vvitrineref20_Report) (s0 : SV) (q0r : RdN X s0 60 en_Vvitrineref20_Entry D_Vvitrineref20_Entry p0.Entries) (r : Bool) (h : m_vitrinelaw20_EntryWrites p0 = some r) : Tri env g 5 (List.toArray [(.agg (List.toArray [(.int .u8 p0.AID), (.bool p0.Short), (.int .i64 p0.Cursor), (SV.val s0)]))]) [X] (fun K R => ∀ (i0 : HP), (Ext X i0) → K (.bool r) (i0 :: R)) := by
  refine tri_of (fn := Try.f5) (N := 75) Try.func5 rfl rfl rfl ?_
  intro R K hk
  obtain ⟨L_q0, q0, n_q0⟩ := q0r
  unfold m_vitrinelaw20_EntryWrites at h
  change GC _ none _ [] [(0, (.agg (List.toArray [(.int .u8 p0.AID), (.bool p0.Short), (.int .i64 p0.Cursor), (SV.val s0)])))] (X :: R) g _ _
  refine c_seq ?_
  refine c_region ?_
  refine o1 rfl (o_box (cs := [(.int .u8 p0.AID), (.bool p0.Short), (.int .i64 p0.Cursor), (SV.val s0)]) rfl rfl (fun b816 => ?_))
  refine o1 rfl (o_p rfl ?_)
  refine o_end ?_
  refine e_seq ?_
  refine c_seq ?_
  refine c_seq ?_
  refine c_region ?_
  replace h := bsome h
  obtain ⟨d1, h1, h⟩ := h
  refine o1 rfl (o_call has23 rfl (c_vitrinelaw20_awake X _ h1) (pc rm1 pn) (fun i1 f1_0 => ?_))
  refine o1 rfl (o_p (v := (.bool (!d1))) rfl ?_)
  refine o_end ?_
  refine e_seq ?_
  refine c_cond (b := (!d1)) rfl (fun hb818 => ?_) (fun hb818 => ?_)
  · replace h := cond_t hb818 h
    refine c_seq ?_
    refine c_region ?_
    refine o1 rfl (o_p rfl ?_)
    refine o_end ?_
    refine e_seq ?_
    refine c_ret ?_
    refine e_then_ret ?_
    refine e_ret ?_
    refine r_endt rfl rfl (kc rm0 (kd kr)) ?_
    have hr := Option.some.inj h
    subst hr
    exact hk i1 f1_0
  · replace h := cond_f hb818 h
    refine c_skip ?_
    refine e_seq ?_
    refine c_seq ?_
    refine c_region ?_
    refine o1 rfl (o_p rfl ?_)
    refine o_end ?_
    refine e_seq ?_
    refine c_seq ?_
    refine c_seq ?_
    refine c_region ?_
    refine o1 rfl (o_fa (fd := ⟨ "Entries", 56, 3, false, "", "", 16⟩) rfl rfl rfl rfl rfl ?_)
    refine o1 rfl (o_ld (b := b816) (off := 3) (v := (SV.val s0)) rfl rm1 rfl rfl ?_)
    refine o1 rfl (o_lenN (s := s0) rfl rfl rfl rm0 (Rd.ext q0 f1_0) (NL.mono n_q0 (D_Vvitrineref20_Entry.ext f1_0)) ?_)
    refine o1 rfl (o_p rfl ?_)
    refine o_end ?_
    refine e_seq ?_
    replace h := bsome h
    obtain ⟨d3, h, hk3⟩ := h
    refine cj (D := Unit) (ι := HP × SV × (List (Vvitrineref20_Entry × SV))) (fun _ i3 => (NL (D_Vvitrineref20_Entry i3.1) i3.2.2 d3) ∧ (RdN i3.1 s0 60 en_Vvitrineref20_Entry D_Vvitrineref20_Entry p0.Entries) ∧ (Ext X i3.1)) (fun _ i3 => [(3, (SV.val i3.2.1)), (1, (.pointer (some ⟨b816, 0, none⟩)))]) (fun _ i3 => i3.1 :: slO i3.2.1 60 en_Vvitrineref20_Entry i3.2.2 :: blk b816 (.cells (List.toArray [(.int .u8 p0.AID), (.bool p0.Short), (.int .i64 p0.Cursor), (SV.val s0)]) 58 (0, 0)) :: R) ?_ ?_
    · refine c_block ?_
      refine c_add (slO SV.nil 60 en_Vvitrineref20_Entry []) (slO_nil _ _ _) ?_
      refine c_loop (l_sub (sc rfl (sc rfl (sc rfl (sc rfl (sc rfl sn))))) (l_keep (kc rm1 (kc rm0 (kc rm0 kr))) (lf (X := Int × (List Vvitrineref20_Entry)) (ι := HP × SV × (List (Vvitrineref20_Entry × SV))) (fun k x => vitrinelaw20_EntryWrites_l4 p0 k x) _ (fun x4 i4 => (RdN i4.1 s0 60 en_Vvitrineref20_Entry D_Vvitrineref20_Entry p0.Entries) ∧ (NL (D_Vvitrineref20_Entry i4.1) i4.2.2 x4.2) ∧ (Ext X i4.1)) (fun x4 i4 => [(17, (.int .i64 x4.1)), (16, (.int .i64 (p0.Entries.length : Int))), (15, (SV.val s0)), (3, (SV.val i4.2.1)), (1, (.pointer (some ⟨b816, 0, none⟩)))]) (fun x4 i4 => i4.1 :: slO i4.2.1 60 en_Vvitrineref20_Entry i4.2.2 :: blk b816 (.cells (List.toArray [(.int .u8 p0.AID), (.bool p0.Short), (.int .i64 p0.Cursor), (SV.val s0)]) 58 (0, 0)) :: R) (fun _ => rfl) ?_ fuel (0, ([] : List Vvitrineref20_Entry)) (i1, SV.nil, []) ⟨⟨_, (Rd.ext q0 f1_0), (NL.mono n_q0 (D_Vvitrineref20_Entry.ext f1_0))⟩, NL.nil, f1_0⟩ h)))
      clear h
      rintro k4 ih4 x4 i4 ⟨⟨L_f4_0, f4_0, n_f4_0⟩, f4_1, f4_2⟩ h
      rw [vitrinelaw20_EntryWrites_l4.eq_2] at h
      refine l_round ?_
      refine c_seq ?_
      refine c_region ?_
      refine o1 rfl (o_p (v := (.bool (decide (x4.1 < (p0.Entries.length : Int))))) rfl ?_)
      refine o_end ?_
      refine e_seq ?_
      refine c_seq ?_
      refine c_cond (b := (decide (x4.1 < (p0.Entries.length : Int)))) rfl (fun hb862 => ?_) (fun hb862 => ?_)
      · replace h := cond_t hb862 h
        refine c_skip ?_
        refine e_seq ?_
        refine c_seq ?_
        refine c_block ?_
        refine c_seq ?_
        refine c_region ?_
        refine o1 rfl (o_p rfl ?_)
        replace h := gsome h
        obtain ⟨hg863, h⟩ := h
        refine o1 rfl (o_ix (s := s0) (n := x4.1) (e := en_Vvitrineref20_Entry) rfl rfl rfl rfl rfl rfl rm0 f4_0 (NL.lt n_f4_0 hg863) ?_)
        obtain ⟨sv864, he_sv864, hd_sv864⟩ := NL.rd n_f4_0 hg863
        have hr865 : Rd i4.1 sv864 5 (enI .u8) ((rd p0.Entries x4.1).Text) := hd_sv864
        refine o1 rfl (o_ldE (s := s0) (e := en_Vvitrineref20_Entry) (n := x4.1) (f := 0) (v := (.agg (List.toArray [(.int .i64 ((rd p0.Entries x4.1).Addr)), (SV.val sv864)]))) rfl rm0 f4_0 (NL.lt n_f4_0 hg863) rfl (by rw [he_sv864]; rfl) ?_)
        refine o1 rfl (o_alloc (cs := [(.int .i64 0), (SV.val SV.nil)]) rfl rfl (fun b866 => ?_))
        refine o1 rfl (o_p rfl ?_)
        refine o0 (o_st (b := b866) (off := 0) (vs := [(.int .i64 ((rd p0.Entries x4.1).Addr)), (SV.val sv864)]) (cs' := [(.int .i64 ((rd p0.Entries x4.1).Addr)), (SV.val sv864)]) rfl rfl rp0 rfl rfl rfl rfl rfl rfl ?_)
        refine o_end ?_
        refine e_seq ?_
        refine c_seq ?_
        refine c_region ?_
        refine o1 rfl (o_p rfl ?_)
        refine o1 rfl (o_p (v := (.bool (decide (x4.1 < 6)))) rfl ?_)
        refine o_end ?_
        refine e_seq ?_
        replace h := bsome h
        obtain ⟨d7, h, hk7⟩ := h
        refine cj (D := Unit) (ι := HP × SV × (List (Vvitrineref20_Entry × SV))) (fun _ i7 => (NL (D_Vvitrineref20_Entry i7.1) i7.2.2 d7) ∧ (RdN i7.1 s0 60 en_Vvitrineref20_Entry D_Vvitrineref20_Entry p0.Entries) ∧ (Ext X i7.1)) (fun _ i7 => [(3, (SV.val i7.2.1)), (17, (.int .i64 x4.1)), (16, (.int .i64 (p0.Entries.length : Int))), (15, (SV.val s0)), (1, (.pointer (some ⟨b816, 0, none⟩)))]) (fun _ i7 => i7.1 :: slO i7.2.1 60 en_Vvitrineref20_Entry i7.2.2 :: blk b816 (.cells (List.toArray [(.int .u8 p0.AID), (.bool p0.Short), (.int .i64 p0.Cursor), (SV.val s0)]) 58 (0, 0)) :: R) ?_ ?_
        · refine c_cond (b := (decide (x4.1 < 6))) rfl (fun hb868 => ?_) (fun hb868 => ?_)
          · replace h := cond_t hb868 h
            refine c_draw (n := 4) (q := [(0, 24, (SV.val i4.2.1)), (1, 25, (.pointer (some ⟨b866, 0, none⟩))), (2, 26, (.int .i64 ((rd p0.Entries x4.1).Addr))), (3, 27, (.pointer (some ⟨b866, 1, none⟩))), (4, 28, (SV.val sv864))]) (pend := [0, 1, 2, 3, 4]) rfl rfl rfl ?_
            replace h := bsome h
            obtain ⟨d9, h9, h⟩ := h
            refine ⟨⟨fun _ => ⟨rfl, rfl, rfl, .inl ⟨rfl, (o_p rfl ⟨rfl, rfl⟩)⟩⟩, fun _ => ⟨rfl, rfl, rfl, .inl ⟨rfl, (o_fa (fd := ⟨ "Addr", 3, 0, false, "", "", 0⟩) rfl rfl rfl rfl rfl ⟨rfl, rfl⟩)⟩⟩, fun _ => ⟨rfl, rfl, rfl, .inl ⟨rfl, (o_ld (b := b866) (off := 0) (v := (.int .i64 ((rd p0.Entries x4.1).Addr))) rfl rm0 rfl rfl ⟨rfl, rfl⟩)⟩⟩, fun _ => ⟨rfl, rfl, rfl, .inl ⟨rfl, (o_fa (fd := ⟨ "Text", 31, 1, false, "", "", 8⟩) rfl rfl rfl rfl rfl ⟨rfl, rfl⟩)⟩⟩, fun _ => ⟨rfl, rfl, rfl, .inl ⟨rfl, (o_ld (b := b866) (off := 1) (v := (SV.val sv864)) rfl rm0 rfl rfl ⟨rfl, rfl⟩)⟩⟩, trivial⟩, rfl, .inr ⟨[5], rfl, rfl, ⟨rfl, .inl rfl, ?_⟩, trivial⟩⟩
            refine opw_z (o_call has24 rfl (c_vitrineref01_Cut i4.1 ((rd p0.Entries x4.1).Text) sv864 hr865 30 _ h9) (pc rm1 pn) (fun i9 => ?_))
            refine kz_fz rm1 rm0 (fun X871 hx872 hs873 => ?_)
            refine kz_done ?_
            refine ⟨[(6, 30, (.agg (List.toArray [(.int .i64 ((rd p0.Entries x4.1).Addr)), (SV.val i9)])))], [0, 1, 2, 6], rfl, rfl, rfl, rfl, ?_⟩
            refine ⟨⟨fun _ => ⟨rfl, rfl, rfl, .inl ⟨rfl, (o_build (fs := [⟨ "Addr", 3, 0, false, "", "", 0⟩, ⟨ "Text", 31, 1, false, "", "", 8⟩]) (ps := [(0, 1), (1, 1)]) (cs := [(.int .i64 ((rd p0.Entries x4.1).Addr)), (SV.val i9)]) rfl rfl rfl rfl rfl ⟨rfl, rfl⟩)⟩⟩, fun _ => ⟨rfl, rfl, rfl, .inl ⟨rfl, (o_p rfl ⟨rfl, rfl⟩)⟩⟩, fun _ => ⟨rfl, rfl, rfl, .inl ⟨rfl, (o_fa (fd := ⟨ "Addr", 3, 0, false, "", "", 0⟩) rfl rfl rfl rfl rfl ⟨rfl, rfl⟩)⟩⟩, fun _ => ⟨rfl, rfl, rfl, .inl ⟨rfl, (o_ld (b := b866) (off := 0) (v := (.int .i64 ((rd p0.Entries x4.1).Addr))) rfl rm1 rfl rfl ⟨rfl, rfl⟩)⟩⟩, (fun h => nomatch h), (fun h => nomatch h), trivial⟩, rfl, .inr ⟨[7], rfl, rfl, ⟨rfl, .inl rfl, ?_⟩, trivial⟩⟩
            refine (o_bs (e := en_Vvitrineref20_Entry) (l := [((⟨(rd p0.Entries x4.1).Addr, d9⟩ : Vvitrineref20_Entry), i9)]) (zs := [(.int .i64 0), (SV.val SV.nil)]) rfl rfl rfl rfl rfl rfl rfl rfl rfl rfl (fun s874 => ?_))
            refine ⟨[], [0], rfl, rfl, rfl, rfl, ?_⟩
            replace h := gsome h
            obtain ⟨hg876, h⟩ := h
            refine ⟨⟨(fun h => nomatch h), fun _ => ⟨rfl, rfl, rfl, .inl ⟨rfl, (o_p rfl ⟨rfl, rfl⟩)⟩⟩, (fun h => nomatch h), (fun h => nomatch h), (fun h => nomatch h), (fun h => nomatch h), trivial⟩, rfl, .inr ⟨[8], rfl, rfl, ⟨rfl, .inl rfl, ?_⟩, trivial⟩⟩
            refine (o_app (s := i4.2.1) (r := s874) (e := en_Vvitrineref20_Entry) (l := i4.2.2) (l2 := [((⟨(rd p0.Entries x4.1).Addr, d9⟩ : Vvitrineref20_Entry), i9)]) (zs := [(.int .i64 0), (SV.val SV.nil)]) rfl rfl rfl rfl rfl rfl rfl rfl rfl rfl rfl rm3 rm0 (rd_own _ _ _ _) (len2 (D := D_Vvitrineref20_Entry X871) (D' := D_Vvitrineref20_Entry X871) (NL.mono f4_1 (D_Vvitrineref20_Entry.ext hx872)) (NL.cons (D := D_Vvitrineref20_Entry X871) (x := (⟨(rd p0.Entries x4.1).Addr, d9⟩ : Vvitrineref20_Entry)) (s := i9) hs873 NL.nil) hg876) (fun s877 => ?_))
            refine ⟨[], [], rfl, rfl, rfl, rfl, ?_⟩
            refine ⟨⟨(fun h => nomatch h), (fun h => nomatch h), (fun h => nomatch h), (fun h => nomatch h), (fun h => nomatch h), (fun h => nomatch h), trivial⟩, rfl, .inr ⟨[9], rfl, rfl, ⟨rfl, .inl rfl, ?_⟩, trivial⟩⟩
            refine (o_p rfl ?_)
            refine ⟨[], [], rfl, rfl, rfl, rfl, ?_⟩
            refine ⟨⟨(fun h => nomatch h), (fun h => nomatch h), (fun h => nomatch h), (fun h => nomatch h), (fun h => nomatch h), (fun h => nomatch h), trivial⟩, rfl, rfl, rfl, ?_⟩
            have hd := Option.some.inj h
            subst hd
            exact ej () (X871, s877, (i4.2.2 ++ [((⟨(rd p0.Entries x4.1).Addr, d9⟩ : Vvitrineref20_Entry), i9)])) ⟨(NL.app (NL.mono f4_1 (D_Vvitrineref20_Entry.ext hx872)) (NL.cons (D := D_Vvitrineref20_Entry X871) (x := (⟨(rd p0.Entries x4.1).Addr, d9⟩ : Vvitrineref20_Entry)) (s := i9) hs873 NL.nil)), ⟨_, (Rd.ext f4_0 hx872), (NL.mono n_f4_0 (D_Vvitrineref20_Entry.ext hx872))⟩, (Ext.trans f4_2 hx872)⟩ (sc rfl (sc rfl (sc rfl (sc rfl (sc rfl sn))))) (kc rm2 (kc rm0 (kc rm2 (kd (kd kr)))))
          · replace h := cond_f hb868 h
            refine c_skip ?_
            have hd := Option.some.inj h
            subst hd
            exact ej () (i4.1, i4.2.1, i4.2.2) ⟨f4_1, ⟨_, f4_0, n_f4_0⟩, f4_2⟩ (sc rfl (sc rfl (sc rfl (sc rfl (sc rfl sn))))) (kc rm1 (kc rm1 (kc rm1 (kd kr))))
        · rintro _ i7 ⟨f7_0, ⟨L_f7_1, f7_1, n_f7_1⟩, f7_2⟩
          replace h := hk7
          clear hk7
          refine e_blk ?_
          refine e_seq ?_
          refine c_region ?_
          refine o1 rfl (o_p (v := (.int .i64 (w64 (x4.1 + 1)))) rfl ?_)
          refine o1 rfl (o_p rfl ?_)
          refine o_end ?_
          exact e_loop (l_sub (sc rfl (sc rfl (sc rfl (sc rfl (sc rfl sn))))) (l_keep (kc rm0 (kc rm0 (kc rm0 kr))) (ih4 (w64 (x4.1 + 1), d7) (i7.1, i7.2.1, i7.2.2) ⟨⟨_, f7_1, n_f7_1⟩, f7_0, f7_2⟩ h)))
      · replace h := cond_f hb862 h
        refine c_exit ?_
        refine e_then_exit ?_
        refine e_then_exit ?_
        refine e_blk_exit ?_
        have hd := Option.some.inj h
        subst hd
        exact ej () (i4.1, i4.2.1, i4.2.2) ⟨f4_1, ⟨_, f4_0, n_f4_0⟩, f4_2⟩ (sc rfl (sc rfl sn)) (kc rm0 (kc rm0 (kc rm0 kr)))
    · rintro _ i3 ⟨f3_0, ⟨L_f3_1, f3_1, n_f3_1⟩, f3_2⟩
      replace h := hk3
      clear hk3
      refine e_seq ?_
      refine c_seq ?_
      refine c_region ?_
      refine o1 rfl (o_p rfl ?_)
      refine o1 rfl (o_fa (fd := ⟨ "Entries", 56, 3, false, "", "", 16⟩) rfl rfl rfl rfl rfl ?_)
      refine o0 (o_st (b := b816) (off := 3) (vs := [(SV.val i3.2.1)]) (cs' := [(.int .u8 p0.AID), (.bool p0.Short), (.int .i64 p0.Cursor), (SV.val i3.2.1)]) rfl rfl rp2 rfl rfl rfl rfl rfl rfl ?_)
      refine o_end ?_
      refine e_seq ?_
      refine c_seq ?_
      refine c_region ?_
      refine o1 rfl (o_ld (b := b816) (off := 0) (v := (.agg (List.toArray [(.int .u8 p0.AID), (.bool p0.Short), (.int .i64 p0.Cursor), (SV.val i3.2.1)]))) rfl rm2 rfl rfl ?_)
      refine o_fz rm1 rm0 (fun X883 hx884 hs885 => ?_)
      replace h := bsome h
      obtain ⟨d10, h10, h⟩ := h
      refine o1 rfl (o_call has26 rfl (c_vitrinelaw20_own X883 { p0 with Entries := d3 } i3.2.1 ⟨_, hs885, (NL.mono f3_0 (D_Vvitrineref20_Entry.ext hx884))⟩ _ h10) (pc rm0 pn) (fun i10 f10_0 f10_1 => ?_))
      refine o_fz rm1 rm0 (fun X960 hx961 hs962 => ?_)
      replace h := bsome h
      obtain ⟨d11, h11, h⟩ := h
      refine o1 rfl (o_call has25 rfl (c_entry_Bytes X960 d10 i10.2.1 ⟨_, hs962, (NL.mono f10_0 (D_Ventry_Entry.ext hx961))⟩ _ h11) (pc rm0 pn) (fun i11 f11_0 => ?_))
      refine o1 rfl (o_p rfl ?_)
      refine o1 rfl (o_p rfl ?_)
      refine o1 rfl (o_p rfl ?_)
      refine o1 rfl (o_p rfl ?_)
      refine o1 rfl (o_p rfl ?_)
      refine o_end ?_
      refine e_seq ?_
      refine c_seq ?_
      refine c_region ?_
      refine o1 rfl (o_ld (b := b816) (off := 0) (v := (.agg (List.toArray [(.int .u8 p0.AID), (.bool p0.Short), (.int .i64 p0.Cursor), (SV.val i3.2.1)]))) rfl rm2 rfl rfl ?_)
      replace h := bsome h
      obtain ⟨d12, h12, h⟩ := h
      refine o1 rfl (o_call has27 rfl (c_vitrineref20_Bytes i11.1 { p0 with Entries := d3 } i3.2.1 ⟨_, (Rd.ext hs885 (Ext.trans (Ext.trans f10_1 hx961) f11_0)), (NL.mono f3_0 (D_Vvitrineref20_Entry.ext (Ext.trans (Ext.trans (Ext.trans hx884 f10_1) hx961) f11_0)))⟩ _ h12) (pc rm0 pn) (fun i12 => ?_))
      refine o1 rfl (o_p rfl ?_)
      refine o1 rfl (o_p rfl ?_)
      refine o1 rfl (o_p rfl ?_)
      refine o1 rfl (o_p rfl ?_)
      refine o1 rfl (o_p rfl ?_)
      refine o_end ?_
      refine e_seq ?_
      refine c_seq ?_
      refine c_seq ?_
      replace h := bsome h
      obtain ⟨d13, h, hk13⟩ := h
      refine cj (D := Unit) (ι := HP) (fun _ i13 => (Rd i13 i11.2 5 (enI .u8) d11.1) ∧ (RdN i13 i3.2.1 60 en_Vvitrineref20_Entry D_Vvitrineref20_Entry d3) ∧ (Ext X i13)) (fun _ i13 => [(55, (.bool d13)), (7, (.int .i64 d11.2)), (6, (SV.val i11.2)), (1, (.pointer (some ⟨b816, 0, none⟩)))]) (fun _ i13 => i13 :: blk b816 (.cells (List.toArray [(.int .u8 p0.AID), (.bool p0.Short), (.int .i64 p0.Cursor), (SV.val i3.2.1)]) 58 (0, 0)) :: R) ?_ ?_
      · refine c_region ?_
        refine o1 rfl (o_p rfl ?_)
        refine o1 rfl (o_p rfl ?_)
        refine o_fz rm2 rm0 (fun X1133 hx1134 hs1135 => ?_)
        refine o_fz rm1 rm0 (fun X1136 hx1137 hs1138 => ?_)
        replace h := bsome h
        obtain ⟨d14, h14, h⟩ := h
        refine o1 rfl (o_call has20 rfl (c_vitrineref01_Same X1136 d11.1 i11.2 (Rd.ext hs1135 hx1137) d12.1 i12 hs1138 _ h14) (pc rm0 pn) ?_)
        refine o1 rfl (o_p (v := (.bool (!d14))) rfl ?_)
        refine o1 rfl (o_p rfl ?_)
        rcases bool_or ((!d14)) with hb1139 | hb1139
        · replace h := cond_t hb1139 h
          refine on rfl rfl rfl hb1139 ?_
          refine on rfl rfl rfl hb1139 ?_
          refine on rfl rfl rfl hb1139 ?_
          refine o1 rfl (o_pick_t rfl hb1139 rfl ?_)
          refine o_end ?_
          have hd := Option.some.inj h
          subst hd
          exact ej () X1136 ⟨(Rd.ext hs1135 hx1137), ⟨_, (Rd.ext hs885 (Ext.trans (Ext.trans (Ext.trans (Ext.trans f10_1 hx961) f11_0) hx1134) hx1137)), (NL.mono f3_0 (D_Vvitrineref20_Entry.ext (Ext.trans (Ext.trans (Ext.trans (Ext.trans (Ext.trans hx884 f10_1) hx961) f11_0) hx1134) hx1137)))⟩, (Ext.trans (Ext.trans (Ext.trans (Ext.trans (Ext.trans (Ext.trans f3_2 hx884) f10_1) hx961) f11_0) hx1134) hx1137)⟩ (sc rfl (sc rfl (sc rfl (sc rfl sn)))) (kc rm0 (kc rm0 kr))
        · replace h := cond_f hb1139 h
          refine oy rfl rfl rfl hb1139 (o_p rfl ?_)
          refine oy rfl rfl rfl hb1139 (o_p rfl ?_)
          refine oy rfl rfl rfl hb1139 (o_p (v := (.bool (d11.2 != d12.2))) rfl ?_)
          refine o1 rfl (o_pick_f rfl hb1139 rfl ?_)
          refine o_end ?_
          have hd := Option.some.inj h
          subst hd
          exact ej () X1136 ⟨(Rd.ext hs1135 hx1137), ⟨_, (Rd.ext hs885 (Ext.trans (Ext.trans (Ext.trans (Ext.trans f10_1 hx961) f11_0) hx1134) hx1137)), (NL.mono f3_0 (D_Vvitrineref20_Entry.ext (Ext.trans (Ext.trans (Ext.trans (Ext.trans (Ext.trans hx884 f10_1) hx961) f11_0) hx1134) hx1137)))⟩, (Ext.trans (Ext.trans (Ext.trans (Ext.trans (Ext.trans (Ext.trans f3_2 hx884) f10_1) hx961) f11_0) hx1134) hx1137)⟩ (sc rfl (sc rfl (sc rfl (sc rfl sn)))) (kc rm0 (kc rm0 kr))
      · rintro _ i13 ⟨f13_0, ⟨L_f13_1, f13_1, n_f13_1⟩, f13_2⟩
        replace h := hk13
        clear hk13
        refine e_seq ?_
        refine c_cond (b := d13) rfl (fun hb1140 => ?_) (fun hb1140 => ?_)
        · replace h := cond_t hb1140 h
          refine c_seq ?_
          refine c_region ?_
          refine o1 rfl (o_p rfl ?_)
          refine o_end ?_
          refine e_seq ?_
          refine c_ret ?_
          refine e_then_ret ?_
          refine e_ret ?_
          refine r_endt rfl rfl (kc rm0 (kd kr)) ?_
          have hr := Option.some.inj h
          subst hr
          exact hk i13 f13_2
        · replace h := cond_f hb1140 h
          refine c_skip ?_
          refine e_seq ?_
          refine c_seq ?_
          refine c_seq ?_
          refine c_region ?_
          refine o1 rfl (o_p rfl ?_)
          refine o1 rfl (o_p (v := (.bool (d11.2 != 0))) rfl ?_)
          refine o_end ?_
          refine e_seq ?_
          refine c_cond (b := (d11.2 != 0)) rfl (fun hb1141 => ?_) (fun hb1141 => ?_)
          · replace h := cond_t hb1141 h
            refine c_seq ?_
            refine c_region ?_
            refine o1 rfl (o_p rfl ?_)
            refine o_end ?_
            refine e_seq ?_
            refine c_ret ?_
            refine e_then_ret ?_
            refine e_ret ?_
            refine r_endt rfl rfl (kc rm0 (kd kr)) ?_
            have hr := Option.some.inj h
            subst hr
            exact hk i13 f13_2
          · replace h := cond_f hb1141 h
            refine c_skip ?_
            refine e_seq ?_
            refine c_seq ?_
            refine c_region ?_
            refine o1 rfl (o_p rfl ?_)
            replace h := bsome h
            obtain ⟨d17, h17, h⟩ := h
            refine o1 rfl (o_call has28 rfl (c_entry_Parse i13 d11.1 i11.2 f13_0 _ h17) (pc rm0 pn) (fun i17 f17_0 f17_1 => ?_))
            refine o1 rfl (o_p rfl ?_)
            refine o1 rfl (o_p rfl ?_)
            refine o1 rfl (o_p rfl ?_)
            refine o1 rfl (o_alloc (cs := [(.int .u8 0), (.bool false), (.int .i64 0), (SV.val SV.nil)]) rfl rfl (fun b1143 => ?_))
            refine o0 (o_st (b := b1143) (off := 0) (vs := [(.int .u8 d17.1.AID), (.bool d17.1.Short), (.int .i64 d17.1.Cursor), (SV.val i17.2.1)]) (cs' := [(.int .u8 d17.1.AID), (.bool d17.1.Short), (.int .i64 d17.1.Cursor), (SV.val i17.2.1)]) rfl rfl rp0 rfl rfl rfl rfl rfl rfl ?_)
            refine o1 rfl (o_p rfl ?_)
            refine o_end ?_
            refine e_seq ?_
            refine c_seq ?_
            refine c_seq ?_
            refine c_region ?_
            refine o1 rfl (o_fa (fd := ⟨ "Short", 4, 1, false, "", "", 1⟩) rfl rfl rfl rfl rfl ?_)
            refine o1 rfl (o_ld (b := b816) (off := 1) (v := (.bool p0.Short)) rfl rm3 rfl rfl ?_)
            refine o_end ?_
            refine e_seq ?_
            replace h := bsome h
            obtain ⟨d18, h, hk18⟩ := h
            refine cj (D := Unit) (ι := SV) (fun _ i18 => RdN i17.1 i18 60 en_Vvitrineref20_Entry D_Vvitrineref20_Entry d18.2) (fun _ i18 => [(11, (.int .i64 d17.2)), (10, (.pointer (some ⟨b1143, 0, none⟩))), (1, (.pointer (some ⟨b816, 0, none⟩)))]) (fun _ i18 => i17.1 :: blk b1143 (.cells (List.toArray [(.int .u8 d17.1.AID), (.bool d17.1.Short), (.int .i64 d17.1.Cursor), (SV.val i17.2.1)]) 65 (0, 0)) :: blk b816 (.cells (List.toArray [(.int .u8 p0.AID), (.bool p0.Short), (.int .i64 d18.1), (SV.val i18)]) 58 (0, 0)) :: slE 5 (enI .u8) (fun y : Ventry_Entry => y.Text) i17.2.1 109 en_Ventry_Entry i17.2.2 :: R) ?_ ?_
            · refine c_cond (b := p0.Short) rfl (fun hb1145 => ?_) (fun hb1145 => ?_)
              · replace h := cond_t hb1145 h
                refine c_region ?_
                refine o1 rfl (o_fa (fd := ⟨ "Cursor", 3, 2, false, "", "", 8⟩) rfl rfl rfl rfl rfl ?_)
                refine o0 (o_st (b := b816) (off := 2) (vs := [(.int .i64 0)]) (cs' := [(.int .u8 p0.AID), (.bool p0.Short), (.int .i64 0), (SV.val i3.2.1)]) rfl rfl rp3 rfl rfl rfl rfl rfl rfl ?_)
                refine o1 rfl (o_fa (fd := ⟨ "Entries", 56, 3, false, "", "", 16⟩) rfl rfl rfl rfl rfl ?_)
                refine o0 (o_st (b := b816) (off := 3) (vs := [(SV.val SV.nil)]) (cs' := [(.int .u8 p0.AID), (.bool p0.Short), (.int .i64 0), (SV.val SV.nil)]) rfl rfl rp3 rfl rfl rfl rfl rfl rfl ?_)
                refine o_end ?_
                have hd := Option.some.inj h
                subst hd
                exact ej () SV.nil (rdn_nil _ _ _ _) (sc rfl (sc rfl (sc rfl sn))) (kc rm1 (kc rm0 (kc rm1 (kc rm0 kr))))
              · replace h := cond_f hb1145 h
                refine c_skip ?_
                have hd := Option.some.inj h
                subst hd
                exact ej () i3.2.1 ⟨_, (Rd.ext f13_1 f17_1), (NL.mono n_f13_1 (D_Vvitrineref20_Entry.ext f17_1))⟩ (sc rfl (sc rfl (sc rfl sn))) (kc rm1 (kc rm0 (kc rm1 (kc rm0 kr))))
            · rintro _ i18 ⟨L_f18_0, f18_0, n_f18_0⟩
              replace h := hk18
              clear hk18
              refine e_seq ?_
              refine c_seq ?_
              replace h := bsome h
              obtain ⟨d19, h, hk19⟩ := h
              refine cj (D := Unit) (ι := HP) (fun _ i19 => Ext X i19) (fun _ i19 => [(2, (.bool d19))]) (fun _ i19 => i19 :: R) ?_ ?_
              · refine c_fzE rm3 rm0 (fun X1147 hx1148 hs1149 hs1149t => ?_)
                rcases bool_or ((d17.2 == 0)) with hb1150 | hb1150
                · replace h := cond_t hb1150 h
                  refine c_draw (n := 2) (q := [(3, 70, (.agg (List.toArray [(.int .u8 d17.1.AID), (.bool d17.1.Short), (.int .i64 d17.1.Cursor), (SV.val i17.2.1)]))), (5, 72, (.agg (List.toArray [(.int .u8 p0.AID), (.bool p0.Short), (.int .i64 d18.1), (SV.val i18)]))), (0, 67, (.int .i64 d17.2)), (1, 68, (.bool (d17.2 == 0))), (2, 69, (.bool (d17.2 == 0)))]) (pend := [0, 1, 2, 3, 5]) rfl rfl rfl ?_
                  replace h := bsome h
                  obtain ⟨d20, h20, h⟩ := h
                  refine ⟨⟨fun _ => ⟨rfl, rfl, rfl, .inr ⟨_, _, _, _, rfl, rfl, rfl, .inl ⟨hb1150, (o_ld (b := b1143) (off := 0) (v := (.agg (List.toArray [(.int .u8 d17.1.AID), (.bool d17.1.Short), (.int .i64 d17.1.Cursor), (SV.val i17.2.1)]))) rfl rm1 rfl rfl ⟨rfl, rfl⟩)⟩⟩⟩, fun _ => ⟨rfl, rfl, rfl, .inr ⟨_, _, _, _, rfl, rfl, rfl, .inl ⟨hb1150, (o_ld (b := b816) (off := 0) (v := (.agg (List.toArray [(.int .u8 p0.AID), (.bool p0.Short), (.int .i64 d18.1), (SV.val i18)]))) rfl rm2 rfl rfl ⟨rfl, rfl⟩)⟩⟩⟩, fun _ => ⟨rfl, rfl, rfl, .inl ⟨rfl, (o_p rfl ⟨rfl, rfl⟩)⟩⟩, fun _ => ⟨rfl, rfl, rfl, .inl ⟨rfl, (o_p (v := (.bool (d17.2 == 0))) rfl ⟨rfl, rfl⟩)⟩⟩, fun _ => ⟨rfl, rfl, rfl, .inl ⟨rfl, (o_p rfl ⟨rfl, rfl⟩)⟩⟩, trivial⟩, rfl, .inr ⟨[4], rfl, rfl, ⟨rfl, .inr ⟨_, _, _, _, rfl, rfl, rfl, hb1150⟩, ?_⟩, trivial⟩⟩
                  refine (o_call has30 rfl (c_vitrinelaw20_back X1147 d17.1 i17.2.1 ⟨_, hs1149, (NL.ofE (D := D_Ventry_Entry X1147) f17_0 hs1149t)⟩ _ h20) (pc rm0 pn) (fun i20 f20_0 => ?_))
                  refine ⟨[], [5], rfl, rfl, rfl, rfl, ?_⟩
                  replace h := bsome h
                  obtain ⟨d21, h21, h⟩ := h
                  refine ⟨⟨(fun h => nomatch h), fun _ => ⟨rfl, rfl, rfl, .inr ⟨_, _, _, _, rfl, rfl, rfl, .inl ⟨hb1150, (o_ld (b := b816) (off := 0) (v := (.agg (List.toArray [(.int .u8 p0.AID), (.bool p0.Short), (.int .i64 d18.1), (SV.val i18)]))) rfl rm3 rfl rfl ⟨rfl, rfl⟩)⟩⟩⟩, (fun h => nomatch h), (fun h => nomatch h), (fun h => nomatch h), trivial⟩, rfl, .inr ⟨[6], rfl, rfl, ⟨rfl, .inr ⟨_, _, _, _, rfl, rfl, rfl, hb1150⟩, ?_⟩, trivial⟩⟩
                  refine (o_call has29 rfl (c_vitrineref20_Same_2 X1147 (⟨d20.AID, d20.Short, d20.Cursor, d20.Entries⟩ : Vvitrineref20_Report) i20.1 i20.2 f20_0 { p0 with Cursor := d18.1, Entries := d18.2 } i18 ⟨_, (Rd.ext f18_0 hx1148), (NL.mono n_f18_0 (D_Vvitrineref20_Entry.ext hx1148))⟩ _ h21) (pc rm0 (pc rm0 pn)) ?_)
                  refine ⟨[(7, 74, (.bool d21)), (8, 2, (.bool d21))], [7, 8], rfl, rfl, rfl, rfl, ?_⟩
                  refine ⟨⟨fun _ => ⟨rfl, rfl, rfl, .inl ⟨rfl, (o_pick_t rfl hb1150 rfl ⟨rfl, rfl⟩)⟩⟩, fun _ => ⟨rfl, rfl, rfl, .inl ⟨rfl, (o_p rfl ⟨rfl, rfl⟩)⟩⟩, (fun h => nomatch h), (fun h => nomatch h), (fun h => nomatch h), (fun h => nomatch h), (fun h => nomatch h), trivial⟩, rfl, rfl, rfl, ?_⟩
                  have hd := Option.some.inj h
                  subst hd
                  exact ej () X1147 (Ext.trans (Ext.trans f13_2 f17_1) hx1148) (sc rfl sn) (kc rm0 (kd (kd kr)))
                · replace h := cond_f hb1150 h
                  refine c_draw (n := 2) (q := [(3, 70, undef), (4, 71, undef), (5, 72, undef), (6, 73, undef), (7, 74, (.bool false)), (8, 2, (.bool false)), (0, 67, (.int .i64 d17.2)), (1, 68, (.bool (d17.2 == 0))), (2, 69, (.bool (d17.2 == 0)))]) (pend := [0, 1, 2, 3, 4, 5, 6, 7, 8]) rfl rfl rfl ?_
                  refine ⟨⟨fun _ => ⟨rfl, rfl, rfl, .inr ⟨_, _, _, _, rfl, rfl, rfl, .inr ⟨hb1150, rfl⟩⟩⟩, fun _ => ⟨rfl, rfl, rfl, .inr ⟨_, _, _, _, rfl, rfl, rfl, .inr ⟨hb1150, rfl⟩⟩⟩, fun _ => ⟨rfl, rfl, rfl, .inr ⟨_, _, _, _, rfl, rfl, rfl, .inr ⟨hb1150, rfl⟩⟩⟩, fun _ => ⟨rfl, rfl, rfl, .inr ⟨_, _, _, _, rfl, rfl, rfl, .inr ⟨hb1150, rfl⟩⟩⟩, fun _ => ⟨rfl, rfl, rfl, .inl ⟨rfl, (o_pick_f rfl hb1150 rfl ⟨rfl, rfl⟩)⟩⟩, fun _ => ⟨rfl, rfl, rfl, .inl ⟨rfl, (o_p rfl ⟨rfl, rfl⟩)⟩⟩, fun _ => ⟨rfl, rfl, rfl, .inl ⟨rfl, (o_p rfl ⟨rfl, rfl⟩)⟩⟩, fun _ => ⟨rfl, rfl, rfl, .inl ⟨rfl, (o_p (v := (.bool (d17.2 == 0))) rfl ⟨rfl, rfl⟩)⟩⟩, fun _ => ⟨rfl, rfl, rfl, .inl ⟨rfl, (o_p rfl ⟨rfl, rfl⟩)⟩⟩, trivial⟩, rfl, .inl ⟨rfl, rfl, ?_⟩⟩
                  have hd := Option.some.inj h
                  subst hd
                  exact ej () X1147 (Ext.trans (Ext.trans f13_2 f17_1) hx1148) (sc rfl sn) (kc rm0 (kd (kd kr)))
              · rintro _ i19 f19_0
                replace h := hk19
                clear hk19
                refine e_seq ?_
                refine c_ret ?_
                refine e_ret ?_
                refine r_endt rfl rfl (kc rm0 kr) ?_
                have hr := Option.some.inj h
                subst hr
                exact hk i19 f19_0

end Go.Vt
