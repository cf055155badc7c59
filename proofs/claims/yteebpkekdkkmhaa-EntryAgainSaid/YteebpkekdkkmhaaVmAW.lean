/- The walks: each function does what its model says. No conditions. -/
import Derived.Test.YteebpkekdkkmhaaVmAWa
set_option linter.unusedVariables false
set_option maxRecDepth 100000
set_option maxHeartbeats 4000000
namespace Go.Vt
open Go.Proofs
theorem has95 : HasBody env.P 95 := ⟨_, Try.func95, rfl, rfl⟩
theorem c_order_Op_Bytes {g : Gw} (X : HP) (p0 : Vorder_Op) (s0 : SV) (q0 : Rd X s0 196 en_Vattr_Pair p0.Pairs) (s1 : SV) (q1 : Rd X s1 5 (enI .u8) p0.Text) (r : (List Int) × Int) (h : m_order_Op_Bytes p0 = some r) : Tri env g 95 (List.toArray [(.agg (List.toArray [(.int .i64 p0.Kind), (.int .i64 p0.Addr), (.int .u8 p0.Code), (.bool p0.Graph), (.int .u8 p0.FA), (SV.val s0), (SV.val s1)]))]) [X] (fun K R => ∀ (i0 : SV), K (.tuple (List.toArray [(SV.val i0), (.int .i64 r.2)])) (X :: slO i0 5 (enI .u8) r.1 :: R)) := by
  refine tri_of (fn := Try.f95) (N := 118) Try.func95 rfl rfl rfl ?_
  intro R K hk
  unfold m_order_Op_Bytes at h
  change GC _ none _ [] [(0, (.agg (List.toArray [(.int .i64 p0.Kind), (.int .i64 p0.Addr), (.int .u8 p0.Code), (.bool p0.Graph), (.int .u8 p0.FA), (SV.val s0), (SV.val s1)])))] (X :: R) g _ _
  refine c_seq ?_
  refine c_region ?_
  refine o1 rfl (o_box (cs := [(.int .i64 p0.Kind), (.int .i64 p0.Addr), (.int .u8 p0.Code), (.bool p0.Graph), (.int .u8 p0.FA), (SV.val s0), (SV.val s1)]) rfl rfl (fun b471 => ?_))
  refine o1 rfl (o_p rfl ?_)
  refine o1 rfl (o_p rfl ?_)
  refine o_end ?_
  refine e_seq ?_
  refine c_seq ?_
  refine c_region ?_
  refine o1 rfl (o_fa (fd := ⟨ "Kind", 3, 0, false, "", "", 0⟩) rfl rfl rfl rfl rfl ?_)
  refine o1 rfl (o_ld (b := b471) (off := 0) (v := (.int .i64 p0.Kind)) rfl rm0 rfl rfl ?_)
  refine o1 rfl (o_p (v := (.int .u8 (IntKind.wrap .u8 (p0.Kind)))) rfl ?_)
  refine o1 rfl (o_p rfl ?_)
  refine o_end ?_
  refine e_seq ?_
  refine c_seq ?_
  refine c_seq ?_
  refine c_region ?_
  refine o1 rfl (o_fa (fd := ⟨ "Kind", 3, 0, false, "", "", 0⟩) rfl rfl rfl rfl rfl ?_)
  refine o1 rfl (o_ld (b := b471) (off := 0) (v := (.int .i64 p0.Kind)) rfl rm0 rfl rfl ?_)
  refine o_end ?_
  refine e_seq ?_
  refine c_block ?_
  refine c_seq ?_
  refine c_region ?_
  refine o1 rfl (o_p (v := (.bool (p0.Kind == 0))) rfl ?_)
  refine o1 rfl (o_p rfl ?_)
  refine o_end ?_
  refine e_seq ?_
  refine c_cond (b := (p0.Kind == 0)) rfl (fun hb473 => ?_) (fun hb473 => ?_)
  · replace h := cond_t hb473 h
    refine c_seq ?_
    refine c_seq ?_
    replace h := bsome h
    obtain ⟨d3, h, hk3⟩ := h
    refine cj (D := Unit) (ι := Unit) (fun _ i3 => True) (fun _ i3 => [(22, (.bool d3)), (1, (.pointer (some ⟨b471, 0, none⟩)))]) (fun _ i3 => X :: blk b471 (.cells (List.toArray [(.int .i64 p0.Kind), (.int .i64 p0.Addr), (.int .u8 p0.Code), (.bool p0.Graph), (.int .u8 p0.FA), (SV.val s0), (SV.val s1)]) 115 (0, 0)) :: R) ?_ ?_
    · refine c_region ?_
      refine o1 rfl (o_fa (fd := ⟨ "Text", 31, 6, false, "", "", 48⟩) rfl rfl rfl rfl rfl ?_)
      refine o1 rfl (o_ld (b := b471) (off := 6) (v := (SV.val s1)) rfl rm0 rfl rfl ?_)
      refine o1 rfl (o_len (s := s1) rfl rfl rfl rm1 q1 ?_)
      refine o1 rfl (o_p (v := (.bool ((p0.Text.length : Int) == 0))) rfl ?_)
      refine o1 rfl (o_p rfl ?_)
      rcases bool_or (((p0.Text.length : Int) == 0)) with hb474 | hb474
      · replace h := cond_t hb474 h
        refine on rfl rfl rfl hb474 ?_
        refine on rfl rfl rfl hb474 ?_
        refine on rfl rfl rfl hb474 ?_
        refine o1 rfl (o_pick_t rfl hb474 rfl ?_)
        refine o_end ?_
        have hd := Option.some.inj h
        subst hd
        exact ej () () trivial (sc rfl (sc rfl sn)) (kc rm1 (kc rm0 kr))
      · replace h := cond_f hb474 h
        refine oy rfl rfl rfl hb474 (o_fa (fd := ⟨ "Text", 31, 6, false, "", "", 48⟩) rfl rfl rfl rfl rfl ?_)
        refine oy rfl rfl rfl hb474 (o_ld (b := b471) (off := 6) (v := (SV.val s1)) rfl rm0 rfl rfl ?_)
        replace h := bsome h
        obtain ⟨d4, h4, h⟩ := h
        refine oy rfl rfl rfl hb474 (o_call has116 rfl (c_slices_ContainsFunc X p0.Text s1 q1 _ h4) (pc rm1 pn) ?_)
        refine o1 rfl (o_pick_f rfl hb474 rfl ?_)
        refine o_end ?_
        have hd := Option.some.inj h
        subst hd
        exact ej () () trivial (sc rfl (sc rfl sn)) (kc rm0 (kc rm0 kr))
    · rintro _ i3 _
      replace h := hk3
      clear hk3
      refine e_seq ?_
      refine c_cond (b := d3) rfl (fun hb484 => ?_) (fun hb484 => ?_)
      · replace h := cond_t hb484 h
        refine c_seq ?_
        refine c_region ?_
        refine o1 rfl (o_p rfl ?_)
        refine o1 rfl (o_p rfl ?_)
        refine o_end ?_
        refine e_seq ?_
        refine c_ret ?_
        refine e_then_ret ?_
        refine e_blk_ret ?_
        refine e_then_ret ?_
        refine e_ret ?_
        refine r_add (slO SV.nil 5 (enI .u8) []) (slO_nil _ _ _) ?_
        refine r_endt rfl rfl (kc rm1 (kc rm0 (kd kr))) ?_
        have hr := Option.some.inj h
        subst hr
        exact hk SV.nil
      · replace h := cond_f hb484 h
        refine c_skip ?_
        refine e_seq ?_
        refine c_seq ?_
        refine c_region ?_
        refine o1 rfl (o_fa (fd := ⟨ "Text", 31, 6, false, "", "", 48⟩) rfl rfl rfl rfl rfl ?_)
        refine o1 rfl (o_ld (b := b471) (off := 6) (v := (SV.val s1)) rfl rm1 rfl rfl ?_)
        replace h := bsome h
        obtain ⟨d6, h6, h⟩ := h
        refine o1 rfl (o_call has117 rfl (c_bytes_Clone X p0.Text s1 q1 _ h6) (pc rm0 pn) (fun i6 => ?_))
        refine o1 rfl (o_p rfl ?_)
        refine o1 rfl (o_p rfl ?_)
        refine o_end ?_
        refine e_seq ?_
        refine c_ret ?_
        refine e_blk_ret ?_
        refine e_then_ret ?_
        refine e_ret ?_
        refine r_endt rfl rfl (kc rm0 (kc rm0 (kd kr))) ?_
        have hr := Option.some.inj h
        subst hr
        exact hk i6
  · replace h := cond_f hb473 h
    refine c_seq ?_
    refine c_seq ?_
    refine c_region ?_
    refine o1 rfl (o_p (v := (.bool (p0.Kind == 19))) rfl ?_)
    refine o1 rfl (o_p rfl ?_)
    refine o_end ?_
    refine e_seq ?_
    replace h := bsome h
    obtain ⟨d7, h, hk7⟩ := h
    refine cj (D := Unit) (ι := Unit) (fun _ i7 => True) (fun _ i7 => [(26, (.bool d7)), (11, (.int .i64 p0.Kind)), (4, (.int .u8 (IntKind.wrap .u8 (p0.Kind)))), (1, (.pointer (some ⟨b471, 0, none⟩)))]) (fun _ i7 => X :: blk b471 (.cells (List.toArray [(.int .i64 p0.Kind), (.int .i64 p0.Addr), (.int .u8 p0.Code), (.bool p0.Graph), (.int .u8 p0.FA), (SV.val s0), (SV.val s1)]) 115 (0, 0)) :: R) ?_ ?_
    · refine c_cond (b := (p0.Kind == 19)) rfl (fun hb486 => ?_) (fun hb486 => ?_)
      · replace h := cond_t hb486 h
        refine c_skip ?_
        have hd := Option.some.inj h
        subst hd
        exact ej () () trivial (sc rfl (sc rfl (sc rfl (sc rfl sn)))) (kc rm1 (kc rm0 kr))
      · replace h := cond_f hb486 h
        refine c_region ?_
        refine o1 rfl (o_p (v := (.bool (p0.Kind == 5))) rfl ?_)
        refine o1 rfl (o_p rfl ?_)
        refine o_end ?_
        have hd := Option.some.inj h
        subst hd
        exact ej () () trivial (sc rfl (sc rfl (sc rfl (sc rfl sn)))) (kc rm1 (kc rm0 kr))
    · rintro _ i7 _
      replace h := hk7
      clear hk7
      refine e_seq ?_
      refine c_cond (b := d7) rfl (fun hb487 => ?_) (fun hb487 => ?_)
      · replace h := cond_t hb487 h
        refine c_seq ?_
        refine c_region ?_
        refine o1 rfl (o_p rfl ?_)
        refine o1 rfl (o_bs (e := (enI .u8)) (l := [IntKind.wrap .u8 (p0.Kind)]) (zs := [(.int .u8 0)]) rfl rfl rfl rfl rfl rfl rfl rfl rfl rfl (fun s488 => ?_))
        refine o1 rfl (o_p rfl ?_)
        refine o1 rfl (o_p rfl ?_)
        refine o_end ?_
        refine e_seq ?_
        refine c_ret ?_
        refine e_blk_ret ?_
        refine e_then_ret ?_
        refine e_ret ?_
        refine r_endt rfl rfl (kc rm1 (kc rm0 (kd kr))) ?_
        have hr := Option.some.inj h
        subst hr
        exact hk s488
      · replace h := cond_f hb487 h
        refine c_seq ?_
        refine c_region ?_
        refine o1 rfl (o_p (v := (.bool (p0.Kind == 29))) rfl ?_)
        refine o1 rfl (o_p rfl ?_)
        refine o_end ?_
        refine e_seq ?_
        refine c_cond (b := (p0.Kind == 29)) rfl (fun hb490 => ?_) (fun hb490 => ?_)
        · replace h := cond_t hb490 h
          refine c_seq ?_
          refine c_region ?_
          refine o1 rfl (o_p rfl ?_)
          refine o1 rfl (o_fa (fd := ⟨ "FA", 5, 4, false, "", "", 18⟩) rfl rfl rfl rfl rfl ?_)
          refine o1 rfl (o_ld (b := b471) (off := 4) (v := (.int .u8 p0.FA)) rfl rm1 rfl rfl ?_)
          refine o1 rfl (o_bs (e := (enI .u8)) (l := [IntKind.wrap .u8 (p0.Kind), p0.FA]) (zs := [(.int .u8 0)]) rfl rfl rfl rfl rfl rfl rfl rfl rfl rfl (fun s491 => ?_))
          refine o1 rfl (o_p rfl ?_)
          refine o1 rfl (o_p rfl ?_)
          refine o_end ?_
          refine e_seq ?_
          refine c_ret ?_
          refine e_blk_ret ?_
          refine e_then_ret ?_
          refine e_ret ?_
          refine r_endt rfl rfl (kc rm1 (kc rm0 (kd kr))) ?_
          have hr := Option.some.inj h
          subst hr
          exact hk s491
        · replace h := cond_f hb490 h
          refine c_seq ?_
          refine c_region ?_
          refine o1 rfl (o_p (v := (.bool (p0.Kind == 8))) rfl ?_)
          refine o1 rfl (o_p rfl ?_)
          refine o_end ?_
          refine e_seq ?_
          refine c_cond (b := (p0.Kind == 8)) rfl (fun hb493 => ?_) (fun hb493 => ?_)
          · replace h := cond_t hb493 h
            refine c_seq ?_
            refine c_seq ?_
            refine c_region ?_
            refine o1 rfl (o_fa (fd := ⟨ "Code", 5, 2, false, "", "", 16⟩) rfl rfl rfl rfl rfl ?_)
            refine o1 rfl (o_ld (b := b471) (off := 2) (v := (.int .u8 p0.Code)) rfl rm1 rfl rfl ?_)
            replace h := bsome h
            obtain ⟨d8, h8, h⟩ := h
            refine o1 rfl (o_call has104 rfl (c_order_Is X p0.Code _ h8) (pc rm0 pn) ?_)
            refine o_end ?_
            refine e_seq ?_
            refine c_cond (b := d8) rfl (fun hb494 => ?_) (fun hb494 => ?_)
            · replace h := cond_t hb494 h
              refine c_seq ?_
              refine c_region ?_
              refine o1 rfl (o_p rfl ?_)
              refine o1 rfl (o_p rfl ?_)
              refine o_end ?_
              refine e_seq ?_
              refine c_ret ?_
              refine e_then_ret ?_
              refine e_blk_ret ?_
              refine e_then_ret ?_
              refine e_ret ?_
              refine r_add (slO SV.nil 5 (enI .u8) []) (slO_nil _ _ _) ?_
              refine r_endt rfl rfl (kc rm1 (kc rm0 (kd kr))) ?_
              have hr := Option.some.inj h
              subst hr
              exact hk SV.nil
            · replace h := cond_f hb494 h
              refine c_skip ?_
              refine e_seq ?_
              refine c_seq ?_
              refine c_region ?_
              refine o1 rfl (o_p rfl ?_)
              refine o1 rfl (o_fa (fd := ⟨ "Code", 5, 2, false, "", "", 16⟩) rfl rfl rfl rfl rfl ?_)
              refine o1 rfl (o_ld (b := b471) (off := 2) (v := (.int .u8 p0.Code)) rfl rm1 rfl rfl ?_)
              refine o1 rfl (o_bs (e := (enI .u8)) (l := [IntKind.wrap .u8 (p0.Kind), p0.Code]) (zs := [(.int .u8 0)]) rfl rfl rfl rfl rfl rfl rfl rfl rfl rfl (fun s495 => ?_))
              refine o1 rfl (o_p rfl ?_)
              refine o1 rfl (o_p rfl ?_)
              refine o_end ?_
              refine e_seq ?_
              refine c_ret ?_
              refine e_blk_ret ?_
              refine e_then_ret ?_
              refine e_ret ?_
              refine r_endt rfl rfl (kc rm1 (kc rm0 (kd kr))) ?_
              have hr := Option.some.inj h
              subst hr
              exact hk s495
          · replace h := cond_f hb493 h
            refine c_seq ?_
            refine c_seq ?_
            refine c_region ?_
            refine o1 rfl (o_p (v := (.bool (p0.Kind == 17))) rfl ?_)
            refine o1 rfl (o_p rfl ?_)
            refine o_end ?_
            refine e_seq ?_
            replace h := bsome h
            obtain ⟨d10, h, hk10⟩ := h
            refine cj (D := Unit) (ι := Unit) (fun _ i10 => True) (fun _ i10 => [(46, (.bool d10)), (11, (.int .i64 p0.Kind)), (4, (.int .u8 (IntKind.wrap .u8 (p0.Kind)))), (1, (.pointer (some ⟨b471, 0, none⟩)))]) (fun _ i10 => X :: blk b471 (.cells (List.toArray [(.int .i64 p0.Kind), (.int .i64 p0.Addr), (.int .u8 p0.Code), (.bool p0.Graph), (.int .u8 p0.FA), (SV.val s0), (SV.val s1)]) 115 (0, 0)) :: R) ?_ ?_
            · refine c_cond (b := (p0.Kind == 17)) rfl (fun hb497 => ?_) (fun hb497 => ?_)
              · replace h := cond_t hb497 h
                refine c_skip ?_
                have hd := Option.some.inj h
                subst hd
                exact ej () () trivial (sc rfl (sc rfl (sc rfl (sc rfl sn)))) (kc rm0 (kc rm0 kr))
              · replace h := cond_f hb497 h
                refine c_region ?_
                refine o1 rfl (o_p (v := (.bool (p0.Kind == 18))) rfl ?_)
                refine o1 rfl (o_p rfl ?_)
                refine o_end ?_
                have hd := Option.some.inj h
                subst hd
                exact ej () () trivial (sc rfl (sc rfl (sc rfl (sc rfl sn)))) (kc rm0 (kc rm0 kr))
            · rintro _ i10 _
              replace h := hk10
              clear hk10
              refine e_seq ?_
              refine c_cond (b := d10) rfl (fun hb498 => ?_) (fun hb498 => ?_)
              · replace h := cond_t hb498 h
                refine c_seq ?_
                refine c_region ?_
                refine o1 rfl (o_p rfl ?_)
                refine o1 rfl (o_fa (fd := ⟨ "Addr", 3, 1, false, "", "", 8⟩) rfl rfl rfl rfl rfl ?_)
                refine o1 rfl (o_ld (b := b471) (off := 1) (v := (.int .i64 p0.Addr)) rfl rm1 rfl rfl ?_)
                replace h := bsome h
                obtain ⟨d11, h11, h⟩ := h
                refine o1 rfl (o_call has118 rfl (c_order_place X (IntKind.wrap .u8 (p0.Kind)) p0.Addr _ h11) (pc rm0 pn) (fun i11 => ?_))
                refine o1 rfl (o_p rfl ?_)
                refine o1 rfl (o_p rfl ?_)
                refine o1 rfl (o_p rfl ?_)
                refine o1 rfl (o_p rfl ?_)
                refine o_end ?_
                refine e_seq ?_
                refine c_ret ?_
                refine e_blk_ret ?_
                refine e_then_ret ?_
                refine e_ret ?_
                refine r_endt rfl rfl (kc rm0 (kc rm0 (kd kr))) ?_
                have hr := Option.some.inj h
                subst hr
                exact hk i11
              · replace h := cond_f hb498 h
                refine c_seq ?_
                refine c_region ?_
                refine o1 rfl (o_p (v := (.bool (p0.Kind == 60))) rfl ?_)
                refine o1 rfl (o_p rfl ?_)
                refine o_end ?_
                refine e_seq ?_
                refine c_cond (b := (p0.Kind == 60)) rfl (fun hb509 => ?_) (fun hb509 => ?_)
                · replace h := cond_t hb509 h
                  refine c_seq ?_
                  refine c_region ?_
                  refine o1 rfl (o_p rfl ?_)
                  refine o1 rfl (o_fa (fd := ⟨ "Addr", 3, 1, false, "", "", 8⟩) rfl rfl rfl rfl rfl ?_)
                  refine o1 rfl (o_ld (b := b471) (off := 1) (v := (.int .i64 p0.Addr)) rfl rm1 rfl rfl ?_)
                  replace h := bsome h
                  obtain ⟨d12, h12, h⟩ := h
                  refine o1 rfl (o_call has118 rfl (c_order_place X (IntKind.wrap .u8 (p0.Kind)) p0.Addr _ h12) (pc rm0 pn) (fun i12 => ?_))
                  refine o1 rfl (o_p rfl ?_)
                  refine o1 rfl (o_p rfl ?_)
                  refine o1 rfl (o_p rfl ?_)
                  refine o1 rfl (o_p rfl ?_)
                  refine o1 rfl (o_p rfl ?_)
                  refine o_end ?_
                  refine e_seq ?_
                  refine c_seq ?_
                  refine c_block ?_
                  refine c_seq ?_
                  refine c_region ?_
                  refine o1 rfl (o_p rfl ?_)
                  refine o1 rfl (o_p (v := (.bool (d12.2 != 0))) rfl ?_)
                  refine o1 rfl (o_p rfl ?_)
                  refine o_end ?_
                  refine e_seq ?_
                  replace h := jn_some h
                  obtain ⟨y14, h, hk14⟩ := h
                  refine cj (D := (List Int)) (ι := SV) (fun d14 i14 => y14 = Sum.inl d14) (fun d14 i14 => [(5, (SV.val i14)), (1, (.pointer (some ⟨b471, 0, none⟩)))]) (fun d14 i14 => X :: slO i14 5 (enI .u8) d14 :: blk b471 (.cells (List.toArray [(.int .i64 p0.Kind), (.int .i64 p0.Addr), (.int .u8 p0.Code), (.bool p0.Graph), (.int .u8 p0.FA), (SV.val s0), (SV.val s1)]) 115 (0, 0)) :: R) ?_ ?_
                  · refine c_cond (b := (d12.2 != 0)) rfl (fun hb511 => ?_) (fun hb511 => ?_)
                    · replace h := cond_t hb511 h
                      refine c_seq ?_
                      refine c_region ?_
                      refine o1 rfl (o_p rfl ?_)
                      refine o1 rfl (o_p rfl ?_)
                      refine o1 rfl (o_p rfl ?_)
                      refine o_end ?_
                      refine e_seq ?_
                      refine c_ret ?_
                      refine ej_ret ?_
                      replace h := esc_some h
                      obtain ⟨z14, h, rfl⟩ := h
                      obtain rfl := (hk14 : z14 = _)
                      refine e_blk_ret ?_
                      refine e_then_ret ?_
                      refine e_blk_ret ?_
                      refine e_then_ret ?_
                      refine e_ret ?_
                      refine r_add (slO SV.nil 5 (enI .u8) []) (slO_nil _ _ _) ?_
                      refine r_endt rfl rfl (kc rm1 (kc rm0 (kd (kd kr)))) ?_
                      have hr := Option.some.inj h
                      subst hr
                      exact hk SV.nil
                    · replace h := cond_f hb511 h
                      refine c_seq ?_
                      refine c_region ?_
                      refine o1 rfl (o_fa (fd := ⟨ "Code", 5, 2, false, "", "", 16⟩) rfl rfl rfl rfl rfl ?_)
                      refine o1 rfl (o_ld (b := b471) (off := 2) (v := (.int .u8 p0.Code)) rfl rm2 rfl rfl ?_)
                      replace h := bsome h
                      obtain ⟨d15, h15, h⟩ := h
                      refine o1 rfl (o_call has104 rfl (c_order_Is X p0.Code _ h15) (pc rm0 pn) ?_)
                      refine o1 rfl (o_p rfl ?_)
                      refine o_end ?_
                      refine e_seq ?_
                      refine c_cond (b := d15) rfl (fun hb512 => ?_) (fun hb512 => ?_)
                      · replace h := cond_t hb512 h
                        refine c_seq ?_
                        refine c_region ?_
                        refine o1 rfl (o_p rfl ?_)
                        refine o1 rfl (o_p rfl ?_)
                        refine o_end ?_
                        refine e_seq ?_
                        refine c_ret ?_
                        refine ej_ret ?_
                        replace h := esc_some h
                        obtain ⟨z14, h, rfl⟩ := h
                        obtain rfl := (hk14 : z14 = _)
                        refine e_blk_ret ?_
                        refine e_then_ret ?_
                        refine e_blk_ret ?_
                        refine e_then_ret ?_
                        refine e_ret ?_
                        refine r_add (slO SV.nil 5 (enI .u8) []) (slO_nil _ _ _) ?_
                        refine r_endt rfl rfl (kc rm1 (kc rm0 (kd (kd kr)))) ?_
                        have hr := Option.some.inj h
                        subst hr
                        exact hk SV.nil
                      · replace h := cond_f hb512 h
                        refine c_seq ?_
                        refine c_region ?_
                        refine o1 rfl (o_fa (fd := ⟨ "Graph", 4, 3, false, "", "", 17⟩) rfl rfl rfl rfl rfl ?_)
                        refine o1 rfl (o_ld (b := b471) (off := 3) (v := (.bool p0.Graph)) rfl rm2 rfl rfl ?_)
                        refine o1 rfl (o_p rfl ?_)
                        refine o_end ?_
                        refine e_seq ?_
                        refine c_cond (b := p0.Graph) rfl (fun hb513 => ?_) (fun hb513 => ?_)
                        · replace h := cond_t hb513 h
                          refine c_region ?_
                          refine o1 rfl (o_p rfl ?_)
                          refine o1 rfl (o_bs (e := (enI .u8)) (l := [8]) (zs := [(.int .u8 0)]) rfl rfl rfl rfl rfl rfl rfl rfl rfl rfl (fun s514 => ?_))
                          replace h := gsome h
                          obtain ⟨hg516, h⟩ := h
                          refine o1 rfl (o_app (s := i12) (r := s514) (e := (enI .u8)) (l := d12.1) (l2 := [8]) (zs := [(.int .u8 0)]) rfl rfl rfl rfl rfl rfl rfl rfl rfl rfl rfl rm2 rm0 (rd_own _ _ _ _) hg516 (fun s517 => ?_))
                          refine o1 rfl (o_p rfl ?_)
                          refine o_end ?_
                          have hd := Option.some.inj h
                          subst hd
                          exact ej (d12.1 ++ [8]) s517 rfl (sc rfl (sc rfl sn)) (kc rm2 (kc rm0 (kc rm1 (kd kr))))
                        · replace h := cond_f hb513 h
                          refine c_skip ?_
                          have hd := Option.some.inj h
                          subst hd
                          exact ej d12.1 i12 rfl (sc rfl (sc rfl sn)) (kc rm0 (kc rm0 (kc rm0 kr)))
                  · rintro d14 i14 rfl
                    replace h := JK_inl hk14
                    clear hk14
                    refine e_blk ?_
                    refine e_seq ?_
                    refine c_seq ?_
                    refine c_region ?_
                    refine o1 rfl (o_p rfl ?_)
                    refine o1 rfl (o_fa (fd := ⟨ "Code", 5, 2, false, "", "", 16⟩) rfl rfl rfl rfl rfl ?_)
                    refine o1 rfl (o_ld (b := b471) (off := 2) (v := (.int .u8 p0.Code)) rfl rm2 rfl rfl ?_)
                    refine o1 rfl (o_bs (e := (enI .u8)) (l := [p0.Code]) (zs := [(.int .u8 0)]) rfl rfl rfl rfl rfl rfl rfl rfl rfl rfl (fun s520 => ?_))
                    replace h := gsome h
                    obtain ⟨hg522, h⟩ := h
                    refine o1 rfl (o_app (s := i14) (r := s520) (e := (enI .u8)) (l := d14) (l2 := [p0.Code]) (zs := [(.int .u8 0)]) rfl rfl rfl rfl rfl rfl rfl rfl rfl rfl rfl rm2 rm0 (rd_own _ _ _ _) hg522 (fun s523 => ?_))
                    refine o1 rfl (o_p rfl ?_)
                    refine o1 rfl (o_p rfl ?_)
                    refine o_end ?_
                    refine e_seq ?_
                    refine c_ret ?_
                    refine e_blk_ret ?_
                    refine e_then_ret ?_
                    refine e_ret ?_
                    refine r_endt rfl rfl (kc rm2 (kc rm0 (kd (kd kr)))) ?_
                    have hr := Option.some.inj h
                    subst hr
                    exact hk s523
                · replace h := cond_f hb509 h
                  refine c_seq ?_
                  refine c_region ?_
                  refine o1 rfl (o_p (v := (.bool (p0.Kind == 40))) rfl ?_)
                  refine o1 rfl (o_p rfl ?_)
                  refine o_end ?_
                  refine e_seq ?_
                  refine c_cond (b := (p0.Kind == 40)) rfl (fun hb525 => ?_) (fun hb525 => ?_)
                  · replace h := cond_t hb525 h
                    refine c_seq ?_
                    refine c_seq ?_
                    replace h := bsome h
                    obtain ⟨d16, h, hk16⟩ := h
                    refine cj (D := Unit) (ι := Unit) (fun _ i16 => True) (fun _ i16 => [(96, (.bool d16)), (4, (.int .u8 (IntKind.wrap .u8 (p0.Kind)))), (1, (.pointer (some ⟨b471, 0, none⟩)))]) (fun _ i16 => X :: blk b471 (.cells (List.toArray [(.int .i64 p0.Kind), (.int .i64 p0.Addr), (.int .u8 p0.Code), (.bool p0.Graph), (.int .u8 p0.FA), (SV.val s0), (SV.val s1)]) 115 (0, 0)) :: R) ?_ ?_
                    · refine c_region ?_
                      refine o1 rfl (o_fa (fd := ⟨ "Pairs", 113, 5, false, "", "", 24⟩) rfl rfl rfl rfl rfl ?_)
                      refine o1 rfl (o_ld (b := b471) (off := 5) (v := (SV.val s0)) rfl rm1 rfl rfl ?_)
                      refine o1 rfl (o_len (s := s0) rfl rfl rfl rm0 q0 ?_)
                      refine o1 rfl (o_p (v := (.bool ((p0.Pairs.length : Int) != 1))) rfl ?_)
                      refine o1 rfl (o_p rfl ?_)
                      rcases bool_or (((p0.Pairs.length : Int) != 1)) with hb526 | hb526
                      · replace h := cond_t hb526 h
                        refine on rfl rfl rfl hb526 ?_
                        refine on rfl rfl rfl hb526 ?_
                        refine on rfl rfl rfl hb526 ?_
                        refine on rfl rfl rfl hb526 ?_
                        refine on rfl rfl rfl hb526 ?_
                        refine on rfl rfl rfl hb526 ?_
                        refine o1 rfl (o_pick_t rfl hb526 rfl ?_)
                        refine o_end ?_
                        have hd := Option.some.inj h
                        subst hd
                        exact ej () () trivial (sc rfl (sc rfl (sc rfl sn))) (kc rm0 (kc rm0 kr))
                      · replace h := cond_f hb526 h
                        refine oy rfl rfl rfl hb526 (o_fa (fd := ⟨ "Pairs", 113, 5, false, "", "", 24⟩) rfl rfl rfl rfl rfl ?_)
                        refine oy rfl rfl rfl hb526 (o_ld (b := b471) (off := 5) (v := (SV.val s0)) rfl rm1 rfl rfl ?_)
                        replace h := gsome h
                        obtain ⟨hg527, h⟩ := h
                        refine oy rfl rfl rfl hb526 (o_ix (s := s0) (n := 0) (e := en_Vattr_Pair) rfl rfl rfl rfl rfl rfl rm0 q0 hg527 ?_)
                        refine oy rfl rfl rfl hb526 (o_ldE (s := s0) (e := en_Vattr_Pair) (n := 0) (f := 0) (v := (.agg (List.toArray [(.int .u8 ((rd p0.Pairs 0).f_Type)), (.int .u8 ((rd p0.Pairs 0).Value))]))) rfl rm0 q0 hg527 rfl rfl ?_)
                        replace h := bsome h
                        obtain ⟨d17, h17, h⟩ := h
                        refine oy rfl rfl rfl hb526 (o_call has119 rfl (c_attr_Pair_Check X (rd p0.Pairs 0) _ h17) (pc rm0 pn) ?_)
                        refine oy rfl rfl rfl hb526 (o_p (v := (.bool (d17 != 0))) rfl ?_)
                        refine o1 rfl (o_pick_f rfl hb526 rfl ?_)
                        refine o_end ?_
                        have hd := Option.some.inj h
                        subst hd
                        exact ej () () trivial (sc rfl (sc rfl (sc rfl sn))) (kc rm0 (kc rm0 kr))
                    · rintro _ i16 _
                      replace h := hk16
                      clear hk16
                      refine e_seq ?_
                      refine c_cond (b := d16) rfl (fun hb528 => ?_) (fun hb528 => ?_)
                      · replace h := cond_t hb528 h
                        refine c_seq ?_
                        refine c_region ?_
                        refine o1 rfl (o_p rfl ?_)
                        refine o1 rfl (o_p rfl ?_)
                        refine o_end ?_
                        refine e_seq ?_
                        refine c_ret ?_
                        refine e_then_ret ?_
                        refine e_blk_ret ?_
                        refine e_then_ret ?_
                        refine e_ret ?_
                        refine r_add (slO SV.nil 5 (enI .u8) []) (slO_nil _ _ _) ?_
                        refine r_endt rfl rfl (kc rm1 (kc rm0 (kd kr))) ?_
                        have hr := Option.some.inj h
                        subst hr
                        exact hk SV.nil
                      · replace h := cond_f hb528 h
                        refine c_skip ?_
                        refine e_seq ?_
                        refine c_seq ?_
                        replace h := gsome h
                        obtain ⟨hg529, h⟩ := h
                        replace h := gsome h
                        obtain ⟨hg530, h⟩ := h
                        refine c_draw (n := 1) (q := [(0, 97, (.int .u8 (IntKind.wrap .u8 (p0.Kind)))), (1, 98, (.pointer (some ⟨b471, 5, none⟩))), (2, 99, (SV.val s0)), (3, 100, (.pointer (some ⟨SV.blk s0, SV.off s0 + Int.toNat 0 * 2, none⟩))), (4, 101, (.pointer (some ⟨SV.blk s0, SV.off s0 + Int.toNat 0 * 2, none⟩))), (5, 102, (.int .u8 ((rd p0.Pairs 0).f_Type))), (6, 103, (.pointer (some ⟨b471, 5, none⟩))), (7, 104, (SV.val s0)), (8, 105, (.pointer (some ⟨SV.blk s0, SV.off s0 + Int.toNat 0 * 2, none⟩))), (9, 106, (.pointer (some ⟨SV.blk s0, SV.off s0 + Int.toNat 0 * 2 + 1, none⟩))), (10, 107, (.int .u8 ((rd p0.Pairs 0).Value)))]) (pend := [0, 1, 2, 3, 4, 5, 6, 7, 8, 9, 10]) rfl rfl rfl ?_
                        refine ⟨⟨fun _ => ⟨rfl, rfl, rfl, .inl ⟨rfl, (o_p rfl ⟨rfl, rfl⟩)⟩⟩, fun _ => ⟨rfl, rfl, rfl, .inl ⟨rfl, (o_fa (fd := ⟨ "Pairs", 113, 5, false, "", "", 24⟩) rfl rfl rfl rfl rfl ⟨rfl, rfl⟩)⟩⟩, fun _ => ⟨rfl, rfl, rfl, .inl ⟨rfl, (o_ld (b := b471) (off := 5) (v := (SV.val s0)) rfl rm1 rfl rfl ⟨rfl, rfl⟩)⟩⟩, fun _ => ⟨rfl, rfl, rfl, .inl ⟨rfl, (o_ix (s := s0) (n := 0) (e := en_Vattr_Pair) rfl rfl rfl rfl rfl rfl rm0 q0 hg529 ⟨rfl, rfl⟩)⟩⟩, fun _ => ⟨rfl, rfl, rfl, .inl ⟨rfl, (o_fa (fd := ⟨ "Type", 5, 0, false, "", "", 0⟩) rfl rfl rfl rfl rfl ⟨rfl, rfl⟩)⟩⟩, fun _ => ⟨rfl, rfl, rfl, .inl ⟨rfl, (o_ldE (s := s0) (e := en_Vattr_Pair) (n := 0) (f := 0) (v := (.int .u8 ((rd p0.Pairs 0).f_Type))) rfl rm0 q0 hg529 rfl rfl ⟨rfl, rfl⟩)⟩⟩, fun _ => ⟨rfl, rfl, rfl, .inl ⟨rfl, (o_fa (fd := ⟨ "Pairs", 113, 5, false, "", "", 24⟩) rfl rfl rfl rfl rfl ⟨rfl, rfl⟩)⟩⟩, fun _ => ⟨rfl, rfl, rfl, .inl ⟨rfl, (o_ld (b := b471) (off := 5) (v := (SV.val s0)) rfl rm1 rfl rfl ⟨rfl, rfl⟩)⟩⟩, fun _ => ⟨rfl, rfl, rfl, .inl ⟨rfl, (o_ix (s := s0) (n := 0) (e := en_Vattr_Pair) rfl rfl rfl rfl rfl rfl rm0 q0 hg530 ⟨rfl, rfl⟩)⟩⟩, fun _ => ⟨rfl, rfl, rfl, .inl ⟨rfl, (o_fa (fd := ⟨ "Value", 5, 1, false, "", "", 1⟩) rfl rfl rfl rfl rfl ⟨rfl, rfl⟩)⟩⟩, fun _ => ⟨rfl, rfl, rfl, .inl ⟨rfl, (o_ldE (s := s0) (e := en_Vattr_Pair) (n := 0) (f := 1) (v := (.int .u8 ((rd p0.Pairs 0).Value))) rfl rm0 q0 hg530 rfl rfl ⟨rfl, rfl⟩)⟩⟩, trivial⟩, rfl, .inr ⟨[11], rfl, rfl, ⟨rfl, .inl rfl, ?_⟩, trivial⟩⟩
                        refine (o_bs (e := (enI .u8)) (l := [IntKind.wrap .u8 (p0.Kind), (rd p0.Pairs 0).f_Type, (rd p0.Pairs 0).Value]) (zs := [(.int .u8 0)]) rfl rfl rfl rfl rfl rfl rfl rfl rfl rfl (fun s531 => ?_))
                        refine ⟨[(12, 2, (SV.val s531)), (13, 3, (.int .i64 0))], [12, 13], rfl, rfl, rfl, rfl, ?_⟩
                        refine ⟨⟨fun _ => ⟨rfl, rfl, rfl, .inl ⟨rfl, (o_p rfl ⟨rfl, rfl⟩)⟩⟩, fun _ => ⟨rfl, rfl, rfl, .inl ⟨rfl, (o_p rfl ⟨rfl, rfl⟩)⟩⟩, (fun h => nomatch h), (fun h => nomatch h), (fun h => nomatch h), (fun h => nomatch h), (fun h => nomatch h), (fun h => nomatch h), (fun h => nomatch h), (fun h => nomatch h), (fun h => nomatch h), (fun h => nomatch h), (fun h => nomatch h), trivial⟩, rfl, rfl, rfl, ?_⟩
                        refine e_seq ?_
                        refine c_ret ?_
                        refine e_blk_ret ?_
                        refine e_then_ret ?_
                        refine e_ret ?_
                        refine r_endt rfl rfl (kc rm1 (kc rm0 (kd kr))) ?_
                        have hr := Option.some.inj h
                        subst hr
                        exact hk s531
                  · replace h := cond_f hb525 h
                    refine c_seq ?_
                    refine c_seq ?_
                    refine c_region ?_
                    refine o1 rfl (o_p (v := (.bool (p0.Kind == 41))) rfl ?_)
                    refine o1 rfl (o_p rfl ?_)
                    refine o_end ?_
                    refine e_seq ?_
                    replace h := bsome h
                    obtain ⟨d19, h, hk19⟩ := h
                    refine cj (D := Unit) (ι := Unit) (fun _ i19 => True) (fun _ i19 => [(109, (.bool d19)), (4, (.int .u8 (IntKind.wrap .u8 (p0.Kind)))), (1, (.pointer (some ⟨b471, 0, none⟩)))]) (fun _ i19 => X :: blk b471 (.cells (List.toArray [(.int .i64 p0.Kind), (.int .i64 p0.Addr), (.int .u8 p0.Code), (.bool p0.Graph), (.int .u8 p0.FA), (SV.val s0), (SV.val s1)]) 115 (0, 0)) :: R) ?_ ?_
                    · refine c_cond (b := (p0.Kind == 41)) rfl (fun hb533 => ?_) (fun hb533 => ?_)
                      · replace h := cond_t hb533 h
                        refine c_skip ?_
                        have hd := Option.some.inj h
                        subst hd
                        exact ej () () trivial (sc rfl (sc rfl (sc rfl sn))) (kc rm0 (kc rm0 kr))
                      · replace h := cond_f hb533 h
                        refine c_region ?_
                        refine o1 rfl (o_p (v := (.bool (p0.Kind == 44))) rfl ?_)
                        refine o1 rfl (o_p rfl ?_)
                        refine o_end ?_
                        have hd := Option.some.inj h
                        subst hd
                        exact ej () () trivial (sc rfl (sc rfl (sc rfl sn))) (kc rm0 (kc rm0 kr))
                    · rintro _ i19 _
                      replace h := hk19
                      clear hk19
                      refine e_seq ?_
                      refine c_cond (b := d19) rfl (fun hb534 => ?_) (fun hb534 => ?_)
                      · replace h := cond_t hb534 h
                        refine c_seq ?_
                        refine c_region ?_
                        refine o1 rfl (o_p rfl ?_)
                        refine o1 rfl (o_fa (fd := ⟨ "Pairs", 113, 5, false, "", "", 24⟩) rfl rfl rfl rfl rfl ?_)
                        refine o1 rfl (o_ld (b := b471) (off := 5) (v := (SV.val s0)) rfl rm1 rfl rfl ?_)
                        replace h := bsome h
                        obtain ⟨d20, h20, h⟩ := h
                        refine o1 rfl (o_call has120 rfl (c_order_looks X (IntKind.wrap .u8 (p0.Kind)) p0.Pairs s0 q0 _ h20) (pc rm0 pn) (fun i20 => ?_))
                        refine o1 rfl (o_p rfl ?_)
                        refine o1 rfl (o_p rfl ?_)
                        refine o1 rfl (o_p rfl ?_)
                        refine o1 rfl (o_p rfl ?_)
                        refine o_end ?_
                        refine e_seq ?_
                        refine c_ret ?_
                        refine e_blk_ret ?_
                        refine e_then_ret ?_
                        refine e_ret ?_
                        refine r_endt rfl rfl (kc rm0 (kc rm0 (kd kr))) ?_
                        have hr := Option.some.inj h
                        subst hr
                        exact hk i20
                      · replace h := cond_f hb534 h
                        refine c_skip ?_
                        refine e_blk ?_
                        refine e_seq ?_
                        refine c_seq ?_
                        refine c_region ?_
                        refine o1 rfl (o_p rfl ?_)
                        refine o1 rfl (o_p rfl ?_)
                        refine o_end ?_
                        refine e_seq ?_
                        refine c_ret ?_
                        refine e_ret ?_
                        refine r_add (slO SV.nil 5 (enI .u8) []) (slO_nil _ _ _) ?_
                        refine r_endt rfl rfl (kc rm1 (kc rm0 (kd kr))) ?_
                        have hr := Option.some.inj h
                        subst hr
                        exact hk SV.nil

theorem has61 : HasBody env.P 61 := ⟨_, Try.func61, rfl, rfl⟩
theorem c_order_Bytes {g : Gw} (X : HP) (p0 : List Vorder_Op) (s0 : SV) (q0r : RdN X s0 115 en_Vorder_Op D_Vorder_Op p0) (r : (List Int) × Int) (h : m_order_Bytes p0 = some r) : Tri env g 61 (List.toArray [(SV.val s0)]) [X] (fun K R => ∀ (i0 : SV), K (.tuple (List.toArray [(SV.val i0), (.int .i64 r.2)])) (X :: slO i0 5 (enI .u8) r.1 :: R)) := by
  refine tri_of (fn := Try.f61) (N := 28) Try.func61 rfl rfl rfl ?_
  intro R K hk
  obtain ⟨L_q0, q0, n_q0⟩ := q0r
  unfold m_order_Bytes at h
  change GC _ none _ [] [(0, (SV.val s0))] (X :: R) g _ _
  refine c_seq ?_
  refine c_region ?_
  refine o1 rfl (o_p rfl ?_)
  refine o1 rfl (o_p rfl ?_)
  refine o_end ?_
  refine e_seq ?_
  refine c_seq ?_
  refine c_region ?_
  refine o1 rfl (o_p rfl ?_)
  refine o_end ?_
  refine e_seq ?_
  refine c_seq ?_
  refine c_seq ?_
  refine c_region ?_
  refine o1 rfl (o_p rfl ?_)
  refine o1 rfl (o_lenN (s := s0) rfl rfl rfl rm0 q0 n_q0 ?_)
  refine o1 rfl (o_p rfl ?_)
  refine o_end ?_
  refine e_seq ?_
  replace h := jn_some h
  obtain ⟨y1, h, hk1⟩ := h
  refine cj (D := (List Int)) (ι := SV) (fun d1 i1 => y1 = Sum.inl d1) (fun d1 i1 => [(4, (SV.val i1))]) (fun d1 i1 => X :: slO i1 5 (enI .u8) d1 :: R) ?_ ?_
  · refine c_block ?_
    refine c_add (slO SV.nil 5 (enI .u8) []) (slO_nil _ _ _) ?_
    refine c_loop (l_sub (sc rfl (sc rfl (sc rfl (sc rfl sn)))) (l_keep (kc rm1 (kc rm0 kr)) (lf (X := Int × (List Int)) (ι := SV) (fun k x => order_Bytes_l2 p0 k x) _ (fun x2 i2 => True) (fun x2 i2 => [(11, (.int .i64 x2.1)), (10, (.int .i64 (p0.length : Int))), (9, (SV.val s0)), (4, (SV.val i2))]) (fun x2 i2 => X :: slO i2 5 (enI .u8) x2.2 :: R) (fun _ => rfl) ?_ fuel (0, ([] : List Int)) SV.nil trivial h)))
    clear h
    rintro k2 ih2 x2 i2 _ h
    rw [order_Bytes_l2.eq_2] at h
    refine l_round ?_
    refine c_seq ?_
    refine c_region ?_
    refine o1 rfl (o_p (v := (.bool (decide (x2.1 < (p0.length : Int))))) rfl ?_)
    refine o_end ?_
    refine e_seq ?_
    refine c_seq ?_
    refine c_cond (b := (decide (x2.1 < (p0.length : Int)))) rfl (fun hb612 => ?_) (fun hb612 => ?_)
    · replace h := cond_t hb612 h
      refine c_skip ?_
      refine e_seq ?_
      refine c_seq ?_
      refine c_block ?_
      refine c_seq ?_
      refine c_region ?_
      replace h := gsome h
      obtain ⟨hg613, h⟩ := h
      refine o1 rfl (o_ix (s := s0) (n := x2.1) (e := en_Vorder_Op) rfl rfl rfl rfl rfl rfl rm0 q0 (NL.lt n_q0 hg613) ?_)
      obtain ⟨sv614, he_sv614, hd_sv614⟩ := NL.rd n_q0 hg613
      have hr615 : Rd X sv614.1 196 en_Vattr_Pair ((rd p0 x2.1).Pairs) := hd_sv614.1
      have hr616 : Rd X sv614.2 5 (enI .u8) ((rd p0 x2.1).Text) := hd_sv614.2
      refine o1 rfl (o_ldE (s := s0) (e := en_Vorder_Op) (n := x2.1) (f := 0) (v := (.agg (List.toArray [(.int .i64 ((rd p0 x2.1).Kind)), (.int .i64 ((rd p0 x2.1).Addr)), (.int .u8 ((rd p0 x2.1).Code)), (.bool ((rd p0 x2.1).Graph)), (.int .u8 ((rd p0 x2.1).FA)), (SV.val sv614.1), (SV.val sv614.2)]))) rfl rm0 q0 (NL.lt n_q0 hg613) rfl (by rw [he_sv614]; rfl) ?_)
      refine o1 rfl (o_alloc (cs := [(.int .i64 0), (.int .i64 0), (.int .u8 0), (.bool false), (.int .u8 0), (SV.val SV.nil), (SV.val SV.nil)]) rfl rfl (fun b617 => ?_))
      refine o0 (o_st (b := b617) (off := 0) (vs := [(.int .i64 ((rd p0 x2.1).Kind)), (.int .i64 ((rd p0 x2.1).Addr)), (.int .u8 ((rd p0 x2.1).Code)), (.bool ((rd p0 x2.1).Graph)), (.int .u8 ((rd p0 x2.1).FA)), (SV.val sv614.1), (SV.val sv614.2)]) (cs' := [(.int .i64 ((rd p0 x2.1).Kind)), (.int .i64 ((rd p0 x2.1).Addr)), (.int .u8 ((rd p0 x2.1).Code)), (.bool ((rd p0 x2.1).Graph)), (.int .u8 ((rd p0 x2.1).FA)), (SV.val sv614.1), (SV.val sv614.2)]) rfl rfl rp0 rfl rfl rfl rfl rfl rfl ?_)
      refine o_end ?_
      refine e_seq ?_
      refine c_seq ?_
      refine c_region ?_
      refine o1 rfl (o_ld (b := b617) (off := 0) (v := (.agg (List.toArray [(.int .i64 ((rd p0 x2.1).Kind)), (.int .i64 ((rd p0 x2.1).Addr)), (.int .u8 ((rd p0 x2.1).Code)), (.bool ((rd p0 x2.1).Graph)), (.int .u8 ((rd p0 x2.1).FA)), (SV.val sv614.1), (SV.val sv614.2)]))) rfl rm0 rfl rfl ?_)
      replace h := bsome h
      obtain ⟨d5, h5, h⟩ := h
      refine o1 rfl (o_call has95 rfl (c_order_Op_Bytes X (rd p0 x2.1) sv614.1 hr615 sv614.2 hr616 _ h5) (pc rm1 pn) (fun i5 => ?_))
      refine o1 rfl (o_p rfl ?_)
      refine o1 rfl (o_p rfl ?_)
      refine o1 rfl (o_p rfl ?_)
      refine o1 rfl (o_p rfl ?_)
      refine o1 rfl (o_p rfl ?_)
      refine o_end ?_
      refine e_seq ?_
      refine c_seq ?_
      refine c_seq ?_
      refine c_region ?_
      refine o1 rfl (o_p rfl ?_)
      refine o1 rfl (o_p (v := (.bool (d5.2 != 0))) rfl ?_)
      refine o_end ?_
      refine e_seq ?_
      refine c_cond (b := (d5.2 != 0)) rfl (fun hb620 => ?_) (fun hb620 => ?_)
      · replace h := cond_t hb620 h
        refine c_seq ?_
        refine c_region ?_
        refine o1 rfl (o_p rfl ?_)
        refine o1 rfl (o_p rfl ?_)
        refine o1 rfl (o_p rfl ?_)
        refine o_end ?_
        refine e_seq ?_
        refine c_ret ?_
        refine e_then_ret ?_
        refine e_blk_ret ?_
        refine e_then_ret ?_
        refine e_then_ret ?_
        refine e_blk_ret ?_
        refine ej_ret ?_
        replace h := esc_some h
        obtain ⟨z1, h, rfl⟩ := h
        obtain rfl := (hk1 : z1 = _)
        refine e_then_ret ?_
        refine e_ret ?_
        refine r_add (slO SV.nil 5 (enI .u8) []) (slO_nil _ _ _) ?_
        refine r_endt rfl rfl (kc rm1 (kc rm0 (kd (kd (kd kr))))) ?_
        have hr := Option.some.inj h
        subst hr
        exact hk SV.nil
      · replace h := cond_f hb620 h
        refine c_skip ?_
        refine e_seq ?_
        refine c_region ?_
        refine o1 rfl (o_p rfl ?_)
        refine o1 rfl (o_p rfl ?_)
        replace h := gsome h
        obtain ⟨hg621, h⟩ := h
        refine o1 rfl (o_app (s := i2) (r := i5) (e := (enI .u8)) (l := x2.2) (l2 := d5.1) (zs := [(.int .u8 0)]) rfl rfl rfl rfl rfl rfl rfl rfl rfl rfl rfl rm3 rm1 (rd_own _ _ _ _) hg621 (fun s622 => ?_))
        refine o1 rfl (o_p rfl ?_)
        refine o_end ?_
        refine e_blk ?_
        refine e_seq ?_
        refine c_region ?_
        refine o1 rfl (o_p (v := (.int .i64 (w64 (x2.1 + 1)))) rfl ?_)
        refine o1 rfl (o_p rfl ?_)
        refine o_end ?_
        exact e_loop (l_sub (sc rfl (sc rfl (sc rfl (sc rfl sn)))) (l_keep (kc rm1 (kc rm0 (kd (kd kr)))) (ih2 (w64 (x2.1 + 1), (x2.2 ++ d5.1)) s622 trivial h)))
    · replace h := cond_f hb612 h
      refine c_exit ?_
      refine e_then_exit ?_
      refine e_then_exit ?_
      refine e_blk_exit ?_
      have hd := Option.some.inj h
      subst hd
      exact ej x2.2 i2 rfl (sc rfl sn) (kc rm0 (kc rm0 kr))
  · rintro d1 i1 rfl
    replace h := JK_inl hk1
    clear hk1
    refine e_seq ?_
    refine c_seq ?_
    refine c_region ?_
    refine o1 rfl (o_p rfl ?_)
    refine o1 rfl (o_p rfl ?_)
    refine o1 rfl (o_p rfl ?_)
    refine o_end ?_
    refine e_seq ?_
    refine c_ret ?_
    refine e_ret ?_
    refine r_endt rfl rfl (kc rm0 (kc rm0 kr)) ?_
    have hr := Option.some.inj h
    subst hr
    exact hk i1

theorem has25 : HasBody env.P 25 := ⟨_, Try.func25, rfl, rfl⟩
theorem c_entry_Bytes {g : Gw} (X : HP) (p0 : Ventry_Report) (s0 : SV) (q0r : RdN X s0 109 en_Ventry_Entry D_Ventry_Entry p0.Entries) (r : (List Int) × Int) (h : m_entry_Bytes p0 = some r) : Tri env g 25 (List.toArray [(.agg (List.toArray [(.int .u8 p0.AID), (.bool p0.Short), (.int .i64 p0.Cursor), (SV.val s0)]))]) [X] (fun K R => ∀ (i0 : HP × SV), (Ext X i0.1) → K (.tuple (List.toArray [(SV.val i0.2), (.int .i64 r.2)])) (i0.1 :: slO i0.2 5 (enI .u8) r.1 :: R)) := by
  refine tri_of (fn := Try.f25) (N := 91) Try.func25 rfl rfl rfl ?_
  intro R K hk
  obtain ⟨L_q0, q0, n_q0⟩ := q0r
  unfold m_entry_Bytes at h
  change GC _ none _ [] [(0, (.agg (List.toArray [(.int .u8 p0.AID), (.bool p0.Short), (.int .i64 p0.Cursor), (SV.val s0)])))] (X :: R) g _ _
  refine c_seq ?_
  refine c_region ?_
  refine o1 rfl (o_box (cs := [(.int .u8 p0.AID), (.bool p0.Short), (.int .i64 p0.Cursor), (SV.val s0)]) rfl rfl (fun b406 => ?_))
  refine o1 rfl (o_p rfl ?_)
  refine o1 rfl (o_p rfl ?_)
  refine o_end ?_
  refine e_seq ?_
  refine c_seq ?_
  refine c_seq ?_
  refine c_region ?_
  refine o1 rfl (o_fa (fd := ⟨ "Short", 4, 1, false, "", "", 1⟩) rfl rfl rfl rfl rfl ?_)
  refine o1 rfl (o_ld (b := b406) (off := 1) (v := (.bool p0.Short)) rfl rm0 rfl rfl ?_)
  refine o_end ?_
  refine e_seq ?_
  refine c_cond (b := p0.Short) rfl (fun hb408 => ?_) (fun hb408 => ?_)
  · replace h := cond_t hb408 h
    refine c_seq ?_
    refine c_region ?_
    refine o1 rfl (o_fa (fd := ⟨ "AID", 5, 0, false, "", "", 0⟩) rfl rfl rfl rfl rfl ?_)
    refine o1 rfl (o_ld (b := b406) (off := 0) (v := (.int .u8 p0.AID)) rfl rm0 rfl rfl ?_)
    refine o1 rfl (o_bs (e := (enI .u8)) (l := [p0.AID]) (zs := [(.int .u8 0)]) rfl rfl rfl rfl rfl rfl rfl rfl rfl rfl (fun s409 => ?_))
    refine o1 rfl (o_p rfl ?_)
    refine o1 rfl (o_p rfl ?_)
    refine o_end ?_
    refine e_seq ?_
    refine c_ret ?_
    refine e_then_ret ?_
    refine e_ret ?_
    refine r_endt rfl rfl (kc rm2 (kc rm0 (kd kr))) ?_
    have hr := Option.some.inj h
    subst hr
    exact hk (X, s409) (Ext.refl _)
  · replace h := cond_f hb408 h
    refine c_skip ?_
    refine e_seq ?_
    refine c_seq ?_
    refine c_region ?_
    refine o1 rfl (o_fa (fd := ⟨ "Cursor", 3, 2, false, "", "", 8⟩) rfl rfl rfl rfl rfl ?_)
    refine o1 rfl (o_ld (b := b406) (off := 2) (v := (.int .i64 p0.Cursor)) rfl rm0 rfl rfl ?_)
    replace h := bsome h
    obtain ⟨d2, h2, h⟩ := h
    refine o1 rfl (o_call has60 rfl (c_addr_Encode X 12 p0.Cursor _ h2) (pc rm1 pn) (fun i2 => ?_))
    refine o1 rfl (o_p rfl ?_)
    refine o1 rfl (o_p rfl ?_)
    refine o1 rfl (o_p rfl ?_)
    refine o1 rfl (o_p rfl ?_)
    refine o1 rfl (o_p rfl ?_)
    refine o_end ?_
    refine e_seq ?_
    refine c_seq ?_
    refine c_seq ?_
    refine c_region ?_
    refine o1 rfl (o_p rfl ?_)
    refine o1 rfl (o_p (v := (.bool (d2.2 != 0))) rfl ?_)
    refine o_end ?_
    refine e_seq ?_
    refine c_cond (b := (d2.2 != 0)) rfl (fun hb426 => ?_) (fun hb426 => ?_)
    · replace h := cond_t hb426 h
      refine c_seq ?_
      refine c_region ?_
      refine o1 rfl (o_p rfl ?_)
      refine o1 rfl (o_p rfl ?_)
      refine o1 rfl (o_p rfl ?_)
      refine o_end ?_
      refine e_seq ?_
      refine c_ret ?_
      refine e_then_ret ?_
      refine e_ret ?_
      refine r_add (slO SV.nil 5 (enI .u8) []) (slO_nil _ _ _) ?_
      refine r_endt rfl rfl (kc rm1 (kc rm0 (kd (kd kr)))) ?_
      have hr := Option.some.inj h
      subst hr
      exact hk (X, SV.nil) (Ext.refl _)
    · replace h := cond_f hb426 h
      refine c_skip ?_
      refine e_seq ?_
      refine c_seq ?_
      refine c_region ?_
      refine o1 rfl (o_fa (fd := ⟨ "AID", 5, 0, false, "", "", 0⟩) rfl rfl rfl rfl rfl ?_)
      refine o1 rfl (o_ld (b := b406) (off := 0) (v := (.int .u8 p0.AID)) rfl rm2 rfl rfl ?_)
      refine o1 rfl (o_bs (e := (enI .u8)) (l := [p0.AID]) (zs := [(.int .u8 0)]) rfl rfl rfl rfl rfl rfl rfl rfl rfl rfl (fun s427 => ?_))
      refine o1 rfl (o_p rfl ?_)
      replace h := gsome h
      obtain ⟨hg429, h⟩ := h
      refine o1 rfl (o_app (s := s427) (r := i2) (e := (enI .u8)) (l := [p0.AID]) (l2 := d2.1) (zs := [(.int .u8 0)]) rfl rfl rfl rfl rfl rfl rfl rfl rfl rfl rfl rm0 rm1 (rd_own _ _ _ _) hg429 (fun s430 => ?_))
      refine o1 rfl (o_p rfl ?_)
      refine o_end ?_
      refine e_seq ?_
      refine c_seq ?_
      replace h := bsome h
      obtain ⟨d4, h, hk4⟩ := h
      refine cj (D := Unit) (ι := Unit) (fun _ i4 => True) (fun _ i4 => [(7, (.bool d4)), (6, (SV.val s430)), (1, (.pointer (some ⟨b406, 0, none⟩)))]) (fun _ i4 => X :: slO s430 5 (enI .u8) ([p0.AID] ++ d2.1) :: blk b406 (.cells (List.toArray [(.int .u8 p0.AID), (.bool p0.Short), (.int .i64 p0.Cursor), (SV.val s0)]) 65 (0, 0)) :: R) ?_ ?_
      · refine c_region ?_
        refine o1 rfl (o_fa (fd := ⟨ "Entries", 63, 3, false, "", "", 16⟩) rfl rfl rfl rfl rfl ?_)
        refine o1 rfl (o_ld (b := b406) (off := 3) (v := (SV.val s0)) rfl rm3 rfl rfl ?_)
        refine o1 rfl (o_lenN (s := s0) rfl rfl rfl rm1 q0 n_q0 ?_)
        refine o1 rfl (o_p (v := (.bool ((p0.Entries.length : Int) == 1))) rfl ?_)
        refine o1 rfl (o_p rfl ?_)
        rcases bool_or (((p0.Entries.length : Int) == 1)) with hb432 | hb432
        · replace h := cond_t hb432 h
          refine oy rfl rfl rfl hb432 (o_fa (fd := ⟨ "Entries", 63, 3, false, "", "", 16⟩) rfl rfl rfl rfl rfl ?_)
          refine oy rfl rfl rfl hb432 (o_ld (b := b406) (off := 3) (v := (SV.val s0)) rfl rm3 rfl rfl ?_)
          replace h := gsome h
          obtain ⟨hg433, h⟩ := h
          refine oy rfl rfl rfl hb432 (o_ix (s := s0) (n := 0) (e := en_Ventry_Entry) rfl rfl rfl rfl rfl rfl rm1 q0 (NL.lt n_q0 hg433) ?_)
          refine oy rfl rfl rfl hb432 (o_fa (fd := ⟨ "Addr", 3, 0, false, "", "", 0⟩) rfl rfl rfl rfl rfl ?_)
          obtain ⟨sv434, he_sv434, hd_sv434⟩ := NL.rd n_q0 hg433
          have hr435 : Rd X sv434 5 (enI .u8) ((rd p0.Entries 0).Text) := hd_sv434
          refine oy rfl rfl rfl hb432 (o_ldE (s := s0) (e := en_Ventry_Entry) (n := 0) (f := 0) (v := (.int .i64 ((rd p0.Entries 0).Addr))) rfl rm1 q0 (NL.lt n_q0 hg433) rfl (by rw [he_sv434]; rfl) ?_)
          refine oy rfl rfl rfl hb432 (o_p (v := (.bool (((rd p0.Entries 0).Addr) == 0))) rfl ?_)
          refine o1 rfl (o_pick_t rfl hb432 rfl ?_)
          refine o1 rfl (o_p rfl ?_)
          rcases bool_or ((((rd p0.Entries 0).Addr) == 0)) with hb436 | hb436
          · replace h := cond_t hb436 h
            refine oy rfl rfl rfl hb436 (o_fa (fd := ⟨ "Entries", 63, 3, false, "", "", 16⟩) rfl rfl rfl rfl rfl ?_)
            refine oy rfl rfl rfl hb436 (o_ld (b := b406) (off := 3) (v := (SV.val s0)) rfl rm3 rfl rfl ?_)
            replace h := gsome h
            obtain ⟨hg437, h⟩ := h
            refine oy rfl rfl rfl hb436 (o_ix (s := s0) (n := 0) (e := en_Ventry_Entry) rfl rfl rfl rfl rfl rfl rm1 q0 (NL.lt n_q0 hg437) ?_)
            refine oy rfl rfl rfl hb436 (o_fa (fd := ⟨ "Text", 31, 1, false, "", "", 8⟩) rfl rfl rfl rfl rfl ?_)
            obtain ⟨sv438, he_sv438, hd_sv438⟩ := NL.rd n_q0 hg437
            have hr439 : Rd X sv438 5 (enI .u8) ((rd p0.Entries 0).Text) := hd_sv438
            refine oy rfl rfl rfl hb436 (o_ldE (s := s0) (e := en_Ventry_Entry) (n := 0) (f := 1) (v := (SV.val sv438)) rfl rm1 q0 (NL.lt n_q0 hg437) rfl (by rw [he_sv438]; rfl) ?_)
            refine oy rfl rfl rfl hb436 (o_len (s := sv438) rfl rfl rfl rm1 hr439 ?_)
            refine oy rfl rfl rfl hb436 (o_p (v := (.bool (decide ((((rd p0.Entries 0).Text).length : Int) > 0)))) rfl ?_)
            refine o1 rfl (o_pick_t rfl hb436 rfl ?_)
            refine o1 rfl (o_p rfl ?_)
            refine o_end ?_
            have hd := Option.some.inj h
            subst hd
            exact ej () () trivial (sc rfl (sc rfl (sc rfl sn))) (kc rm1 (kc rm0 (kc rm1 (kd kr))))
          · replace h := cond_f hb436 h
            refine on rfl rfl rfl hb436 ?_
            refine on rfl rfl rfl hb436 ?_
            refine on rfl rfl rfl hb436 ?_
            refine on rfl rfl rfl hb436 ?_
            refine on rfl rfl rfl hb436 ?_
            refine on rfl rfl rfl hb436 ?_
            refine on rfl rfl rfl hb436 ?_
            refine o1 rfl (o_pick_f rfl hb436 rfl ?_)
            refine o1 rfl (o_p rfl ?_)
            refine o_end ?_
            have hd := Option.some.inj h
            subst hd
            exact ej () () trivial (sc rfl (sc rfl (sc rfl sn))) (kc rm1 (kc rm0 (kc rm1 (kd kr))))
        · replace h := cond_f hb432 h
          refine on rfl rfl rfl hb432 ?_
          refine on rfl rfl rfl hb432 ?_
          refine on rfl rfl rfl hb432 ?_
          refine on rfl rfl rfl hb432 ?_
          refine on rfl rfl rfl hb432 ?_
          refine on rfl rfl rfl hb432 ?_
          refine o1 rfl (o_pick_f rfl hb432 rfl ?_)
          refine o1 rfl (o_p rfl ?_)
          refine on rfl rfl rfl rfl ?_
          refine on rfl rfl rfl rfl ?_
          refine on rfl rfl rfl rfl ?_
          refine on rfl rfl rfl rfl ?_
          refine on rfl rfl rfl rfl ?_
          refine on rfl rfl rfl rfl ?_
          refine on rfl rfl rfl rfl ?_
          refine o1 rfl (o_pick_f rfl rfl rfl ?_)
          refine o1 rfl (o_p rfl ?_)
          refine o_end ?_
          have hd := Option.some.inj h
          subst hd
          exact ej () () trivial (sc rfl (sc rfl (sc rfl sn))) (kc rm1 (kc rm0 (kc rm1 (kd kr))))
      · rintro _ i4 _
        replace h := hk4
        clear hk4
        refine e_seq ?_
        refine c_seq ?_
        refine c_seq ?_
        refine c_region ?_
        refine o1 rfl (o_fa (fd := ⟨ "Entries", 63, 3, false, "", "", 16⟩) rfl rfl rfl rfl rfl ?_)
        refine o1 rfl (o_ld (b := b406) (off := 3) (v := (SV.val s0)) rfl rm2 rfl rfl ?_)
        refine o1 rfl (o_lenN (s := s0) rfl rfl rfl rm0 q0 n_q0 ?_)
        refine o1 rfl (o_p rfl ?_)
        refine o_end ?_
        refine e_seq ?_
        replace h := jn_some h
        obtain ⟨y5, h, hk5⟩ := h
        refine cj (D := (List Int)) (ι := HP × SV) (fun d5 i5 => (y5 = Sum.inl d5) ∧ (Ext X i5.1)) (fun d5 i5 => [(6, (SV.val i5.2))]) (fun d5 i5 => i5.1 :: slO i5.2 5 (enI .u8) d5 :: R) ?_ ?_
        · refine c_block ?_
          refine c_loop (l_sub (sc rfl (sc rfl (sc rfl (sc rfl (sc rfl sn))))) (l_keep (kc rm0 (kc rm0 (kd kr))) (lf (X := Int × (List Int)) (ι := HP × SV) (fun k x => entry_Bytes_l6 p0 d4 k x) _ (fun x6 i6 => (RdN i6.1 s0 109 en_Ventry_Entry D_Ventry_Entry p0.Entries) ∧ (Ext X i6.1)) (fun x6 i6 => [(56, (.int .i64 x6.1)), (55, (.int .i64 (p0.Entries.length : Int))), (54, (SV.val s0)), (7, (.bool d4)), (6, (SV.val i6.2))]) (fun x6 i6 => i6.1 :: slO i6.2 5 (enI .u8) x6.2 :: R) (fun _ => rfl) ?_ fuel (0, ([p0.AID] ++ d2.1)) (X, s430) ⟨⟨_, q0, n_q0⟩, (Ext.refl _)⟩ h)))
          clear h
          rintro k6 ih6 x6 i6 ⟨⟨L_f6_0, f6_0, n_f6_0⟩, f6_1⟩ h
          rw [entry_Bytes_l6.eq_2] at h
          refine l_round ?_
          refine c_seq ?_
          refine c_region ?_
          refine o1 rfl (o_p (v := (.bool (decide (x6.1 < (p0.Entries.length : Int))))) rfl ?_)
          refine o_end ?_
          refine e_seq ?_
          refine c_seq ?_
          refine c_cond (b := (decide (x6.1 < (p0.Entries.length : Int)))) rfl (fun hb667 => ?_) (fun hb667 => ?_)
          · replace h := cond_t hb667 h
            refine c_skip ?_
            refine e_seq ?_
            refine c_seq ?_
            refine c_block ?_
            refine c_seq ?_
            refine c_region ?_
            replace h := gsome h
            obtain ⟨hg668, h⟩ := h
            refine o1 rfl (o_ix (s := s0) (n := x6.1) (e := en_Ventry_Entry) rfl rfl rfl rfl rfl rfl rm0 f6_0 (NL.lt n_f6_0 hg668) ?_)
            obtain ⟨sv669, he_sv669, hd_sv669⟩ := NL.rd n_f6_0 hg668
            have hr670 : Rd i6.1 sv669 5 (enI .u8) ((rd p0.Entries x6.1).Text) := hd_sv669
            refine o1 rfl (o_ldE (s := s0) (e := en_Ventry_Entry) (n := x6.1) (f := 0) (v := (.agg (List.toArray [(.int .i64 ((rd p0.Entries x6.1).Addr)), (SV.val sv669)]))) rfl rm0 f6_0 (NL.lt n_f6_0 hg668) rfl (by rw [he_sv669]; rfl) ?_)
            refine o1 rfl (o_alloc (cs := [(.int .i64 0), (SV.val SV.nil)]) rfl rfl (fun b671 => ?_))
            refine o0 (o_st (b := b671) (off := 0) (vs := [(.int .i64 ((rd p0.Entries x6.1).Addr)), (SV.val sv669)]) (cs' := [(.int .i64 ((rd p0.Entries x6.1).Addr)), (SV.val sv669)]) rfl rfl rp0 rfl rfl rfl rfl rfl rfl ?_)
            refine o_end ?_
            refine e_seq ?_
            refine c_seq ?_
            refine c_region ?_
            refine o1 rfl (o_p rfl ?_)
            refine o_end ?_
            refine e_seq ?_
            refine c_seq ?_
            refine c_seq ?_
            refine c_region ?_
            refine o1 rfl (o_p rfl ?_)
            refine o1 rfl (o_p (v := (.bool (!d4))) rfl ?_)
            refine o_end ?_
            refine e_seq ?_
            replace h := bsome h
            obtain ⟨d9, h, hk9⟩ := h
            refine cj (D := Unit) (ι := SV × (List (Vorder_Op × SV × SV))) (fun _ i9 => NL (D_Vorder_Op i6.1) i9.2 d9) (fun _ i9 => [(10, (SV.val i9.1)), (9, (.pointer (some ⟨b671, 0, none⟩))), (56, (.int .i64 x6.1)), (55, (.int .i64 (p0.Entries.length : Int))), (54, (SV.val s0)), (7, (.bool d4)), (6, (SV.val i6.2))]) (fun _ i9 => i6.1 :: slO i9.1 115 en_Vorder_Op i9.2 :: blk b671 (.cells (List.toArray [(.int .i64 ((rd p0.Entries x6.1).Addr)), (SV.val sv669)]) 109 (0, 0)) :: slO i6.2 5 (enI .u8) x6.2 :: R) ?_ ?_
            · refine c_cond (b := (!d4)) rfl (fun hb673 => ?_) (fun hb673 => ?_)
              · replace h := cond_t hb673 h
                refine c_region ?_
                refine o1 rfl (o_p rfl ?_)
                refine o1 rfl (o_fa (fd := ⟨ "Addr", 3, 0, false, "", "", 0⟩) rfl rfl rfl rfl rfl ?_)
                refine o1 rfl (o_ld (b := b671) (off := 0) (v := (.int .i64 ((rd p0.Entries x6.1).Addr))) rfl rm0 rfl rfl ?_)
                refine o1 rfl (o_build (fs := [⟨ "Kind", 3, 0, false, "", "", 0⟩, ⟨ "Addr", 3, 1, false, "", "", 8⟩, ⟨ "Code", 5, 2, false, "", "", 16⟩, ⟨ "Graph", 4, 3, false, "", "", 17⟩, ⟨ "FA", 5, 4, false, "", "", 18⟩, ⟨ "Pairs", 113, 5, false, "", "", 24⟩, ⟨ "Text", 31, 6, false, "", "", 48⟩]) (ps := [(0, 1), (1, 1), (2, 1), (3, 1), (4, 1), (5, 1), (6, 1)]) (cs := [(.int .i64 17), (.int .i64 ((rd p0.Entries x6.1).Addr)), (.int .u8 0), (.bool false), (.int .u8 0), (SV.val SV.nil), (SV.val SV.nil)]) rfl rfl rfl rfl rfl ?_)
                refine o1 rfl (o_bs (e := en_Vorder_Op) (l := [((⟨17, (rd p0.Entries x6.1).Addr, 0, false, 0, ([] : List Vattr_Pair), ([] : List Int)⟩ : Vorder_Op), (SV.nil, SV.nil))]) (zs := [(.int .i64 0), (.int .i64 0), (.int .u8 0), (.bool false), (.int .u8 0), (SV.val SV.nil), (SV.val SV.nil)]) rfl rfl rfl rfl rfl rfl rfl rfl rfl rfl (fun s674 => ?_))
                refine o_add (slO SV.nil 115 en_Vorder_Op []) (slO_nil _ _ _) ?_
                replace h := gsome h
                obtain ⟨hg677, h⟩ := h
                refine o1 rfl (o_app (s := SV.nil) (r := s674) (e := en_Vorder_Op) (l := []) (l2 := [((⟨17, (rd p0.Entries x6.1).Addr, 0, false, 0, ([] : List Vattr_Pair), ([] : List Int)⟩ : Vorder_Op), (SV.nil, SV.nil))]) (zs := [(.int .i64 0), (.int .i64 0), (.int .u8 0), (.bool false), (.int .u8 0), (SV.val SV.nil), (SV.val SV.nil)]) rfl rfl rfl rfl rfl rfl rfl rfl rfl rfl rfl rm0 rm0 (rd_own _ _ _ _) (len2 (D := D_Vorder_Op i6.1) (D' := D_Vorder_Op i6.1) NL.nil (NL.cons (D := D_Vorder_Op i6.1) (x := (⟨17, (rd p0.Entries x6.1).Addr, 0, false, 0, ([] : List Vattr_Pair), ([] : List Int)⟩ : Vorder_Op)) (s := (SV.nil, SV.nil)) ⟨(rd_nil _ _ _), (rd_nil _ _ _)⟩ NL.nil) hg677) (fun s678 => ?_))
                refine o1 rfl (o_p rfl ?_)
                refine o_end ?_
                have hd := Option.some.inj h
                subst hd
                exact ej () (s678, ([] ++ [((⟨17, (rd p0.Entries x6.1).Addr, 0, false, 0, ([] : List Vattr_Pair), ([] : List Int)⟩ : Vorder_Op), (SV.nil, SV.nil))])) (NL.app NL.nil (NL.cons (D := D_Vorder_Op i6.1) (x := (⟨17, (rd p0.Entries x6.1).Addr, 0, false, 0, ([] : List Vattr_Pair), ([] : List Int)⟩ : Vorder_Op)) (s := (SV.nil, SV.nil)) ⟨(rd_nil _ _ _), (rd_nil _ _ _)⟩ NL.nil)) (sc rfl (sc rfl (sc rfl (sc rfl (sc rfl (sc rfl (sc rfl sn))))))) (kc rm3 (kc rm0 (kc rm1 (kc rm1 (kd kr)))))
              · replace h := cond_f hb673 h
                refine c_skip ?_
                refine e_add (slO SV.nil 115 en_Vorder_Op []) (slO_nil _ _ _) ?_
                have hd := Option.some.inj h
                subst hd
                exact ej () (SV.nil, []) NL.nil (sc rfl (sc rfl (sc rfl (sc rfl (sc rfl (sc rfl (sc rfl sn))))))) (kc rm2 (kc rm0 (kc rm0 (kc rm0 kr))))
            · rintro _ i9 f9_0
              replace h := hk9
              clear hk9
              refine e_seq ?_
              refine c_seq ?_
              refine c_seq ?_
              refine c_region ?_
              refine o1 rfl (o_fa (fd := ⟨ "Text", 31, 1, false, "", "", 8⟩) rfl rfl rfl rfl rfl ?_)
              refine o1 rfl (o_ld (b := b671) (off := 1) (v := (SV.val sv669)) rfl rm2 rfl rfl ?_)
              refine o1 rfl (o_len (s := sv669) rfl rfl rfl rm0 hr670 ?_)
              refine o1 rfl (o_p (v := (.bool (decide ((((rd p0.Entries x6.1).Text).length : Int) > 0)))) rfl ?_)
              refine o_end ?_
              refine e_seq ?_
              replace h := bsome h
              obtain ⟨d10, h, hk10⟩ := h
              refine cj (D := Unit) (ι := SV × (List (Vorder_Op × SV × SV))) (fun _ i10 => NL (D_Vorder_Op i6.1) i10.2 d10) (fun _ i10 => [(10, (SV.val i10.1)), (56, (.int .i64 x6.1)), (55, (.int .i64 (p0.Entries.length : Int))), (54, (SV.val s0)), (7, (.bool d4)), (6, (SV.val i6.2))]) (fun _ i10 => i6.1 :: slO i10.1 115 en_Vorder_Op i10.2 :: slO i6.2 5 (enI .u8) x6.2 :: R) ?_ ?_
              · refine c_cond (b := (decide ((((rd p0.Entries x6.1).Text).length : Int) > 0))) rfl (fun hb681 => ?_) (fun hb681 => ?_)
                · replace h := cond_t hb681 h
                  refine c_region ?_
                  refine o1 rfl (o_p rfl ?_)
                  refine o1 rfl (o_fa (fd := ⟨ "Text", 31, 1, false, "", "", 8⟩) rfl rfl rfl rfl rfl ?_)
                  refine o1 rfl (o_ld (b := b671) (off := 1) (v := (SV.val sv669)) rfl rm2 rfl rfl ?_)
                  refine o1 rfl (o_build (fs := [⟨ "Kind", 3, 0, false, "", "", 0⟩, ⟨ "Addr", 3, 1, false, "", "", 8⟩, ⟨ "Code", 5, 2, false, "", "", 16⟩, ⟨ "Graph", 4, 3, false, "", "", 17⟩, ⟨ "FA", 5, 4, false, "", "", 18⟩, ⟨ "Pairs", 113, 5, false, "", "", 24⟩, ⟨ "Text", 31, 6, false, "", "", 48⟩]) (ps := [(0, 1), (1, 1), (2, 1), (3, 1), (4, 1), (5, 1), (6, 1)]) (cs := [(.int .i64 0), (.int .i64 0), (.int .u8 0), (.bool false), (.int .u8 0), (SV.val SV.nil), (SV.val sv669)]) rfl rfl rfl rfl rfl ?_)
                  refine o1 rfl (o_bs (e := en_Vorder_Op) (l := [((⟨0, 0, 0, false, 0, ([] : List Vattr_Pair), (rd p0.Entries x6.1).Text⟩ : Vorder_Op), (SV.nil, sv669))]) (zs := [(.int .i64 0), (.int .i64 0), (.int .u8 0), (.bool false), (.int .u8 0), (SV.val SV.nil), (SV.val SV.nil)]) rfl rfl rfl rfl rfl rfl rfl rfl rfl rfl (fun s682 => ?_))
                  replace h := gsome h
                  obtain ⟨hg684, h⟩ := h
                  refine o1 rfl (o_app (s := i9.1) (r := s682) (e := en_Vorder_Op) (l := i9.2) (l2 := [((⟨0, 0, 0, false, 0, ([] : List Vattr_Pair), (rd p0.Entries x6.1).Text⟩ : Vorder_Op), (SV.nil, sv669))]) (zs := [(.int .i64 0), (.int .i64 0), (.int .u8 0), (.bool false), (.int .u8 0), (SV.val SV.nil), (SV.val SV.nil)]) rfl rfl rfl rfl rfl rfl rfl rfl rfl rfl rfl rm2 rm0 (rd_own _ _ _ _) (len2 (D := D_Vorder_Op i6.1) (D' := D_Vorder_Op i6.1) f9_0 (NL.cons (D := D_Vorder_Op i6.1) (x := (⟨0, 0, 0, false, 0, ([] : List Vattr_Pair), (rd p0.Entries x6.1).Text⟩ : Vorder_Op)) (s := (SV.nil, sv669)) ⟨(rd_nil _ _ _), hr670⟩ NL.nil) hg684) (fun s685 => ?_))
                  refine o1 rfl (o_p rfl ?_)
                  refine o_end ?_
                  have hd := Option.some.inj h
                  subst hd
                  exact ej () (s685, (i9.2 ++ [((⟨0, 0, 0, false, 0, ([] : List Vattr_Pair), (rd p0.Entries x6.1).Text⟩ : Vorder_Op), (SV.nil, sv669))])) (NL.app f9_0 (NL.cons (D := D_Vorder_Op i6.1) (x := (⟨0, 0, 0, false, 0, ([] : List Vattr_Pair), (rd p0.Entries x6.1).Text⟩ : Vorder_Op)) (s := (SV.nil, sv669)) ⟨(rd_nil _ _ _), hr670⟩ NL.nil)) (sc rfl (sc rfl (sc rfl (sc rfl (sc rfl (sc rfl sn)))))) (kc rm2 (kc rm0 (kc rm2 (kd (kd kr)))))
                · replace h := cond_f hb681 h
                  refine c_skip ?_
                  have hd := Option.some.inj h
                  subst hd
                  exact ej () (i9.1, i9.2) f9_0 (sc rfl (sc rfl (sc rfl (sc rfl (sc rfl (sc rfl sn)))))) (kc rm0 (kc rm0 (kc rm1 (kd kr))))
              · rintro _ i10 f10_0
                replace h := hk10
                clear hk10
                refine e_seq ?_
                refine c_seq ?_
                refine c_region ?_
                refine o1 rfl (o_p rfl ?_)
                refine o_fz rm1 rm0 (fun X688 hx689 hs690 => ?_)
                replace h := bsome h
                obtain ⟨d11, h11, h⟩ := h
                refine o1 rfl (o_call has61 rfl (c_order_Bytes X688 d10 i10.1 ⟨_, hs690, (NL.mono f10_0 (D_Vorder_Op.ext hx689))⟩ _ h11) (pc rm0 pn) (fun i11 => ?_))
                refine o1 rfl (o_p rfl ?_)
                refine o1 rfl (o_p rfl ?_)
                refine o1 rfl (o_p rfl ?_)
                refine o1 rfl (o_p rfl ?_)
                refine o1 rfl (o_p rfl ?_)
                refine o_end ?_
                refine e_seq ?_
                refine c_seq ?_
                refine c_seq ?_
                refine c_region ?_
                refine o1 rfl (o_p rfl ?_)
                refine o1 rfl (o_p (v := (.bool (d11.2 != 0))) rfl ?_)
                refine o_end ?_
                refine e_seq ?_
                refine c_cond (b := (d11.2 != 0)) rfl (fun hb692 => ?_) (fun hb692 => ?_)
                · replace h := cond_t hb692 h
                  refine c_seq ?_
                  refine c_region ?_
                  refine o1 rfl (o_p rfl ?_)
                  refine o1 rfl (o_p rfl ?_)
                  refine o1 rfl (o_p rfl ?_)
                  refine o_end ?_
                  refine e_seq ?_
                  refine c_ret ?_
                  refine e_then_ret ?_
                  refine e_blk_ret ?_
                  refine e_then_ret ?_
                  refine e_then_ret ?_
                  refine e_blk_ret ?_
                  refine ej_ret ?_
                  replace h := esc_some h
                  obtain ⟨z5, h, rfl⟩ := h
                  obtain rfl := (hk5 : z5 = _)
                  refine e_then_ret ?_
                  refine e_ret ?_
                  refine r_add (slO SV.nil 5 (enI .u8) []) (slO_nil _ _ _) ?_
                  refine r_endt rfl rfl (kc rm1 (kc rm0 (kd (kd kr)))) ?_
                  have hr := Option.some.inj h
                  subst hr
                  exact hk (X688, SV.nil) (Ext.trans f6_1 hx689)
                · replace h := cond_f hb692 h
                  refine c_skip ?_
                  refine e_seq ?_
                  refine c_region ?_
                  refine o1 rfl (o_p rfl ?_)
                  refine o1 rfl (o_p rfl ?_)
                  replace h := gsome h
                  obtain ⟨hg693, h⟩ := h
                  refine o1 rfl (o_app (s := i6.2) (r := i11) (e := (enI .u8)) (l := x6.2) (l2 := d11.1) (zs := [(.int .u8 0)]) rfl rfl rfl rfl rfl rfl rfl rfl rfl rfl rfl rm2 rm1 (rd_own _ _ _ _) hg693 (fun s694 => ?_))
                  refine o1 rfl (o_p rfl ?_)
                  refine o_end ?_
                  refine e_blk ?_
                  refine e_seq ?_
                  refine c_region ?_
                  refine o1 rfl (o_p (v := (.int .i64 (w64 (x6.1 + 1)))) rfl ?_)
                  refine o1 rfl (o_p rfl ?_)
                  refine o_end ?_
                  exact e_loop (l_sub (sc rfl (sc rfl (sc rfl (sc rfl (sc rfl sn))))) (l_keep (kc rm1 (kc rm0 (kd kr))) (ih6 (w64 (x6.1 + 1), (x6.2 ++ d11.1)) (X688, s694) ⟨⟨_, (Rd.ext f6_0 hx689), (NL.mono n_f6_0 (D_Ventry_Entry.ext hx689))⟩, (Ext.trans f6_1 hx689)⟩ h)))
          · replace h := cond_f hb667 h
            refine c_exit ?_
            refine e_then_exit ?_
            refine e_then_exit ?_
            refine e_blk_exit ?_
            have hd := Option.some.inj h
            subst hd
            exact ej x6.2 (i6.1, i6.2) ⟨rfl, f6_1⟩ (sc rfl sn) (kc rm0 (kc rm0 kr))
        · rintro d5 i5 ⟨rfl, f5_0⟩
          replace h := JK_inl hk5
          clear hk5
          refine e_seq ?_
          refine c_seq ?_
          refine c_region ?_
          refine o1 rfl (o_p rfl ?_)
          refine o1 rfl (o_p rfl ?_)
          refine o1 rfl (o_p rfl ?_)
          refine o_end ?_
          refine e_seq ?_
          refine c_ret ?_
          refine e_ret ?_
          refine r_endt rfl rfl (kc rm0 (kc rm0 kr)) ?_
          have hr := Option.some.inj h
          subst hr
          exact hk (i5.1, i5.2) f5_0

theorem has30 : HasBody env.P 30 := ⟨_, Try.func30, rfl, rfl⟩
theorem c_vitrinelaw20_back {g : Gw} (X : HP) (p0 : Ventry_Report) (s0 : SV) (q0r : RdN X s0 109 en_Ventry_Entry D_Ventry_Entry p0.Entries) (r : Vvitrineref20_Report) (h : m_vitrinelaw20_back p0 = some r) : Tri env g 30 (List.toArray [(.agg (List.toArray [(.int .u8 p0.AID), (.bool p0.Short), (.int .i64 p0.Cursor), (SV.val s0)]))]) [X] (fun K R => ∀ (i0 : SV × (List (Vvitrineref20_Entry × SV))), (NL (D_Vvitrineref20_Entry X) i0.2 r.Entries) → K (.agg (List.toArray [(.int .u8 r.AID), (.bool r.Short), (.int .i64 r.Cursor), (SV.val i0.1)])) (X :: slO i0.1 60 en_Vvitrineref20_Entry i0.2 :: R)) := by
  refine tri_of (fn := Try.f30) (N := 28) Try.func30 rfl rfl rfl ?_
  intro R K hk
  obtain ⟨L_q0, q0, n_q0⟩ := q0r
  unfold m_vitrinelaw20_back at h
  change GC _ none _ [] [(0, (.agg (List.toArray [(.int .u8 p0.AID), (.bool p0.Short), (.int .i64 p0.Cursor), (SV.val s0)])))] (X :: R) g _ _
  refine c_seq ?_
  refine c_region ?_
  refine o1 rfl (o_box (cs := [(.int .u8 p0.AID), (.bool p0.Short), (.int .i64 p0.Cursor), (SV.val s0)]) rfl rfl (fun b715 => ?_))
  refine o1 rfl (o_alloc (cs := [(.int .u8 0), (.bool false), (.int .i64 0), (SV.val SV.nil)]) rfl rfl (fun b717 => ?_))
  refine o_end ?_
  refine e_seq ?_
  refine c_seq ?_
  refine c_region ?_
  refine o1 rfl (o_fa (fd := ⟨ "AID", 5, 0, false, "", "", 0⟩) rfl rfl rfl rfl rfl ?_)
  refine o1 rfl (o_ld (b := b715) (off := 0) (v := (.int .u8 p0.AID)) rfl rm1 rfl rfl ?_)
  refine o1 rfl (o_fa (fd := ⟨ "Short", 4, 1, false, "", "", 1⟩) rfl rfl rfl rfl rfl ?_)
  refine o1 rfl (o_ld (b := b715) (off := 1) (v := (.bool p0.Short)) rfl rm1 rfl rfl ?_)
  refine o1 rfl (o_fa (fd := ⟨ "Cursor", 3, 2, false, "", "", 8⟩) rfl rfl rfl rfl rfl ?_)
  refine o1 rfl (o_ld (b := b715) (off := 2) (v := (.int .i64 p0.Cursor)) rfl rm1 rfl rfl ?_)
  refine o1 rfl (o_build (fs := [⟨ "AID", 5, 0, false, "", "", 0⟩, ⟨ "Short", 4, 1, false, "", "", 1⟩, ⟨ "Cursor", 3, 2, false, "", "", 8⟩, ⟨ "Entries", 56, 3, false, "", "", 16⟩]) (ps := [(0, 1), (1, 1), (2, 1), (3, 1)]) (cs := [(.int .u8 p0.AID), (.bool p0.Short), (.int .i64 p0.Cursor), (SV.val SV.nil)]) rfl rfl rfl rfl rfl ?_)
  refine o1 rfl (o_alloc (cs := [(.int .u8 0), (.bool false), (.int .i64 0), (SV.val SV.nil)]) rfl rfl (fun b719 => ?_))
  refine o0 (o_st (b := b719) (off := 0) (vs := [(.int .u8 p0.AID), (.bool p0.Short), (.int .i64 p0.Cursor), (SV.val SV.nil)]) (cs' := [(.int .u8 p0.AID), (.bool p0.Short), (.int .i64 p0.Cursor), (SV.val SV.nil)]) rfl rfl rp0 rfl rfl rfl rfl rfl rfl ?_)
  refine o_end ?_
  refine e_seq ?_
  refine c_seq ?_
  refine c_seq ?_
  refine c_region ?_
  refine o1 rfl (o_fa (fd := ⟨ "Entries", 63, 3, false, "", "", 16⟩) rfl rfl rfl rfl rfl ?_)
  refine o1 rfl (o_ld (b := b715) (off := 3) (v := (SV.val s0)) rfl rm2 rfl rfl ?_)
  refine o1 rfl (o_lenN (s := s0) rfl rfl rfl rm3 q0 n_q0 ?_)
  refine o1 rfl (o_p rfl ?_)
  refine o_end ?_
  refine e_seq ?_
  replace h := bsome h
  obtain ⟨d1, h, hk1⟩ := h
  refine cj (D := Unit) (ι := SV × (List (Vvitrineref20_Entry × SV))) (fun _ i1 => NL (D_Vvitrineref20_Entry X) i1.2 d1) (fun _ i1 => [(3, (.pointer (some ⟨b719, 0, none⟩))), (2, (.pointer (some ⟨b717, 0, none⟩)))]) (fun _ i1 => X :: blk b719 (.cells (List.toArray [(.int .u8 p0.AID), (.bool p0.Short), (.int .i64 p0.Cursor), (SV.val i1.1)]) 58 (0, 0)) :: blk b717 (.cells (List.toArray [(.int .u8 0), (.bool false), (.int .i64 0), (SV.val SV.nil)]) 58 (0, 0)) :: slO i1.1 60 en_Vvitrineref20_Entry i1.2 :: R) ?_ ?_
  · refine c_block ?_
    refine c_add (slO SV.nil 60 en_Vvitrineref20_Entry []) (slO_nil _ _ _) ?_
    refine c_loop (l_sub (sc rfl (sc rfl (sc rfl (sc rfl (sc rfl sn))))) (l_keep (kc rm4 (kc rm1 (kc rm1 (kc rm0 (kd kr))))) (lf (X := Int × (List Vvitrineref20_Entry)) (ι := SV × (List (Vvitrineref20_Entry × SV))) (fun k x => vitrinelaw20_back_l2 p0 k x) _ (fun x2 i2 => NL (D_Vvitrineref20_Entry X) i2.2 x2.2) (fun x2 i2 => [(16, (.int .i64 x2.1)), (15, (.int .i64 (p0.Entries.length : Int))), (14, (SV.val s0)), (3, (.pointer (some ⟨b719, 0, none⟩))), (2, (.pointer (some ⟨b717, 0, none⟩)))]) (fun x2 i2 => X :: blk b719 (.cells (List.toArray [(.int .u8 p0.AID), (.bool p0.Short), (.int .i64 p0.Cursor), (SV.val i2.1)]) 58 (0, 0)) :: blk b717 (.cells (List.toArray [(.int .u8 0), (.bool false), (.int .i64 0), (SV.val SV.nil)]) 58 (0, 0)) :: slO i2.1 60 en_Vvitrineref20_Entry i2.2 :: R) (fun _ => rfl) ?_ fuel (0, ([] : List Vvitrineref20_Entry)) (SV.nil, []) NL.nil h)))
    clear h
    rintro k2 ih2 x2 i2 f2_0 h
    rw [vitrinelaw20_back_l2.eq_2] at h
    refine l_round ?_
    refine c_seq ?_
    refine c_region ?_
    refine o1 rfl (o_p (v := (.bool (decide (x2.1 < (p0.Entries.length : Int))))) rfl ?_)
    refine o_end ?_
    refine e_seq ?_
    refine c_seq ?_
    refine c_cond (b := (decide (x2.1 < (p0.Entries.length : Int)))) rfl (fun hb746 => ?_) (fun hb746 => ?_)
    · replace h := cond_t hb746 h
      refine c_skip ?_
      refine e_seq ?_
      refine c_seq ?_
      refine c_block ?_
      refine c_seq ?_
      refine c_region ?_
      replace h := gsome h
      obtain ⟨hg747, h⟩ := h
      refine o1 rfl (o_ix (s := s0) (n := x2.1) (e := en_Ventry_Entry) rfl rfl rfl rfl rfl rfl rm0 q0 (NL.lt n_q0 hg747) ?_)
      obtain ⟨sv748, he_sv748, hd_sv748⟩ := NL.rd n_q0 hg747
      have hr749 : Rd X sv748 5 (enI .u8) ((rd p0.Entries x2.1).Text) := hd_sv748
      refine o1 rfl (o_ldE (s := s0) (e := en_Ventry_Entry) (n := x2.1) (f := 0) (v := (.agg (List.toArray [(.int .i64 ((rd p0.Entries x2.1).Addr)), (SV.val sv748)]))) rfl rm0 q0 (NL.lt n_q0 hg747) rfl (by rw [he_sv748]; rfl) ?_)
      refine o1 rfl (o_alloc (cs := [(.int .i64 0), (SV.val SV.nil)]) rfl rfl (fun b750 => ?_))
      refine o0 (o_st (b := b750) (off := 0) (vs := [(.int .i64 ((rd p0.Entries x2.1).Addr)), (SV.val sv748)]) (cs' := [(.int .i64 ((rd p0.Entries x2.1).Addr)), (SV.val sv748)]) rfl rfl rp0 rfl rfl rfl rfl rfl rfl ?_)
      refine o_end ?_
      refine e_seq ?_
      refine c_region ?_
      refine o1 rfl (o_fa (fd := ⟨ "Entries", 56, 3, false, "", "", 16⟩) rfl rfl rfl rfl rfl ?_)
      refine o1 rfl (o_ld (b := b719) (off := 3) (v := (SV.val i2.1)) rfl rm2 rfl rfl ?_)
      refine o1 rfl (o_ld (b := b750) (off := 0) (v := (.agg (List.toArray [(.int .i64 ((rd p0.Entries x2.1).Addr)), (SV.val sv748)]))) rfl rm0 rfl rfl ?_)
      refine o1 rfl (o_bs (e := en_Vvitrineref20_Entry) (l := [((⟨(rd p0.Entries x2.1).Addr, (rd p0.Entries x2.1).Text⟩ : Vvitrineref20_Entry), sv748)]) (zs := [(.int .i64 0), (SV.val SV.nil)]) rfl rfl rfl rfl rfl rfl rfl rfl rfl rfl (fun s752 => ?_))
      replace h := gsome h
      obtain ⟨hg754, h⟩ := h
      refine o1 rfl (o_app (s := i2.1) (r := s752) (e := en_Vvitrineref20_Entry) (l := i2.2) (l2 := [((⟨(rd p0.Entries x2.1).Addr, (rd p0.Entries x2.1).Text⟩ : Vvitrineref20_Entry), sv748)]) (zs := [(.int .i64 0), (SV.val SV.nil)]) rfl rfl rfl rfl rfl rfl rfl rfl rfl rfl rfl rm5 rm0 (rd_own _ _ _ _) (len2 (D := D_Vvitrineref20_Entry X) (D' := D_Vvitrineref20_Entry X) f2_0 (NL.cons (D := D_Vvitrineref20_Entry X) (x := (⟨(rd p0.Entries x2.1).Addr, (rd p0.Entries x2.1).Text⟩ : Vvitrineref20_Entry)) (s := sv748) hr749 NL.nil) hg754) (fun s755 => ?_))
      refine o1 rfl (o_fa (fd := ⟨ "Entries", 56, 3, false, "", "", 16⟩) rfl rfl rfl rfl rfl ?_)
      refine o0 (o_st (b := b719) (off := 3) (vs := [(SV.val s755)]) (cs' := [(.int .u8 p0.AID), (.bool p0.Short), (.int .i64 p0.Cursor), (SV.val s755)]) rfl rfl rp4 rfl rfl rfl rfl rfl rfl ?_)
      refine o_end ?_
      refine e_blk ?_
      refine e_seq ?_
      refine c_region ?_
      refine o1 rfl (o_p (v := (.int .i64 (w64 (x2.1 + 1)))) rfl ?_)
      refine o1 rfl (o_p rfl ?_)
      refine o_end ?_
      exact e_loop (l_sub (sc rfl (sc rfl (sc rfl (sc rfl (sc rfl sn))))) (l_keep (kc rm3 (kc rm3 (kc rm3 (kc rm0 (kd (kd kr)))))) (ih2 (w64 (x2.1 + 1), (x2.2 ++ [(⟨(rd p0.Entries x2.1).Addr, (rd p0.Entries x2.1).Text⟩ : Vvitrineref20_Entry)])) (s755, (i2.2 ++ [((⟨(rd p0.Entries x2.1).Addr, (rd p0.Entries x2.1).Text⟩ : Vvitrineref20_Entry), sv748)])) (NL.app f2_0 (NL.cons (D := D_Vvitrineref20_Entry X) (x := (⟨(rd p0.Entries x2.1).Addr, (rd p0.Entries x2.1).Text⟩ : Vvitrineref20_Entry)) (s := sv748) hr749 NL.nil)) h)))
    · replace h := cond_f hb746 h
      refine c_exit ?_
      refine e_then_exit ?_
      refine e_then_exit ?_
      refine e_blk_exit ?_
      have hd := Option.some.inj h
      subst hd
      exact ej () (i2.1, i2.2) f2_0 (sc rfl (sc rfl sn)) (kc rm0 (kc rm0 (kc rm0 (kc rm0 kr))))
  · rintro _ i1 f1_0
    replace h := hk1
    clear hk1
    refine e_seq ?_
    refine c_seq ?_
    refine c_region ?_
    refine o1 rfl (o_ld (b := b719) (off := 0) (v := (.agg (List.toArray [(.int .u8 p0.AID), (.bool p0.Short), (.int .i64 p0.Cursor), (SV.val i1.1)]))) rfl rm1 rfl rfl ?_)
    refine o0 (o_st (b := b717) (off := 0) (vs := [(.int .u8 p0.AID), (.bool p0.Short), (.int .i64 p0.Cursor), (SV.val i1.1)]) (cs' := [(.int .u8 p0.AID), (.bool p0.Short), (.int .i64 p0.Cursor), (SV.val i1.1)]) rfl rfl rp2 rfl rfl rfl rfl rfl rfl ?_)
    refine o_end ?_
    refine e_seq ?_
    refine c_ret ?_
    refine e_ret ?_
    refine r_endc (B := [[(.int .u8 p0.AID), (.bool p0.Short), (.int .i64 p0.Cursor), (SV.val i1.1)]]) rfl ⟨⟨_, _, _, _, rfl, rm2⟩, trivial⟩ rfl (kc rm0 (kc rm2 (kd (kd kr)))) ?_
    have hr := Option.some.inj h
    subst hr
    exact hk (i1.1, i1.2) f1_0

theorem has20 : HasBody env.P 20 := ⟨_, Try.func20, rfl, rfl⟩
theorem c_vitrineref01_Same {g : Gw} (X : HP) (p0 : List Int) (s0 : SV) (q0 : Rd X s0 5 (enI .u8) p0) (p1 : List Int) (s1 : SV) (q1 : Rd X s1 5 (enI .u8) p1) (r : Bool) (h : m_vitrineref01_Same p0 p1 = some r) : Tri env g 20 (List.toArray [(SV.val s0), (SV.val s1)]) [X] (fun K R => K (.bool r) (X :: R)) := by
  refine tri_of (fn := Try.f20) (N := 10) Try.func20 rfl rfl rfl ?_
  intro R K hk
  unfold m_vitrineref01_Same at h
  change GC _ none _ [] [(0, (SV.val s0)), (1, (SV.val s1))] (X :: R) g _ _
  refine c_seq ?_
  refine c_region ?_
  refine o1 rfl (o_p rfl ?_)
  refine o_end ?_
  refine e_seq ?_
  refine c_seq ?_
  refine c_region ?_
  refine o1 rfl (o_p rfl ?_)
  refine o1 rfl (o_b2s (s := s0) rfl rfl rfl rfl rfl rfl rfl rm0 q0 ?_)
  refine o1 rfl (o_p rfl ?_)
  refine o1 rfl (o_b2s (s := s1) rfl rfl rfl rfl rfl rfl rfl rm0 q1 ?_)
  refine o1 rfl (o_p (v := (.bool ((bstr p0).data.toList == (bstr p1).data.toList))) rfl ?_)
  refine o1 rfl (o_p rfl ?_)
  refine o_end ?_
  refine e_seq ?_
  refine c_ret ?_
  refine e_ret ?_
  refine r_endt rfl rfl (kc rm0 kr) ?_
  have hr := Option.some.inj h
  subst hr
  exact hk

theorem has29 : HasBody env.P 29 := ⟨_, Try.func29, rfl, rfl⟩
theorem c_vitrineref20_Same {g : Gw} (X : HP) (p0 : Vvitrineref20_Report) (s0 : SV) (L0 : List (Vvitrineref20_Entry × SV)) (q0 : NL (D_Vvitrineref20_Entry X) L0 p0.Entries) (p1 : Vvitrineref20_Report) (s1 : SV) (L1 : List (Vvitrineref20_Entry × SV)) (q1 : NL (D_Vvitrineref20_Entry X) L1 p1.Entries) (r : Bool) (h : m_vitrineref20_Same p0 p1 = some r) : Tri env g 29 (List.toArray [(.agg (List.toArray [(.int .u8 p0.AID), (.bool p0.Short), (.int .i64 p0.Cursor), (SV.val s0)])), (.agg (List.toArray [(.int .u8 p1.AID), (.bool p1.Short), (.int .i64 p1.Cursor), (SV.val s1)]))]) [X, slO s0 60 en_Vvitrineref20_Entry L0, slO s1 60 en_Vvitrineref20_Entry L1] (fun K R => K (.bool r) (X :: R)) := by
  refine tri_of (fn := Try.f29) (N := 70) Try.func29 rfl rfl rfl ?_
  intro R K hk
  unfold m_vitrineref20_Same at h
  change GC _ none _ [] [(0, (.agg (List.toArray [(.int .u8 p0.AID), (.bool p0.Short), (.int .i64 p0.Cursor), (SV.val s0)]))), (1, (.agg (List.toArray [(.int .u8 p1.AID), (.bool p1.Short), (.int .i64 p1.Cursor), (SV.val s1)])))] (X :: slO s0 60 en_Vvitrineref20_Entry L0 :: slO s1 60 en_Vvitrineref20_Entry L1 :: R) g _ _
  refine c_seq ?_
  refine c_region ?_
  refine o1 rfl (o_box (cs := [(.int .u8 p0.AID), (.bool p0.Short), (.int .i64 p0.Cursor), (SV.val s0)]) rfl rfl (fun b763 => ?_))
  refine o1 rfl (o_box (cs := [(.int .u8 p1.AID), (.bool p1.Short), (.int .i64 p1.Cursor), (SV.val s1)]) rfl rfl (fun b765 => ?_))
  refine o1 rfl (o_p rfl ?_)
  refine o_end ?_
  refine e_seq ?_
  refine c_seq ?_
  refine c_seq ?_
  replace h := bsome h
  obtain ⟨d1, h, hk1⟩ := h
  refine cj (D := Unit) (ι := Unit) (fun _ i1 => True) (fun _ i1 => [(33, (.bool d1)), (3, (.pointer (some ⟨b765, 0, none⟩))), (2, (.pointer (some ⟨b763, 0, none⟩)))]) (fun _ i1 => X :: blk b765 (.cells (List.toArray [(.int .u8 p1.AID), (.bool p1.Short), (.int .i64 p1.Cursor), (SV.val s1)]) 58 (0, 0)) :: blk b763 (.cells (List.toArray [(.int .u8 p0.AID), (.bool p0.Short), (.int .i64 p0.Cursor), (SV.val s0)]) 58 (0, 0)) :: slO s1 60 en_Vvitrineref20_Entry L1 :: slO s0 60 en_Vvitrineref20_Entry L0 :: R) ?_ ?_
  · refine c_region ?_
    refine o1 rfl (o_fa (fd := ⟨ "AID", 5, 0, false, "", "", 0⟩) rfl rfl rfl rfl rfl ?_)
    refine o1 rfl (o_ld (b := b763) (off := 0) (v := (.int .u8 p0.AID)) rfl rm1 rfl rfl ?_)
    refine o1 rfl (o_fa (fd := ⟨ "AID", 5, 0, false, "", "", 0⟩) rfl rfl rfl rfl rfl ?_)
    refine o1 rfl (o_ld (b := b765) (off := 0) (v := (.int .u8 p1.AID)) rfl rm0 rfl rfl ?_)
    refine o1 rfl (o_p (v := (.bool (p0.AID != p1.AID))) rfl ?_)
    refine o1 rfl (o_p rfl ?_)
    rcases bool_or ((p0.AID != p1.AID)) with hb767 | hb767
    · replace h := cond_t hb767 h
      refine on rfl rfl rfl hb767 ?_
      refine on rfl rfl rfl hb767 ?_
      refine on rfl rfl rfl hb767 ?_
      refine on rfl rfl rfl hb767 ?_
      refine on rfl rfl rfl hb767 ?_
      refine o1 rfl (o_pick_t rfl hb767 rfl ?_)
      refine o1 rfl (o_p rfl ?_)
      refine on rfl rfl rfl rfl ?_
      refine on rfl rfl rfl rfl ?_
      refine on rfl rfl rfl rfl ?_
      refine on rfl rfl rfl rfl ?_
      refine on rfl rfl rfl rfl ?_
      refine o1 rfl (o_pick_t rfl rfl rfl ?_)
      refine o1 rfl (o_p rfl ?_)
      refine on rfl rfl rfl rfl ?_
      refine on rfl rfl rfl rfl ?_
      refine on rfl rfl rfl rfl ?_
      refine on rfl rfl rfl rfl ?_
      refine on rfl rfl rfl rfl ?_
      refine on rfl rfl rfl rfl ?_
      refine on rfl rfl rfl rfl ?_
      refine o1 rfl (o_pick_t rfl rfl rfl ?_)
      refine o_end ?_
      have hd := Option.some.inj h
      subst hd
      exact ej () () trivial (sc rfl (sc rfl (sc rfl sn))) (kc rm2 (kc rm0 (kc rm0 (kc rm1 (kc rm0 kr)))))
    · replace h := cond_f hb767 h
      refine oy rfl rfl rfl hb767 (o_fa (fd := ⟨ "Short", 4, 1, false, "", "", 1⟩) rfl rfl rfl rfl rfl ?_)
      refine oy rfl rfl rfl hb767 (o_ld (b := b763) (off := 1) (v := (.bool p0.Short)) rfl rm1 rfl rfl ?_)
      refine oy rfl rfl rfl hb767 (o_fa (fd := ⟨ "Short", 4, 1, false, "", "", 1⟩) rfl rfl rfl rfl rfl ?_)
      refine oy rfl rfl rfl hb767 (o_ld (b := b765) (off := 1) (v := (.bool p1.Short)) rfl rm0 rfl rfl ?_)
      refine oy rfl rfl rfl hb767 (o_p (v := (.bool (!(p0.Short == p1.Short)))) rfl ?_)
      refine o1 rfl (o_pick_f rfl hb767 rfl ?_)
      refine o1 rfl (o_p rfl ?_)
      rcases bool_or ((!(p0.Short == p1.Short))) with hb768 | hb768
      · replace h := cond_t hb768 h
        refine on rfl rfl rfl hb768 ?_
        refine on rfl rfl rfl hb768 ?_
        refine on rfl rfl rfl hb768 ?_
        refine on rfl rfl rfl hb768 ?_
        refine on rfl rfl rfl hb768 ?_
        refine o1 rfl (o_pick_t rfl hb768 rfl ?_)
        refine o1 rfl (o_p rfl ?_)
        refine on rfl rfl rfl rfl ?_
        refine on rfl rfl rfl rfl ?_
        refine on rfl rfl rfl rfl ?_
        refine on rfl rfl rfl rfl ?_
        refine on rfl rfl rfl rfl ?_
        refine on rfl rfl rfl rfl ?_
        refine on rfl rfl rfl rfl ?_
        refine o1 rfl (o_pick_t rfl rfl rfl ?_)
        refine o_end ?_
        have hd := Option.some.inj h
        subst hd
        exact ej () () trivial (sc rfl (sc rfl (sc rfl sn))) (kc rm2 (kc rm0 (kc rm0 (kc rm1 (kc rm0 kr)))))
      · replace h := cond_f hb768 h
        refine oy rfl rfl rfl hb768 (o_fa (fd := ⟨ "Cursor", 3, 2, false, "", "", 8⟩) rfl rfl rfl rfl rfl ?_)
        refine oy rfl rfl rfl hb768 (o_ld (b := b763) (off := 2) (v := (.int .i64 p0.Cursor)) rfl rm1 rfl rfl ?_)
        refine oy rfl rfl rfl hb768 (o_fa (fd := ⟨ "Cursor", 3, 2, false, "", "", 8⟩) rfl rfl rfl rfl rfl ?_)
        refine oy rfl rfl rfl hb768 (o_ld (b := b765) (off := 2) (v := (.int .i64 p1.Cursor)) rfl rm0 rfl rfl ?_)
        refine oy rfl rfl rfl hb768 (o_p (v := (.bool (p0.Cursor != p1.Cursor))) rfl ?_)
        refine o1 rfl (o_pick_f rfl hb768 rfl ?_)
        refine o1 rfl (o_p rfl ?_)
        rcases bool_or ((p0.Cursor != p1.Cursor)) with hb769 | hb769
        · replace h := cond_t hb769 h
          refine on rfl rfl rfl hb769 ?_
          refine on rfl rfl rfl hb769 ?_
          refine on rfl rfl rfl hb769 ?_
          refine on rfl rfl rfl hb769 ?_
          refine on rfl rfl rfl hb769 ?_
          refine on rfl rfl rfl hb769 ?_
          refine on rfl rfl rfl hb769 ?_
          refine o1 rfl (o_pick_t rfl hb769 rfl ?_)
          refine o_end ?_
          have hd := Option.some.inj h
          subst hd
          exact ej () () trivial (sc rfl (sc rfl (sc rfl sn))) (kc rm2 (kc rm0 (kc rm0 (kc rm1 (kc rm0 kr)))))
        · replace h := cond_f hb769 h
          refine oy rfl rfl rfl hb769 (o_fa (fd := ⟨ "Entries", 56, 3, false, "", "", 16⟩) rfl rfl rfl rfl rfl ?_)
          refine oy rfl rfl rfl hb769 (o_ld (b := b763) (off := 3) (v := (SV.val s0)) rfl rm1 rfl rfl ?_)
          refine oy rfl rfl rfl hb769 (o_lenN (s := s0) rfl rfl rfl rm3 (rd_own _ _ _ _) q0 ?_)
          refine oy rfl rfl rfl hb769 (o_fa (fd := ⟨ "Entries", 56, 3, false, "", "", 16⟩) rfl rfl rfl rfl rfl ?_)
          refine oy rfl rfl rfl hb769 (o_ld (b := b765) (off := 3) (v := (SV.val s1)) rfl rm0 rfl rfl ?_)
          refine oy rfl rfl rfl hb769 (o_lenN (s := s1) rfl rfl rfl rm4 (rd_own _ _ _ _) q1 ?_)
          refine oy rfl rfl rfl hb769 (o_p (v := (.bool ((p0.Entries.length : Int) != (p1.Entries.length : Int)))) rfl ?_)
          refine o1 rfl (o_pick_f rfl hb769 rfl ?_)
          refine o_end ?_
          have hd := Option.some.inj h
          subst hd
          exact ej () () trivial (sc rfl (sc rfl (sc rfl sn))) (kc rm2 (kc rm0 (kc rm0 (kc rm1 (kc rm0 kr)))))
  · rintro _ i1 _
    replace h := hk1
    clear hk1
    refine e_seq ?_
    refine c_cond (b := d1) rfl (fun hb770 => ?_) (fun hb770 => ?_)
    · replace h := cond_t hb770 h
      refine c_seq ?_
      refine c_region ?_
      refine o1 rfl (o_p rfl ?_)
      refine o_end ?_
      refine e_seq ?_
      refine c_ret ?_
      refine e_then_ret ?_
      refine e_ret ?_
      refine r_endt rfl rfl (kc rm0 (kd (kd (kd (kd kr))))) ?_
      have hr := Option.some.inj h
      subst hr
      exact hk
    · replace h := cond_f hb770 h
      refine c_skip ?_
      refine e_seq ?_
      refine c_seq ?_
      refine c_seq ?_
      refine c_region ?_
      refine o1 rfl (o_fa (fd := ⟨ "Entries", 56, 3, false, "", "", 16⟩) rfl rfl rfl rfl rfl ?_)
      refine o1 rfl (o_ld (b := b763) (off := 3) (v := (SV.val s0)) rfl rm2 rfl rfl ?_)
      refine o1 rfl (o_lenN (s := s0) rfl rfl rfl rm4 (rd_own _ _ _ _) q0 ?_)
      refine o1 rfl (o_p rfl ?_)
      refine o_end ?_
      refine e_seq ?_
      replace h := jn_some h
      obtain ⟨y3, h, hk3⟩ := h
      refine cj (D := Unit) (ι := Unit) (fun d3 i3 => y3 = Sum.inl d3) (fun d3 i3 => []) (fun d3 i3 => X :: R) ?_ ?_
      · refine c_block ?_
        refine c_loop (l_sub (sc rfl (sc rfl (sc rfl (sc rfl sn)))) (l_keep (kc rm0 (kc rm0 (kc rm0 (kc rm0 (kc rm0 kr))))) (lf (X := Int) (ι := Unit) (fun k x => vitrineref20_Same_l4 p0 p1 k x) _ (fun x4 i4 => True) (fun x4 i4 => [(37, (.int .i64 x4)), (36, (.int .i64 (p0.Entries.length : Int))), (3, (.pointer (some ⟨b765, 0, none⟩))), (2, (.pointer (some ⟨b763, 0, none⟩)))]) (fun x4 i4 => X :: blk b765 (.cells (List.toArray [(.int .u8 p1.AID), (.bool p1.Short), (.int .i64 p1.Cursor), (SV.val s1)]) 58 (0, 0)) :: blk b763 (.cells (List.toArray [(.int .u8 p0.AID), (.bool p0.Short), (.int .i64 p0.Cursor), (SV.val s0)]) 58 (0, 0)) :: slO s1 60 en_Vvitrineref20_Entry L1 :: slO s0 60 en_Vvitrineref20_Entry L0 :: R) (fun _ => rfl) ?_ fuel 0 () trivial h)))
        clear h
        rintro k4 ih4 x4 i4 _ h
        rw [vitrineref20_Same_l4.eq_2] at h
        refine l_round ?_
        refine c_seq ?_
        refine c_region ?_
        refine o1 rfl (o_p (v := (.bool (decide (x4 < (p0.Entries.length : Int))))) rfl ?_)
        refine o_end ?_
        refine e_seq ?_
        refine c_seq ?_
        refine c_cond (b := (decide (x4 < (p0.Entries.length : Int)))) rfl (fun hb801 => ?_) (fun hb801 => ?_)
        · replace h := cond_t hb801 h
          refine c_skip ?_
          refine e_seq ?_
          refine c_seq ?_
          refine c_block ?_
          refine c_seq ?_
          refine c_region ?_
          refine o1 rfl (o_p rfl ?_)
          refine o1 rfl (o_p rfl ?_)
          refine o_end ?_
          refine e_seq ?_
          refine c_seq ?_
          replace h := bsome h
          obtain ⟨d7, h, hk7⟩ := h
          refine cj (D := Unit) (ι := Unit) (fun _ i7 => True) (fun _ i7 => [(68, (.bool d7)), (37, (.int .i64 x4)), (36, (.int .i64 (p0.Entries.length : Int))), (3, (.pointer (some ⟨b765, 0, none⟩))), (2, (.pointer (some ⟨b763, 0, none⟩)))]) (fun _ i7 => X :: blk b765 (.cells (List.toArray [(.int .u8 p1.AID), (.bool p1.Short), (.int .i64 p1.Cursor), (SV.val s1)]) 58 (0, 0)) :: blk b763 (.cells (List.toArray [(.int .u8 p0.AID), (.bool p0.Short), (.int .i64 p0.Cursor), (SV.val s0)]) 58 (0, 0)) :: slO s1 60 en_Vvitrineref20_Entry L1 :: slO s0 60 en_Vvitrineref20_Entry L0 :: R) ?_ ?_
          · replace h := gsome h
            obtain ⟨hg802, h⟩ := h
            obtain ⟨sv803, he_sv803, hd_sv803⟩ := NL.rd q0 hg802
            have hr804 : Rd X sv803 5 (enI .u8) ((rd p0.Entries x4).Text) := hd_sv803
            replace h := gsome h
            obtain ⟨hg805, h⟩ := h
            obtain ⟨sv806, he_sv806, hd_sv806⟩ := NL.rd q1 hg805
            have hr807 : Rd X sv806 5 (enI .u8) ((rd p1.Entries x4).Text) := hd_sv806
            rcases bool_or ((((rd p0.Entries x4).Addr) != ((rd p1.Entries x4).Addr))) with hb808 | hb808
            · replace h := cond_t hb808 h
              refine c_draw (n := 1) (q := [(14, 54, undef), (15, 55, undef), (16, 56, undef), (17, 57, undef), (18, 58, undef), (19, 59, undef), (20, 60, undef), (21, 61, undef), (22, 62, undef), (23, 63, undef), (24, 64, undef), (25, 65, undef), (26, 66, undef), (27, 67, undef), (28, 68, (.bool true)), (0, 40, (.pointer (some ⟨b763, 3, none⟩))), (1, 41, (SV.val s0)), (2, 42, (.int .i64 x4)), (3, 43, (.pointer (some ⟨SV.blk s0, SV.off s0 + Int.toNat x4 * 2, none⟩))), (4, 44, (.pointer (some ⟨SV.blk s0, SV.off s0 + Int.toNat x4 * 2, none⟩))), (5, 45, (.int .i64 ((rd p0.Entries x4).Addr))), (6, 46, (.pointer (some ⟨b765, 3, none⟩))), (7, 47, (SV.val s1)), (8, 48, (.int .i64 x4)), (9, 49, (.pointer (some ⟨SV.blk s1, SV.off s1 + Int.toNat x4 * 2, none⟩))), (10, 50, (.pointer (some ⟨SV.blk s1, SV.off s1 + Int.toNat x4 * 2, none⟩))), (11, 51, (.int .i64 ((rd p1.Entries x4).Addr))), (12, 52, (.bool (((rd p0.Entries x4).Addr) != ((rd p1.Entries x4).Addr)))), (13, 53, (.bool (((rd p0.Entries x4).Addr) != ((rd p1.Entries x4).Addr))))]) (pend := [0, 1, 2, 3, 4, 5, 6, 7, 8, 9, 10, 11, 12, 13, 14, 15, 16, 17, 18, 19, 20, 21, 22, 23, 24, 25, 26, 27, 28]) rfl rfl rfl ?_
              refine ⟨⟨fun _ => ⟨rfl, rfl, rfl, .inr ⟨_, _, _, _, rfl, rfl, rfl, .inr ⟨hb808, rfl⟩⟩⟩, fun _ => ⟨rfl, rfl, rfl, .inr ⟨_, _, _, _, rfl, rfl, rfl, .inr ⟨hb808, rfl⟩⟩⟩, fun _ => ⟨rfl, rfl, rfl, .inr ⟨_, _, _, _, rfl, rfl, rfl, .inr ⟨hb808, rfl⟩⟩⟩, fun _ => ⟨rfl, rfl, rfl, .inr ⟨_, _, _, _, rfl, rfl, rfl, .inr ⟨hb808, rfl⟩⟩⟩, fun _ => ⟨rfl, rfl, rfl, .inr ⟨_, _, _, _, rfl, rfl, rfl, .inr ⟨hb808, rfl⟩⟩⟩, fun _ => ⟨rfl, rfl, rfl, .inr ⟨_, _, _, _, rfl, rfl, rfl, .inr ⟨hb808, rfl⟩⟩⟩, fun _ => ⟨rfl, rfl, rfl, .inr ⟨_, _, _, _, rfl, rfl, rfl, .inr ⟨hb808, rfl⟩⟩⟩, fun _ => ⟨rfl, rfl, rfl, .inr ⟨_, _, _, _, rfl, rfl, rfl, .inr ⟨hb808, rfl⟩⟩⟩, fun _ => ⟨rfl, rfl, rfl, .inr ⟨_, _, _, _, rfl, rfl, rfl, .inr ⟨hb808, rfl⟩⟩⟩, fun _ => ⟨rfl, rfl, rfl, .inr ⟨_, _, _, _, rfl, rfl, rfl, .inr ⟨hb808, rfl⟩⟩⟩, fun _ => ⟨rfl, rfl, rfl, .inr ⟨_, _, _, _, rfl, rfl, rfl, .inr ⟨hb808, rfl⟩⟩⟩, fun _ => ⟨rfl, rfl, rfl, .inr ⟨_, _, _, _, rfl, rfl, rfl, .inr ⟨hb808, rfl⟩⟩⟩, fun _ => ⟨rfl, rfl, rfl, .inr ⟨_, _, _, _, rfl, rfl, rfl, .inr ⟨hb808, rfl⟩⟩⟩, fun _ => ⟨rfl, rfl, rfl, .inr ⟨_, _, _, _, rfl, rfl, rfl, .inr ⟨hb808, rfl⟩⟩⟩, fun _ => ⟨rfl, rfl, rfl, .inl ⟨rfl, (o_pick_t rfl hb808 rfl ⟨rfl, rfl⟩)⟩⟩, fun _ => ⟨rfl, rfl, rfl, .inl ⟨rfl, (o_fa (fd := ⟨ "Entries", 56, 3, false, "", "", 16⟩) rfl rfl rfl rfl rfl ⟨rfl, rfl⟩)⟩⟩, fun _ => ⟨rfl, rfl, rfl, .inl ⟨rfl, (o_ld (b := b763) (off := 3) (v := (SV.val s0)) rfl rm2 rfl rfl ⟨rfl, rfl⟩)⟩⟩, fun _ => ⟨rfl, rfl, rfl, .inl ⟨rfl, (o_p rfl ⟨rfl, rfl⟩)⟩⟩, fun _ => ⟨rfl, rfl, rfl, .inl ⟨rfl, (o_ix (s := s0) (n := x4) (e := en_Vvitrineref20_Entry) rfl rfl rfl rfl rfl rfl rm4 (rd_own _ _ _ _) (NL.lt q0 hg802) ⟨rfl, rfl⟩)⟩⟩, fun _ => ⟨rfl, rfl, rfl, .inl ⟨rfl, (o_fa (fd := ⟨ "Addr", 3, 0, false, "", "", 0⟩) rfl rfl rfl rfl rfl ⟨rfl, rfl⟩)⟩⟩, fun _ => ⟨rfl, rfl, rfl, .inl ⟨rfl, (o_ldE (s := s0) (e := en_Vvitrineref20_Entry) (n := x4) (f := 0) (v := (.int .i64 ((rd p0.Entries x4).Addr))) rfl rm4 (rd_own _ _ _ _) (NL.lt q0 hg802) rfl (by rw [he_sv803]; rfl) ⟨rfl, rfl⟩)⟩⟩, fun _ => ⟨rfl, rfl, rfl, .inl ⟨rfl, (o_fa (fd := ⟨ "Entries", 56, 3, false, "", "", 16⟩) rfl rfl rfl rfl rfl ⟨rfl, rfl⟩)⟩⟩, fun _ => ⟨rfl, rfl, rfl, .inl ⟨rfl, (o_ld (b := b765) (off := 3) (v := (SV.val s1)) rfl rm1 rfl rfl ⟨rfl, rfl⟩)⟩⟩, fun _ => ⟨rfl, rfl, rfl, .inl ⟨rfl, (o_p rfl ⟨rfl, rfl⟩)⟩⟩, fun _ => ⟨rfl, rfl, rfl, .inl ⟨rfl, (o_ix (s := s1) (n := x4) (e := en_Vvitrineref20_Entry) rfl rfl rfl rfl rfl rfl rm3 (rd_own _ _ _ _) (NL.lt q1 hg805) ⟨rfl, rfl⟩)⟩⟩, fun _ => ⟨rfl, rfl, rfl, .inl ⟨rfl, (o_fa (fd := ⟨ "Addr", 3, 0, false, "", "", 0⟩) rfl rfl rfl rfl rfl ⟨rfl, rfl⟩)⟩⟩, fun _ => ⟨rfl, rfl, rfl, .inl ⟨rfl, (o_ldE (s := s1) (e := en_Vvitrineref20_Entry) (n := x4) (f := 0) (v := (.int .i64 ((rd p1.Entries x4).Addr))) rfl rm3 (rd_own _ _ _ _) (NL.lt q1 hg805) rfl (by rw [he_sv806]; rfl) ⟨rfl, rfl⟩)⟩⟩, fun _ => ⟨rfl, rfl, rfl, .inl ⟨rfl, (o_p (v := (.bool (((rd p0.Entries x4).Addr) != ((rd p1.Entries x4).Addr)))) rfl ⟨rfl, rfl⟩)⟩⟩, fun _ => ⟨rfl, rfl, rfl, .inl ⟨rfl, (o_p rfl ⟨rfl, rfl⟩)⟩⟩, trivial⟩, rfl, .inl ⟨rfl, rfl, ?_⟩⟩
              have hd := Option.some.inj h
              subst hd
              exact ej () () trivial (sc rfl (sc rfl (sc rfl (sc rfl (sc rfl sn))))) (kc rm0 (kc rm0 (kc rm0 (kc rm0 (kc rm0 kr)))))
            · replace h := cond_f hb808 h
              replace h := gsome h
              obtain ⟨hg809, h⟩ := h
              obtain ⟨sv810, he_sv810, hd_sv810⟩ := NL.rd q0 hg809
              have hr811 : Rd X sv810 5 (enI .u8) ((rd p0.Entries x4).Text) := hd_sv810
              replace h := gsome h
              obtain ⟨hg812, h⟩ := h
              obtain ⟨sv813, he_sv813, hd_sv813⟩ := NL.rd q1 hg812
              have hr814 : Rd X sv813 5 (enI .u8) ((rd p1.Entries x4).Text) := hd_sv813
              refine c_draw (n := 1) (q := [(14, 54, (.pointer (some ⟨b763, 3, none⟩))), (15, 55, (SV.val s0)), (16, 56, (.int .i64 x4)), (17, 57, (.pointer (some ⟨SV.blk s0, SV.off s0 + Int.toNat x4 * 2, none⟩))), (18, 58, (.pointer (some ⟨SV.blk s0, SV.off s0 + Int.toNat x4 * 2 + 1, none⟩))), (19, 59, (SV.val sv810)), (20, 60, (.pointer (some ⟨b765, 3, none⟩))), (21, 61, (SV.val s1)), (22, 62, (.int .i64 x4)), (23, 63, (.pointer (some ⟨SV.blk s1, SV.off s1 + Int.toNat x4 * 2, none⟩))), (24, 64, (.pointer (some ⟨SV.blk s1, SV.off s1 + Int.toNat x4 * 2 + 1, none⟩))), (25, 65, (SV.val sv813)), (0, 40, (.pointer (some ⟨b763, 3, none⟩))), (1, 41, (SV.val s0)), (2, 42, (.int .i64 x4)), (3, 43, (.pointer (some ⟨SV.blk s0, SV.off s0 + Int.toNat x4 * 2, none⟩))), (4, 44, (.pointer (some ⟨SV.blk s0, SV.off s0 + Int.toNat x4 * 2, none⟩))), (5, 45, (.int .i64 ((rd p0.Entries x4).Addr))), (6, 46, (.pointer (some ⟨b765, 3, none⟩))), (7, 47, (SV.val s1)), (8, 48, (.int .i64 x4)), (9, 49, (.pointer (some ⟨SV.blk s1, SV.off s1 + Int.toNat x4 * 2, none⟩))), (10, 50, (.pointer (some ⟨SV.blk s1, SV.off s1 + Int.toNat x4 * 2, none⟩))), (11, 51, (.int .i64 ((rd p1.Entries x4).Addr))), (12, 52, (.bool (((rd p0.Entries x4).Addr) != ((rd p1.Entries x4).Addr)))), (13, 53, (.bool (((rd p0.Entries x4).Addr) != ((rd p1.Entries x4).Addr))))]) (pend := [0, 1, 2, 3, 4, 5, 6, 7, 8, 9, 10, 11, 12, 13, 14, 15, 16, 17, 18, 19, 20, 21, 22, 23, 24, 25]) rfl rfl rfl ?_
              replace h := bsome h
              obtain ⟨d8, h8, h⟩ := h
              refine ⟨⟨fun _ => ⟨rfl, rfl, rfl, .inr ⟨_, _, _, _, rfl, rfl, rfl, .inl ⟨hb808, (o_fa (fd := ⟨ "Entries", 56, 3, false, "", "", 16⟩) rfl rfl rfl rfl rfl ⟨rfl, rfl⟩)⟩⟩⟩, fun _ => ⟨rfl, rfl, rfl, .inr ⟨_, _, _, _, rfl, rfl, rfl, .inl ⟨hb808, (o_ld (b := b763) (off := 3) (v := (SV.val s0)) rfl rm2 rfl rfl ⟨rfl, rfl⟩)⟩⟩⟩, fun _ => ⟨rfl, rfl, rfl, .inr ⟨_, _, _, _, rfl, rfl, rfl, .inl ⟨hb808, (o_p rfl ⟨rfl, rfl⟩)⟩⟩⟩, fun _ => ⟨rfl, rfl, rfl, .inr ⟨_, _, _, _, rfl, rfl, rfl, .inl ⟨hb808, (o_ix (s := s0) (n := x4) (e := en_Vvitrineref20_Entry) rfl rfl rfl rfl rfl rfl rm4 (rd_own _ _ _ _) (NL.lt q0 hg809) ⟨rfl, rfl⟩)⟩⟩⟩, fun _ => ⟨rfl, rfl, rfl, .inr ⟨_, _, _, _, rfl, rfl, rfl, .inl ⟨hb808, (o_fa (fd := ⟨ "Text", 31, 1, false, "", "", 8⟩) rfl rfl rfl rfl rfl ⟨rfl, rfl⟩)⟩⟩⟩, fun _ => ⟨rfl, rfl, rfl, .inr ⟨_, _, _, _, rfl, rfl, rfl, .inl ⟨hb808, (o_ldE (s := s0) (e := en_Vvitrineref20_Entry) (n := x4) (f := 1) (v := (SV.val sv810)) rfl rm4 (rd_own _ _ _ _) (NL.lt q0 hg809) rfl (by rw [he_sv810]; rfl) ⟨rfl, rfl⟩)⟩⟩⟩, fun _ => ⟨rfl, rfl, rfl, .inr ⟨_, _, _, _, rfl, rfl, rfl, .inl ⟨hb808, (o_fa (fd := ⟨ "Entries", 56, 3, false, "", "", 16⟩) rfl rfl rfl rfl rfl ⟨rfl, rfl⟩)⟩⟩⟩, fun _ => ⟨rfl, rfl, rfl, .inr ⟨_, _, _, _, rfl, rfl, rfl, .inl ⟨hb808, (o_ld (b := b765) (off := 3) (v := (SV.val s1)) rfl rm1 rfl rfl ⟨rfl, rfl⟩)⟩⟩⟩, fun _ => ⟨rfl, rfl, rfl, .inr ⟨_, _, _, _, rfl, rfl, rfl, .inl ⟨hb808, (o_p rfl ⟨rfl, rfl⟩)⟩⟩⟩, fun _ => ⟨rfl, rfl, rfl, .inr ⟨_, _, _, _, rfl, rfl, rfl, .inl ⟨hb808, (o_ix (s := s1) (n := x4) (e := en_Vvitrineref20_Entry) rfl rfl rfl rfl rfl rfl rm3 (rd_own _ _ _ _) (NL.lt q1 hg812) ⟨rfl, rfl⟩)⟩⟩⟩, fun _ => ⟨rfl, rfl, rfl, .inr ⟨_, _, _, _, rfl, rfl, rfl, .inl ⟨hb808, (o_fa (fd := ⟨ "Text", 31, 1, false, "", "", 8⟩) rfl rfl rfl rfl rfl ⟨rfl, rfl⟩)⟩⟩⟩, fun _ => ⟨rfl, rfl, rfl, .inr ⟨_, _, _, _, rfl, rfl, rfl, .inl ⟨hb808, (o_ldE (s := s1) (e := en_Vvitrineref20_Entry) (n := x4) (f := 1) (v := (SV.val sv813)) rfl rm3 (rd_own _ _ _ _) (NL.lt q1 hg812) rfl (by rw [he_sv813]; rfl) ⟨rfl, rfl⟩)⟩⟩⟩, fun _ => ⟨rfl, rfl, rfl, .inl ⟨rfl, (o_fa (fd := ⟨ "Entries", 56, 3, false, "", "", 16⟩) rfl rfl rfl rfl rfl ⟨rfl, rfl⟩)⟩⟩, fun _ => ⟨rfl, rfl, rfl, .inl ⟨rfl, (o_ld (b := b763) (off := 3) (v := (SV.val s0)) rfl rm2 rfl rfl ⟨rfl, rfl⟩)⟩⟩, fun _ => ⟨rfl, rfl, rfl, .inl ⟨rfl, (o_p rfl ⟨rfl, rfl⟩)⟩⟩, fun _ => ⟨rfl, rfl, rfl, .inl ⟨rfl, (o_ix (s := s0) (n := x4) (e := en_Vvitrineref20_Entry) rfl rfl rfl rfl rfl rfl rm4 (rd_own _ _ _ _) (NL.lt q0 hg802) ⟨rfl, rfl⟩)⟩⟩, fun _ => ⟨rfl, rfl, rfl, .inl ⟨rfl, (o_fa (fd := ⟨ "Addr", 3, 0, false, "", "", 0⟩) rfl rfl rfl rfl rfl ⟨rfl, rfl⟩)⟩⟩, fun _ => ⟨rfl, rfl, rfl, .inl ⟨rfl, (o_ldE (s := s0) (e := en_Vvitrineref20_Entry) (n := x4) (f := 0) (v := (.int .i64 ((rd p0.Entries x4).Addr))) rfl rm4 (rd_own _ _ _ _) (NL.lt q0 hg802) rfl (by rw [he_sv803]; rfl) ⟨rfl, rfl⟩)⟩⟩, fun _ => ⟨rfl, rfl, rfl, .inl ⟨rfl, (o_fa (fd := ⟨ "Entries", 56, 3, false, "", "", 16⟩) rfl rfl rfl rfl rfl ⟨rfl, rfl⟩)⟩⟩, fun _ => ⟨rfl, rfl, rfl, .inl ⟨rfl, (o_ld (b := b765) (off := 3) (v := (SV.val s1)) rfl rm1 rfl rfl ⟨rfl, rfl⟩)⟩⟩, fun _ => ⟨rfl, rfl, rfl, .inl ⟨rfl, (o_p rfl ⟨rfl, rfl⟩)⟩⟩, fun _ => ⟨rfl, rfl, rfl, .inl ⟨rfl, (o_ix (s := s1) (n := x4) (e := en_Vvitrineref20_Entry) rfl rfl rfl rfl rfl rfl rm3 (rd_own _ _ _ _) (NL.lt q1 hg805) ⟨rfl, rfl⟩)⟩⟩, fun _ => ⟨rfl, rfl, rfl, .inl ⟨rfl, (o_fa (fd := ⟨ "Addr", 3, 0, false, "", "", 0⟩) rfl rfl rfl rfl rfl ⟨rfl, rfl⟩)⟩⟩, fun _ => ⟨rfl, rfl, rfl, .inl ⟨rfl, (o_ldE (s := s1) (e := en_Vvitrineref20_Entry) (n := x4) (f := 0) (v := (.int .i64 ((rd p1.Entries x4).Addr))) rfl rm3 (rd_own _ _ _ _) (NL.lt q1 hg805) rfl (by rw [he_sv806]; rfl) ⟨rfl, rfl⟩)⟩⟩, fun _ => ⟨rfl, rfl, rfl, .inl ⟨rfl, (o_p (v := (.bool (((rd p0.Entries x4).Addr) != ((rd p1.Entries x4).Addr)))) rfl ⟨rfl, rfl⟩)⟩⟩, fun _ => ⟨rfl, rfl, rfl, .inl ⟨rfl, (o_p rfl ⟨rfl, rfl⟩)⟩⟩, trivial⟩, rfl, .inr ⟨[26], rfl, rfl, ⟨rfl, .inr ⟨_, _, _, _, rfl, rfl, rfl, hb808⟩, ?_⟩, trivial⟩⟩
              refine (o_call has20 rfl (c_vitrineref01_Same X ((rd p0.Entries x4).Text) sv810 hr811 ((rd p1.Entries x4).Text) sv813 hr814 _ h8) (pc rm0 pn) ?_)
              refine ⟨[(27, 67, (.bool (!d8))), (28, 68, (.bool (!d8)))], [27, 28], rfl, rfl, rfl, rfl, ?_⟩
              refine ⟨⟨fun _ => ⟨rfl, rfl, rfl, .inr ⟨_, _, _, _, rfl, rfl, rfl, .inl ⟨hb808, (o_p (v := (.bool (!d8))) rfl ⟨rfl, rfl⟩)⟩⟩⟩, fun _ => ⟨rfl, rfl, rfl, .inl ⟨rfl, (o_pick_f rfl hb808 rfl ⟨rfl, rfl⟩)⟩⟩, (fun h => nomatch h), (fun h => nomatch h), (fun h => nomatch h), (fun h => nomatch h), (fun h => nomatch h), (fun h => nomatch h), (fun h => nomatch h), (fun h => nomatch h), (fun h => nomatch h), (fun h => nomatch h), (fun h => nomatch h), (fun h => nomatch h), (fun h => nomatch h), (fun h => nomatch h), (fun h => nomatch h), (fun h => nomatch h), (fun h => nomatch h), (fun h => nomatch h), (fun h => nomatch h), (fun h => nomatch h), (fun h => nomatch h), (fun h => nomatch h), (fun h => nomatch h), (fun h => nomatch h), (fun h => nomatch h), (fun h => nomatch h), trivial⟩, rfl, rfl, rfl, ?_⟩
              have hd := Option.some.inj h
              subst hd
              exact ej () () trivial (sc rfl (sc rfl (sc rfl (sc rfl (sc rfl sn))))) (kc rm0 (kc rm0 (kc rm0 (kc rm0 (kc rm0 kr)))))
          · rintro _ i7 _
            replace h := hk7
            clear hk7
            refine e_seq ?_
            refine c_cond (b := d7) rfl (fun hb815 => ?_) (fun hb815 => ?_)
            · replace h := cond_t hb815 h
              refine c_seq ?_
              refine c_region ?_
              refine o1 rfl (o_p rfl ?_)
              refine o_end ?_
              refine e_seq ?_
              refine c_ret ?_
              refine e_blk_ret ?_
              refine e_then_ret ?_
              refine e_then_ret ?_
              refine e_blk_ret ?_
              refine ej_ret ?_
              replace h := esc_some h
              obtain ⟨z3, h, rfl⟩ := h
              obtain rfl := (hk3 : z3 = _)
              refine e_then_ret ?_
              refine e_ret ?_
              refine r_endt rfl rfl (kc rm0 (kd (kd (kd (kd kr))))) ?_
              have hr := Option.some.inj h
              subst hr
              exact hk
            · replace h := cond_f hb815 h
              refine c_skip ?_
              refine e_blk ?_
              refine e_seq ?_
              refine c_region ?_
              refine o1 rfl (o_p (v := (.int .i64 (w64 (x4 + 1)))) rfl ?_)
              refine o1 rfl (o_p rfl ?_)
              refine o_end ?_
              exact e_loop (l_sub (sc rfl (sc rfl (sc rfl (sc rfl sn)))) (l_keep (kc rm0 (kc rm0 (kc rm0 (kc rm0 (kc rm0 kr))))) (ih4 (w64 (x4 + 1)) () trivial h)))
        · replace h := cond_f hb801 h
          refine c_exit ?_
          refine e_then_exit ?_
          refine e_then_exit ?_
          refine e_blk_exit ?_
          have hd := Option.some.inj h
          subst hd
          exact ej () () rfl sn (kc rm0 (kd (kd (kd (kd kr)))))
      · rintro d3 i3 rfl
        replace h := JK_inl hk3
        clear hk3
        refine e_seq ?_
        refine c_seq ?_
        refine c_region ?_
        refine o1 rfl (o_p rfl ?_)
        refine o_end ?_
        refine e_seq ?_
        refine c_ret ?_
        refine e_ret ?_
        refine r_endt rfl rfl (kc rm0 kr) ?_
        have hr := Option.some.inj h
        subst hr
        exact hk

theorem has6 : HasBody env.P 6 := ⟨_, Try.func6, rfl, rfl⟩
theorem c_vitrinelaw20_EntryAgain {g : Gw} (X : HP) (p0 : List Int) (s0 : SV) (q0 : Rd X s0 5 (enI .u8) p0) (r : Bool) (h : m_vitrinelaw20_EntryAgain p0 = some r) : Tri env g 6 (List.toArray [(SV.val s0)]) [X] (fun K R => ∀ (i0 : HP), (Ext X i0) → K (.bool r) (i0 :: R)) := by
  refine tri_of (fn := Try.f6) (N := 42) Try.func6 rfl rfl rfl ?_
  intro R K hk
  unfold m_vitrinelaw20_EntryAgain at h
  change GC _ none _ [] [(0, (SV.val s0))] (X :: R) g _ _
  refine c_seq ?_
  refine c_region ?_
  refine o1 rfl (o_p rfl ?_)
  refine o_end ?_
  refine e_seq ?_
  refine c_seq ?_
  refine c_seq ?_
  refine c_region ?_
  replace h := bsome h
  obtain ⟨d1, h1, h⟩ := h
  refine o1 rfl (o_call has23 rfl (c_vitrinelaw20_awake X _ h1) (pc rm0 pn) (fun i1 f1_0 => ?_))
  refine o1 rfl (o_p (v := (.bool (!d1))) rfl ?_)
  refine o_end ?_
  refine e_seq ?_
  refine c_cond (b := (!d1)) rfl (fun hb382 => ?_) (fun hb382 => ?_)
  · replace h := cond_t hb382 h
    refine c_seq ?_
    refine c_region ?_
    refine o1 rfl (o_p rfl ?_)
    refine o_end ?_
    refine e_seq ?_
    refine c_ret ?_
    refine e_then_ret ?_
    refine e_ret ?_
    refine r_endt rfl rfl (kc rm0 kr) ?_
    have hr := Option.some.inj h
    subst hr
    exact hk i1 f1_0
  · replace h := cond_f hb382 h
    refine c_skip ?_
    refine e_seq ?_
    refine c_seq ?_
    refine c_region ?_
    refine o1 rfl (o_p rfl ?_)
    replace h := bsome h
    obtain ⟨d3, h3, h⟩ := h
    refine o1 rfl (o_call has24 rfl (c_vitrineref01_Cut i1 p0 s0 (Rd.ext q0 f1_0) 400 _ h3) (pc rm0 pn) (fun i3 => ?_))
    refine o_fz rm1 rm0 (fun X396 hx397 hs398 => ?_)
    replace h := bsome h
    obtain ⟨d4, h4, h⟩ := h
    refine o1 rfl (o_call has28 rfl (c_entry_Parse X396 d3 i3 hs398 _ h4) (pc rm0 pn) (fun i4 f4_0 f4_1 => ?_))
    refine o1 rfl (o_p rfl ?_)
    refine o1 rfl (o_p rfl ?_)
    refine o1 rfl (o_p rfl ?_)
    refine o1 rfl (o_alloc (cs := [(.int .u8 0), (.bool false), (.int .i64 0), (SV.val SV.nil)]) rfl rfl (fun b400 => ?_))
    refine o0 (o_st (b := b400) (off := 0) (vs := [(.int .u8 d4.1.AID), (.bool d4.1.Short), (.int .i64 d4.1.Cursor), (SV.val i4.2.1)]) (cs' := [(.int .u8 d4.1.AID), (.bool d4.1.Short), (.int .i64 d4.1.Cursor), (SV.val i4.2.1)]) rfl rfl rp0 rfl rfl rfl rfl rfl rfl ?_)
    refine o1 rfl (o_p rfl ?_)
    refine o_end ?_
    refine e_seq ?_
    refine c_seq ?_
    refine c_seq ?_
    refine c_region ?_
    refine o1 rfl (o_p rfl ?_)
    refine o1 rfl (o_p (v := (.bool (d4.2 != 0))) rfl ?_)
    refine o_end ?_
    refine e_seq ?_
    refine c_cond (b := (d4.2 != 0)) rfl (fun hb402 => ?_) (fun hb402 => ?_)
    · replace h := cond_t hb402 h
      refine c_seq ?_
      refine c_region ?_
      refine o1 rfl (o_p rfl ?_)
      refine o_end ?_
      refine e_seq ?_
      refine c_ret ?_
      refine e_then_ret ?_
      refine e_ret ?_
      refine r_endt rfl rfl (kc rm1 (kd (kd kr))) ?_
      have hr := Option.some.inj h
      subst hr
      exact hk i4.1 (Ext.trans (Ext.trans f1_0 hx397) f4_1)
    · replace h := cond_f hb402 h
      refine c_skip ?_
      refine e_seq ?_
      refine c_seq ?_
      refine c_region ?_
      refine o1 rfl (o_ld (b := b400) (off := 0) (v := (.agg (List.toArray [(.int .u8 d4.1.AID), (.bool d4.1.Short), (.int .i64 d4.1.Cursor), (SV.val i4.2.1)]))) rfl rm0 rfl rfl ?_)
      refine o_fzE rm2 rm1 (fun X403 hx404 hs405 hs405t => ?_)
      replace h := bsome h
      obtain ⟨d6, h6, h⟩ := h
      refine o1 rfl (o_call has25 rfl (c_entry_Bytes X403 d4.1 i4.2.1 ⟨_, hs405, (NL.ofE (D := D_Ventry_Entry X403) f4_0 hs405t)⟩ _ h6) (pc rm0 pn) (fun i6 f6_0 => ?_))
      refine o1 rfl (o_p rfl ?_)
      refine o1 rfl (o_p rfl ?_)
      refine o1 rfl (o_p rfl ?_)
      refine o1 rfl (o_p rfl ?_)
      refine o1 rfl (o_p rfl ?_)
      refine o_end ?_
      refine e_seq ?_
      refine c_seq ?_
      refine c_seq ?_
      refine c_region ?_
      refine o1 rfl (o_p rfl ?_)
      refine o1 rfl (o_p (v := (.bool (d6.2 != 0))) rfl ?_)
      refine o_end ?_
      refine e_seq ?_
      refine c_cond (b := (d6.2 != 0)) rfl (fun hb703 => ?_) (fun hb703 => ?_)
      · replace h := cond_t hb703 h
        refine c_seq ?_
        refine c_region ?_
        refine o1 rfl (o_p rfl ?_)
        refine o1 rfl (o_p (v := (.bool (d6.2 == 9))) rfl ?_)
        refine o1 rfl (o_p rfl ?_)
        refine o_end ?_
        refine e_seq ?_
        refine c_ret ?_
        refine e_then_ret ?_
        refine e_ret ?_
        refine r_endt rfl rfl (kc rm0 (kd (kd kr))) ?_
        have hr := Option.some.inj h
        subst hr
        exact hk i6.1 (Ext.trans (Ext.trans (Ext.trans (Ext.trans f1_0 hx397) f4_1) hx404) f6_0)
      · replace h := cond_f hb703 h
        refine c_skip ?_
        refine e_seq ?_
        refine c_seq ?_
        refine c_region ?_
        refine o1 rfl (o_p rfl ?_)
        refine o_fz rm1 rm0 (fun X704 hx705 hs706 => ?_)
        replace h := bsome h
        obtain ⟨d8, h8, h⟩ := h
        refine o1 rfl (o_call has28 rfl (c_entry_Parse X704 d6.1 i6.2 hs706 _ h8) (pc rm0 pn) (fun i8 f8_0 f8_1 => ?_))
        refine o1 rfl (o_p rfl ?_)
        refine o1 rfl (o_p rfl ?_)
        refine o1 rfl (o_p rfl ?_)
        refine o1 rfl (o_alloc (cs := [(.int .u8 0), (.bool false), (.int .i64 0), (SV.val SV.nil)]) rfl rfl (fun b708 => ?_))
        refine o0 (o_st (b := b708) (off := 0) (vs := [(.int .u8 d8.1.AID), (.bool d8.1.Short), (.int .i64 d8.1.Cursor), (SV.val i8.2.1)]) (cs' := [(.int .u8 d8.1.AID), (.bool d8.1.Short), (.int .i64 d8.1.Cursor), (SV.val i8.2.1)]) rfl rfl rp0 rfl rfl rfl rfl rfl rfl ?_)
        refine o1 rfl (o_p rfl ?_)
        refine o_end ?_
        refine e_seq ?_
        refine c_seq ?_
        replace h := bsome h
        obtain ⟨d9, h, hk9⟩ := h
        refine cj (D := Unit) (ι := HP) (fun _ i9 => Ext X i9) (fun _ i9 => [(2, (.bool d9))]) (fun _ i9 => i9 :: R) ?_ ?_
        · refine c_fzE rm2 rm1 (fun X711 hx712 hs713 hs713t => ?_)
          refine c_sub (T' := [(8, (.int .i64 d8.2)), (7, (.pointer (some ⟨b708, 0, none⟩))), (32, (.int .i64 d8.2)), (31, (.agg (List.toArray [(.int .u8 d8.1.AID), (.bool d8.1.Short), (.int .i64 d8.1.Cursor), (SV.val i8.2.1)]))), (28, (.tuple (List.toArray [(.agg (List.toArray [(.int .u8 d8.1.AID), (.bool d8.1.Short), (.int .i64 d8.1.Cursor), (SV.val i8.2.1)])), (.int .i64 d8.2)]))), (30, (.tuple (List.toArray [(.agg (List.toArray [(.int .u8 d8.1.AID), (.bool d8.1.Short), (.int .i64 d8.1.Cursor), (SV.val i8.2.1)])), (.int .i64 d8.2)]))), (29, (SV.val i6.2)), (25, (.bool (d6.2 != 0))), (24, (.int .i64 d6.2)), (6, (.int .i64 d6.2)), (5, (SV.val i6.2)), (23, (.int .i64 d6.2)), (22, (SV.val i6.2)), (19, (.tuple (List.toArray [(SV.val i6.2), (.int .i64 d6.2)]))), (21, (.tuple (List.toArray [(SV.val i6.2), (.int .i64 d6.2)]))), (20, (.agg (List.toArray [(.int .u8 d4.1.AID), (.bool d4.1.Short), (.int .i64 d4.1.Cursor), (SV.val i4.2.1)]))), (18, (.bool (d4.2 != 0))), (17, (.int .i64 d4.2)), (4, (.int .i64 d4.2)), (3, (.pointer (some ⟨b400, 0, none⟩))), (16, (.int .i64 d4.2)), (15, (.agg (List.toArray [(.int .u8 d4.1.AID), (.bool d4.1.Short), (.int .i64 d4.1.Cursor), (SV.val i4.2.1)]))), (11, (.tuple (List.toArray [(.agg (List.toArray [(.int .u8 d4.1.AID), (.bool d4.1.Short), (.int .i64 d4.1.Cursor), (SV.val i4.2.1)])), (.int .i64 d4.2)]))), (14, (.tuple (List.toArray [(.agg (List.toArray [(.int .u8 d4.1.AID), (.bool d4.1.Short), (.int .i64 d4.1.Cursor), (SV.val i4.2.1)])), (.int .i64 d4.2)]))), (13, (SV.val i3)), (12, (SV.val s0)), (10, (.bool (!d1))), (9, (.bool d1)), (0, (SV.val s0))]) (sc rfl (sc rfl (sc rfl (sc rfl (sc rfl (sc rfl (sc rfl (sc rfl (sc rfl (sc rfl (sc rfl (sc rfl (sc rfl (sc rfl (sc rfl (sc rfl (sc rfl (sc rfl (sc rfl (sc rfl (sc rfl (sc rfl (sc rfl (sc rfl (sc rfl (sc rfl (sc rfl (sc rfl (sc rfl sn))))))))))))))))))))))))))))) ?_
          rcases bool_or ((d8.2 == 0)) with hb714 | hb714
          · replace h := cond_t hb714 h
            refine c_draw (n := 3) (q := [(3, 36, (.agg (List.toArray [(.int .u8 d8.1.AID), (.bool d8.1.Short), (.int .i64 d8.1.Cursor), (SV.val i8.2.1)]))), (5, 38, (.agg (List.toArray [(.int .u8 d4.1.AID), (.bool d4.1.Short), (.int .i64 d4.1.Cursor), (SV.val i4.2.1)]))), (0, 33, (.int .i64 d8.2)), (1, 34, (.bool (d8.2 == 0))), (2, 35, (.bool (d8.2 == 0)))]) (pend := [0, 1, 2, 3, 5]) rfl rfl rfl ?_
            replace h := bsome h
            obtain ⟨d10, h10, h⟩ := h
            refine ⟨⟨fun _ => ⟨rfl, rfl, rfl, .inr ⟨_, _, _, _, rfl, rfl, rfl, .inl ⟨hb714, (o_ld (b := b708) (off := 0) (v := (.agg (List.toArray [(.int .u8 d8.1.AID), (.bool d8.1.Short), (.int .i64 d8.1.Cursor), (SV.val i8.2.1)]))) rfl rm1 rfl rfl ⟨rfl, rfl⟩)⟩⟩⟩, fun _ => ⟨rfl, rfl, rfl, .inr ⟨_, _, _, _, rfl, rfl, rfl, .inl ⟨hb714, (o_ld (b := b400) (off := 0) (v := (.agg (List.toArray [(.int .u8 d4.1.AID), (.bool d4.1.Short), (.int .i64 d4.1.Cursor), (SV.val i4.2.1)]))) rfl rm2 rfl rfl ⟨rfl, rfl⟩)⟩⟩⟩, fun _ => ⟨rfl, rfl, rfl, .inl ⟨rfl, (o_p rfl ⟨rfl, rfl⟩)⟩⟩, fun _ => ⟨rfl, rfl, rfl, .inl ⟨rfl, (o_p (v := (.bool (d8.2 == 0))) rfl ⟨rfl, rfl⟩)⟩⟩, fun _ => ⟨rfl, rfl, rfl, .inl ⟨rfl, (o_p rfl ⟨rfl, rfl⟩)⟩⟩, trivial⟩, rfl, .inr ⟨[4], rfl, rfl, ⟨rfl, .inr ⟨_, _, _, _, rfl, rfl, rfl, hb714⟩, ?_⟩, trivial⟩⟩
            refine (o_call has30 rfl (c_vitrinelaw20_back X711 d8.1 i8.2.1 ⟨_, hs713, (NL.ofE (D := D_Ventry_Entry X711) f8_0 hs713t)⟩ _ h10) (pc rm0 pn) (fun i10 f10_0 => ?_))
            refine ⟨[], [5], rfl, rfl, rfl, rfl, ?_⟩
            replace h := bsome h
            obtain ⟨d11, h11, h⟩ := h
            refine ⟨⟨(fun h => nomatch h), fun _ => ⟨rfl, rfl, rfl, .inr ⟨_, _, _, _, rfl, rfl, rfl, .inl ⟨hb714, (o_ld (b := b400) (off := 0) (v := (.agg (List.toArray [(.int .u8 d4.1.AID), (.bool d4.1.Short), (.int .i64 d4.1.Cursor), (SV.val i4.2.1)]))) rfl rm3 rfl rfl ⟨rfl, rfl⟩)⟩⟩⟩, (fun h => nomatch h), (fun h => nomatch h), (fun h => nomatch h), trivial⟩, rfl, .inr ⟨[6], rfl, rfl, ⟨rfl, .inr ⟨_, _, _, _, rfl, rfl, rfl, hb714⟩, ?_⟩, trivial⟩⟩
            refine (o_call has30 rfl (c_vitrinelaw20_back X711 d4.1 i4.2.1 ⟨_, (Rd.ext hs405 (Ext.trans (Ext.trans (Ext.trans f6_0 hx705) f8_1) hx712)), (NL.mono (NL.ofE (D := D_Ventry_Entry X403) f4_0 hs405t) (D_Ventry_Entry.ext (Ext.trans (Ext.trans (Ext.trans f6_0 hx705) f8_1) hx712)))⟩ _ h11) (pc rm0 pn) (fun i11 f11_0 => ?_))
            refine ⟨[], [], rfl, rfl, rfl, rfl, ?_⟩
            replace h := bsome h
            obtain ⟨d12, h12, h⟩ := h
            refine ⟨⟨(fun h => nomatch h), (fun h => nomatch h), (fun h => nomatch h), (fun h => nomatch h), (fun h => nomatch h), trivial⟩, rfl, .inr ⟨[7], rfl, rfl, ⟨rfl, .inr ⟨_, _, _, _, rfl, rfl, rfl, hb714⟩, ?_⟩, trivial⟩⟩
            refine (o_call has29 rfl (c_vitrineref20_Same X711 d10 i10.1 i10.2 f10_0 d11 i11.1 i11.2 f11_0 _ h12) (pc rm0 (pc rm1 (pc rm0 pn))) ?_)
            refine ⟨[(8, 41, (.bool d12)), (9, 2, (.bool d12))], [8, 9], rfl, rfl, rfl, rfl, ?_⟩
            refine ⟨⟨fun _ => ⟨rfl, rfl, rfl, .inl ⟨rfl, (o_pick_t rfl hb714 rfl ⟨rfl, rfl⟩)⟩⟩, fun _ => ⟨rfl, rfl, rfl, .inl ⟨rfl, (o_p rfl ⟨rfl, rfl⟩)⟩⟩, (fun h => nomatch h), (fun h => nomatch h), (fun h => nomatch h), (fun h => nomatch h), (fun h => nomatch h), trivial⟩, rfl, rfl, rfl, ?_⟩
            have hd := Option.some.inj h
            subst hd
            exact ej () X711 (Ext.trans (Ext.trans (Ext.trans (Ext.trans (Ext.trans (Ext.trans (Ext.trans f1_0 hx397) f4_1) hx404) f6_0) hx705) f8_1) hx712) (sc rfl sn) (kc rm0 (kd (kd kr)))
          · replace h := cond_f hb714 h
            refine c_draw (n := 3) (q := [(3, 36, undef), (4, 37, undef), (5, 38, undef), (6, 39, undef), (7, 40, undef), (8, 41, (.bool false)), (9, 2, (.bool false)), (0, 33, (.int .i64 d8.2)), (1, 34, (.bool (d8.2 == 0))), (2, 35, (.bool (d8.2 == 0)))]) (pend := [0, 1, 2, 3, 4, 5, 6, 7, 8, 9]) rfl rfl rfl ?_
            refine ⟨⟨fun _ => ⟨rfl, rfl, rfl, .inr ⟨_, _, _, _, rfl, rfl, rfl, .inr ⟨hb714, rfl⟩⟩⟩, fun _ => ⟨rfl, rfl, rfl, .inr ⟨_, _, _, _, rfl, rfl, rfl, .inr ⟨hb714, rfl⟩⟩⟩, fun _ => ⟨rfl, rfl, rfl, .inr ⟨_, _, _, _, rfl, rfl, rfl, .inr ⟨hb714, rfl⟩⟩⟩, fun _ => ⟨rfl, rfl, rfl, .inr ⟨_, _, _, _, rfl, rfl, rfl, .inr ⟨hb714, rfl⟩⟩⟩, fun _ => ⟨rfl, rfl, rfl, .inr ⟨_, _, _, _, rfl, rfl, rfl, .inr ⟨hb714, rfl⟩⟩⟩, fun _ => ⟨rfl, rfl, rfl, .inl ⟨rfl, (o_pick_f rfl hb714 rfl ⟨rfl, rfl⟩)⟩⟩, fun _ => ⟨rfl, rfl, rfl, .inl ⟨rfl, (o_p rfl ⟨rfl, rfl⟩)⟩⟩, fun _ => ⟨rfl, rfl, rfl, .inl ⟨rfl, (o_p rfl ⟨rfl, rfl⟩)⟩⟩, fun _ => ⟨rfl, rfl, rfl, .inl ⟨rfl, (o_p (v := (.bool (d8.2 == 0))) rfl ⟨rfl, rfl⟩)⟩⟩, fun _ => ⟨rfl, rfl, rfl, .inl ⟨rfl, (o_p rfl ⟨rfl, rfl⟩)⟩⟩, trivial⟩, rfl, .inl ⟨rfl, rfl, ?_⟩⟩
            have hd := Option.some.inj h
            subst hd
            exact ej () X711 (Ext.trans (Ext.trans (Ext.trans (Ext.trans (Ext.trans (Ext.trans (Ext.trans f1_0 hx397) f4_1) hx404) f6_0) hx705) f8_1) hx712) (sc rfl sn) (kc rm0 (kd (kd kr)))
        · rintro _ i9 f9_0
          replace h := hk9
          clear hk9
          refine e_seq ?_
          refine c_ret ?_
          refine e_ret ?_
          refine r_endt rfl rfl (kc rm0 kr) ?_
          have hr := Option.some.inj h
          subst hr
          exact hk i9 f9_0

end Go.Vt
