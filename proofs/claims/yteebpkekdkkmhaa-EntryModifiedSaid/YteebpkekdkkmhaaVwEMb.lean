/- The walks: each function does what its model says. No conditions. -/
import Derived.Test.YteebpkekdkkmhaaVwEMa
set_option linter.unusedVariables false
set_option maxRecDepth 100000
set_option maxHeartbeats 4000000
namespace Go.Vt
open Go.Proofs
theorem c_vitrineref20_Same_2 {g : Gw} (X : HP) (p0 : Vvitrineref20_Report) (s0 : SV) (L0 : List (Vvitrineref20_Entry × SV)) (q0 : NL (D_Vvitrineref20_Entry X) L0 p0.Entries) (p1 : Vvitrineref20_Report) (s1 : SV) (q1r : RdN X s1 60 en_Vvitrineref20_Entry D_Vvitrineref20_Entry p1.Entries) (r : Bool) (h : m_vitrineref20_Same_2 p0 p1 = some r) : Tri env g 29 (List.toArray [(.agg (List.toArray [(.int .u8 p0.AID), (.bool p0.Short), (.int .i64 p0.Cursor), (SV.val s0)])), (.agg (List.toArray [(.int .u8 p1.AID), (.bool p1.Short), (.int .i64 p1.Cursor), (SV.val s1)]))]) [X, slO s0 60 en_Vvitrineref20_Entry L0] (fun K R => K (.bool r) (X :: R)) := by
  refine tri_of (fn := Try.f29) (N := 70) Try.func29 rfl rfl rfl ?_
  intro R K hk
  obtain ⟨L_q1, q1, n_q1⟩ := q1r
  unfold m_vitrineref20_Same_2 at h
  change GC _ none _ [] [(0, (.agg (List.toArray [(.int .u8 p0.AID), (.bool p0.Short), (.int .i64 p0.Cursor), (SV.val s0)]))), (1, (.agg (List.toArray [(.int .u8 p1.AID), (.bool p1.Short), (.int .i64 p1.Cursor), (SV.val s1)])))] (X :: slO s0 60 en_Vvitrineref20_Entry L0 :: R) g _ _
  refine c_seq ?_
  refine c_region ?_
  refine o1 rfl (o_box (cs := [(.int .u8 p0.AID), (.bool p0.Short), (.int .i64 p0.Cursor), (SV.val s0)]) rfl rfl (fun b1152 => ?_))
  refine o1 rfl (o_box (cs := [(.int .u8 p1.AID), (.bool p1.Short), (.int .i64 p1.Cursor), (SV.val s1)]) rfl rfl (fun b1154 => ?_))
  refine o1 rfl (o_p rfl ?_)
  refine o_end ?_
  refine e_seq ?_
  refine c_seq ?_
  refine c_seq ?_
  replace h := bsome h
  obtain ⟨d1, h, hk1⟩ := h
  refine cj (D := Unit) (ι := Unit) (fun _ i1 => True) (fun _ i1 => [(33, (.bool d1)), (3, (.pointer (some ⟨b1154, 0, none⟩))), (2, (.pointer (some ⟨b1152, 0, none⟩)))]) (fun _ i1 => X :: blk b1154 (.cells (List.toArray [(.int .u8 p1.AID), (.bool p1.Short), (.int .i64 p1.Cursor), (SV.val s1)]) 58 (0, 0)) :: blk b1152 (.cells (List.toArray [(.int .u8 p0.AID), (.bool p0.Short), (.int .i64 p0.Cursor), (SV.val s0)]) 58 (0, 0)) :: slO s0 60 en_Vvitrineref20_Entry L0 :: R) ?_ ?_
  · refine c_region ?_
    refine o1 rfl (o_fa (fd := ⟨ "AID", 5, 0, false, "", "", 0⟩) rfl rfl rfl rfl rfl ?_)
    refine o1 rfl (o_ld (b := b1152) (off := 0) (v := (.int .u8 p0.AID)) rfl rm1 rfl rfl ?_)
    refine o1 rfl (o_fa (fd := ⟨ "AID", 5, 0, false, "", "", 0⟩) rfl rfl rfl rfl rfl ?_)
    refine o1 rfl (o_ld (b := b1154) (off := 0) (v := (.int .u8 p1.AID)) rfl rm0 rfl rfl ?_)
    refine o1 rfl (o_p (v := (.bool (p0.AID != p1.AID))) rfl ?_)
    refine o1 rfl (o_p rfl ?_)
    rcases bool_or ((p0.AID != p1.AID)) with hb1156 | hb1156
    · replace h := cond_t hb1156 h
      refine on rfl rfl rfl hb1156 ?_
      refine on rfl rfl rfl hb1156 ?_
      refine on rfl rfl rfl hb1156 ?_
      refine on rfl rfl rfl hb1156 ?_
      refine on rfl rfl rfl hb1156 ?_
      refine o1 rfl (o_pick_t rfl hb1156 rfl ?_)
      refine o1 rfl (o_p rfl ?_)
      refine on rfl rfl rfl rfl ?_
      refine on rfl rfl rfl rfl ?_
      refine on rfl rfl rfl rfl ?_
      refine on rfl rfl rfl rfl ?_
      refine on rfl rfl rfl rfl ?_
      refine o1 rfl (o_pick_t rfl rfl rfl ?_)
      refine o1 rfl (o_p rfl ?_)
      refine on rfl rfl rfl rfl ?_
      refine on rfl rfl rfl rfl ?_
      refine on rfl rfl rfl rfl ?_
      refine on rfl rfl rfl rfl ?_
      refine on rfl rfl rfl rfl ?_
      refine on rfl rfl rfl rfl ?_
      refine on rfl rfl rfl rfl ?_
      refine o1 rfl (o_pick_t rfl rfl rfl ?_)
      refine o_end ?_
      have hd := Option.some.inj h
      subst hd
      exact ej () () trivial (sc rfl (sc rfl (sc rfl sn))) (kc rm2 (kc rm0 (kc rm0 (kc rm0 kr))))
    · replace h := cond_f hb1156 h
      refine oy rfl rfl rfl hb1156 (o_fa (fd := ⟨ "Short", 4, 1, false, "", "", 1⟩) rfl rfl rfl rfl rfl ?_)
      refine oy rfl rfl rfl hb1156 (o_ld (b := b1152) (off := 1) (v := (.bool p0.Short)) rfl rm1 rfl rfl ?_)
      refine oy rfl rfl rfl hb1156 (o_fa (fd := ⟨ "Short", 4, 1, false, "", "", 1⟩) rfl rfl rfl rfl rfl ?_)
      refine oy rfl rfl rfl hb1156 (o_ld (b := b1154) (off := 1) (v := (.bool p1.Short)) rfl rm0 rfl rfl ?_)
      refine oy rfl rfl rfl hb1156 (o_p (v := (.bool (!(p0.Short == p1.Short)))) rfl ?_)
      refine o1 rfl (o_pick_f rfl hb1156 rfl ?_)
      refine o1 rfl (o_p rfl ?_)
      rcases bool_or ((!(p0.Short == p1.Short))) with hb1157 | hb1157
      · replace h := cond_t hb1157 h
        refine on rfl rfl rfl hb1157 ?_
        refine on rfl rfl rfl hb1157 ?_
        refine on rfl rfl rfl hb1157 ?_
        refine on rfl rfl rfl hb1157 ?_
        refine on rfl rfl rfl hb1157 ?_
        refine o1 rfl (o_pick_t rfl hb1157 rfl ?_)
        refine o1 rfl (o_p rfl ?_)
        refine on rfl rfl rfl rfl ?_
        refine on rfl rfl rfl rfl ?_
        refine on rfl rfl rfl rfl ?_
        refine on rfl rfl rfl rfl ?_
        refine on rfl rfl rfl rfl ?_
        refine on rfl rfl rfl rfl ?_
        refine on rfl rfl rfl rfl ?_
        refine o1 rfl (o_pick_t rfl rfl rfl ?_)
        refine o_end ?_
        have hd := Option.some.inj h
        subst hd
        exact ej () () trivial (sc rfl (sc rfl (sc rfl sn))) (kc rm2 (kc rm0 (kc rm0 (kc rm0 kr))))
      · replace h := cond_f hb1157 h
        refine oy rfl rfl rfl hb1157 (o_fa (fd := ⟨ "Cursor", 3, 2, false, "", "", 8⟩) rfl rfl rfl rfl rfl ?_)
        refine oy rfl rfl rfl hb1157 (o_ld (b := b1152) (off := 2) (v := (.int .i64 p0.Cursor)) rfl rm1 rfl rfl ?_)
        refine oy rfl rfl rfl hb1157 (o_fa (fd := ⟨ "Cursor", 3, 2, false, "", "", 8⟩) rfl rfl rfl rfl rfl ?_)
        refine oy rfl rfl rfl hb1157 (o_ld (b := b1154) (off := 2) (v := (.int .i64 p1.Cursor)) rfl rm0 rfl rfl ?_)
        refine oy rfl rfl rfl hb1157 (o_p (v := (.bool (p0.Cursor != p1.Cursor))) rfl ?_)
        refine o1 rfl (o_pick_f rfl hb1157 rfl ?_)
        refine o1 rfl (o_p rfl ?_)
        rcases bool_or ((p0.Cursor != p1.Cursor)) with hb1158 | hb1158
        · replace h := cond_t hb1158 h
          refine on rfl rfl rfl hb1158 ?_
          refine on rfl rfl rfl hb1158 ?_
          refine on rfl rfl rfl hb1158 ?_
          refine on rfl rfl rfl hb1158 ?_
          refine on rfl rfl rfl hb1158 ?_
          refine on rfl rfl rfl hb1158 ?_
          refine on rfl rfl rfl hb1158 ?_
          refine o1 rfl (o_pick_t rfl hb1158 rfl ?_)
          refine o_end ?_
          have hd := Option.some.inj h
          subst hd
          exact ej () () trivial (sc rfl (sc rfl (sc rfl sn))) (kc rm2 (kc rm0 (kc rm0 (kc rm0 kr))))
        · replace h := cond_f hb1158 h
          refine oy rfl rfl rfl hb1158 (o_fa (fd := ⟨ "Entries", 56, 3, false, "", "", 16⟩) rfl rfl rfl rfl rfl ?_)
          refine oy rfl rfl rfl hb1158 (o_ld (b := b1152) (off := 3) (v := (SV.val s0)) rfl rm1 rfl rfl ?_)
          refine oy rfl rfl rfl hb1158 (o_lenN (s := s0) rfl rfl rfl rm3 (rd_own _ _ _ _) q0 ?_)
          refine oy rfl rfl rfl hb1158 (o_fa (fd := ⟨ "Entries", 56, 3, false, "", "", 16⟩) rfl rfl rfl rfl rfl ?_)
          refine oy rfl rfl rfl hb1158 (o_ld (b := b1154) (off := 3) (v := (SV.val s1)) rfl rm0 rfl rfl ?_)
          refine oy rfl rfl rfl hb1158 (o_lenN (s := s1) rfl rfl rfl rm2 q1 n_q1 ?_)
          refine oy rfl rfl rfl hb1158 (o_p (v := (.bool ((p0.Entries.length : Int) != (p1.Entries.length : Int)))) rfl ?_)
          refine o1 rfl (o_pick_f rfl hb1158 rfl ?_)
          refine o_end ?_
          have hd := Option.some.inj h
          subst hd
          exact ej () () trivial (sc rfl (sc rfl (sc rfl sn))) (kc rm2 (kc rm0 (kc rm0 (kc rm0 kr))))
  · rintro _ i1 _
    replace h := hk1
    clear hk1
    refine e_seq ?_
    refine c_cond (b := d1) rfl (fun hb1159 => ?_) (fun hb1159 => ?_)
    · replace h := cond_t hb1159 h
      refine c_seq ?_
      refine c_region ?_
      refine o1 rfl (o_p rfl ?_)
      refine o_end ?_
      refine e_seq ?_
      refine c_ret ?_
      refine e_then_ret ?_
      refine e_ret ?_
      refine r_endt rfl rfl (kc rm0 (kd (kd (kd kr)))) ?_
      have hr := Option.some.inj h
      subst hr
      exact hk
    · replace h := cond_f hb1159 h
      refine c_skip ?_
      refine e_seq ?_
      refine c_seq ?_
      refine c_seq ?_
      refine c_region ?_
      refine o1 rfl (o_fa (fd := ⟨ "Entries", 56, 3, false, "", "", 16⟩) rfl rfl rfl rfl rfl ?_)
      refine o1 rfl (o_ld (b := b1152) (off := 3) (v := (SV.val s0)) rfl rm2 rfl rfl ?_)
      refine o1 rfl (o_lenN (s := s0) rfl rfl rfl rm3 (rd_own _ _ _ _) q0 ?_)
      refine o1 rfl (o_p rfl ?_)
      refine o_end ?_
      refine e_seq ?_
      replace h := jn_some h
      obtain ⟨y3, h, hk3⟩ := h
      refine cj (D := Unit) (ι := Unit) (fun d3 i3 => y3 = Sum.inl d3) (fun d3 i3 => []) (fun d3 i3 => X :: R) ?_ ?_
      · refine c_block ?_
        refine c_loop (l_sub (sc rfl (sc rfl (sc rfl (sc rfl sn)))) (l_keep (kc rm0 (kc rm0 (kc rm0 (kc rm0 kr)))) (lf (X := Int) (ι := Unit) (fun k x => vitrineref20_Same_2_l4 p0 p1 k x) _ (fun x4 i4 => True) (fun x4 i4 => [(37, (.int .i64 x4)), (36, (.int .i64 (p0.Entries.length : Int))), (3, (.pointer (some ⟨b1154, 0, none⟩))), (2, (.pointer (some ⟨b1152, 0, none⟩)))]) (fun x4 i4 => X :: blk b1154 (.cells (List.toArray [(.int .u8 p1.AID), (.bool p1.Short), (.int .i64 p1.Cursor), (SV.val s1)]) 58 (0, 0)) :: blk b1152 (.cells (List.toArray [(.int .u8 p0.AID), (.bool p0.Short), (.int .i64 p0.Cursor), (SV.val s0)]) 58 (0, 0)) :: slO s0 60 en_Vvitrineref20_Entry L0 :: R) (fun _ => rfl) ?_ fuel 0 () trivial h)))
        clear h
        rintro k4 ih4 x4 i4 _ h
        rw [vitrineref20_Same_2_l4.eq_2] at h
        refine l_round ?_
        refine c_seq ?_
        refine c_region ?_
        refine o1 rfl (o_p (v := (.bool (decide (x4 < (p0.Entries.length : Int))))) rfl ?_)
        refine o_end ?_
        refine e_seq ?_
        refine c_seq ?_
        refine c_cond (b := (decide (x4 < (p0.Entries.length : Int)))) rfl (fun hb1190 => ?_) (fun hb1190 => ?_)
        · replace h := cond_t hb1190 h
          refine c_skip ?_
          refine e_seq ?_
          refine c_seq ?_
          refine c_block ?_
          refine c_seq ?_
          refine c_region ?_
          refine o1 rfl (o_p rfl ?_)
          refine o1 rfl (o_p rfl ?_)
          refine o_end ?_
          refine e_seq ?_
          refine c_seq ?_
          replace h := bsome h
          obtain ⟨d7, h, hk7⟩ := h
          refine cj (D := Unit) (ι := Unit) (fun _ i7 => True) (fun _ i7 => [(68, (.bool d7)), (37, (.int .i64 x4)), (36, (.int .i64 (p0.Entries.length : Int))), (3, (.pointer (some ⟨b1154, 0, none⟩))), (2, (.pointer (some ⟨b1152, 0, none⟩)))]) (fun _ i7 => X :: blk b1154 (.cells (List.toArray [(.int .u8 p1.AID), (.bool p1.Short), (.int .i64 p1.Cursor), (SV.val s1)]) 58 (0, 0)) :: blk b1152 (.cells (List.toArray [(.int .u8 p0.AID), (.bool p0.Short), (.int .i64 p0.Cursor), (SV.val s0)]) 58 (0, 0)) :: slO s0 60 en_Vvitrineref20_Entry L0 :: R) ?_ ?_
          · replace h := gsome h
            obtain ⟨hg1191, h⟩ := h
            obtain ⟨sv1192, he_sv1192, hd_sv1192⟩ := NL.rd q0 hg1191
            have hr1193 : Rd X sv1192 5 (enI .u8) ((rd p0.Entries x4).Text) := hd_sv1192
            replace h := gsome h
            obtain ⟨hg1194, h⟩ := h
            obtain ⟨sv1195, he_sv1195, hd_sv1195⟩ := NL.rd n_q1 hg1194
            have hr1196 : Rd X sv1195 5 (enI .u8) ((rd p1.Entries x4).Text) := hd_sv1195
            rcases bool_or ((((rd p0.Entries x4).Addr) != ((rd p1.Entries x4).Addr))) with hb1197 | hb1197
            · replace h := cond_t hb1197 h
              refine c_draw (n := 1) (q := [(14, 54, undef), (15, 55, undef), (16, 56, undef), (17, 57, undef), (18, 58, undef), (19, 59, undef), (20, 60, undef), (21, 61, undef), (22, 62, undef), (23, 63, undef), (24, 64, undef), (25, 65, undef), (26, 66, undef), (27, 67, undef), (28, 68, (.bool true)), (0, 40, (.pointer (some ⟨b1152, 3, none⟩))), (1, 41, (SV.val s0)), (2, 42, (.int .i64 x4)), (3, 43, (.pointer (some ⟨SV.blk s0, SV.off s0 + Int.toNat x4 * 2, none⟩))), (4, 44, (.pointer (some ⟨SV.blk s0, SV.off s0 + Int.toNat x4 * 2, none⟩))), (5, 45, (.int .i64 ((rd p0.Entries x4).Addr))), (6, 46, (.pointer (some ⟨b1154, 3, none⟩))), (7, 47, (SV.val s1)), (8, 48, (.int .i64 x4)), (9, 49, (.pointer (some ⟨SV.blk s1, SV.off s1 + Int.toNat x4 * 2, none⟩))), (10, 50, (.pointer (some ⟨SV.blk s1, SV.off s1 + Int.toNat x4 * 2, none⟩))), (11, 51, (.int .i64 ((rd p1.Entries x4).Addr))), (12, 52, (.bool (((rd p0.Entries x4).Addr) != ((rd p1.Entries x4).Addr)))), (13, 53, (.bool (((rd p0.Entries x4).Addr) != ((rd p1.Entries x4).Addr))))]) (pend := [0, 1, 2, 3, 4, 5, 6, 7, 8, 9, 10, 11, 12, 13, 14, 15, 16, 17, 18, 19, 20, 21, 22, 23, 24, 25, 26, 27, 28]) rfl rfl rfl ?_
              refine ⟨⟨fun _ => ⟨rfl, rfl, rfl, .inr ⟨_, _, _, _, rfl, rfl, rfl, .inr ⟨hb1197, rfl⟩⟩⟩, fun _ => ⟨rfl, rfl, rfl, .inr ⟨_, _, _, _, rfl, rfl, rfl, .inr ⟨hb1197, rfl⟩⟩⟩, fun _ => ⟨rfl, rfl, rfl, .inr ⟨_, _, _, _, rfl, rfl, rfl, .inr ⟨hb1197, rfl⟩⟩⟩, fun _ => ⟨rfl, rfl, rfl, .inr ⟨_, _, _, _, rfl, rfl, rfl, .inr ⟨hb1197, rfl⟩⟩⟩, fun _ => ⟨rfl, rfl, rfl, .inr ⟨_, _, _, _, rfl, rfl, rfl, .inr ⟨hb1197, rfl⟩⟩⟩, fun _ => ⟨rfl, rfl, rfl, .inr ⟨_, _, _, _, rfl, rfl, rfl, .inr ⟨hb1197, rfl⟩⟩⟩, fun _ => ⟨rfl, rfl, rfl, .inr ⟨_, _, _, _, rfl, rfl, rfl, .inr ⟨hb1197, rfl⟩⟩⟩, fun _ => ⟨rfl, rfl, rfl, .inr ⟨_, _, _, _, rfl, rfl, rfl, .inr ⟨hb1197, rfl⟩⟩⟩, fun _ => ⟨rfl, rfl, rfl, .inr ⟨_, _, _, _, rfl, rfl, rfl, .inr ⟨hb1197, rfl⟩⟩⟩, fun _ => ⟨rfl, rfl, rfl, .inr ⟨_, _, _, _, rfl, rfl, rfl, .inr ⟨hb1197, rfl⟩⟩⟩, fun _ => ⟨rfl, rfl, rfl, .inr ⟨_, _, _, _, rfl, rfl, rfl, .inr ⟨hb1197, rfl⟩⟩⟩, fun _ => ⟨rfl, rfl, rfl, .inr ⟨_, _, _, _, rfl, rfl, rfl, .inr ⟨hb1197, rfl⟩⟩⟩, fun _ => ⟨rfl, rfl, rfl, .inr ⟨_, _, _, _, rfl, rfl, rfl, .inr ⟨hb1197, rfl⟩⟩⟩, fun _ => ⟨rfl, rfl, rfl, .inr ⟨_, _, _, _, rfl, rfl, rfl, .inr ⟨hb1197, rfl⟩⟩⟩, fun _ => ⟨rfl, rfl, rfl, .inl ⟨rfl, (o_pick_t rfl hb1197 rfl ⟨rfl, rfl⟩)⟩⟩, fun _ => ⟨rfl, rfl, rfl, .inl ⟨rfl, (o_fa (fd := ⟨ "Entries", 56, 3, false, "", "", 16⟩) rfl rfl rfl rfl rfl ⟨rfl, rfl⟩)⟩⟩, fun _ => ⟨rfl, rfl, rfl, .inl ⟨rfl, (o_ld (b := b1152) (off := 3) (v := (SV.val s0)) rfl rm2 rfl rfl ⟨rfl, rfl⟩)⟩⟩, fun _ => ⟨rfl, rfl, rfl, .inl ⟨rfl, (o_p rfl ⟨rfl, rfl⟩)⟩⟩, fun _ => ⟨rfl, rfl, rfl, .inl ⟨rfl, (o_ix (s := s0) (n := x4) (e := en_Vvitrineref20_Entry) rfl rfl rfl rfl rfl rfl rm3 (rd_own _ _ _ _) (NL.lt q0 hg1191) ⟨rfl, rfl⟩)⟩⟩, fun _ => ⟨rfl, rfl, rfl, .inl ⟨rfl, (o_fa (fd := ⟨ "Addr", 3, 0, false, "", "", 0⟩) rfl rfl rfl rfl rfl ⟨rfl, rfl⟩)⟩⟩, fun _ => ⟨rfl, rfl, rfl, .inl ⟨rfl, (o_ldE (s := s0) (e := en_Vvitrineref20_Entry) (n := x4) (f := 0) (v := (.int .i64 ((rd p0.Entries x4).Addr))) rfl rm3 (rd_own _ _ _ _) (NL.lt q0 hg1191) rfl (by rw [he_sv1192]; rfl) ⟨rfl, rfl⟩)⟩⟩, fun _ => ⟨rfl, rfl, rfl, .inl ⟨rfl, (o_fa (fd := ⟨ "Entries", 56, 3, false, "", "", 16⟩) rfl rfl rfl rfl rfl ⟨rfl, rfl⟩)⟩⟩, fun _ => ⟨rfl, rfl, rfl, .inl ⟨rfl, (o_ld (b := b1154) (off := 3) (v := (SV.val s1)) rfl rm1 rfl rfl ⟨rfl, rfl⟩)⟩⟩, fun _ => ⟨rfl, rfl, rfl, .inl ⟨rfl, (o_p rfl ⟨rfl, rfl⟩)⟩⟩, fun _ => ⟨rfl, rfl, rfl, .inl ⟨rfl, (o_ix (s := s1) (n := x4) (e := en_Vvitrineref20_Entry) rfl rfl rfl rfl rfl rfl rm0 q1 (NL.lt n_q1 hg1194) ⟨rfl, rfl⟩)⟩⟩, fun _ => ⟨rfl, rfl, rfl, .inl ⟨rfl, (o_fa (fd := ⟨ "Addr", 3, 0, false, "", "", 0⟩) rfl rfl rfl rfl rfl ⟨rfl, rfl⟩)⟩⟩, fun _ => ⟨rfl, rfl, rfl, .inl ⟨rfl, (o_ldE (s := s1) (e := en_Vvitrineref20_Entry) (n := x4) (f := 0) (v := (.int .i64 ((rd p1.Entries x4).Addr))) rfl rm0 q1 (NL.lt n_q1 hg1194) rfl (by rw [he_sv1195]; rfl) ⟨rfl, rfl⟩)⟩⟩, fun _ => ⟨rfl, rfl, rfl, .inl ⟨rfl, (o_p (v := (.bool (((rd p0.Entries x4).Addr) != ((rd p1.Entries x4).Addr)))) rfl ⟨rfl, rfl⟩)⟩⟩, fun _ => ⟨rfl, rfl, rfl, .inl ⟨rfl, (o_p rfl ⟨rfl, rfl⟩)⟩⟩, trivial⟩, rfl, .inl ⟨rfl, rfl, ?_⟩⟩
              have hd := Option.some.inj h
              subst hd
              exact ej () () trivial (sc rfl (sc rfl (sc rfl (sc rfl (sc rfl sn))))) (kc rm0 (kc rm0 (kc rm0 (kc rm0 kr))))
            · replace h := cond_f hb1197 h
              replace h := gsome h
              obtain ⟨hg1198, h⟩ := h
              obtain ⟨sv1199, he_sv1199, hd_sv1199⟩ := NL.rd q0 hg1198
              have hr1200 : Rd X sv1199 5 (enI .u8) ((rd p0.Entries x4).Text) := hd_sv1199
              replace h := gsome h
              obtain ⟨hg1201, h⟩ := h
              obtain ⟨sv1202, he_sv1202, hd_sv1202⟩ := NL.rd n_q1 hg1201
              have hr1203 : Rd X sv1202 5 (enI .u8) ((rd p1.Entries x4).Text) := hd_sv1202
              refine c_draw (n := 1) (q := [(14, 54, (.pointer (some ⟨b1152, 3, none⟩))), (15, 55, (SV.val s0)), (16, 56, (.int .i64 x4)), (17, 57, (.pointer (some ⟨SV.blk s0, SV.off s0 + Int.toNat x4 * 2, none⟩))), (18, 58, (.pointer (some ⟨SV.blk s0, SV.off s0 + Int.toNat x4 * 2 + 1, none⟩))), (19, 59, (SV.val sv1199)), (20, 60, (.pointer (some ⟨b1154, 3, none⟩))), (21, 61, (SV.val s1)), (22, 62, (.int .i64 x4)), (23, 63, (.pointer (some ⟨SV.blk s1, SV.off s1 + Int.toNat x4 * 2, none⟩))), (24, 64, (.pointer (some ⟨SV.blk s1, SV.off s1 + Int.toNat x4 * 2 + 1, none⟩))), (25, 65, (SV.val sv1202)), (0, 40, (.pointer (some ⟨b1152, 3, none⟩))), (1, 41, (SV.val s0)), (2, 42, (.int .i64 x4)), (3, 43, (.pointer (some ⟨SV.blk s0, SV.off s0 + Int.toNat x4 * 2, none⟩))), (4, 44, (.pointer (some ⟨SV.blk s0, SV.off s0 + Int.toNat x4 * 2, none⟩))), (5, 45, (.int .i64 ((rd p0.Entries x4).Addr))), (6, 46, (.pointer (some ⟨b1154, 3, none⟩))), (7, 47, (SV.val s1)), (8, 48, (.int .i64 x4)), (9, 49, (.pointer (some ⟨SV.blk s1, SV.off s1 + Int.toNat x4 * 2, none⟩))), (10, 50, (.pointer (some ⟨SV.blk s1, SV.off s1 + Int.toNat x4 * 2, none⟩))), (11, 51, (.int .i64 ((rd p1.Entries x4).Addr))), (12, 52, (.bool (((rd p0.Entries x4).Addr) != ((rd p1.Entries x4).Addr)))), (13, 53, (.bool (((rd p0.Entries x4).Addr) != ((rd p1.Entries x4).Addr))))]) (pend := [0, 1, 2, 3, 4, 5, 6, 7, 8, 9, 10, 11, 12, 13, 14, 15, 16, 17, 18, 19, 20, 21, 22, 23, 24, 25]) rfl rfl rfl ?_
              replace h := bsome h
              obtain ⟨d8, h8, h⟩ := h
              refine ⟨⟨fun _ => ⟨rfl, rfl, rfl, .inr ⟨_, _, _, _, rfl, rfl, rfl, .inl ⟨hb1197, (o_fa (fd := ⟨ "Entries", 56, 3, false, "", "", 16⟩) rfl rfl rfl rfl rfl ⟨rfl, rfl⟩)⟩⟩⟩, fun _ => ⟨rfl, rfl, rfl, .inr ⟨_, _, _, _, rfl, rfl, rfl, .inl ⟨hb1197, (o_ld (b := b1152) (off := 3) (v := (SV.val s0)) rfl rm2 rfl rfl ⟨rfl, rfl⟩)⟩⟩⟩, fun _ => ⟨rfl, rfl, rfl, .inr ⟨_, _, _, _, rfl, rfl, rfl, .inl ⟨hb1197, (o_p rfl ⟨rfl, rfl⟩)⟩⟩⟩, fun _ => ⟨rfl, rfl, rfl, .inr ⟨_, _, _, _, rfl, rfl, rfl, .inl ⟨hb1197, (o_ix (s := s0) (n := x4) (e := en_Vvitrineref20_Entry) rfl rfl rfl rfl rfl rfl rm3 (rd_own _ _ _ _) (NL.lt q0 hg1198) ⟨rfl, rfl⟩)⟩⟩⟩, fun _ => ⟨rfl, rfl, rfl, .inr ⟨_, _, _, _, rfl, rfl, rfl, .inl ⟨hb1197, (o_fa (fd := ⟨ "Text", 31, 1, false, "", "", 8⟩) rfl rfl rfl rfl rfl ⟨rfl, rfl⟩)⟩⟩⟩, fun _ => ⟨rfl, rfl, rfl, .inr ⟨_, _, _, _, rfl, rfl, rfl, .inl ⟨hb1197, (o_ldE (s := s0) (e := en_Vvitrineref20_Entry) (n := x4) (f := 1) (v := (SV.val sv1199)) rfl rm3 (rd_own _ _ _ _) (NL.lt q0 hg1198) rfl (by rw [he_sv1199]; rfl) ⟨rfl, rfl⟩)⟩⟩⟩, fun _ => ⟨rfl, rfl, rfl, .inr ⟨_, _, _, _, rfl, rfl, rfl, .inl ⟨hb1197, (o_fa (fd := ⟨ "Entries", 56, 3, false, "", "", 16⟩) rfl rfl rfl rfl rfl ⟨rfl, rfl⟩)⟩⟩⟩, fun _ => ⟨rfl, rfl, rfl, .inr ⟨_, _, _, _, rfl, rfl, rfl, .inl ⟨hb1197, (o_ld (b := b1154) (off := 3) (v := (SV.val s1)) rfl rm1 rfl rfl ⟨rfl, rfl⟩)⟩⟩⟩, fun _ => ⟨rfl, rfl, rfl, .inr ⟨_, _, _, _, rfl, rfl, rfl, .inl ⟨hb1197, (o_p rfl ⟨rfl, rfl⟩)⟩⟩⟩, fun _ => ⟨rfl, rfl, rfl, .inr ⟨_, _, _, _, rfl, rfl, rfl, .inl ⟨hb1197, (o_ix (s := s1) (n := x4) (e := en_Vvitrineref20_Entry) rfl rfl rfl rfl rfl rfl rm0 q1 (NL.lt n_q1 hg1201) ⟨rfl, rfl⟩)⟩⟩⟩, fun _ => ⟨rfl, rfl, rfl, .inr ⟨_, _, _, _, rfl, rfl, rfl, .inl ⟨hb1197, (o_fa (fd := ⟨ "Text", 31, 1, false, "", "", 8⟩) rfl rfl rfl rfl rfl ⟨rfl, rfl⟩)⟩⟩⟩, fun _ => ⟨rfl, rfl, rfl, .inr ⟨_, _, _, _, rfl, rfl, rfl, .inl ⟨hb1197, (o_ldE (s := s1) (e := en_Vvitrineref20_Entry) (n := x4) (f := 1) (v := (SV.val sv1202)) rfl rm0 q1 (NL.lt n_q1 hg1201) rfl (by rw [he_sv1202]; rfl) ⟨rfl, rfl⟩)⟩⟩⟩, fun _ => ⟨rfl, rfl, rfl, .inl ⟨rfl, (o_fa (fd := ⟨ "Entries", 56, 3, false, "", "", 16⟩) rfl rfl rfl rfl rfl ⟨rfl, rfl⟩)⟩⟩, fun _ => ⟨rfl, rfl, rfl, .inl ⟨rfl, (o_ld (b := b1152) (off := 3) (v := (SV.val s0)) rfl rm2 rfl rfl ⟨rfl, rfl⟩)⟩⟩, fun _ => ⟨rfl, rfl, rfl, .inl ⟨rfl, (o_p rfl ⟨rfl, rfl⟩)⟩⟩, fun _ => ⟨rfl, rfl, rfl, .inl ⟨rfl, (o_ix (s := s0) (n := x4) (e := en_Vvitrineref20_Entry) rfl rfl rfl rfl rfl rfl rm3 (rd_own _ _ _ _) (NL.lt q0 hg1191) ⟨rfl, rfl⟩)⟩⟩, fun _ => ⟨rfl, rfl, rfl, .inl ⟨rfl, (o_fa (fd := ⟨ "Addr", 3, 0, false, "", "", 0⟩) rfl rfl rfl rfl rfl ⟨rfl, rfl⟩)⟩⟩, fun _ => ⟨rfl, rfl, rfl, .inl ⟨rfl, (o_ldE (s := s0) (e := en_Vvitrineref20_Entry) (n := x4) (f := 0) (v := (.int .i64 ((rd p0.Entries x4).Addr))) rfl rm3 (rd_own _ _ _ _) (NL.lt q0 hg1191) rfl (by rw [he_sv1192]; rfl) ⟨rfl, rfl⟩)⟩⟩, fun _ => ⟨rfl, rfl, rfl, .inl ⟨rfl, (o_fa (fd := ⟨ "Entries", 56, 3, false, "", "", 16⟩) rfl rfl rfl rfl rfl ⟨rfl, rfl⟩)⟩⟩, fun _ => ⟨rfl, rfl, rfl, .inl ⟨rfl, (o_ld (b := b1154) (off := 3) (v := (SV.val s1)) rfl rm1 rfl rfl ⟨rfl, rfl⟩)⟩⟩, fun _ => ⟨rfl, rfl, rfl, .inl ⟨rfl, (o_p rfl ⟨rfl, rfl⟩)⟩⟩, fun _ => ⟨rfl, rfl, rfl, .inl ⟨rfl, (o_ix (s := s1) (n := x4) (e := en_Vvitrineref20_Entry) rfl rfl rfl rfl rfl rfl rm0 q1 (NL.lt n_q1 hg1194) ⟨rfl, rfl⟩)⟩⟩, fun _ => ⟨rfl, rfl, rfl, .inl ⟨rfl, (o_fa (fd := ⟨ "Addr", 3, 0, false, "", "", 0⟩) rfl rfl rfl rfl rfl ⟨rfl, rfl⟩)⟩⟩, fun _ => ⟨rfl, rfl, rfl, .inl ⟨rfl, (o_ldE (s := s1) (e := en_Vvitrineref20_Entry) (n := x4) (f := 0) (v := (.int .i64 ((rd p1.Entries x4).Addr))) rfl rm0 q1 (NL.lt n_q1 hg1194) rfl (by rw [he_sv1195]; rfl) ⟨rfl, rfl⟩)⟩⟩, fun _ => ⟨rfl, rfl, rfl, .inl ⟨rfl, (o_p (v := (.bool (((rd p0.Entries x4).Addr) != ((rd p1.Entries x4).Addr)))) rfl ⟨rfl, rfl⟩)⟩⟩, fun _ => ⟨rfl, rfl, rfl, .inl ⟨rfl, (o_p rfl ⟨rfl, rfl⟩)⟩⟩, trivial⟩, rfl, .inr ⟨[26], rfl, rfl, ⟨rfl, .inr ⟨_, _, _, _, rfl, rfl, rfl, hb1197⟩, ?_⟩, trivial⟩⟩
              refine (o_call has20 rfl (c_vitrineref01_Same X ((rd p0.Entries x4).Text) sv1199 hr1200 ((rd p1.Entries x4).Text) sv1202 hr1203 _ h8) (pc rm0 pn) ?_)
              refine ⟨[(27, 67, (.bool (!d8))), (28, 68, (.bool (!d8)))], [27, 28], rfl, rfl, rfl, rfl, ?_⟩
              refine ⟨⟨fun _ => ⟨rfl, rfl, rfl, .inr ⟨_, _, _, _, rfl, rfl, rfl, .inl ⟨hb1197, (o_p (v := (.bool (!d8))) rfl ⟨rfl, rfl⟩)⟩⟩⟩, fun _ => ⟨rfl, rfl, rfl, .inl ⟨rfl, (o_pick_f rfl hb1197 rfl ⟨rfl, rfl⟩)⟩⟩, (fun h => nomatch h), (fun h => nomatch h), (fun h => nomatch h), (fun h => nomatch h), (fun h => nomatch h), (fun h => nomatch h), (fun h => nomatch h), (fun h => nomatch h), (fun h => nomatch h), (fun h => nomatch h), (fun h => nomatch h), (fun h => nomatch h), (fun h => nomatch h), (fun h => nomatch h), (fun h => nomatch h), (fun h => nomatch h), (fun h => nomatch h), (fun h => nomatch h), (fun h => nomatch h), (fun h => nomatch h), (fun h => nomatch h), (fun h => nomatch h), (fun h => nomatch h), (fun h => nomatch h), (fun h => nomatch h), (fun h => nomatch h), trivial⟩, rfl, rfl, rfl, ?_⟩
              have hd := Option.some.inj h
              subst hd
              exact ej () () trivial (sc rfl (sc rfl (sc rfl (sc rfl (sc rfl sn))))) (kc rm0 (kc rm0 (kc rm0 (kc rm0 kr))))
          · rintro _ i7 _
            replace h := hk7
            clear hk7
            refine e_seq ?_
            refine c_cond (b := d7) rfl (fun hb1204 => ?_) (fun hb1204 => ?_)
            · replace h := cond_t hb1204 h
              refine c_seq ?_
              refine c_region ?_
              refine o1 rfl (o_p rfl ?_)
              refine o_end ?_
              refine e_seq ?_
              refine c_ret ?_
              refine e_blk_ret ?_
              refine e_then_ret ?_
              refine e_then_ret ?_
              refine e_blk_ret ?_
              refine ej_ret ?_
              replace h := esc_some h
              obtain ⟨z3, h, rfl⟩ := h
              obtain rfl := (hk3 : z3 = _)
              refine e_then_ret ?_
              refine e_ret ?_
              refine r_endt rfl rfl (kc rm0 (kd (kd (kd kr)))) ?_
              have hr := Option.some.inj h
              subst hr
              exact hk
            · replace h := cond_f hb1204 h
              refine c_skip ?_
              refine e_blk ?_
              refine e_seq ?_
              refine c_region ?_
              refine o1 rfl (o_p (v := (.int .i64 (w64 (x4 + 1)))) rfl ?_)
              refine o1 rfl (o_p rfl ?_)
              refine o_end ?_
              exact e_loop (l_sub (sc rfl (sc rfl (sc rfl (sc rfl sn)))) (l_keep (kc rm0 (kc rm0 (kc rm0 (kc rm0 kr)))) (ih4 (w64 (x4 + 1)) () trivial h)))
        · replace h := cond_f hb1190 h
          refine c_exit ?_
          refine e_then_exit ?_
          refine e_then_exit ?_
          refine e_blk_exit ?_
          have hd := Option.some.inj h
          subst hd
          exact ej () () rfl sn (kc rm0 (kd (kd (kd kr))))
      · rintro d3 i3 rfl
        replace h := JK_inl hk3
        clear hk3
        refine e_seq ?_
        refine c_seq ?_
        refine c_region ?_
        refine o1 rfl (o_p rfl ?_)
        refine o_end ?_
        refine e_seq ?_
        refine c_ret ?_
        refine e_ret ?_
        refine r_endt rfl rfl (kc rm0 kr) ?_
        have hr := Option.some.inj h
        subst hr
        exact hk

theorem c_addr_Model {g : Gw} (X : HP) (p0 : Int) (r : Vaddr_Size × Int) (h : m_addr_Model p0 = some r) : Tri env g 78 (List.toArray [(.int .i64 p0)]) [X] (fun K R => K (.tuple (List.toArray [(.agg (List.toArray [(.int .i64 r.1.Rows), (.int .i64 r.1.Cols)])), (.int .i64 r.2)])) (X :: R)) := by
  refine tri_of (fn := Try.f78) (N := 18) Try.func78 rfl rfl rfl ?_
  intro R K hk
  unfold m_addr_Model at h
  change GC _ none _ [] [(0, (.int .i64 p0))] (X :: R) g _ _
  refine c_seq ?_
  refine c_region ?_
  refine o1 rfl (o_alloc (cs := [(.int .i64 0), (.int .i64 0)]) rfl rfl (fun b1215 => ?_))
  refine o1 rfl (o_p rfl ?_)
  refine o_end ?_
  refine e_seq ?_
  refine c_seq ?_
  refine c_seq ?_
  refine c_region ?_
  refine o1 rfl (o_p rfl ?_)
  refine o_end ?_
  refine e_seq ?_
  refine c_block ?_
  refine c_seq ?_
  refine c_region ?_
  refine o1 rfl (o_p (v := (.bool (p0 == 2))) rfl ?_)
  refine o1 rfl (o_p rfl ?_)
  refine o_end ?_
  refine e_seq ?_
  refine c_cond (b := (p0 == 2)) rfl (fun hb1217 => ?_) (fun hb1217 => ?_)
  · replace h := cond_t hb1217 h
    refine c_seq ?_
    refine c_region ?_
    refine o1 rfl (o_build (fs := [⟨ "Rows", 3, 0, false, "", "", 0⟩, ⟨ "Cols", 3, 1, false, "", "", 8⟩]) (ps := [(0, 1), (1, 1)]) (cs := [(.int .i64 24), (.int .i64 80)]) rfl rfl rfl rfl rfl ?_)
    refine o0 (o_st (b := b1215) (off := 0) (vs := [(.int .i64 24), (.int .i64 80)]) (cs' := [(.int .i64 24), (.int .i64 80)]) rfl rfl rp0 rfl rfl rfl rfl rfl rfl ?_)
    refine o1 rfl (o_p rfl ?_)
    refine o_end ?_
    refine e_seq ?_
    refine c_ret ?_
    refine e_blk_ret ?_
    refine e_then_ret ?_
    refine e_ret ?_
    refine r_endc (B := [[(.int .i64 24), (.int .i64 80)]]) rfl ⟨⟨_, _, _, _, rfl, rm0⟩, trivial⟩ rfl (kc rm1 (kd kr)) ?_
    have hr := Option.some.inj h
    subst hr
    exact hk
  · replace h := cond_f hb1217 h
    refine c_seq ?_
    refine c_region ?_
    refine o1 rfl (o_p (v := (.bool (p0 == 3))) rfl ?_)
    refine o1 rfl (o_p rfl ?_)
    refine o_end ?_
    refine e_seq ?_
    refine c_cond (b := (p0 == 3)) rfl (fun hb1218 => ?_) (fun hb1218 => ?_)
    · replace h := cond_t hb1218 h
      refine c_seq ?_
      refine c_region ?_
      refine o1 rfl (o_build (fs := [⟨ "Rows", 3, 0, false, "", "", 0⟩, ⟨ "Cols", 3, 1, false, "", "", 8⟩]) (ps := [(0, 1), (1, 1)]) (cs := [(.int .i64 32), (.int .i64 80)]) rfl rfl rfl rfl rfl ?_)
      refine o0 (o_st (b := b1215) (off := 0) (vs := [(.int .i64 32), (.int .i64 80)]) (cs' := [(.int .i64 32), (.int .i64 80)]) rfl rfl rp0 rfl rfl rfl rfl rfl rfl ?_)
      refine o1 rfl (o_p rfl ?_)
      refine o_end ?_
      refine e_seq ?_
      refine c_ret ?_
      refine e_blk_ret ?_
      refine e_then_ret ?_
      refine e_ret ?_
      refine r_endc (B := [[(.int .i64 32), (.int .i64 80)]]) rfl ⟨⟨_, _, _, _, rfl, rm0⟩, trivial⟩ rfl (kc rm1 (kd kr)) ?_
      have hr := Option.some.inj h
      subst hr
      exact hk
    · replace h := cond_f hb1218 h
      refine c_seq ?_
      refine c_region ?_
      refine o1 rfl (o_p (v := (.bool (p0 == 4))) rfl ?_)
      refine o1 rfl (o_p rfl ?_)
      refine o_end ?_
      refine e_seq ?_
      refine c_cond (b := (p0 == 4)) rfl (fun hb1219 => ?_) (fun hb1219 => ?_)
      · replace h := cond_t hb1219 h
        refine c_seq ?_
        refine c_region ?_
        refine o1 rfl (o_build (fs := [⟨ "Rows", 3, 0, false, "", "", 0⟩, ⟨ "Cols", 3, 1, false, "", "", 8⟩]) (ps := [(0, 1), (1, 1)]) (cs := [(.int .i64 43), (.int .i64 80)]) rfl rfl rfl rfl rfl ?_)
        refine o0 (o_st (b := b1215) (off := 0) (vs := [(.int .i64 43), (.int .i64 80)]) (cs' := [(.int .i64 43), (.int .i64 80)]) rfl rfl rp0 rfl rfl rfl rfl rfl rfl ?_)
        refine o1 rfl (o_p rfl ?_)
        refine o_end ?_
        refine e_seq ?_
        refine c_ret ?_
        refine e_blk_ret ?_
        refine e_then_ret ?_
        refine e_ret ?_
        refine r_endc (B := [[(.int .i64 43), (.int .i64 80)]]) rfl ⟨⟨_, _, _, _, rfl, rm0⟩, trivial⟩ rfl (kc rm1 (kd kr)) ?_
        have hr := Option.some.inj h
        subst hr
        exact hk
      · replace h := cond_f hb1219 h
        refine c_seq ?_
        refine c_region ?_
        refine o1 rfl (o_p (v := (.bool (p0 == 5))) rfl ?_)
        refine o1 rfl (o_p rfl ?_)
        refine o_end ?_
        refine e_seq ?_
        refine c_cond (b := (p0 == 5)) rfl (fun hb1220 => ?_) (fun hb1220 => ?_)
        · replace h := cond_t hb1220 h
          refine c_seq ?_
          refine c_region ?_
          refine o1 rfl (o_build (fs := [⟨ "Rows", 3, 0, false, "", "", 0⟩, ⟨ "Cols", 3, 1, false, "", "", 8⟩]) (ps := [(0, 1), (1, 1)]) (cs := [(.int .i64 27), (.int .i64 132)]) rfl rfl rfl rfl rfl ?_)
          refine o0 (o_st (b := b1215) (off := 0) (vs := [(.int .i64 27), (.int .i64 132)]) (cs' := [(.int .i64 27), (.int .i64 132)]) rfl rfl rp0 rfl rfl rfl rfl rfl rfl ?_)
          refine o1 rfl (o_p rfl ?_)
          refine o_end ?_
          refine e_seq ?_
          refine c_ret ?_
          refine e_blk_ret ?_
          refine e_then_ret ?_
          refine e_ret ?_
          refine r_endc (B := [[(.int .i64 27), (.int .i64 132)]]) rfl ⟨⟨_, _, _, _, rfl, rm0⟩, trivial⟩ rfl (kc rm1 (kd kr)) ?_
          have hr := Option.some.inj h
          subst hr
          exact hk
        · replace h := cond_f hb1220 h
          refine c_skip ?_
          refine e_blk ?_
          refine e_seq ?_
          refine c_seq ?_
          refine c_region ?_
          refine o1 rfl (o_build (fs := [⟨ "Rows", 3, 0, false, "", "", 0⟩, ⟨ "Cols", 3, 1, false, "", "", 8⟩]) (ps := [(0, 1), (1, 1)]) (cs := [(.int .i64 0), (.int .i64 0)]) rfl rfl rfl rfl rfl ?_)
          refine o0 (o_st (b := b1215) (off := 0) (vs := [(.int .i64 0), (.int .i64 0)]) (cs' := [(.int .i64 0), (.int .i64 0)]) rfl rfl rp0 rfl rfl rfl rfl rfl rfl ?_)
          refine o1 rfl (o_p rfl ?_)
          refine o_end ?_
          refine e_seq ?_
          refine c_ret ?_
          refine e_ret ?_
          refine r_endc (B := [[(.int .i64 0), (.int .i64 0)]]) rfl ⟨⟨_, _, _, _, rfl, rm0⟩, trivial⟩ rfl (kc rm1 (kd kr)) ?_
          have hr := Option.some.inj h
          subst hr
          exact hk

theorem c_addr_Size_Valid {g : Gw} (X : HP) (p0 : Vaddr_Size) (r : Bool) (h : m_addr_Size_Valid p0 = some r) : Tri env g 105 (List.toArray [(.agg (List.toArray [(.int .i64 p0.Rows), (.int .i64 p0.Cols)]))]) [X] (fun K R => K (.bool r) (X :: R)) := by
  refine tri_of (fn := Try.f105) (N := 29) Try.func105 rfl rfl rfl ?_
  intro R K hk
  unfold m_addr_Size_Valid at h
  change GC _ none _ [] [(0, (.agg (List.toArray [(.int .i64 p0.Rows), (.int .i64 p0.Cols)])))] (X :: R) g _ _
  refine c_seq ?_
  refine c_region ?_
  refine o1 rfl (o_box (cs := [(.int .i64 p0.Rows), (.int .i64 p0.Cols)]) rfl rfl (fun b1229 => ?_))
  refine o1 rfl (o_p rfl ?_)
  refine o_end ?_
  refine e_seq ?_
  refine c_seq ?_
  replace h := bsome h
  obtain ⟨d1, h, hk1⟩ := h
  refine cj (D := Unit) (ι := Unit) (fun _ i1 => True) (fun _ i1 => [(2, (.bool d1))]) (fun _ i1 => X :: R) ?_ ?_
  · refine c_region ?_
    refine o1 rfl (o_fa (fd := ⟨ "Rows", 3, 0, false, "", "", 0⟩) rfl rfl rfl rfl rfl ?_)
    refine o1 rfl (o_ld (b := b1229) (off := 0) (v := (.int .i64 p0.Rows)) rfl rm0 rfl rfl ?_)
    refine o1 rfl (o_p (v := (.bool (decide (p0.Rows ≥ 1)))) rfl ?_)
    refine o1 rfl (o_p rfl ?_)
    rcases bool_or ((decide (p0.Rows ≥ 1))) with hb1231 | hb1231
    · replace h := cond_t hb1231 h
      refine oy rfl rfl rfl hb1231 (o_fa (fd := ⟨ "Rows", 3, 0, false, "", "", 0⟩) rfl rfl rfl rfl rfl ?_)
      refine oy rfl rfl rfl hb1231 (o_ld (b := b1229) (off := 0) (v := (.int .i64 p0.Rows)) rfl rm0 rfl rfl ?_)
      refine oy rfl rfl rfl hb1231 (o_p (v := (.bool (decide (p0.Rows ≤ 43)))) rfl ?_)
      refine o1 rfl (o_pick_t rfl hb1231 rfl ?_)
      refine o1 rfl (o_p rfl ?_)
      rcases bool_or ((decide (p0.Rows ≤ 43))) with hb1232 | hb1232
      · replace h := cond_t hb1232 h
        refine oy rfl rfl rfl hb1232 (o_fa (fd := ⟨ "Cols", 3, 1, false, "", "", 8⟩) rfl rfl rfl rfl rfl ?_)
        refine oy rfl rfl rfl hb1232 (o_ld (b := b1229) (off := 1) (v := (.int .i64 p0.Cols)) rfl rm0 rfl rfl ?_)
        refine oy rfl rfl rfl hb1232 (o_p (v := (.bool (decide (p0.Cols ≥ 1)))) rfl ?_)
        refine o1 rfl (o_pick_t rfl hb1232 rfl ?_)
        refine o1 rfl (o_p rfl ?_)
        rcases bool_or ((decide (p0.Cols ≥ 1))) with hb1233 | hb1233
        · replace h := cond_t hb1233 h
          refine oy rfl rfl rfl hb1233 (o_fa (fd := ⟨ "Cols", 3, 1, false, "", "", 8⟩) rfl rfl rfl rfl rfl ?_)
          refine oy rfl rfl rfl hb1233 (o_ld (b := b1229) (off := 1) (v := (.int .i64 p0.Cols)) rfl rm0 rfl rfl ?_)
          refine oy rfl rfl rfl hb1233 (o_p (v := (.bool (decide (p0.Cols ≤ 132)))) rfl ?_)
          refine o1 rfl (o_pick_t rfl hb1233 rfl ?_)
          refine o1 rfl (o_p rfl ?_)
          rcases bool_or ((decide (p0.Cols ≤ 132))) with hb1234 | hb1234
          · replace h := cond_t hb1234 h
            refine oy rfl rfl rfl hb1234 (o_fa (fd := ⟨ "Rows", 3, 0, false, "", "", 0⟩) rfl rfl rfl rfl rfl ?_)
            refine oy rfl rfl rfl hb1234 (o_ld (b := b1229) (off := 0) (v := (.int .i64 p0.Rows)) rfl rm0 rfl rfl ?_)
            refine oy rfl rfl rfl hb1234 (o_fa (fd := ⟨ "Cols", 3, 1, false, "", "", 8⟩) rfl rfl rfl rfl rfl ?_)
            refine oy rfl rfl rfl hb1234 (o_ld (b := b1229) (off := 1) (v := (.int .i64 p0.Cols)) rfl rm0 rfl rfl ?_)
            refine oy rfl rfl rfl hb1234 (o_p (v := (.int .i64 (w64 (p0.Rows * p0.Cols)))) rfl ?_)
            refine oy rfl rfl rfl hb1234 (o_p (v := (.bool (decide ((w64 (p0.Rows * p0.Cols)) ≤ 3564)))) rfl ?_)
            refine o1 rfl (o_pick_t rfl hb1234 rfl ?_)
            refine o1 rfl (o_p rfl ?_)
            refine o_end ?_
            have hd := Option.some.inj h
            subst hd
            exact ej () () trivial (sc rfl sn) (kc rm1 (kd kr))
          · replace h := cond_f hb1234 h
            refine on rfl rfl rfl hb1234 ?_
            refine on rfl rfl rfl hb1234 ?_
            refine on rfl rfl rfl hb1234 ?_
            refine on rfl rfl rfl hb1234 ?_
            refine on rfl rfl rfl hb1234 ?_
            refine on rfl rfl rfl hb1234 ?_
            refine o1 rfl (o_pick_f rfl hb1234 rfl ?_)
            refine o1 rfl (o_p rfl ?_)
            refine o_end ?_
            have hd := Option.some.inj h
            subst hd
            exact ej () () trivial (sc rfl sn) (kc rm1 (kd kr))
        · replace h := cond_f hb1233 h
          refine on rfl rfl rfl hb1233 ?_
          refine on rfl rfl rfl hb1233 ?_
          refine on rfl rfl rfl hb1233 ?_
          refine o1 rfl (o_pick_f rfl hb1233 rfl ?_)
          refine o1 rfl (o_p rfl ?_)
          refine on rfl rfl rfl rfl ?_
          refine on rfl rfl rfl rfl ?_
          refine on rfl rfl rfl rfl ?_
          refine on rfl rfl rfl rfl ?_
          refine on rfl rfl rfl rfl ?_
          refine on rfl rfl rfl rfl ?_
          refine o1 rfl (o_pick_f rfl rfl rfl ?_)
          refine o1 rfl (o_p rfl ?_)
          refine o_end ?_
          have hd := Option.some.inj h
          subst hd
          exact ej () () trivial (sc rfl sn) (kc rm1 (kd kr))
      · replace h := cond_f hb1232 h
        refine on rfl rfl rfl hb1232 ?_
        refine on rfl rfl rfl hb1232 ?_
        refine on rfl rfl rfl hb1232 ?_
        refine o1 rfl (o_pick_f rfl hb1232 rfl ?_)
        refine o1 rfl (o_p rfl ?_)
        refine on rfl rfl rfl rfl ?_
        refine on rfl rfl rfl rfl ?_
        refine on rfl rfl rfl rfl ?_
        refine o1 rfl (o_pick_f rfl rfl rfl ?_)
        refine o1 rfl (o_p rfl ?_)
        refine on rfl rfl rfl rfl ?_
        refine on rfl rfl rfl rfl ?_
        refine on rfl rfl rfl rfl ?_
        refine on rfl rfl rfl rfl ?_
        refine on rfl rfl rfl rfl ?_
        refine on rfl rfl rfl rfl ?_
        refine o1 rfl (o_pick_f rfl rfl rfl ?_)
        refine o1 rfl (o_p rfl ?_)
        refine o_end ?_
        have hd := Option.some.inj h
        subst hd
        exact ej () () trivial (sc rfl sn) (kc rm1 (kd kr))
    · replace h := cond_f hb1231 h
      refine on rfl rfl rfl hb1231 ?_
      refine on rfl rfl rfl hb1231 ?_
      refine on rfl rfl rfl hb1231 ?_
      refine o1 rfl (o_pick_f rfl hb1231 rfl ?_)
      refine o1 rfl (o_p rfl ?_)
      refine on rfl rfl rfl rfl ?_
      refine on rfl rfl rfl rfl ?_
      refine on rfl rfl rfl rfl ?_
      refine o1 rfl (o_pick_f rfl rfl rfl ?_)
      refine o1 rfl (o_p rfl ?_)
      refine on rfl rfl rfl rfl ?_
      refine on rfl rfl rfl rfl ?_
      refine on rfl rfl rfl rfl ?_
      refine o1 rfl (o_pick_f rfl rfl rfl ?_)
      refine o1 rfl (o_p rfl ?_)
      refine on rfl rfl rfl rfl ?_
      refine on rfl rfl rfl rfl ?_
      refine on rfl rfl rfl rfl ?_
      refine on rfl rfl rfl rfl ?_
      refine on rfl rfl rfl rfl ?_
      refine on rfl rfl rfl rfl ?_
      refine o1 rfl (o_pick_f rfl rfl rfl ?_)
      refine o1 rfl (o_p rfl ?_)
      refine o_end ?_
      have hd := Option.some.inj h
      subst hd
      exact ej () () trivial (sc rfl sn) (kc rm1 (kd kr))
  · rintro _ i1 _
    replace h := hk1
    clear hk1
    refine e_seq ?_
    refine c_ret ?_
    refine e_ret ?_
    refine r_endt rfl rfl (kc rm0 kr) ?_
    have hr := Option.some.inj h
    subst hr
    exact hk

theorem c_addr_Size_Cells {g : Gw} (X : HP) (p0 : Vaddr_Size) (r : Int) (h : m_addr_Size_Cells p0 = some r) : Tri env g 71 (List.toArray [(.agg (List.toArray [(.int .i64 p0.Rows), (.int .i64 p0.Cols)]))]) [X] (fun K R => K (.int .i64 r) (X :: R)) := by
  refine tri_of (fn := Try.f71) (N := 11) Try.func71 rfl rfl rfl ?_
  intro R K hk
  unfold m_addr_Size_Cells at h
  change GC _ none _ [] [(0, (.agg (List.toArray [(.int .i64 p0.Rows), (.int .i64 p0.Cols)])))] (X :: R) g _ _
  refine c_seq ?_
  refine c_region ?_
  refine o1 rfl (o_box (cs := [(.int .i64 p0.Rows), (.int .i64 p0.Cols)]) rfl rfl (fun b1227 => ?_))
  refine o1 rfl (o_p rfl ?_)
  refine o_end ?_
  refine e_seq ?_
  refine c_seq ?_
  refine c_seq ?_
  refine c_region ?_
  refine o1 rfl (o_ld (b := b1227) (off := 0) (v := (.agg (List.toArray [(.int .i64 p0.Rows), (.int .i64 p0.Cols)]))) rfl rm0 rfl rfl ?_)
  replace h := bsome h
  obtain ⟨d1, h1, h⟩ := h
  refine o1 rfl (o_call has105 rfl (c_addr_Size_Valid X p0 _ h1) (pc rm1 pn) ?_)
  refine o1 rfl (o_p (v := (.bool (!d1))) rfl ?_)
  refine o_end ?_
  refine e_seq ?_
  refine c_cond (b := (!d1)) rfl (fun hb1235 => ?_) (fun hb1235 => ?_)
  · replace h := cond_t hb1235 h
    refine c_seq ?_
    refine c_region ?_
    refine o1 rfl (o_p rfl ?_)
    refine o_end ?_
    refine e_seq ?_
    refine c_ret ?_
    refine e_then_ret ?_
    refine e_ret ?_
    refine r_endt rfl rfl (kc rm0 (kd kr)) ?_
    have hr := Option.some.inj h
    subst hr
    exact hk
  · replace h := cond_f hb1235 h
    refine c_skip ?_
    refine e_seq ?_
    refine c_seq ?_
    refine c_region ?_
    refine o1 rfl (o_fa (fd := ⟨ "Rows", 3, 0, false, "", "", 0⟩) rfl rfl rfl rfl rfl ?_)
    refine o1 rfl (o_ld (b := b1227) (off := 0) (v := (.int .i64 p0.Rows)) rfl rm1 rfl rfl ?_)
    refine o1 rfl (o_fa (fd := ⟨ "Cols", 3, 1, false, "", "", 8⟩) rfl rfl rfl rfl rfl ?_)
    refine o1 rfl (o_ld (b := b1227) (off := 1) (v := (.int .i64 p0.Cols)) rfl rm1 rfl rfl ?_)
    refine o1 rfl (o_p (v := (.int .i64 (w64 (p0.Rows * p0.Cols)))) rfl ?_)
    refine o1 rfl (o_p rfl ?_)
    refine o_end ?_
    refine e_seq ?_
    refine c_ret ?_
    refine e_ret ?_
    refine r_endt rfl rfl (kc rm0 (kd kr)) ?_
    have hr := Option.some.inj h
    subst hr
    exact hk

theorem c_space_Space_Clear {g : Gw} (X : HP) (p0 : Vspace_Space) (b0 : Nat) (s0 : SV) (q0 : Rd X s0 48 en_Vapi_Cell p0.cells) (p1 : Bool) (r : Vspace_Space) (h : m_space_Space_Clear p0 p1 = some r) : Tri env g 47 (List.toArray [(.pointer (some ⟨b0, 0, none⟩)), (.bool p1)]) [X, blk b0 (.cells (List.toArray [(.int .i64 p0.model), (.bool p0.alternate), (.int .i64 p0.size.Rows), (.int .i64 p0.size.Cols), (SV.val s0), (.int .i64 p0.cursor), (.int .i64 p0.attrs)]) 165 (0, 0))] (fun K R => ∀ (i0 : SV), K (.tuple (List.toArray [])) (X :: blk b0 (.cells (List.toArray [(.int .i64 r.model), (.bool r.alternate), (.int .i64 r.size.Rows), (.int .i64 r.size.Cols), (SV.val i0), (.int .i64 r.cursor), (.int .i64 r.attrs)]) 165 (0, 0)) :: slO i0 48 en_Vapi_Cell r.cells :: R)) := by
  refine tri_of (fn := Try.f47) (N := 39) Try.func47 rfl rfl rfl ?_
  intro R K hk
  unfold m_space_Space_Clear at h
  change GC _ none _ [] [(0, (.pointer (some ⟨b0, 0, none⟩))), (1, (.bool p1))] (X :: blk b0 (.cells (List.toArray [(.int .i64 p0.model), (.bool p0.alternate), (.int .i64 p0.size.Rows), (.int .i64 p0.size.Cols), (SV.val s0), (.int .i64 p0.cursor), (.int .i64 p0.attrs)]) 165 (0, 0)) :: R) g _ _
  refine c_seq ?_
  refine c_seq ?_
  refine c_region ?_
  refine o1 rfl (o_p rfl ?_)
  refine o1 rfl (o_p (v := (.bool false)) rfl ?_)
  refine o_end ?_
  refine e_seq ?_
  refine c_cond_f rfl rfl ?_
  refine c_skip ?_
  refine e_seq ?_
  refine c_seq ?_
  refine c_region ?_
  refine o1 rfl (o_p rfl ?_)
  refine o_end ?_
  refine e_seq ?_
  refine c_seq ?_
  refine c_seq ?_
  refine c_region ?_
  refine o1 rfl (o_p rfl ?_)
  refine o_end ?_
  refine e_seq ?_
  replace h := bsome h
  obtain ⟨d1, h, hk1⟩ := h
  refine cj (D := Unit) (ι := Unit) (fun _ i1 => True) (fun _ i1 => [(4, (.int .i64 d1)), (0, (.pointer (some ⟨b0, 0, none⟩))), (1, (.bool p1))]) (fun _ i1 => X :: blk b0 (.cells (List.toArray [(.int .i64 p0.model), (.bool p0.alternate), (.int .i64 p0.size.Rows), (.int .i64 p0.size.Cols), (SV.val s0), (.int .i64 p0.cursor), (.int .i64 p0.attrs)]) 165 (0, 0)) :: R) ?_ ?_
  · refine c_cond (b := p1) rfl (fun hb1226 => ?_) (fun hb1226 => ?_)
    · replace h := cond_t hb1226 h
      refine c_region ?_
      refine o1 rfl (o_p rfl ?_)
      refine o1 rfl (o_p rfl ?_)
      refine o1 rfl (o_fa (fd := ⟨ "model", 3, 0, false, "", "vitrine/space", 0⟩) rfl rfl rfl rfl rfl ?_)
      refine o1 rfl (o_ld (b := b0) (off := 0) (v := (.int .i64 p0.model)) rfl rm1 rfl rfl ?_)
      refine o1 rfl (o_p rfl ?_)
      refine o_end ?_
      have hd := Option.some.inj h
      subst hd
      exact ej () () trivial (sc rfl (sc rfl (sc rfl sn))) (kc rm0 (kc rm0 kr))
    · replace h := cond_f hb1226 h
      refine c_skip ?_
      have hd := Option.some.inj h
      subst hd
      exact ej () () trivial (sc rfl (sc rfl (sc rfl sn))) (kc rm0 (kc rm0 kr))
  · rintro _ i1 _
    replace h := hk1
    clear hk1
    refine e_seq ?_
    refine c_seq ?_
    refine c_region ?_
    refine o1 rfl (o_p rfl ?_)
    refine o1 rfl (o_p rfl ?_)
    refine o1 rfl (o_p rfl ?_)
    refine o1 rfl (o_fa (fd := ⟨ "alternate", 4, 1, false, "", "vitrine/space", 8⟩) rfl rfl rfl rfl rfl ?_)
    refine o0 (o_st (b := b0) (off := 1) (vs := [(.bool p1)]) (cs' := [(.int .i64 p0.model), (.bool p1), (.int .i64 p0.size.Rows), (.int .i64 p0.size.Cols), (SV.val s0), (.int .i64 p0.cursor), (.int .i64 p0.attrs)]) rfl rfl rp1 rfl rfl rfl rfl rfl rfl ?_)
    refine o_end ?_
    refine e_seq ?_
    refine c_seq ?_
    refine c_region ?_
    refine o1 rfl (o_p rfl ?_)
    refine o1 rfl (o_p rfl ?_)
    replace h := bsome h
    obtain ⟨d2, h2, h⟩ := h
    refine o1 rfl (o_call has78 rfl (c_addr_Model X d1 _ h2) (pc rm0 pn) ?_)
    refine o1 rfl (o_p rfl ?_)
    refine o1 rfl (o_p rfl ?_)
    refine o1 rfl (o_p rfl ?_)
    refine o1 rfl (o_p rfl ?_)
    refine o1 rfl (o_fa (fd := ⟨ "size", 131, 2, false, "", "vitrine/space", 16⟩) rfl rfl rfl rfl rfl ?_)
    refine o0 (o_st (b := b0) (off := 2) (vs := [(.int .i64 d2.1.Rows), (.int .i64 d2.1.Cols)]) (cs' := [(.int .i64 p0.model), (.bool p1), (.int .i64 d2.1.Rows), (.int .i64 d2.1.Cols), (SV.val s0), (.int .i64 p0.cursor), (.int .i64 p0.attrs)]) rfl rfl rp1 rfl rfl rfl rfl rfl rfl ?_)
    refine o_end ?_
    refine e_seq ?_
    refine c_seq ?_
    refine c_region ?_
    refine o1 rfl (o_p rfl ?_)
    refine o1 rfl (o_p rfl ?_)
    refine o1 rfl (o_p rfl ?_)
    refine o1 rfl (o_fa (fd := ⟨ "size", 131, 2, false, "", "vitrine/space", 16⟩) rfl rfl rfl rfl rfl ?_)
    refine o1 rfl (o_ld (b := b0) (off := 2) (v := (.agg (List.toArray [(.int .i64 d2.1.Rows), (.int .i64 d2.1.Cols)]))) rfl rm1 rfl rfl ?_)
    replace h := bsome h
    obtain ⟨d3, h3, h⟩ := h
    refine o1 rfl (o_call has71 rfl (c_addr_Size_Cells X d2.1 _ h3) (pc rm0 pn) ?_)
    replace h := gsome h
    obtain ⟨hg1236, h⟩ := h
    refine o1 rfl (o_mk (e := en_Vapi_Cell) (z := (⟨0, false, 0, 0, 0, 0⟩ : Vapi_Cell)) (zs := [(.int .u8 0), (.bool false), (.int .u8 0), (.int .u8 0), (.int .u8 0), (.int .u8 0)]) rfl rfl rfl rfl rfl rfl rfl rfl rfl hg1236 (fun s1237 => ?_))
    refine o1 rfl (o_p rfl ?_)
    refine o1 rfl (o_fa (fd := ⟨ "cells", 39, 4, false, "", "vitrine/space", 32⟩) rfl rfl rfl rfl rfl ?_)
    refine o0 (o_st (b := b0) (off := 4) (vs := [(SV.val s1237)]) (cs' := [(.int .i64 p0.model), (.bool p1), (.int .i64 d2.1.Rows), (.int .i64 d2.1.Cols), (SV.val s1237), (.int .i64 p0.cursor), (.int .i64 p0.attrs)]) rfl rfl rp2 rfl rfl rfl rfl rfl rfl ?_)
    refine o_end ?_
    refine e_seq ?_
    refine c_region ?_
    refine o1 rfl (o_p rfl ?_)
    refine o1 rfl (o_p rfl ?_)
    refine o1 rfl (o_p rfl ?_)
    refine o1 rfl (o_fa (fd := ⟨ "cursor", 3, 5, false, "", "vitrine/space", 56⟩) rfl rfl rfl rfl rfl ?_)
    refine o0 (o_st (b := b0) (off := 5) (vs := [(.int .i64 0)]) (cs' := [(.int .i64 p0.model), (.bool p1), (.int .i64 d2.1.Rows), (.int .i64 d2.1.Cols), (SV.val s1237), (.int .i64 0), (.int .i64 p0.attrs)]) rfl rfl rp2 rfl rfl rfl rfl rfl rfl ?_)
    refine o1 rfl (o_p rfl ?_)
    refine o1 rfl (o_fa (fd := ⟨ "attrs", 3, 6, false, "", "vitrine/space", 64⟩) rfl rfl rfl rfl rfl ?_)
    refine o0 (o_st (b := b0) (off := 6) (vs := [(.int .i64 0)]) (cs' := [(.int .i64 p0.model), (.bool p1), (.int .i64 d2.1.Rows), (.int .i64 d2.1.Cols), (SV.val s1237), (.int .i64 0), (.int .i64 0)]) rfl rfl rp2 rfl rfl rfl rfl rfl rfl ?_)
    refine o_end ?_
    refine e_fall ?_
    refine r_endt rfl rfl (kc rm1 (kc rm1 (kc rm0 kr))) ?_
    have hr := Option.some.inj h
    subst hr
    exact hk s1237

theorem c_space_New {g : Gw} (X : HP) (p0 : Int) (r : (Int) ⊕ (Vspace_Space × Int)) (h : m_space_New p0 = some r) : Tri env g 44 (List.toArray [(.int .i64 p0)]) [X] (fun K R => match r with | .inl r => K (.tuple (List.toArray [(.pointer none), (.int .i64 r)])) (X :: R) | .inr r => ∀ (i0 : Nat × SV), K (.tuple (List.toArray [(.pointer (some ⟨i0.1, 0, none⟩)), (.int .i64 r.2)])) (X :: blk i0.1 (.cells (List.toArray [(.int .i64 r.1.model), (.bool r.1.alternate), (.int .i64 r.1.size.Rows), (.int .i64 r.1.size.Cols), (SV.val i0.2), (.int .i64 r.1.cursor), (.int .i64 r.1.attrs)]) 165 (0, 0)) :: slO i0.2 48 en_Vapi_Cell r.1.cells :: R)) := by
  refine tri_of (fn := Try.f44) (N := 21) Try.func44 rfl rfl rfl ?_
  intro R K hk
  unfold m_space_New at h
  change GC _ none _ [] [(0, (.int .i64 p0))] (X :: R) g _ _
  refine c_seq ?_
  refine c_region ?_
  refine o1 rfl (o_p rfl ?_)
  refine o1 rfl (o_p rfl ?_)
  refine o_end ?_
  refine e_seq ?_
  refine c_seq ?_
  refine c_seq ?_
  refine c_region ?_
  refine o1 rfl (o_p rfl ?_)
  replace h := bsome h
  obtain ⟨d1, h1, h⟩ := h
  refine o1 rfl (o_call has78 rfl (c_addr_Model X p0 _ h1) (pc rm0 pn) ?_)
  refine o1 rfl (o_p rfl ?_)
  refine o1 rfl (o_p rfl ?_)
  refine o1 rfl (o_p rfl ?_)
  refine o1 rfl (o_alloc (cs := [(.int .i64 0), (.int .i64 0)]) rfl rfl (fun b1221 => ?_))
  refine o0 (o_st (b := b1221) (off := 0) (vs := [(.int .i64 d1.1.Rows), (.int .i64 d1.1.Cols)]) (cs' := [(.int .i64 d1.1.Rows), (.int .i64 d1.1.Cols)]) rfl rfl rp0 rfl rfl rfl rfl rfl rfl ?_)
  refine o1 rfl (o_p rfl ?_)
  refine o_end ?_
  refine e_seq ?_
  refine c_seq ?_
  refine c_region ?_
  refine o1 rfl (o_p rfl ?_)
  refine o1 rfl (o_p (v := (.bool (d1.2 != 0))) rfl ?_)
  refine o_end ?_
  refine e_seq ?_
  refine c_cond (b := (d1.2 != 0)) rfl (fun hb1223 => ?_) (fun hb1223 => ?_)
  · replace h := cond_t hb1223 h
    refine c_seq ?_
    refine c_region ?_
    refine o1 rfl (o_p rfl ?_)
    refine o1 rfl (o_p rfl ?_)
    refine o1 rfl (o_p rfl ?_)
    refine o_end ?_
    refine e_seq ?_
    refine c_ret ?_
    refine e_then_ret ?_
    refine e_ret ?_
    refine r_endt rfl rfl (kc rm1 (kd kr)) ?_
    have hr := Option.some.inj h
    subst hr
    exact hk
  · replace h := cond_f hb1223 h
    refine c_skip ?_
    refine e_seq ?_
    refine c_seq ?_
    refine c_region ?_
    refine o1 rfl (o_p rfl ?_)
    refine o1 rfl (o_build (fs := [⟨ "model", 3, 0, false, "", "vitrine/space", 0⟩, ⟨ "alternate", 4, 1, false, "", "vitrine/space", 8⟩, ⟨ "size", 131, 2, false, "", "vitrine/space", 16⟩, ⟨ "cells", 39, 4, false, "", "vitrine/space", 32⟩, ⟨ "cursor", 3, 5, false, "", "vitrine/space", 56⟩, ⟨ "attrs", 3, 6, false, "", "vitrine/space", 64⟩]) (ps := [(0, 1), (1, 1), (2, 2), (4, 1), (5, 1), (6, 1)]) (cs := [(.int .i64 p0), (.bool false), (.int .i64 0), (.int .i64 0), (SV.val SV.nil), (.int .i64 0), (.int .i64 0)]) rfl rfl rfl rfl rfl ?_)
    refine o1 rfl (o_box (cs := [(.int .i64 p0), (.bool false), (.int .i64 0), (.int .i64 0), (SV.val SV.nil), (.int .i64 0), (.int .i64 0)]) rfl rfl (fun b1224 => ?_))
    refine o1 rfl (o_p rfl ?_)
    refine o_end ?_
    refine e_seq ?_
    refine c_seq ?_
    refine c_region ?_
    refine o1 rfl (o_p rfl ?_)
    replace h := bsome h
    obtain ⟨d3, h3, h⟩ := h
    refine o1 rfl (o_call has47 rfl (c_space_Space_Clear X (⟨p0, false, (⟨0, 0⟩ : Vaddr_Size), ([] : List Vapi_Cell), 0, 0⟩ : Vspace_Space) b1224 SV.nil (rd_nil _ _ _) false _ h3) (pc rm2 (pc rm0 pn)) (fun i3 => ?_))
    refine o_end ?_
    refine e_seq ?_
    refine c_seq ?_
    refine c_region ?_
    refine o1 rfl (o_p rfl ?_)
    refine o1 rfl (o_p rfl ?_)
    refine o1 rfl (o_p rfl ?_)
    refine o_end ?_
    refine e_seq ?_
    refine c_ret ?_
    refine e_ret ?_
    refine r_endt rfl rfl (kc rm0 (kc rm0 (kc rm0 (kd kr)))) ?_
    have hr := Option.some.inj h
    subst hr
    exact hk (b1224, i3)

theorem c_vitrineref04_Model {g : Gw} (X : HP) (p0 : Int) (r : Vvitrineref04_Size × Bool) (h : m_vitrineref04_Model p0 = some r) : Tri env g 79 (List.toArray [(.int .i64 p0)]) [X] (fun K R => K (.tuple (List.toArray [(.agg (List.toArray [(.int .i64 r.1.Rows), (.int .i64 r.1.Cols)])), (.bool r.2)])) (X :: R)) := by
  refine tri_of (fn := Try.f79) (N := 20) Try.func79 rfl rfl rfl ?_
  intro R K hk
  unfold m_vitrineref04_Model at h
  change GC _ none _ [] [(0, (.int .i64 p0))] (X :: R) g _ _
  refine c_seq ?_
  refine c_region ?_
  refine o1 rfl (o_alloc (cs := [(.int .i64 0), (.int .i64 0)]) rfl rfl (fun b1245 => ?_))
  refine o1 rfl (o_p rfl ?_)
  refine o_end ?_
  refine e_seq ?_
  refine c_seq ?_
  refine c_seq ?_
  replace h := bsome h
  obtain ⟨d1, h, hk1⟩ := h
  refine cj (D := Unit) (ι := Unit) (fun _ i1 => True) (fun _ i1 => [(9, (.bool d1)), (2, (.pointer (some ⟨b1245, 0, none⟩))), (0, (.int .i64 p0))]) (fun _ i1 => X :: blk b1245 (.cells (List.toArray [(.int .i64 0), (.int .i64 0)]) 38 (0, 0)) :: R) ?_ ?_
  · refine c_region ?_
    refine o1 rfl (o_p rfl ?_)
    refine o1 rfl (o_p (v := (.bool (decide (p0 < 2)))) rfl ?_)
    refine o1 rfl (o_p rfl ?_)
    rcases bool_or ((decide (p0 < 2))) with hb1247 | hb1247
    · replace h := cond_t hb1247 h
      refine on rfl rfl rfl hb1247 ?_
      refine on rfl rfl rfl hb1247 ?_
      refine o1 rfl (o_pick_t rfl hb1247 rfl ?_)
      refine o_end ?_
      have hd := Option.some.inj h
      subst hd
      exact ej () () trivial (sc rfl (sc rfl (sc rfl sn))) (kc rm1 (kc rm0 kr))
    · replace h := cond_f hb1247 h
      refine oy rfl rfl rfl hb1247 (o_p rfl ?_)
      refine oy rfl rfl rfl hb1247 (o_p (v := (.bool (decide (p0 > 5)))) rfl ?_)
      refine o1 rfl (o_pick_f rfl hb1247 rfl ?_)
      refine o_end ?_
      have hd := Option.some.inj h
      subst hd
      exact ej () () trivial (sc rfl (sc rfl (sc rfl sn))) (kc rm1 (kc rm0 kr))
  · rintro _ i1 _
    replace h := hk1
    clear hk1
    refine e_seq ?_
    refine c_cond (b := d1) rfl (fun hb1248 => ?_) (fun hb1248 => ?_)
    · replace h := cond_t hb1248 h
      refine c_seq ?_
      refine c_region ?_
      refine o1 rfl (o_build (fs := [⟨ "Rows", 3, 0, false, "", "", 0⟩, ⟨ "Cols", 3, 1, false, "", "", 8⟩]) (ps := [(0, 1), (1, 1)]) (cs := [(.int .i64 0), (.int .i64 0)]) rfl rfl rfl rfl rfl ?_)
      refine o0 (o_st (b := b1245) (off := 0) (vs := [(.int .i64 0), (.int .i64 0)]) (cs' := [(.int .i64 0), (.int .i64 0)]) rfl rfl rp1 rfl rfl rfl rfl rfl rfl ?_)
      refine o1 rfl (o_p rfl ?_)
      refine o_end ?_
      refine e_seq ?_
      refine c_ret ?_
      refine e_then_ret ?_
      refine e_ret ?_
      refine r_endc (B := [[(.int .i64 0), (.int .i64 0)]]) rfl ⟨⟨_, _, _, _, rfl, rm1⟩, trivial⟩ rfl (kc rm0 (kd kr)) ?_
      have hr := Option.some.inj h
      subst hr
      exact hk
    · replace h := cond_f hb1248 h
      refine c_skip ?_
      refine e_seq ?_
      refine c_seq ?_
      refine c_region ?_
      refine o1 rfl (o_build (fs := [⟨ "Rows", 3, 0, false, "", "", 0⟩, ⟨ "Cols", 3, 1, false, "", "", 8⟩]) (ps := [(0, 1), (1, 1)]) (cs := [(.int .i64 24), (.int .i64 80)]) rfl rfl rfl rfl rfl ?_)
      refine o1 rfl (o_build (fs := [⟨ "Rows", 3, 0, false, "", "", 0⟩, ⟨ "Cols", 3, 1, false, "", "", 8⟩]) (ps := [(0, 1), (1, 1)]) (cs := [(.int .i64 32), (.int .i64 80)]) rfl rfl rfl rfl rfl ?_)
      refine o1 rfl (o_build (fs := [⟨ "Rows", 3, 0, false, "", "", 0⟩, ⟨ "Cols", 3, 1, false, "", "", 8⟩]) (ps := [(0, 1), (1, 1)]) (cs := [(.int .i64 43), (.int .i64 80)]) rfl rfl rfl rfl rfl ?_)
      refine o1 rfl (o_build (fs := [⟨ "Rows", 3, 0, false, "", "", 0⟩, ⟨ "Cols", 3, 1, false, "", "", 8⟩]) (ps := [(0, 1), (1, 1)]) (cs := [(.int .i64 27), (.int .i64 132)]) rfl rfl rfl rfl rfl ?_)
      refine o1 rfl (o_bs (e := en_Vvitrineref04_Size) (l := [(⟨24, 80⟩ : Vvitrineref04_Size), (⟨32, 80⟩ : Vvitrineref04_Size), (⟨43, 80⟩ : Vvitrineref04_Size), (⟨27, 132⟩ : Vvitrineref04_Size)]) (zs := [(.int .i64 0), (.int .i64 0)]) rfl rfl rfl rfl rfl rfl rfl rfl rfl rfl (fun s1249 => ?_))
      refine o1 rfl (o_p rfl ?_)
      refine o1 rfl (o_p (v := (.int .i64 (w64 (p0 - 2)))) rfl ?_)
      replace h := gsome h
      obtain ⟨hg1251, h⟩ := h
      refine o1 rfl (o_ix (s := s1249) (n := w64 (p0 - 2)) (e := en_Vvitrineref04_Size) rfl rfl rfl rfl rfl rfl rm0 (rd_own _ _ _ _) hg1251 ?_)
      refine o1 rfl (o_ldE (s := s1249) (e := en_Vvitrineref04_Size) (n := w64 (p0 - 2)) (f := 0) (v := (.agg (List.toArray [(.int .i64 ((rd [(⟨24, 80⟩ : Vvitrineref04_Size), (⟨32, 80⟩ : Vvitrineref04_Size), (⟨43, 80⟩ : Vvitrineref04_Size), (⟨27, 132⟩ : Vvitrineref04_Size)] (w64 (p0 - 2))).Rows)), (.int .i64 ((rd [(⟨24, 80⟩ : Vvitrineref04_Size), (⟨32, 80⟩ : Vvitrineref04_Size), (⟨43, 80⟩ : Vvitrineref04_Size), (⟨27, 132⟩ : Vvitrineref04_Size)] (w64 (p0 - 2))).Cols))]))) rfl rm0 (rd_own _ _ _ _) hg1251 rfl rfl ?_)
      refine o0 (o_st (b := b1245) (off := 0) (vs := [(.int .i64 ((rd [(⟨24, 80⟩ : Vvitrineref04_Size), (⟨32, 80⟩ : Vvitrineref04_Size), (⟨43, 80⟩ : Vvitrineref04_Size), (⟨27, 132⟩ : Vvitrineref04_Size)] (w64 (p0 - 2))).Rows)), (.int .i64 ((rd [(⟨24, 80⟩ : Vvitrineref04_Size), (⟨32, 80⟩ : Vvitrineref04_Size), (⟨43, 80⟩ : Vvitrineref04_Size), (⟨27, 132⟩ : Vvitrineref04_Size)] (w64 (p0 - 2))).Cols))]) (cs' := [(.int .i64 ((rd [(⟨24, 80⟩ : Vvitrineref04_Size), (⟨32, 80⟩ : Vvitrineref04_Size), (⟨43, 80⟩ : Vvitrineref04_Size), (⟨27, 132⟩ : Vvitrineref04_Size)] (w64 (p0 - 2))).Rows)), (.int .i64 ((rd [(⟨24, 80⟩ : Vvitrineref04_Size), (⟨32, 80⟩ : Vvitrineref04_Size), (⟨43, 80⟩ : Vvitrineref04_Size), (⟨27, 132⟩ : Vvitrineref04_Size)] (w64 (p0 - 2))).Cols))]) rfl rfl rp2 rfl rfl rfl rfl rfl rfl ?_)
      refine o1 rfl (o_p rfl ?_)
      refine o_end ?_
      refine e_seq ?_
      refine c_ret ?_
      refine e_ret ?_
      refine r_endc (B := [[(.int .i64 ((rd [(⟨24, 80⟩ : Vvitrineref04_Size), (⟨32, 80⟩ : Vvitrineref04_Size), (⟨43, 80⟩ : Vvitrineref04_Size), (⟨27, 132⟩ : Vvitrineref04_Size)] (w64 (p0 - 2))).Rows)), (.int .i64 ((rd [(⟨24, 80⟩ : Vvitrineref04_Size), (⟨32, 80⟩ : Vvitrineref04_Size), (⟨43, 80⟩ : Vvitrineref04_Size), (⟨27, 132⟩ : Vvitrineref04_Size)] (w64 (p0 - 2))).Cols))]]) rfl ⟨⟨_, _, _, _, rfl, rm2⟩, trivial⟩ rfl (kc rm1 (kd (kd kr))) ?_
      have hr := Option.some.inj h
      subst hr
      exact hk

theorem c_vitrineref04_Valid {g : Gw} (X : HP) (p0 : Vvitrineref04_Size) (r : Bool) (h : m_vitrineref04_Valid p0 = some r) : Tri env g 114 (List.toArray [(.agg (List.toArray [(.int .i64 p0.Rows), (.int .i64 p0.Cols)]))]) [X] (fun K R => K (.bool r) (X :: R)) := by
  refine tri_of (fn := Try.f114) (N := 29) Try.func114 rfl rfl rfl ?_
  intro R K hk
  unfold m_vitrineref04_Valid at h
  change GC _ none _ [] [(0, (.agg (List.toArray [(.int .i64 p0.Rows), (.int .i64 p0.Cols)])))] (X :: R) g _ _
  refine c_seq ?_
  refine c_region ?_
  refine o1 rfl (o_box (cs := [(.int .i64 p0.Rows), (.int .i64 p0.Cols)]) rfl rfl (fun b1260 => ?_))
  refine o1 rfl (o_p rfl ?_)
  refine o_end ?_
  refine e_seq ?_
  refine c_seq ?_
  replace h := bsome h
  obtain ⟨d1, h, hk1⟩ := h
  refine cj (D := Unit) (ι := Unit) (fun _ i1 => True) (fun _ i1 => [(2, (.bool d1))]) (fun _ i1 => X :: R) ?_ ?_
  · refine c_region ?_
    refine o1 rfl (o_fa (fd := ⟨ "Rows", 3, 0, false, "", "", 0⟩) rfl rfl rfl rfl rfl ?_)
    refine o1 rfl (o_ld (b := b1260) (off := 0) (v := (.int .i64 p0.Rows)) rfl rm0 rfl rfl ?_)
    refine o1 rfl (o_p (v := (.bool (decide (p0.Rows ≥ 1)))) rfl ?_)
    refine o1 rfl (o_p rfl ?_)
    rcases bool_or ((decide (p0.Rows ≥ 1))) with hb1262 | hb1262
    · replace h := cond_t hb1262 h
      refine oy rfl rfl rfl hb1262 (o_fa (fd := ⟨ "Rows", 3, 0, false, "", "", 0⟩) rfl rfl rfl rfl rfl ?_)
      refine oy rfl rfl rfl hb1262 (o_ld (b := b1260) (off := 0) (v := (.int .i64 p0.Rows)) rfl rm0 rfl rfl ?_)
      refine oy rfl rfl rfl hb1262 (o_p (v := (.bool (decide (p0.Rows ≤ 43)))) rfl ?_)
      refine o1 rfl (o_pick_t rfl hb1262 rfl ?_)
      refine o1 rfl (o_p rfl ?_)
      rcases bool_or ((decide (p0.Rows ≤ 43))) with hb1263 | hb1263
      · replace h := cond_t hb1263 h
        refine oy rfl rfl rfl hb1263 (o_fa (fd := ⟨ "Cols", 3, 1, false, "", "", 8⟩) rfl rfl rfl rfl rfl ?_)
        refine oy rfl rfl rfl hb1263 (o_ld (b := b1260) (off := 1) (v := (.int .i64 p0.Cols)) rfl rm0 rfl rfl ?_)
        refine oy rfl rfl rfl hb1263 (o_p (v := (.bool (decide (p0.Cols ≥ 1)))) rfl ?_)
        refine o1 rfl (o_pick_t rfl hb1263 rfl ?_)
        refine o1 rfl (o_p rfl ?_)
        rcases bool_or ((decide (p0.Cols ≥ 1))) with hb1264 | hb1264
        · replace h := cond_t hb1264 h
          refine oy rfl rfl rfl hb1264 (o_fa (fd := ⟨ "Cols", 3, 1, false, "", "", 8⟩) rfl rfl rfl rfl rfl ?_)
          refine oy rfl rfl rfl hb1264 (o_ld (b := b1260) (off := 1) (v := (.int .i64 p0.Cols)) rfl rm0 rfl rfl ?_)
          refine oy rfl rfl rfl hb1264 (o_p (v := (.bool (decide (p0.Cols ≤ 132)))) rfl ?_)
          refine o1 rfl (o_pick_t rfl hb1264 rfl ?_)
          refine o1 rfl (o_p rfl ?_)
          rcases bool_or ((decide (p0.Cols ≤ 132))) with hb1265 | hb1265
          · replace h := cond_t hb1265 h
            refine oy rfl rfl rfl hb1265 (o_fa (fd := ⟨ "Rows", 3, 0, false, "", "", 0⟩) rfl rfl rfl rfl rfl ?_)
            refine oy rfl rfl rfl hb1265 (o_ld (b := b1260) (off := 0) (v := (.int .i64 p0.Rows)) rfl rm0 rfl rfl ?_)
            refine oy rfl rfl rfl hb1265 (o_fa (fd := ⟨ "Cols", 3, 1, false, "", "", 8⟩) rfl rfl rfl rfl rfl ?_)
            refine oy rfl rfl rfl hb1265 (o_ld (b := b1260) (off := 1) (v := (.int .i64 p0.Cols)) rfl rm0 rfl rfl ?_)
            refine oy rfl rfl rfl hb1265 (o_p (v := (.int .i64 (w64 (p0.Rows * p0.Cols)))) rfl ?_)
            refine oy rfl rfl rfl hb1265 (o_p (v := (.bool (decide ((w64 (p0.Rows * p0.Cols)) ≤ 3564)))) rfl ?_)
            refine o1 rfl (o_pick_t rfl hb1265 rfl ?_)
            refine o1 rfl (o_p rfl ?_)
            refine o_end ?_
            have hd := Option.some.inj h
            subst hd
            exact ej () () trivial (sc rfl sn) (kc rm1 (kd kr))
          · replace h := cond_f hb1265 h
            refine on rfl rfl rfl hb1265 ?_
            refine on rfl rfl rfl hb1265 ?_
            refine on rfl rfl rfl hb1265 ?_
            refine on rfl rfl rfl hb1265 ?_
            refine on rfl rfl rfl hb1265 ?_
            refine on rfl rfl rfl hb1265 ?_
            refine o1 rfl (o_pick_f rfl hb1265 rfl ?_)
            refine o1 rfl (o_p rfl ?_)
            refine o_end ?_
            have hd := Option.some.inj h
            subst hd
            exact ej () () trivial (sc rfl sn) (kc rm1 (kd kr))
        · replace h := cond_f hb1264 h
          refine on rfl rfl rfl hb1264 ?_
          refine on rfl rfl rfl hb1264 ?_
          refine on rfl rfl rfl hb1264 ?_
          refine o1 rfl (o_pick_f rfl hb1264 rfl ?_)
          refine o1 rfl (o_p rfl ?_)
          refine on rfl rfl rfl rfl ?_
          refine on rfl rfl rfl rfl ?_
          refine on rfl rfl rfl rfl ?_
          refine on rfl rfl rfl rfl ?_
          refine on rfl rfl rfl rfl ?_
          refine on rfl rfl rfl rfl ?_
          refine o1 rfl (o_pick_f rfl rfl rfl ?_)
          refine o1 rfl (o_p rfl ?_)
          refine o_end ?_
          have hd := Option.some.inj h
          subst hd
          exact ej () () trivial (sc rfl sn) (kc rm1 (kd kr))
      · replace h := cond_f hb1263 h
        refine on rfl rfl rfl hb1263 ?_
        refine on rfl rfl rfl hb1263 ?_
        refine on rfl rfl rfl hb1263 ?_
        refine o1 rfl (o_pick_f rfl hb1263 rfl ?_)
        refine o1 rfl (o_p rfl ?_)
        refine on rfl rfl rfl rfl ?_
        refine on rfl rfl rfl rfl ?_
        refine on rfl rfl rfl rfl ?_
        refine o1 rfl (o_pick_f rfl rfl rfl ?_)
        refine o1 rfl (o_p rfl ?_)
        refine on rfl rfl rfl rfl ?_
        refine on rfl rfl rfl rfl ?_
        refine on rfl rfl rfl rfl ?_
        refine on rfl rfl rfl rfl ?_
        refine on rfl rfl rfl rfl ?_
        refine on rfl rfl rfl rfl ?_
        refine o1 rfl (o_pick_f rfl rfl rfl ?_)
        refine o1 rfl (o_p rfl ?_)
        refine o_end ?_
        have hd := Option.some.inj h
        subst hd
        exact ej () () trivial (sc rfl sn) (kc rm1 (kd kr))
    · replace h := cond_f hb1262 h
      refine on rfl rfl rfl hb1262 ?_
      refine on rfl rfl rfl hb1262 ?_
      refine on rfl rfl rfl hb1262 ?_
      refine o1 rfl (o_pick_f rfl hb1262 rfl ?_)
      refine o1 rfl (o_p rfl ?_)
      refine on rfl rfl rfl rfl ?_
      refine on rfl rfl rfl rfl ?_
      refine on rfl rfl rfl rfl ?_
      refine o1 rfl (o_pick_f rfl rfl rfl ?_)
      refine o1 rfl (o_p rfl ?_)
      refine on rfl rfl rfl rfl ?_
      refine on rfl rfl rfl rfl ?_
      refine on rfl rfl rfl rfl ?_
      refine o1 rfl (o_pick_f rfl rfl rfl ?_)
      refine o1 rfl (o_p rfl ?_)
      refine on rfl rfl rfl rfl ?_
      refine on rfl rfl rfl rfl ?_
      refine on rfl rfl rfl rfl ?_
      refine on rfl rfl rfl rfl ?_
      refine on rfl rfl rfl rfl ?_
      refine on rfl rfl rfl rfl ?_
      refine o1 rfl (o_pick_f rfl rfl rfl ?_)
      refine o1 rfl (o_p rfl ?_)
      refine o_end ?_
      have hd := Option.some.inj h
      subst hd
      exact ej () () trivial (sc rfl sn) (kc rm1 (kd kr))
  · rintro _ i1 _
    replace h := hk1
    clear hk1
    refine e_seq ?_
    refine c_ret ?_
    refine e_ret ?_
    refine r_endt rfl rfl (kc rm0 kr) ?_
    have hr := Option.some.inj h
    subst hr
    exact hk

theorem c_vitrineref04_Cells {g : Gw} (X : HP) (p0 : Vvitrineref04_Size) (r : Int) (h : m_vitrineref04_Cells p0 = some r) : Tri env g 93 (List.toArray [(.agg (List.toArray [(.int .i64 p0.Rows), (.int .i64 p0.Cols)]))]) [X] (fun K R => K (.int .i64 r) (X :: R)) := by
  refine tri_of (fn := Try.f93) (N := 11) Try.func93 rfl rfl rfl ?_
  intro R K hk
  unfold m_vitrineref04_Cells at h
  change GC _ none _ [] [(0, (.agg (List.toArray [(.int .i64 p0.Rows), (.int .i64 p0.Cols)])))] (X :: R) g _ _
  refine c_seq ?_
  refine c_region ?_
  refine o1 rfl (o_box (cs := [(.int .i64 p0.Rows), (.int .i64 p0.Cols)]) rfl rfl (fun b1258 => ?_))
  refine o1 rfl (o_p rfl ?_)
  refine o_end ?_
  refine e_seq ?_
  refine c_seq ?_
  refine c_seq ?_
  refine c_region ?_
  refine o1 rfl (o_ld (b := b1258) (off := 0) (v := (.agg (List.toArray [(.int .i64 p0.Rows), (.int .i64 p0.Cols)]))) rfl rm0 rfl rfl ?_)
  replace h := bsome h
  obtain ⟨d1, h1, h⟩ := h
  refine o1 rfl (o_call has114 rfl (c_vitrineref04_Valid X p0 _ h1) (pc rm1 pn) ?_)
  refine o1 rfl (o_p (v := (.bool (!d1))) rfl ?_)
  refine o_end ?_
  refine e_seq ?_
  refine c_cond (b := (!d1)) rfl (fun hb1266 => ?_) (fun hb1266 => ?_)
  · replace h := cond_t hb1266 h
    refine c_seq ?_
    refine c_region ?_
    refine o1 rfl (o_p rfl ?_)
    refine o_end ?_
    refine e_seq ?_
    refine c_ret ?_
    refine e_then_ret ?_
    refine e_ret ?_
    refine r_endt rfl rfl (kc rm0 (kd kr)) ?_
    have hr := Option.some.inj h
    subst hr
    exact hk
  · replace h := cond_f hb1266 h
    refine c_skip ?_
    refine e_seq ?_
    refine c_seq ?_
    refine c_region ?_
    refine o1 rfl (o_fa (fd := ⟨ "Rows", 3, 0, false, "", "", 0⟩) rfl rfl rfl rfl rfl ?_)
    refine o1 rfl (o_ld (b := b1258) (off := 0) (v := (.int .i64 p0.Rows)) rfl rm1 rfl rfl ?_)
    refine o1 rfl (o_fa (fd := ⟨ "Cols", 3, 1, false, "", "", 8⟩) rfl rfl rfl rfl rfl ?_)
    refine o1 rfl (o_ld (b := b1258) (off := 1) (v := (.int .i64 p0.Cols)) rfl rm1 rfl rfl ?_)
    refine o1 rfl (o_p (v := (.int .i64 (w64 (p0.Rows * p0.Cols)))) rfl ?_)
    refine o1 rfl (o_p rfl ?_)
    refine o_end ?_
    refine e_seq ?_
    refine c_ret ?_
    refine e_ret ?_
    refine r_endt rfl rfl (kc rm0 (kd kr)) ?_
    have hr := Option.some.inj h
    subst hr
    exact hk

theorem c_vitrineref12_Clear {g : Gw} (X : HP) (p0 : Vvitrineref12_Space) (b0 : Nat) (s0 : SV) (q0 : Rd X s0 48 en_Vapi_Cell p0.L) (p1 : Bool) (r : Vvitrineref12_Space) (h : m_vitrineref12_Clear p0 p1 = some r) : Tri env g 80 (List.toArray [(.pointer (some ⟨b0, 0, none⟩)), (.bool p1)]) [X, blk b0 (.cells (List.toArray [(.int .i64 p0.Model), (.bool p0.Alt), (.int .i64 p0.Size.Rows), (.int .i64 p0.Size.Cols), (SV.val s0), (.int .i64 p0.Cursor)]) 41 (0, 0))] (fun K R => ∀ (i0 : SV), K (.tuple (List.toArray [])) (X :: blk b0 (.cells (List.toArray [(.int .i64 r.Model), (.bool r.Alt), (.int .i64 r.Size.Rows), (.int .i64 r.Size.Cols), (SV.val i0), (.int .i64 r.Cursor)]) 41 (0, 0)) :: slO i0 48 en_Vapi_Cell r.L :: R)) := by
  refine tri_of (fn := Try.f80) (N := 39) Try.func80 rfl rfl rfl ?_
  intro R K hk
  unfold m_vitrineref12_Clear at h
  change GC _ none _ [] [(0, (.pointer (some ⟨b0, 0, none⟩))), (1, (.bool p1))] (X :: blk b0 (.cells (List.toArray [(.int .i64 p0.Model), (.bool p0.Alt), (.int .i64 p0.Size.Rows), (.int .i64 p0.Size.Cols), (SV.val s0), (.int .i64 p0.Cursor)]) 41 (0, 0)) :: R) g _ _
  refine c_seq ?_
  refine c_region ?_
  refine o1 rfl (o_p rfl ?_)
  refine o1 rfl (o_p rfl ?_)
  refine o1 rfl (o_p rfl ?_)
  refine o1 rfl (o_fa (fd := ⟨ "Alt", 4, 1, false, "", "", 8⟩) rfl rfl rfl rfl rfl ?_)
  refine o0 (o_st (b := b0) (off := 1) (vs := [(.bool p1)]) (cs' := [(.int .i64 p0.Model), (.bool p1), (.int .i64 p0.Size.Rows), (.int .i64 p0.Size.Cols), (SV.val s0), (.int .i64 p0.Cursor)]) rfl rfl rp1 rfl rfl rfl rfl rfl rfl ?_)
  refine o_end ?_
  refine e_seq ?_
  refine c_seq ?_
  refine c_region ?_
  refine o1 rfl (o_p rfl ?_)
  replace h := bsome h
  obtain ⟨d1, h1, h⟩ := h
  refine o1 rfl (o_call has79 rfl (c_vitrineref04_Model X 2 _ h1) (pc rm0 pn) ?_)
  refine o1 rfl (o_p rfl ?_)
  refine o1 rfl (o_p rfl ?_)
  refine o1 rfl (o_p rfl ?_)
  refine o1 rfl (o_p rfl ?_)
  refine o1 rfl (o_fa (fd := ⟨ "Size", 38, 2, false, "", "", 16⟩) rfl rfl rfl rfl rfl ?_)
  refine o0 (o_st (b := b0) (off := 2) (vs := [(.int .i64 d1.1.Rows), (.int .i64 d1.1.Cols)]) (cs' := [(.int .i64 p0.Model), (.bool p1), (.int .i64 d1.1.Rows), (.int .i64 d1.1.Cols), (SV.val s0), (.int .i64 p0.Cursor)]) rfl rfl rp1 rfl rfl rfl rfl rfl rfl ?_)
  refine o_end ?_
  refine e_seq ?_
  refine c_seq ?_
  refine c_seq ?_
  refine c_region ?_
  refine o1 rfl (o_p rfl ?_)
  refine o_end ?_
  refine e_seq ?_
  replace h := bsome h
  obtain ⟨d2, h, hk2⟩ := h
  refine cj (D := Unit) (ι := Unit) (fun _ i2 => True) (fun _ i2 => [(0, (.pointer (some ⟨b0, 0, none⟩)))]) (fun _ i2 => X :: blk b0 (.cells (List.toArray [(.int .i64 p0.Model), (.bool p1), (.int .i64 d2.1), (.int .i64 d2.2), (SV.val s0), (.int .i64 p0.Cursor)]) 41 (0, 0)) :: R) ?_ ?_
  · refine c_cond (b := p1) rfl (fun hb1257 => ?_) (fun hb1257 => ?_)
    · replace h := cond_t hb1257 h
      refine c_region ?_
      refine o1 rfl (o_p rfl ?_)
      refine o1 rfl (o_p rfl ?_)
      refine o1 rfl (o_p rfl ?_)
      refine o1 rfl (o_fa (fd := ⟨ "Model", 3, 0, false, "", "", 0⟩) rfl rfl rfl rfl rfl ?_)
      refine o1 rfl (o_ld (b := b0) (off := 0) (v := (.int .i64 p0.Model)) rfl rm1 rfl rfl ?_)
      replace h := bsome h
      obtain ⟨d3, h3, h⟩ := h
      refine o1 rfl (o_call has79 rfl (c_vitrineref04_Model X p0.Model _ h3) (pc rm0 pn) ?_)
      refine o1 rfl (o_p rfl ?_)
      refine o1 rfl (o_p rfl ?_)
      refine o1 rfl (o_p rfl ?_)
      refine o1 rfl (o_p rfl ?_)
      refine o1 rfl (o_fa (fd := ⟨ "Size", 38, 2, false, "", "", 16⟩) rfl rfl rfl rfl rfl ?_)
      refine o0 (o_st (b := b0) (off := 2) (vs := [(.int .i64 d3.1.Rows), (.int .i64 d3.1.Cols)]) (cs' := [(.int .i64 p0.Model), (.bool p1), (.int .i64 d3.1.Rows), (.int .i64 d3.1.Cols), (SV.val s0), (.int .i64 p0.Cursor)]) rfl rfl rp1 rfl rfl rfl rfl rfl rfl ?_)
      refine o_end ?_
      have hd := Option.some.inj h
      subst hd
      exact ej () () trivial (sc rfl sn) (kc rm0 (kc rm0 kr))
    · replace h := cond_f hb1257 h
      refine c_skip ?_
      have hd := Option.some.inj h
      subst hd
      exact ej () () trivial (sc rfl sn) (kc rm0 (kc rm0 kr))
  · rintro _ i2 _
    replace h := hk2
    clear hk2
    refine e_seq ?_
    refine c_seq ?_
    refine c_region ?_
    refine o1 rfl (o_p rfl ?_)
    refine o1 rfl (o_p rfl ?_)
    refine o1 rfl (o_p rfl ?_)
    refine o1 rfl (o_fa (fd := ⟨ "Size", 38, 2, false, "", "", 16⟩) rfl rfl rfl rfl rfl ?_)
    refine o1 rfl (o_ld (b := b0) (off := 2) (v := (.agg (List.toArray [(.int .i64 d2.1), (.int .i64 d2.2)]))) rfl rm1 rfl rfl ?_)
    replace h := bsome h
    obtain ⟨d4, h4, h⟩ := h
    refine o1 rfl (o_call has93 rfl (c_vitrineref04_Cells X (⟨d2.1, d2.2⟩ : Vvitrineref04_Size) _ h4) (pc rm0 pn) ?_)
    replace h := gsome h
    obtain ⟨hg1267, h⟩ := h
    refine o1 rfl (o_mk (e := en_Vapi_Cell) (z := (⟨0, false, 0, 0, 0, 0⟩ : Vapi_Cell)) (zs := [(.int .u8 0), (.bool false), (.int .u8 0), (.int .u8 0), (.int .u8 0), (.int .u8 0)]) rfl rfl rfl rfl rfl rfl rfl rfl rfl hg1267 (fun s1268 => ?_))
    refine o1 rfl (o_p rfl ?_)
    refine o1 rfl (o_fa (fd := ⟨ "L", 39, 4, false, "", "", 32⟩) rfl rfl rfl rfl rfl ?_)
    refine o0 (o_st (b := b0) (off := 4) (vs := [(SV.val s1268)]) (cs' := [(.int .i64 p0.Model), (.bool p1), (.int .i64 d2.1), (.int .i64 d2.2), (SV.val s1268), (.int .i64 p0.Cursor)]) rfl rfl rp2 rfl rfl rfl rfl rfl rfl ?_)
    refine o_end ?_
    refine e_seq ?_
    refine c_region ?_
    refine o1 rfl (o_p rfl ?_)
    refine o1 rfl (o_p rfl ?_)
    refine o1 rfl (o_fa (fd := ⟨ "Cursor", 3, 5, false, "", "", 56⟩) rfl rfl rfl rfl rfl ?_)
    refine o0 (o_st (b := b0) (off := 5) (vs := [(.int .i64 0)]) (cs' := [(.int .i64 p0.Model), (.bool p1), (.int .i64 d2.1), (.int .i64 d2.2), (SV.val s1268), (.int .i64 0)]) rfl rfl rp2 rfl rfl rfl rfl rfl rfl ?_)
    refine o_end ?_
    refine e_fall ?_
    refine r_endt rfl rfl (kc rm1 (kc rm1 (kc rm0 kr))) ?_
    have hr := Option.some.inj h
    subst hr
    exact hk s1268

theorem c_vitrineref12_New {g : Gw} (X : HP) (p0 : Int) (r : (Unit) ⊕ (Vvitrineref12_Space)) (h : m_vitrineref12_New p0 = some r) : Tri env g 45 (List.toArray [(.int .i64 p0)]) [X] (fun K R => match r with | .inl r => K (.pointer none) (X :: R) | .inr r => ∀ (i0 : Nat × SV), K (.pointer (some ⟨i0.1, 0, none⟩)) (X :: blk i0.1 (.cells (List.toArray [(.int .i64 r.Model), (.bool r.Alt), (.int .i64 r.Size.Rows), (.int .i64 r.Size.Cols), (SV.val i0.2), (.int .i64 r.Cursor)]) 41 (0, 0)) :: slO i0.2 48 en_Vapi_Cell r.L :: R)) := by
  refine tri_of (fn := Try.f45) (N := 19) Try.func45 rfl rfl rfl ?_
  intro R K hk
  unfold m_vitrineref12_New at h
  change GC _ none _ [] [(0, (.int .i64 p0))] (X :: R) g _ _
  refine c_seq ?_
  refine c_region ?_
  refine o1 rfl (o_p rfl ?_)
  refine o_end ?_
  refine e_seq ?_
  refine c_seq ?_
  refine c_seq ?_
  refine c_region ?_
  refine o1 rfl (o_p rfl ?_)
  replace h := bsome h
  obtain ⟨d1, h1, h⟩ := h
  refine o1 rfl (o_call has79 rfl (c_vitrineref04_Model X p0 _ h1) (pc rm0 pn) ?_)
  refine o1 rfl (o_p rfl ?_)
  refine o1 rfl (o_p rfl ?_)
  refine o1 rfl (o_p rfl ?_)
  refine o1 rfl (o_alloc (cs := [(.int .i64 0), (.int .i64 0)]) rfl rfl (fun b1252 => ?_))
  refine o0 (o_st (b := b1252) (off := 0) (vs := [(.int .i64 d1.1.Rows), (.int .i64 d1.1.Cols)]) (cs' := [(.int .i64 d1.1.Rows), (.int .i64 d1.1.Cols)]) rfl rfl rp0 rfl rfl rfl rfl rfl rfl ?_)
  refine o1 rfl (o_p rfl ?_)
  refine o_end ?_
  refine e_seq ?_
  refine c_seq ?_
  refine c_region ?_
  refine o1 rfl (o_p rfl ?_)
  refine o1 rfl (o_p (v := (.bool (!d1.2))) rfl ?_)
  refine o_end ?_
  refine e_seq ?_
  refine c_cond (b := (!d1.2)) rfl (fun hb1254 => ?_) (fun hb1254 => ?_)
  · replace h := cond_t hb1254 h
    refine c_seq ?_
    refine c_region ?_
    refine o1 rfl (o_p rfl ?_)
    refine o_end ?_
    refine e_seq ?_
    refine c_ret ?_
    refine e_then_ret ?_
    refine e_ret ?_
    refine r_endt rfl rfl (kc rm1 (kd kr)) ?_
    have hr := Option.some.inj h
    subst hr
    exact hk
  · replace h := cond_f hb1254 h
    refine c_skip ?_
    refine e_seq ?_
    refine c_seq ?_
    refine c_region ?_
    refine o1 rfl (o_p rfl ?_)
    refine o1 rfl (o_build (fs := [⟨ "Model", 3, 0, false, "", "", 0⟩, ⟨ "Alt", 4, 1, false, "", "", 8⟩, ⟨ "Size", 38, 2, false, "", "", 16⟩, ⟨ "L", 39, 4, false, "", "", 32⟩, ⟨ "Cursor", 3, 5, false, "", "", 56⟩]) (ps := [(0, 1), (1, 1), (2, 2), (4, 1), (5, 1)]) (cs := [(.int .i64 p0), (.bool false), (.int .i64 0), (.int .i64 0), (SV.val SV.nil), (.int .i64 0)]) rfl rfl rfl rfl rfl ?_)
    refine o1 rfl (o_box (cs := [(.int .i64 p0), (.bool false), (.int .i64 0), (.int .i64 0), (SV.val SV.nil), (.int .i64 0)]) rfl rfl (fun b1255 => ?_))
    refine o1 rfl (o_p rfl ?_)
    refine o_end ?_
    refine e_seq ?_
    refine c_seq ?_
    refine c_region ?_
    refine o1 rfl (o_p rfl ?_)
    replace h := bsome h
    obtain ⟨d3, h3, h⟩ := h
    refine o1 rfl (o_call has80 rfl (c_vitrineref12_Clear X (⟨p0, false, (⟨0, 0⟩ : Vvitrineref04_Size), ([] : List Vapi_Cell), 0⟩ : Vvitrineref12_Space) b1255 SV.nil (rd_nil _ _ _) false _ h3) (pc rm2 (pc rm0 pn)) (fun i3 => ?_))
    refine o_end ?_
    refine e_seq ?_
    refine c_seq ?_
    refine c_region ?_
    refine o1 rfl (o_p rfl ?_)
    refine o1 rfl (o_p rfl ?_)
    refine o_end ?_
    refine e_seq ?_
    refine c_ret ?_
    refine e_ret ?_
    refine r_endt rfl rfl (kc rm0 (kc rm0 (kc rm0 (kd kr)))) ?_
    have hr := Option.some.inj h
    subst hr
    exact hk (b1255, i3)

theorem c_vitrineref12_Clear_2 {g : Gw} (X : HP) (p0 : Vvitrineref12_Space) (b0 : Nat) (s0 : SV) (p1 : Bool) (r : Vvitrineref12_Space) (h : m_vitrineref12_Clear_2 p0 p1 = some r) : Tri env g 80 (List.toArray [(.pointer (some ⟨b0, 0, none⟩)), (.bool p1)]) [X, blk b0 (.cells (List.toArray [(.int .i64 p0.Model), (.bool p0.Alt), (.int .i64 p0.Size.Rows), (.int .i64 p0.Size.Cols), (SV.val s0), (.int .i64 p0.Cursor)]) 41 (0, 0)), slO s0 48 en_Vapi_Cell p0.L] (fun K R => ∀ (i0 : SV), K (.tuple (List.toArray [])) (X :: blk b0 (.cells (List.toArray [(.int .i64 r.Model), (.bool r.Alt), (.int .i64 r.Size.Rows), (.int .i64 r.Size.Cols), (SV.val i0), (.int .i64 r.Cursor)]) 41 (0, 0)) :: slO i0 48 en_Vapi_Cell r.L :: slO s0 48 en_Vapi_Cell p0.L :: R)) := by
  refine tri_of (fn := Try.f80) (N := 39) Try.func80 rfl rfl rfl ?_
  intro R K hk
  unfold m_vitrineref12_Clear_2 at h
  change GC _ none _ [] [(0, (.pointer (some ⟨b0, 0, none⟩))), (1, (.bool p1))] (X :: blk b0 (.cells (List.toArray [(.int .i64 p0.Model), (.bool p0.Alt), (.int .i64 p0.Size.Rows), (.int .i64 p0.Size.Cols), (SV.val s0), (.int .i64 p0.Cursor)]) 41 (0, 0)) :: slO s0 48 en_Vapi_Cell p0.L :: R) g _ _
  refine c_seq ?_
  refine c_region ?_
  refine o1 rfl (o_p rfl ?_)
  refine o1 rfl (o_p rfl ?_)
  refine o1 rfl (o_p rfl ?_)
  refine o1 rfl (o_fa (fd := ⟨ "Alt", 4, 1, false, "", "", 8⟩) rfl rfl rfl rfl rfl ?_)
  refine o0 (o_st (b := b0) (off := 1) (vs := [(.bool p1)]) (cs' := [(.int .i64 p0.Model), (.bool p1), (.int .i64 p0.Size.Rows), (.int .i64 p0.Size.Cols), (SV.val s0), (.int .i64 p0.Cursor)]) rfl rfl rp1 rfl rfl rfl rfl rfl rfl ?_)
  refine o_end ?_
  refine e_seq ?_
  refine c_seq ?_
  refine c_region ?_
  refine o1 rfl (o_p rfl ?_)
  replace h := bsome h
  obtain ⟨d1, h1, h⟩ := h
  refine o1 rfl (o_call has79 rfl (c_vitrineref04_Model X 2 _ h1) (pc rm0 pn) ?_)
  refine o1 rfl (o_p rfl ?_)
  refine o1 rfl (o_p rfl ?_)
  refine o1 rfl (o_p rfl ?_)
  refine o1 rfl (o_p rfl ?_)
  refine o1 rfl (o_fa (fd := ⟨ "Size", 38, 2, false, "", "", 16⟩) rfl rfl rfl rfl rfl ?_)
  refine o0 (o_st (b := b0) (off := 2) (vs := [(.int .i64 d1.1.Rows), (.int .i64 d1.1.Cols)]) (cs' := [(.int .i64 p0.Model), (.bool p1), (.int .i64 d1.1.Rows), (.int .i64 d1.1.Cols), (SV.val s0), (.int .i64 p0.Cursor)]) rfl rfl rp1 rfl rfl rfl rfl rfl rfl ?_)
  refine o_end ?_
  refine e_seq ?_
  refine c_seq ?_
  refine c_seq ?_
  refine c_region ?_
  refine o1 rfl (o_p rfl ?_)
  refine o_end ?_
  refine e_seq ?_
  replace h := bsome h
  obtain ⟨d2, h, hk2⟩ := h
  refine cj (D := Unit) (ι := Unit) (fun _ i2 => True) (fun _ i2 => [(0, (.pointer (some ⟨b0, 0, none⟩)))]) (fun _ i2 => X :: blk b0 (.cells (List.toArray [(.int .i64 p0.Model), (.bool p1), (.int .i64 d2.1), (.int .i64 d2.2), (SV.val s0), (.int .i64 p0.Cursor)]) 41 (0, 0)) :: slO s0 48 en_Vapi_Cell p0.L :: R) ?_ ?_
  · refine c_cond (b := p1) rfl (fun hb1287 => ?_) (fun hb1287 => ?_)
    · replace h := cond_t hb1287 h
      refine c_region ?_
      refine o1 rfl (o_p rfl ?_)
      refine o1 rfl (o_p rfl ?_)
      refine o1 rfl (o_p rfl ?_)
      refine o1 rfl (o_fa (fd := ⟨ "Model", 3, 0, false, "", "", 0⟩) rfl rfl rfl rfl rfl ?_)
      refine o1 rfl (o_ld (b := b0) (off := 0) (v := (.int .i64 p0.Model)) rfl rm1 rfl rfl ?_)
      replace h := bsome h
      obtain ⟨d3, h3, h⟩ := h
      refine o1 rfl (o_call has79 rfl (c_vitrineref04_Model X p0.Model _ h3) (pc rm0 pn) ?_)
      refine o1 rfl (o_p rfl ?_)
      refine o1 rfl (o_p rfl ?_)
      refine o1 rfl (o_p rfl ?_)
      refine o1 rfl (o_p rfl ?_)
      refine o1 rfl (o_fa (fd := ⟨ "Size", 38, 2, false, "", "", 16⟩) rfl rfl rfl rfl rfl ?_)
      refine o0 (o_st (b := b0) (off := 2) (vs := [(.int .i64 d3.1.Rows), (.int .i64 d3.1.Cols)]) (cs' := [(.int .i64 p0.Model), (.bool p1), (.int .i64 d3.1.Rows), (.int .i64 d3.1.Cols), (SV.val s0), (.int .i64 p0.Cursor)]) rfl rfl rp1 rfl rfl rfl rfl rfl rfl ?_)
      refine o_end ?_
      have hd := Option.some.inj h
      subst hd
      exact ej () () trivial (sc rfl sn) (kc rm0 (kc rm0 (kc rm0 kr)))
    · replace h := cond_f hb1287 h
      refine c_skip ?_
      have hd := Option.some.inj h
      subst hd
      exact ej () () trivial (sc rfl sn) (kc rm0 (kc rm0 (kc rm0 kr)))
  · rintro _ i2 _
    replace h := hk2
    clear hk2
    refine e_seq ?_
    refine c_seq ?_
    refine c_region ?_
    refine o1 rfl (o_p rfl ?_)
    refine o1 rfl (o_p rfl ?_)
    refine o1 rfl (o_p rfl ?_)
    refine o1 rfl (o_fa (fd := ⟨ "Size", 38, 2, false, "", "", 16⟩) rfl rfl rfl rfl rfl ?_)
    refine o1 rfl (o_ld (b := b0) (off := 2) (v := (.agg (List.toArray [(.int .i64 d2.1), (.int .i64 d2.2)]))) rfl rm1 rfl rfl ?_)
    replace h := bsome h
    obtain ⟨d4, h4, h⟩ := h
    refine o1 rfl (o_call has93 rfl (c_vitrineref04_Cells X (⟨d2.1, d2.2⟩ : Vvitrineref04_Size) _ h4) (pc rm0 pn) ?_)
    replace h := gsome h
    obtain ⟨hg1288, h⟩ := h
    refine o1 rfl (o_mk (e := en_Vapi_Cell) (z := (⟨0, false, 0, 0, 0, 0⟩ : Vapi_Cell)) (zs := [(.int .u8 0), (.bool false), (.int .u8 0), (.int .u8 0), (.int .u8 0), (.int .u8 0)]) rfl rfl rfl rfl rfl rfl rfl rfl rfl hg1288 (fun s1289 => ?_))
    refine o1 rfl (o_p rfl ?_)
    refine o1 rfl (o_fa (fd := ⟨ "L", 39, 4, false, "", "", 32⟩) rfl rfl rfl rfl rfl ?_)
    refine o0 (o_st (b := b0) (off := 4) (vs := [(SV.val s1289)]) (cs' := [(.int .i64 p0.Model), (.bool p1), (.int .i64 d2.1), (.int .i64 d2.2), (SV.val s1289), (.int .i64 p0.Cursor)]) rfl rfl rp2 rfl rfl rfl rfl rfl rfl ?_)
    refine o_end ?_
    refine e_seq ?_
    refine c_region ?_
    refine o1 rfl (o_p rfl ?_)
    refine o1 rfl (o_p rfl ?_)
    refine o1 rfl (o_fa (fd := ⟨ "Cursor", 3, 5, false, "", "", 56⟩) rfl rfl rfl rfl rfl ?_)
    refine o0 (o_st (b := b0) (off := 5) (vs := [(.int .i64 0)]) (cs' := [(.int .i64 p0.Model), (.bool p1), (.int .i64 d2.1), (.int .i64 d2.2), (SV.val s1289), (.int .i64 0)]) rfl rfl rp2 rfl rfl rfl rfl rfl rfl ?_)
    refine o_end ?_
    refine e_fall ?_
    refine r_endt rfl rfl (kc rm1 (kc rm1 (kc rm0 (kc rm0 kr)))) ?_
    have hr := Option.some.inj h
    subst hr
    exact hk s1289

theorem c_vitrineref04_Wrap {g : Gw} (X : HP) (p0 : Vvitrineref04_Size) (p1 : Int) (r : Int) (h : m_vitrineref04_Wrap p0 p1 = some r) : Tri env g 54 (List.toArray [(.agg (List.toArray [(.int .i64 p0.Rows), (.int .i64 p0.Cols)])), (.int .i64 p1)]) [X] (fun K R => K (.int .i64 r) (X :: R)) := by
  refine tri_of (fn := Try.f54) (N := 9) Try.func54 rfl rfl rfl ?_
  intro R K hk
  unfold m_vitrineref04_Wrap at h
  change GC _ none _ [] [(0, (.agg (List.toArray [(.int .i64 p0.Rows), (.int .i64 p0.Cols)]))), (1, (.int .i64 p1))] (X :: R) g _ _
  refine c_seq ?_
  refine c_region ?_
  refine o1 rfl (o_box (cs := [(.int .i64 p0.Rows), (.int .i64 p0.Cols)]) rfl rfl (fun b1294 => ?_))
  refine o1 rfl (o_p rfl ?_)
  refine o_end ?_
  refine e_seq ?_
  refine c_seq ?_
  refine c_region ?_
  refine o1 rfl (o_p rfl ?_)
  refine o1 rfl (o_ld (b := b1294) (off := 0) (v := (.agg (List.toArray [(.int .i64 p0.Rows), (.int .i64 p0.Cols)]))) rfl rm0 rfl rfl ?_)
  replace h := bsome h
  obtain ⟨d1, h1, h⟩ := h
  refine o1 rfl (o_call has93 rfl (c_vitrineref04_Cells X p0 _ h1) (pc rm1 pn) ?_)
  replace h := bsome h
  obtain ⟨d2, h2, h⟩ := h
  refine o1 rfl (o_call has56 rfl (c_vitrineref04_Mod X p1 d1 _ h2) (pc rm0 pn) ?_)
  refine o1 rfl (o_p rfl ?_)
  refine o_end ?_
  refine e_seq ?_
  refine c_ret ?_
  refine e_ret ?_
  refine r_endt rfl rfl (kc rm0 (kd kr)) ?_
  have hr := Option.some.inj h
  subst hr
  exact hk

theorem c_vitrineref12_Wrap {g : Gw} (X : HP) (p0 : Vvitrineref12_Space) (b0 : Nat) (s0 : SV) (p1 : Int) (r : Int) (h : m_vitrineref12_Wrap p0 p1 = some r) : Tri env g 17 (List.toArray [(.pointer (some ⟨b0, 0, none⟩)), (.int .i64 p1)]) [X, blk b0 (.cells (List.toArray [(.int .i64 p0.Model), (.bool p0.Alt), (.int .i64 p0.Size.Rows), (.int .i64 p0.Size.Cols), (SV.val s0), (.int .i64 p0.Cursor)]) 41 (0, 0)), slO s0 48 en_Vapi_Cell p0.L] (fun K R => K (.int .i64 r) (X :: blk b0 (.cells (List.toArray [(.int .i64 p0.Model), (.bool p0.Alt), (.int .i64 p0.Size.Rows), (.int .i64 p0.Size.Cols), (SV.val s0), (.int .i64 p0.Cursor)]) 41 (0, 0)) :: slO s0 48 en_Vapi_Cell p0.L :: R)) := by
  refine tri_of (fn := Try.f17) (N := 11) Try.func17 rfl rfl rfl ?_
  intro R K hk
  unfold m_vitrineref12_Wrap at h
  change GC _ none _ [] [(0, (.pointer (some ⟨b0, 0, none⟩))), (1, (.int .i64 p1))] (X :: blk b0 (.cells (List.toArray [(.int .i64 p0.Model), (.bool p0.Alt), (.int .i64 p0.Size.Rows), (.int .i64 p0.Size.Cols), (SV.val s0), (.int .i64 p0.Cursor)]) 41 (0, 0)) :: slO s0 48 en_Vapi_Cell p0.L :: R) g _ _
  refine c_seq ?_
  refine c_region ?_
  refine o1 rfl (o_p rfl ?_)
  refine o_end ?_
  refine e_seq ?_
  refine c_seq ?_
  refine c_region ?_
  refine o1 rfl (o_p rfl ?_)
  refine o1 rfl (o_p rfl ?_)
  refine o1 rfl (o_fa (fd := ⟨ "Size", 38, 2, false, "", "", 16⟩) rfl rfl rfl rfl rfl ?_)
  refine o1 rfl (o_ld (b := b0) (off := 2) (v := (.agg (List.toArray [(.int .i64 p0.Size.Rows), (.int .i64 p0.Size.Cols)]))) rfl rm1 rfl rfl ?_)
  refine o1 rfl (o_p rfl ?_)
  replace h := bsome h
  obtain ⟨d1, h1, h⟩ := h
  refine o1 rfl (o_call has54 rfl (c_vitrineref04_Wrap X p0.Size p1 _ h1) (pc rm0 pn) ?_)
  refine o1 rfl (o_p rfl ?_)
  refine o_end ?_
  refine e_seq ?_
  refine c_ret ?_
  refine e_ret ?_
  refine r_endt rfl rfl (kc rm0 (kc rm0 (kc rm0 kr))) ?_
  have hr := Option.some.inj h
  subst hr
  exact hk

theorem c_vitrineref12_At {g : Gw} (X : HP) (p0 : Vvitrineref12_Space) (b0 : Nat) (s0 : SV) (p1 : Int) (r : Vapi_Cell) (h : m_vitrineref12_At p0 p1 = some r) : Tri env g 42 (List.toArray [(.pointer (some ⟨b0, 0, none⟩)), (.int .i64 p1)]) [X, blk b0 (.cells (List.toArray [(.int .i64 p0.Model), (.bool p0.Alt), (.int .i64 p0.Size.Rows), (.int .i64 p0.Size.Cols), (SV.val s0), (.int .i64 p0.Cursor)]) 41 (0, 0)), slO s0 48 en_Vapi_Cell p0.L] (fun K R => K (.agg (List.toArray [(.int .u8 r.Char), (.bool r.Attr), (.int .u8 r.FA), (.int .u8 r.High), (.int .u8 r.Color), (.int .u8 r.f_Set)])) (X :: blk b0 (.cells (List.toArray [(.int .i64 p0.Model), (.bool p0.Alt), (.int .i64 p0.Size.Rows), (.int .i64 p0.Size.Cols), (SV.val s0), (.int .i64 p0.Cursor)]) 41 (0, 0)) :: slO s0 48 en_Vapi_Cell p0.L :: R)) := by
  refine tri_of (fn := Try.f42) (N := 14) Try.func42 rfl rfl rfl ?_
  intro R K hk
  unfold m_vitrineref12_At at h
  change GC _ none _ [] [(0, (.pointer (some ⟨b0, 0, none⟩))), (1, (.int .i64 p1))] (X :: blk b0 (.cells (List.toArray [(.int .i64 p0.Model), (.bool p0.Alt), (.int .i64 p0.Size.Rows), (.int .i64 p0.Size.Cols), (SV.val s0), (.int .i64 p0.Cursor)]) 41 (0, 0)) :: slO s0 48 en_Vapi_Cell p0.L :: R) g _ _
  refine c_seq ?_
  refine c_region ?_
  refine o1 rfl (o_alloc (cs := [(.int .u8 0), (.bool false), (.int .u8 0), (.int .u8 0), (.int .u8 0), (.int .u8 0)]) rfl rfl (fun b1297 => ?_))
  refine o_end ?_
  refine e_seq ?_
  refine c_seq ?_
  refine c_draw (n := 2) (q := [(0, 5, (.pointer (some ⟨b0, 0, none⟩))), (1, 6, (.pointer (some ⟨b0, 0, none⟩))), (2, 7, (.pointer (some ⟨b0, 4, none⟩))), (3, 8, (SV.val s0)), (4, 9, (.pointer (some ⟨b0, 0, none⟩))), (5, 10, (.int .i64 p1))]) (pend := [0, 1, 2, 3, 4, 5]) rfl rfl rfl ?_
  replace h := bsome h
  obtain ⟨d2, h2, h⟩ := h
  refine ⟨⟨fun _ => ⟨rfl, rfl, rfl, .inl ⟨rfl, (o_p rfl ⟨rfl, rfl⟩)⟩⟩, fun _ => ⟨rfl, rfl, rfl, .inl ⟨rfl, (o_p rfl ⟨rfl, rfl⟩)⟩⟩, fun _ => ⟨rfl, rfl, rfl, .inl ⟨rfl, (o_fa (fd := ⟨ "L", 39, 4, false, "", "", 32⟩) rfl rfl rfl rfl rfl ⟨rfl, rfl⟩)⟩⟩, fun _ => ⟨rfl, rfl, rfl, .inl ⟨rfl, (o_ld (b := b0) (off := 4) (v := (SV.val s0)) rfl rm2 rfl rfl ⟨rfl, rfl⟩)⟩⟩, fun _ => ⟨rfl, rfl, rfl, .inl ⟨rfl, (o_p rfl ⟨rfl, rfl⟩)⟩⟩, fun _ => ⟨rfl, rfl, rfl, .inl ⟨rfl, (o_p rfl ⟨rfl, rfl⟩)⟩⟩, trivial⟩, rfl, .inr ⟨[6], rfl, rfl, ⟨rfl, .inl rfl, ?_⟩, trivial⟩⟩
  refine (o_call has17 rfl (c_vitrineref12_Wrap X p0 b0 s0 p1 _ h2) (pc rm1 (pc rm1 (pc rm1 pn))) ?_)
  replace h := gsome h
  obtain ⟨hg1299, h⟩ := h
  refine ⟨[(7, 12, (.pointer (some ⟨SV.blk s0, SV.off s0 + Int.toNat d2 * 6, none⟩))), (8, 13, (.agg (List.toArray [(.int .u8 ((rd p0.L d2).Char)), (.bool ((rd p0.L d2).Attr)), (.int .u8 ((rd p0.L d2).FA)), (.int .u8 ((rd p0.L d2).High)), (.int .u8 ((rd p0.L d2).Color)), (.int .u8 ((rd p0.L d2).f_Set))])))], [0, 1, 2, 3, 7, 8], rfl, rfl, rfl, rfl, ?_⟩
  refine ⟨⟨fun _ => ⟨rfl, rfl, rfl, .inl ⟨rfl, (o_ix (s := s0) (n := d2) (e := en_Vapi_Cell) rfl rfl rfl rfl rfl rfl rm2 (rd_own _ _ _ _) hg1299 ⟨rfl, rfl⟩)⟩⟩, fun _ => ⟨rfl, rfl, rfl, .inl ⟨rfl, (o_ldE (s := s0) (e := en_Vapi_Cell) (n := d2) (f := 0) (v := (.agg (List.toArray [(.int .u8 ((rd p0.L d2).Char)), (.bool ((rd p0.L d2).Attr)), (.int .u8 ((rd p0.L d2).FA)), (.int .u8 ((rd p0.L d2).High)), (.int .u8 ((rd p0.L d2).Color)), (.int .u8 ((rd p0.L d2).f_Set))]))) rfl rm2 (rd_own _ _ _ _) hg1299 rfl rfl ⟨rfl, rfl⟩)⟩⟩, fun _ => ⟨rfl, rfl, rfl, .inl ⟨rfl, (o_p rfl ⟨rfl, rfl⟩)⟩⟩, fun _ => ⟨rfl, rfl, rfl, .inl ⟨rfl, (o_p rfl ⟨rfl, rfl⟩)⟩⟩, fun _ => ⟨rfl, rfl, rfl, .inl ⟨rfl, (o_fa (fd := ⟨ "L", 39, 4, false, "", "", 32⟩) rfl rfl rfl rfl rfl ⟨rfl, rfl⟩)⟩⟩, fun _ => ⟨rfl, rfl, rfl, .inl ⟨rfl, (o_ld (b := b0) (off := 4) (v := (SV.val s0)) rfl rm1 rfl rfl ⟨rfl, rfl⟩)⟩⟩, (fun h => nomatch h), (fun h => nomatch h), trivial⟩, rfl, .inr ⟨[9], rfl, rfl, ⟨rfl, .inl rfl, ?_⟩, trivial⟩⟩
  refine (o_st (b := b1297) (off := 0) (vs := [(.int .u8 ((rd p0.L d2).Char)), (.bool ((rd p0.L d2).Attr)), (.int .u8 ((rd p0.L d2).FA)), (.int .u8 ((rd p0.L d2).High)), (.int .u8 ((rd p0.L d2).Color)), (.int .u8 ((rd p0.L d2).f_Set))]) (cs' := [(.int .u8 ((rd p0.L d2).Char)), (.bool ((rd p0.L d2).Attr)), (.int .u8 ((rd p0.L d2).FA)), (.int .u8 ((rd p0.L d2).High)), (.int .u8 ((rd p0.L d2).Color)), (.int .u8 ((rd p0.L d2).f_Set))]) rfl rfl rp3 rfl rfl rfl rfl rfl rfl ?_)
  refine ⟨[], [], rfl, rfl, ?_⟩
  refine ⟨⟨(fun h => nomatch h), (fun h => nomatch h), (fun h => nomatch h), (fun h => nomatch h), (fun h => nomatch h), (fun h => nomatch h), (fun h => nomatch h), (fun h => nomatch h), trivial⟩, rfl, rfl, rfl, ?_⟩
  refine e_seq ?_
  refine c_ret ?_
  refine e_ret ?_
  refine r_endc (B := [[(.int .u8 ((rd p0.L d2).Char)), (.bool ((rd p0.L d2).Attr)), (.int .u8 ((rd p0.L d2).FA)), (.int .u8 ((rd p0.L d2).High)), (.int .u8 ((rd p0.L d2).Color)), (.int .u8 ((rd p0.L d2).f_Set))]]) rfl ⟨⟨_, _, _, _, rfl, rm3⟩, trivial⟩ rfl (kc rm0 (kc rm0 (kc rm0 (kd kr)))) ?_
  have hr := Option.some.inj h
  subst hr
  exact hk

theorem c_vitrineref05_Of {g : Gw} (X : HP) (p0 : Int) (r : Vvitrineref05_Field) (h : m_vitrineref05_Of p0 = some r) : Tri env g 53 (List.toArray [(.int .u8 p0)]) [X] (fun K R => K (.agg (List.toArray [(.bool r.Protected), (.bool r.Numeric), (.int .i64 r.Display), (.bool r.Modified)])) (X :: R)) := by
  refine tri_of (fn := Try.f53) (N := 20) Try.func53 rfl rfl rfl ?_
  intro R K hk
  unfold m_vitrineref05_Of at h
  change GC _ none _ [] [(0, (.int .u8 p0))] (X :: R) g _ _
  refine c_seq ?_
  refine c_region ?_
  refine o1 rfl (o_alloc (cs := [(.bool false), (.bool false), (.int .i64 0), (.bool false)]) rfl rfl (fun b1310 => ?_))
  refine o_end ?_
  refine e_seq ?_
  refine c_seq ?_
  refine c_region ?_
  refine o1 rfl (o_p rfl ?_)
  refine o1 rfl (o_p (v := (.int .i64 (w64 (p0)))) rfl ?_)
  refine o1 rfl (o_rem (m := w64 (p0)) (n := 64) rfl rfl (by decide) ?_)
  refine o1 rfl (o_p rfl ?_)
  refine o_end ?_
  refine e_seq ?_
  refine c_seq ?_
  refine c_region ?_
  refine o1 rfl (o_p rfl ?_)
  refine o1 rfl (o_p (v := (.bool (decide ((Int.tmod (w64 (p0)) 64) ≥ 32)))) rfl ?_)
  refine o1 rfl (o_p rfl ?_)
  refine o1 rfl (o_quo (m := Int.tmod (w64 (p0)) 64) (n := 16) rfl rfl (by decide) ?_)
  refine o1 rfl (o_rem (m := w64 (Int.tdiv (Int.tmod (w64 (p0)) 64) 16)) (n := 2) rfl rfl (by decide) ?_)
  refine o1 rfl (o_p (v := (.bool ((Int.tmod (w64 (Int.tdiv (Int.tmod (w64 (p0)) 64) 16)) 2) == 1))) rfl ?_)
  refine o1 rfl (o_p rfl ?_)
  refine o1 rfl (o_quo (m := Int.tmod (w64 (p0)) 64) (n := 4) rfl rfl (by decide) ?_)
  refine o1 rfl (o_rem (m := w64 (Int.tdiv (Int.tmod (w64 (p0)) 64) 4)) (n := 4) rfl rfl (by decide) ?_)
  refine o1 rfl (o_p rfl ?_)
  refine o1 rfl (o_rem (m := Int.tmod (w64 (p0)) 64) (n := 2) rfl rfl (by decide) ?_)
  refine o1 rfl (o_p (v := (.bool ((Int.tmod (Int.tmod (w64 (p0)) 64) 2) == 1))) rfl ?_)
  refine o1 rfl (o_build (fs := [⟨ "Protected", 4, 0, false, "", "", 0⟩, ⟨ "Numeric", 4, 1, false, "", "", 1⟩, ⟨ "Display", 3, 2, false, "", "", 8⟩, ⟨ "Modified", 4, 3, false, "", "", 16⟩]) (ps := [(0, 1), (1, 1), (2, 1), (3, 1)]) (cs := [(.bool (decide ((Int.tmod (w64 (p0)) 64) ≥ 32))), (.bool ((Int.tmod (w64 (Int.tdiv (Int.tmod (w64 (p0)) 64) 16)) 2) == 1)), (.int .i64 (Int.tmod (w64 (Int.tdiv (Int.tmod (w64 (p0)) 64) 4)) 4)), (.bool ((Int.tmod (Int.tmod (w64 (p0)) 64) 2) == 1))]) rfl rfl rfl rfl rfl ?_)
  refine o0 (o_st (b := b1310) (off := 0) (vs := [(.bool (decide ((Int.tmod (w64 (p0)) 64) ≥ 32))), (.bool ((Int.tmod (w64 (Int.tdiv (Int.tmod (w64 (p0)) 64) 16)) 2) == 1)), (.int .i64 (Int.tmod (w64 (Int.tdiv (Int.tmod (w64 (p0)) 64) 4)) 4)), (.bool ((Int.tmod (Int.tmod (w64 (p0)) 64) 2) == 1))]) (cs' := [(.bool (decide ((Int.tmod (w64 (p0)) 64) ≥ 32))), (.bool ((Int.tmod (w64 (Int.tdiv (Int.tmod (w64 (p0)) 64) 16)) 2) == 1)), (.int .i64 (Int.tmod (w64 (Int.tdiv (Int.tmod (w64 (p0)) 64) 4)) 4)), (.bool ((Int.tmod (Int.tmod (w64 (p0)) 64) 2) == 1))]) rfl rfl rp0 rfl rfl rfl rfl rfl rfl ?_)
  refine o_end ?_
  refine e_seq ?_
  refine c_ret ?_
  refine e_ret ?_
  refine r_endc (B := [[(.bool (decide ((Int.tmod (w64 (p0)) 64) ≥ 32))), (.bool ((Int.tmod (w64 (Int.tdiv (Int.tmod (w64 (p0)) 64) 16)) 2) == 1)), (.int .i64 (Int.tmod (w64 (Int.tdiv (Int.tmod (w64 (p0)) 64) 4)) 4)), (.bool ((Int.tmod (Int.tmod (w64 (p0)) 64) 2) == 1))]]) rfl ⟨⟨_, _, _, _, rfl, rm0⟩, trivial⟩ rfl (kc rm1 (kd kr)) ?_
  have hr := Option.some.inj h
  subst hr
  exact hk

theorem c_vitrineref05_Bits {g : Gw} (X : HP) (p0 : Vvitrineref05_Field) (r : Int × Int) (h : m_vitrineref05_Bits p0 = some r) : Tri env g 144 (List.toArray [(.agg (List.toArray [(.bool p0.Protected), (.bool p0.Numeric), (.int .i64 p0.Display), (.bool p0.Modified)]))]) [X] (fun K R => K (.tuple (List.toArray [(.int .u8 r.1), (.int .i64 r.2)])) (X :: R)) := by
  refine tri_of (fn := Try.f144) (N := 30) Try.func144 rfl rfl rfl ?_
  intro R K hk
  unfold m_vitrineref05_Bits at h
  change GC _ none _ [] [(0, (.agg (List.toArray [(.bool p0.Protected), (.bool p0.Numeric), (.int .i64 p0.Display), (.bool p0.Modified)])))] (X :: R) g _ _
  refine c_seq ?_
  refine c_region ?_
  refine o1 rfl (o_box (cs := [(.bool p0.Protected), (.bool p0.Numeric), (.int .i64 p0.Display), (.bool p0.Modified)]) rfl rfl (fun b1312 => ?_))
  refine o1 rfl (o_p rfl ?_)
  refine o1 rfl (o_p rfl ?_)
  refine o_end ?_
  refine e_seq ?_
  refine c_seq ?_
  refine c_seq ?_
  replace h := bsome h
  obtain ⟨d1, h, hk1⟩ := h
  refine cj (D := Unit) (ι := Unit) (fun _ i1 => True) (fun _ i1 => [(12, (.bool d1)), (1, (.pointer (some ⟨b1312, 0, none⟩)))]) (fun _ i1 => X :: blk b1312 (.cells (List.toArray [(.bool p0.Protected), (.bool p0.Numeric), (.int .i64 p0.Display), (.bool p0.Modified)]) 43 (0, 0)) :: R) ?_ ?_
  · refine c_region ?_
    refine o1 rfl (o_fa (fd := ⟨ "Display", 3, 2, false, "", "", 8⟩) rfl rfl rfl rfl rfl ?_)
    refine o1 rfl (o_ld (b := b1312) (off := 2) (v := (.int .i64 p0.Display)) rfl rm0 rfl rfl ?_)
    refine o1 rfl (o_p (v := (.bool (decide (p0.Display < 0)))) rfl ?_)
    refine o1 rfl (o_p rfl ?_)
    rcases bool_or ((decide (p0.Display < 0))) with hb1314 | hb1314
    · replace h := cond_t hb1314 h
      refine on rfl rfl rfl hb1314 ?_
      refine on rfl rfl rfl hb1314 ?_
      refine on rfl rfl rfl hb1314 ?_
      refine o1 rfl (o_pick_t rfl hb1314 rfl ?_)
      refine o_end ?_
      have hd := Option.some.inj h
      subst hd
      exact ej () () trivial (sc rfl (sc rfl sn)) (kc rm1 (kc rm0 kr))
    · replace h := cond_f hb1314 h
      refine oy rfl rfl rfl hb1314 (o_fa (fd := ⟨ "Display", 3, 2, false, "", "", 8⟩) rfl rfl rfl rfl rfl ?_)
      refine oy rfl rfl rfl hb1314 (o_ld (b := b1312) (off := 2) (v := (.int .i64 p0.Display)) rfl rm0 rfl rfl ?_)
      refine oy rfl rfl rfl hb1314 (o_p (v := (.bool (decide (p0.Display > 3)))) rfl ?_)
      refine o1 rfl (o_pick_f rfl hb1314 rfl ?_)
      refine o_end ?_
      have hd := Option.some.inj h
      subst hd
      exact ej () () trivial (sc rfl (sc rfl sn)) (kc rm1 (kc rm0 kr))
  · rintro _ i1 _
    replace h := hk1
    clear hk1
    refine e_seq ?_
    refine c_cond (b := d1) rfl (fun hb1315 => ?_) (fun hb1315 => ?_)
    · replace h := cond_t hb1315 h
      refine c_seq ?_
      refine c_region ?_
      refine o1 rfl (o_p rfl ?_)
      refine o1 rfl (o_p rfl ?_)
      refine o_end ?_
      refine e_seq ?_
      refine c_ret ?_
      refine e_then_ret ?_
      refine e_ret ?_
      refine r_endt rfl rfl (kc rm0 (kd kr)) ?_
      have hr := Option.some.inj h
      subst hr
      exact hk
    · replace h := cond_f hb1315 h
      refine c_skip ?_
      refine e_seq ?_
      refine c_seq ?_
      refine c_region ?_
      refine o1 rfl (o_fa (fd := ⟨ "Display", 3, 2, false, "", "", 8⟩) rfl rfl rfl rfl rfl ?_)
      refine o1 rfl (o_ld (b := b1312) (off := 2) (v := (.int .i64 p0.Display)) rfl rm1 rfl rfl ?_)
      refine o1 rfl (o_p (v := (.int .i64 (w64 (4 * p0.Display)))) rfl ?_)
      refine o1 rfl (o_p rfl ?_)
      refine o_end ?_
      refine e_seq ?_
      refine c_seq ?_
      refine c_seq ?_
      refine c_region ?_
      refine o1 rfl (o_fa (fd := ⟨ "Protected", 4, 0, false, "", "", 0⟩) rfl rfl rfl rfl rfl ?_)
      refine o1 rfl (o_ld (b := b1312) (off := 0) (v := (.bool p0.Protected)) rfl rm1 rfl rfl ?_)
      refine o_end ?_
      refine e_seq ?_
      replace h := bsome h
      obtain ⟨d3, h, hk3⟩ := h
      refine cj (D := Unit) (ι := Unit) (fun _ i3 => True) (fun _ i3 => [(4, (.int .i64 d3)), (1, (.pointer (some ⟨b1312, 0, none⟩)))]) (fun _ i3 => X :: blk b1312 (.cells (List.toArray [(.bool p0.Protected), (.bool p0.Numeric), (.int .i64 p0.Display), (.bool p0.Modified)]) 43 (0, 0)) :: R) ?_ ?_
      · refine c_cond (b := p0.Protected) rfl (fun hb1316 => ?_) (fun hb1316 => ?_)
        · replace h := cond_t hb1316 h
          refine c_region ?_
          refine o1 rfl (o_p rfl ?_)
          refine o1 rfl (o_p (v := (.int .i64 (w64 ((w64 (4 * p0.Display)) + 32)))) rfl ?_)
          refine o1 rfl (o_p rfl ?_)
          refine o_end ?_
          have hd := Option.some.inj h
          subst hd
          exact ej () () trivial (sc rfl (sc rfl sn)) (kc rm0 (kc rm0 kr))
        · replace h := cond_f hb1316 h
          refine c_skip ?_
          have hd := Option.some.inj h
          subst hd
          exact ej () () trivial (sc rfl (sc rfl sn)) (kc rm0 (kc rm0 kr))
      · rintro _ i3 _
        replace h := hk3
        clear hk3
        refine e_seq ?_
        refine c_seq ?_
        refine c_seq ?_
        refine c_region ?_
        refine o1 rfl (o_fa (fd := ⟨ "Numeric", 4, 1, false, "", "", 1⟩) rfl rfl rfl rfl rfl ?_)
        refine o1 rfl (o_ld (b := b1312) (off := 1) (v := (.bool p0.Numeric)) rfl rm1 rfl rfl ?_)
        refine o_end ?_
        refine e_seq ?_
        replace h := bsome h
        obtain ⟨d4, h, hk4⟩ := h
        refine cj (D := Unit) (ι := Unit) (fun _ i4 => True) (fun _ i4 => [(4, (.int .i64 d4)), (1, (.pointer (some ⟨b1312, 0, none⟩)))]) (fun _ i4 => X :: blk b1312 (.cells (List.toArray [(.bool p0.Protected), (.bool p0.Numeric), (.int .i64 p0.Display), (.bool p0.Modified)]) 43 (0, 0)) :: R) ?_ ?_
        · refine c_cond (b := p0.Numeric) rfl (fun hb1317 => ?_) (fun hb1317 => ?_)
          · replace h := cond_t hb1317 h
            refine c_region ?_
            refine o1 rfl (o_p rfl ?_)
            refine o1 rfl (o_p (v := (.int .i64 (w64 (d3 + 16)))) rfl ?_)
            refine o1 rfl (o_p rfl ?_)
            refine o_end ?_
            have hd := Option.some.inj h
            subst hd
            exact ej () () trivial (sc rfl (sc rfl sn)) (kc rm0 (kc rm0 kr))
          · replace h := cond_f hb1317 h
            refine c_skip ?_
            have hd := Option.some.inj h
            subst hd
            exact ej () () trivial (sc rfl (sc rfl sn)) (kc rm0 (kc rm0 kr))
        · rintro _ i4 _
          replace h := hk4
          clear hk4
          refine e_seq ?_
          refine c_seq ?_
          refine c_seq ?_
          refine c_region ?_
          refine o1 rfl (o_fa (fd := ⟨ "Modified", 4, 3, false, "", "", 16⟩) rfl rfl rfl rfl rfl ?_)
          refine o1 rfl (o_ld (b := b1312) (off := 3) (v := (.bool p0.Modified)) rfl rm1 rfl rfl ?_)
          refine o_end ?_
          refine e_seq ?_
          replace h := bsome h
          obtain ⟨d5, h, hk5⟩ := h
          refine cj (D := Unit) (ι := Unit) (fun _ i5 => True) (fun _ i5 => [(4, (.int .i64 d5))]) (fun _ i5 => X :: R) ?_ ?_
          · refine c_cond (b := p0.Modified) rfl (fun hb1318 => ?_) (fun hb1318 => ?_)
            · replace h := cond_t hb1318 h
              refine c_region ?_
              refine o1 rfl (o_p rfl ?_)
              refine o1 rfl (o_p (v := (.int .i64 (w64 (d4 + 1)))) rfl ?_)
              refine o1 rfl (o_p rfl ?_)
              refine o_end ?_
              have hd := Option.some.inj h
              subst hd
              exact ej () () trivial (sc rfl sn) (kc rm0 (kd kr))
            · replace h := cond_f hb1318 h
              refine c_skip ?_
              have hd := Option.some.inj h
              subst hd
              exact ej () () trivial (sc rfl sn) (kc rm0 (kd kr))
          · rintro _ i5 _
            replace h := hk5
            clear hk5
            refine e_seq ?_
            refine c_seq ?_
            refine c_region ?_
            refine o1 rfl (o_p rfl ?_)
            refine o1 rfl (o_p (v := (.int .u8 (IntKind.wrap .u8 (d5)))) rfl ?_)
            refine o1 rfl (o_p rfl ?_)
            refine o1 rfl (o_p rfl ?_)
            refine o_end ?_
            refine e_seq ?_
            refine c_ret ?_
            refine e_ret ?_
            refine r_endt rfl rfl (kc rm0 kr) ?_
            have hr := Option.some.inj h
            subst hr
            exact hk

theorem c_vitrineref05_Six {g : Gw} (X : HP) (p0 : Int) (r : Int) (h : m_vitrineref05_Six p0 = some r) : Tri env g 133 (List.toArray [(.int .u8 p0)]) [X] (fun K R => K (.int .u8 r) (X :: R)) := by
  refine tri_of (fn := Try.f133) (N := 12) Try.func133 rfl rfl rfl ?_
  intro R K hk
  unfold m_vitrineref05_Six at h
  change GC _ none _ [] [(0, (.int .u8 p0))] (X :: R) g _ _
  refine c_seq ?_
  refine c_region ?_
  refine o1 rfl (o_p rfl ?_)
  refine o_end ?_
  refine e_seq ?_
  refine c_seq ?_
  refine c_region ?_
  refine o1 rfl (o_p rfl ?_)
  replace h := bsome h
  obtain ⟨d1, h1, h⟩ := h
  refine o1 rfl (o_call has53 rfl (c_vitrineref05_Of X p0 _ h1) (pc rm0 pn) ?_)
  replace h := bsome h
  obtain ⟨d2, h2, h⟩ := h
  refine o1 rfl (o_call has144 rfl (c_vitrineref05_Bits X d1 _ h2) (pc rm0 pn) ?_)
  refine o1 rfl (o_p rfl ?_)
  refine o1 rfl (o_p rfl ?_)
  refine o1 rfl (o_p rfl ?_)
  refine o1 rfl (o_p rfl ?_)
  refine o1 rfl (o_p rfl ?_)
  refine o_end ?_
  refine e_seq ?_
  refine c_seq ?_
  refine c_region ?_
  refine o1 rfl (o_p rfl ?_)
  refine o1 rfl (o_p rfl ?_)
  refine o_end ?_
  refine e_seq ?_
  refine c_ret ?_
  refine e_ret ?_
  refine r_endt rfl rfl (kc rm0 kr) ?_
  have hr := Option.some.inj h
  subst hr
  exact hk

theorem c_vitrineref12_Fit {g : Gw} (X : HP) (p0 : Vapi_Cell) (r : Vapi_Cell) (h : m_vitrineref12_Fit p0 = some r) : Tri env g 109 (List.toArray [(.agg (List.toArray [(.int .u8 p0.Char), (.bool p0.Attr), (.int .u8 p0.FA), (.int .u8 p0.High), (.int .u8 p0.Color), (.int .u8 p0.f_Set)]))]) [X] (fun K R => K (.agg (List.toArray [(.int .u8 r.Char), (.bool r.Attr), (.int .u8 r.FA), (.int .u8 r.High), (.int .u8 r.Color), (.int .u8 r.f_Set)])) (X :: R)) := by
  refine tri_of (fn := Try.f109) (N := 12) Try.func109 rfl rfl rfl ?_
  intro R K hk
  unfold m_vitrineref12_Fit at h
  change GC _ none _ [] [(0, (.agg (List.toArray [(.int .u8 p0.Char), (.bool p0.Attr), (.int .u8 p0.FA), (.int .u8 p0.High), (.int .u8 p0.Color), (.int .u8 p0.f_Set)])))] (X :: R) g _ _
  refine c_seq ?_
  refine c_region ?_
  refine o1 rfl (o_box (cs := [(.int .u8 p0.Char), (.bool p0.Attr), (.int .u8 p0.FA), (.int .u8 p0.High), (.int .u8 p0.Color), (.int .u8 p0.f_Set)]) rfl rfl (fun b1305 => ?_))
  refine o1 rfl (o_alloc (cs := [(.int .u8 0), (.bool false), (.int .u8 0), (.int .u8 0), (.int .u8 0), (.int .u8 0)]) rfl rfl (fun b1307 => ?_))
  refine o_end ?_
  refine e_seq ?_
  refine c_seq ?_
  refine c_seq ?_
  refine c_region ?_
  refine o1 rfl (o_fa (fd := ⟨ "Attr", 4, 1, false, "", "", 1⟩) rfl rfl rfl rfl rfl ?_)
  refine o1 rfl (o_ld (b := b1305) (off := 1) (v := (.bool p0.Attr)) rfl rm1 rfl rfl ?_)
  refine o_end ?_
  refine e_seq ?_
  replace h := bsome h
  obtain ⟨d1, h, hk1⟩ := h
  refine cj (D := Unit) (ι := Unit) (fun _ i1 => True) (fun _ i1 => [(2, (.pointer (some ⟨b1307, 0, none⟩))), (1, (.pointer (some ⟨b1305, 0, none⟩)))]) (fun _ i1 => X :: blk b1307 (.cells (List.toArray [(.int .u8 0), (.bool false), (.int .u8 0), (.int .u8 0), (.int .u8 0), (.int .u8 0)]) 48 (0, 0)) :: blk b1305 (.cells (List.toArray [(.int .u8 d1.1), (.bool p0.Attr), (.int .u8 d1.2), (.int .u8 p0.High), (.int .u8 p0.Color), (.int .u8 p0.f_Set)]) 48 (0, 0)) :: R) ?_ ?_
  · refine c_cond (b := p0.Attr) rfl (fun hb1309 => ?_) (fun hb1309 => ?_)
    · replace h := cond_t hb1309 h
      refine c_region ?_
      refine o1 rfl (o_fa (fd := ⟨ "FA", 5, 2, false, "", "", 2⟩) rfl rfl rfl rfl rfl ?_)
      refine o1 rfl (o_ld (b := b1305) (off := 2) (v := (.int .u8 p0.FA)) rfl rm1 rfl rfl ?_)
      replace h := bsome h
      obtain ⟨d2, h2, h⟩ := h
      refine o1 rfl (o_call has133 rfl (c_vitrineref05_Six X p0.FA _ h2) (pc rm2 pn) ?_)
      refine o1 rfl (o_fa (fd := ⟨ "Char", 5, 0, false, "", "", 0⟩) rfl rfl rfl rfl rfl ?_)
      refine o0 (o_st (b := b1305) (off := 0) (vs := [(.int .u8 0)]) (cs' := [(.int .u8 0), (.bool p0.Attr), (.int .u8 p0.FA), (.int .u8 p0.High), (.int .u8 p0.Color), (.int .u8 p0.f_Set)]) rfl rfl rp2 rfl rfl rfl rfl rfl rfl ?_)
      refine o1 rfl (o_fa (fd := ⟨ "FA", 5, 2, false, "", "", 2⟩) rfl rfl rfl rfl rfl ?_)
      refine o0 (o_st (b := b1305) (off := 2) (vs := [(.int .u8 d2)]) (cs' := [(.int .u8 0), (.bool p0.Attr), (.int .u8 d2), (.int .u8 p0.High), (.int .u8 p0.Color), (.int .u8 p0.f_Set)]) rfl rfl rp2 rfl rfl rfl rfl rfl rfl ?_)
      refine o_end ?_
      have hd := Option.some.inj h
      subst hd
      exact ej () () trivial (sc rfl (sc rfl sn)) (kc rm0 (kc rm0 (kc rm0 kr)))
    · replace h := cond_f hb1309 h
      refine c_region ?_
      refine o1 rfl (o_fa (fd := ⟨ "FA", 5, 2, false, "", "", 2⟩) rfl rfl rfl rfl rfl ?_)
      refine o0 (o_st (b := b1305) (off := 2) (vs := [(.int .u8 0)]) (cs' := [(.int .u8 p0.Char), (.bool p0.Attr), (.int .u8 0), (.int .u8 p0.High), (.int .u8 p0.Color), (.int .u8 p0.f_Set)]) rfl rfl rp1 rfl rfl rfl rfl rfl rfl ?_)
      refine o_end ?_
      have hd := Option.some.inj h
      subst hd
      exact ej () () trivial (sc rfl (sc rfl sn)) (kc rm2 (kc rm0 (kc rm0 kr)))
  · rintro _ i1 _
    replace h := hk1
    clear hk1
    refine e_seq ?_
    refine c_seq ?_
    refine c_region ?_
    refine o1 rfl (o_ld (b := b1305) (off := 0) (v := (.agg (List.toArray [(.int .u8 d1.1), (.bool p0.Attr), (.int .u8 d1.2), (.int .u8 p0.High), (.int .u8 p0.Color), (.int .u8 p0.f_Set)]))) rfl rm2 rfl rfl ?_)
    refine o0 (o_st (b := b1307) (off := 0) (vs := [(.int .u8 d1.1), (.bool p0.Attr), (.int .u8 d1.2), (.int .u8 p0.High), (.int .u8 p0.Color), (.int .u8 p0.f_Set)]) (cs' := [(.int .u8 d1.1), (.bool p0.Attr), (.int .u8 d1.2), (.int .u8 p0.High), (.int .u8 p0.Color), (.int .u8 p0.f_Set)]) rfl rfl rp1 rfl rfl rfl rfl rfl rfl ?_)
    refine o_end ?_
    refine e_seq ?_
    refine c_ret ?_
    refine e_ret ?_
    refine r_endc (B := [[(.int .u8 d1.1), (.bool p0.Attr), (.int .u8 d1.2), (.int .u8 p0.High), (.int .u8 p0.Color), (.int .u8 p0.f_Set)]]) rfl ⟨⟨_, _, _, _, rfl, rm1⟩, trivial⟩ rfl (kc rm0 (kd (kd kr))) ?_
    have hr := Option.some.inj h
    subst hr
    exact hk

theorem c_vitrineref12_Set {g : Gw} (X : HP) (p0 : Vvitrineref12_Space) (b0 : Nat) (s0 : SV) (p1 : Int) (p2 : Vapi_Cell) (r : Vvitrineref12_Space) (h : m_vitrineref12_Set p0 p1 p2 = some r) : Tri env g 82 (List.toArray [(.pointer (some ⟨b0, 0, none⟩)), (.int .i64 p1), (.agg (List.toArray [(.int .u8 p2.Char), (.bool p2.Attr), (.int .u8 p2.FA), (.int .u8 p2.High), (.int .u8 p2.Color), (.int .u8 p2.f_Set)]))]) [X, blk b0 (.cells (List.toArray [(.int .i64 p0.Model), (.bool p0.Alt), (.int .i64 p0.Size.Rows), (.int .i64 p0.Size.Cols), (SV.val s0), (.int .i64 p0.Cursor)]) 41 (0, 0)), slO s0 48 en_Vapi_Cell p0.L] (fun K R => K (.tuple (List.toArray [])) (X :: blk b0 (.cells (List.toArray [(.int .i64 r.Model), (.bool r.Alt), (.int .i64 r.Size.Rows), (.int .i64 r.Size.Cols), (SV.val s0), (.int .i64 r.Cursor)]) 41 (0, 0)) :: slO s0 48 en_Vapi_Cell r.L :: R)) := by
  refine tri_of (fn := Try.f82) (N := 16) Try.func82 rfl rfl rfl ?_
  intro R K hk
  unfold m_vitrineref12_Set at h
  change GC _ none _ [] [(0, (.pointer (some ⟨b0, 0, none⟩))), (1, (.int .i64 p1)), (2, (.agg (List.toArray [(.int .u8 p2.Char), (.bool p2.Attr), (.int .u8 p2.FA), (.int .u8 p2.High), (.int .u8 p2.Color), (.int .u8 p2.f_Set)])))] (X :: blk b0 (.cells (List.toArray [(.int .i64 p0.Model), (.bool p0.Alt), (.int .i64 p0.Size.Rows), (.int .i64 p0.Size.Cols), (SV.val s0), (.int .i64 p0.Cursor)]) 41 (0, 0)) :: slO s0 48 en_Vapi_Cell p0.L :: R) g _ _
  refine c_seq ?_
  refine c_region ?_
  refine o1 rfl (o_box (cs := [(.int .u8 p2.Char), (.bool p2.Attr), (.int .u8 p2.FA), (.int .u8 p2.High), (.int .u8 p2.Color), (.int .u8 p2.f_Set)]) rfl rfl (fun b1303 => ?_))
  refine o_end ?_
  refine e_seq ?_
  refine c_draw (n := 3) (q := [(0, 6, (.pointer (some ⟨b0, 0, none⟩))), (1, 7, (.pointer (some ⟨b0, 0, none⟩))), (2, 8, (.pointer (some ⟨b0, 4, none⟩))), (3, 9, (SV.val s0)), (4, 10, (.pointer (some ⟨b0, 0, none⟩))), (5, 11, (.int .i64 p1)), (7, 13, (.agg (List.toArray [(.int .u8 p2.Char), (.bool p2.Attr), (.int .u8 p2.FA), (.int .u8 p2.High), (.int .u8 p2.Color), (.int .u8 p2.f_Set)])))]) (pend := [0, 1, 2, 3, 4, 5, 7]) rfl rfl rfl ?_
  replace h := bsome h
  obtain ⟨d1, h1, h⟩ := h
  refine ⟨⟨fun _ => ⟨rfl, rfl, rfl, .inl ⟨rfl, (o_p rfl ⟨rfl, rfl⟩)⟩⟩, fun _ => ⟨rfl, rfl, rfl, .inl ⟨rfl, (o_p rfl ⟨rfl, rfl⟩)⟩⟩, fun _ => ⟨rfl, rfl, rfl, .inl ⟨rfl, (o_fa (fd := ⟨ "L", 39, 4, false, "", "", 32⟩) rfl rfl rfl rfl rfl ⟨rfl, rfl⟩)⟩⟩, fun _ => ⟨rfl, rfl, rfl, .inl ⟨rfl, (o_ld (b := b0) (off := 4) (v := (SV.val s0)) rfl rm2 rfl rfl ⟨rfl, rfl⟩)⟩⟩, fun _ => ⟨rfl, rfl, rfl, .inl ⟨rfl, (o_p rfl ⟨rfl, rfl⟩)⟩⟩, fun _ => ⟨rfl, rfl, rfl, .inl ⟨rfl, (o_p rfl ⟨rfl, rfl⟩)⟩⟩, fun _ => ⟨rfl, rfl, rfl, .inl ⟨rfl, (o_ld (b := b1303) (off := 0) (v := (.agg (List.toArray [(.int .u8 p2.Char), (.bool p2.Attr), (.int .u8 p2.FA), (.int .u8 p2.High), (.int .u8 p2.Color), (.int .u8 p2.f_Set)]))) rfl rm0 rfl rfl ⟨rfl, rfl⟩)⟩⟩, trivial⟩, rfl, .inr ⟨[6], rfl, rfl, ⟨rfl, .inl rfl, ?_⟩, trivial⟩⟩
  refine (o_call has17 rfl (c_vitrineref12_Wrap X p0 b0 s0 p1 _ h1) (pc rm1 (pc rm1 (pc rm1 pn))) ?_)
  refine ⟨[], [0, 1, 2, 3, 7], rfl, rfl, rfl, rfl, ?_⟩
  replace h := bsome h
  obtain ⟨d2, h2, h⟩ := h
  refine ⟨⟨fun _ => ⟨rfl, rfl, rfl, .inl ⟨rfl, (o_p rfl ⟨rfl, rfl⟩)⟩⟩, fun _ => ⟨rfl, rfl, rfl, .inl ⟨rfl, (o_p rfl ⟨rfl, rfl⟩)⟩⟩, fun _ => ⟨rfl, rfl, rfl, .inl ⟨rfl, (o_fa (fd := ⟨ "L", 39, 4, false, "", "", 32⟩) rfl rfl rfl rfl rfl ⟨rfl, rfl⟩)⟩⟩, fun _ => ⟨rfl, rfl, rfl, .inl ⟨rfl, (o_ld (b := b0) (off := 4) (v := (SV.val s0)) rfl rm1 rfl rfl ⟨rfl, rfl⟩)⟩⟩, (fun h => nomatch h), (fun h => nomatch h), fun _ => ⟨rfl, rfl, rfl, .inl ⟨rfl, (o_ld (b := b1303) (off := 0) (v := (.agg (List.toArray [(.int .u8 p2.Char), (.bool p2.Attr), (.int .u8 p2.FA), (.int .u8 p2.High), (.int .u8 p2.Color), (.int .u8 p2.f_Set)]))) rfl rm3 rfl rfl ⟨rfl, rfl⟩)⟩⟩, trivial⟩, rfl, .inr ⟨[8], rfl, rfl, ⟨rfl, .inl rfl, ?_⟩, trivial⟩⟩
  refine (o_call has109 rfl (c_vitrineref12_Fit X p2 _ h2) (pc rm0 pn) ?_)
  replace h := gsome h
  obtain ⟨hg1319, h⟩ := h
  refine ⟨[(9, 15, (.pointer (some ⟨SV.blk s0, SV.off s0 + Int.toNat d1 * 6, none⟩)))], [0, 1, 2, 3, 9], rfl, rfl, rfl, rfl, ?_⟩
  refine ⟨⟨fun _ => ⟨rfl, rfl, rfl, .inl ⟨rfl, (o_ix (s := s0) (n := d1) (e := en_Vapi_Cell) rfl rfl rfl rfl rfl rfl rm2 (rd_own _ _ _ _) hg1319 ⟨rfl, rfl⟩)⟩⟩, fun _ => ⟨rfl, rfl, rfl, .inl ⟨rfl, (o_p rfl ⟨rfl, rfl⟩)⟩⟩, fun _ => ⟨rfl, rfl, rfl, .inl ⟨rfl, (o_p rfl ⟨rfl, rfl⟩)⟩⟩, fun _ => ⟨rfl, rfl, rfl, .inl ⟨rfl, (o_fa (fd := ⟨ "L", 39, 4, false, "", "", 32⟩) rfl rfl rfl rfl rfl ⟨rfl, rfl⟩)⟩⟩, fun _ => ⟨rfl, rfl, rfl, .inl ⟨rfl, (o_ld (b := b0) (off := 4) (v := (SV.val s0)) rfl rm1 rfl rfl ⟨rfl, rfl⟩)⟩⟩, (fun h => nomatch h), (fun h => nomatch h), (fun h => nomatch h), trivial⟩, rfl, .inr ⟨[10], rfl, rfl, ⟨rfl, .inl rfl, ?_⟩, trivial⟩⟩
  refine (o_stE (s := s0) (e := en_Vapi_Cell) (n := d1) (f := 0) (vs := [(.int .u8 d2.Char), (.bool d2.Attr), (.int .u8 d2.FA), (.int .u8 d2.High), (.int .u8 d2.Color), (.int .u8 d2.f_Set)]) (u := d2) rfl rfl rp2 hg1319 rfl rfl rfl rfl rfl rfl ?_)
  refine ⟨[], [], rfl, rfl, ?_⟩
  refine ⟨⟨(fun h => nomatch h), (fun h => nomatch h), (fun h => nomatch h), (fun h => nomatch h), (fun h => nomatch h), (fun h => nomatch h), (fun h => nomatch h), (fun h => nomatch h), trivial⟩, rfl, rfl, rfl, ?_⟩
  refine e_fall ?_
  refine r_endt rfl rfl (kc rm0 (kc rm0 (kc rm0 (kd kr)))) ?_
  have hr := Option.some.inj h
  subst hr
  exact hk

theorem c_vitrineref12_Put {g : Gw} (X : HP) (p0 : Vvitrineref12_Space) (b0 : Nat) (s0 : SV) (p1 : Int) (p2 : Int) (r : Vvitrineref12_Space) (h : m_vitrineref12_Put p0 p1 p2 = some r) : Tri env g 81 (List.toArray [(.pointer (some ⟨b0, 0, none⟩)), (.int .i64 p1), (.int .u8 p2)]) [X, blk b0 (.cells (List.toArray [(.int .i64 p0.Model), (.bool p0.Alt), (.int .i64 p0.Size.Rows), (.int .i64 p0.Size.Cols), (SV.val s0), (.int .i64 p0.Cursor)]) 41 (0, 0)), slO s0 48 en_Vapi_Cell p0.L] (fun K R => K (.tuple (List.toArray [])) (X :: blk b0 (.cells (List.toArray [(.int .i64 r.Model), (.bool r.Alt), (.int .i64 r.Size.Rows), (.int .i64 r.Size.Cols), (SV.val s0), (.int .i64 r.Cursor)]) 41 (0, 0)) :: slO s0 48 en_Vapi_Cell r.L :: R)) := by
  refine tri_of (fn := Try.f81) (N := 19) Try.func81 rfl rfl rfl ?_
  intro R K hk
  unfold m_vitrineref12_Put at h
  change GC _ none _ [] [(0, (.pointer (some ⟨b0, 0, none⟩))), (1, (.int .i64 p1)), (2, (.int .u8 p2))] (X :: blk b0 (.cells (List.toArray [(.int .i64 p0.Model), (.bool p0.Alt), (.int .i64 p0.Size.Rows), (.int .i64 p0.Size.Cols), (SV.val s0), (.int .i64 p0.Cursor)]) 41 (0, 0)) :: slO s0 48 en_Vapi_Cell p0.L :: R) g _ _
  refine c_seq ?_
  refine c_region ?_
  refine o1 rfl (o_p rfl ?_)
  refine o1 rfl (o_p rfl ?_)
  replace h := bsome h
  obtain ⟨d1, h1, h⟩ := h
  refine o1 rfl (o_call has42 rfl (c_vitrineref12_At X p0 b0 s0 p1 _ h1) (pc rm0 (pc rm0 (pc rm0 pn))) ?_)
  refine o1 rfl (o_alloc (cs := [(.int .u8 0), (.bool false), (.int .u8 0), (.int .u8 0), (.int .u8 0), (.int .u8 0)]) rfl rfl (fun b1300 => ?_))
  refine o0 (o_st (b := b1300) (off := 0) (vs := [(.int .u8 d1.Char), (.bool d1.Attr), (.int .u8 d1.FA), (.int .u8 d1.High), (.int .u8 d1.Color), (.int .u8 d1.f_Set)]) (cs' := [(.int .u8 d1.Char), (.bool d1.Attr), (.int .u8 d1.FA), (.int .u8 d1.High), (.int .u8 d1.Color), (.int .u8 d1.f_Set)]) rfl rfl rp0 rfl rfl rfl rfl rfl rfl ?_)
  refine o_end ?_
  refine e_seq ?_
  refine c_seq ?_
  refine c_region ?_
  refine o1 rfl (o_fa (fd := ⟨ "Attr", 4, 1, false, "", "", 1⟩) rfl rfl rfl rfl rfl ?_)
  refine o1 rfl (o_ld (b := b1300) (off := 1) (v := (.bool d1.Attr)) rfl rm0 rfl rfl ?_)
  refine o1 rfl (o_p (v := (.bool (!d1.Attr))) rfl ?_)
  refine o_end ?_
  refine e_seq ?_
  refine c_cond (b := (!d1.Attr)) rfl (fun hb1302 => ?_) (fun hb1302 => ?_)
  · replace h := cond_t hb1302 h
    refine c_seq ?_
    refine c_region ?_
    refine o1 rfl (o_p rfl ?_)
    refine o1 rfl (o_fa (fd := ⟨ "Char", 5, 0, false, "", "", 0⟩) rfl rfl rfl rfl rfl ?_)
    refine o0 (o_st (b := b1300) (off := 0) (vs := [(.int .u8 p2)]) (cs' := [(.int .u8 p2), (.bool d1.Attr), (.int .u8 d1.FA), (.int .u8 d1.High), (.int .u8 d1.Color), (.int .u8 d1.f_Set)]) rfl rfl rp0 rfl rfl rfl rfl rfl rfl ?_)
    refine o_end ?_
    refine e_seq ?_
    refine c_region ?_
    refine o1 rfl (o_p rfl ?_)
    refine o1 rfl (o_p rfl ?_)
    refine o1 rfl (o_ld (b := b1300) (off := 0) (v := (.agg (List.toArray [(.int .u8 p2), (.bool d1.Attr), (.int .u8 d1.FA), (.int .u8 d1.High), (.int .u8 d1.Color), (.int .u8 d1.f_Set)]))) rfl rm0 rfl rfl ?_)
    replace h := bsome h
    obtain ⟨d2, h2, h⟩ := h
    refine o1 rfl (o_call has82 rfl (c_vitrineref12_Set X (⟨p0.Model, p0.Alt, p0.Size, p0.L, p0.Cursor⟩ : Vvitrineref12_Space) b0 s0 p1 (⟨p2, d1.Attr, d1.FA, d1.High, d1.Color, d1.f_Set⟩ : Vapi_Cell) _ h2) (pc rm1 (pc rm1 (pc rm1 pn))) ?_)
    refine o_end ?_
    refine e_fall ?_
    refine r_endt rfl rfl (kc rm0 (kc rm0 (kc rm0 (kd kr)))) ?_
    have hr := Option.some.inj h
    subst hr
    exact hk
  · replace h := cond_f hb1302 h
    refine c_skip ?_
    refine e_fall ?_
    refine r_endt rfl rfl (kc rm1 (kc rm1 (kc rm1 (kd kr)))) ?_
    have hr := Option.some.inj h
    subst hr
    exact hk

theorem c_vitrineref12_Do {g : Gw} (X : HP) (p0 : Vvitrineref12_Space) (b0 : Nat) (s0 : SV) (p1 : Vvitrineref12_Act) (s1 : SV) (q0 : Rd X s1 5 (enI .u8) p1.Text) (r : Vvitrineref12_Space) (h : m_vitrineref12_Do p0 p1 = some r) : Tri env g 46 (List.toArray [(.pointer (some ⟨b0, 0, none⟩)), (.agg (List.toArray [(.int .u8 p1.Do), (.int .i64 p1.N), (.bool p1.On), (.int .u8 p1.Code), (.int .u8 p1.C.Char), (.bool p1.C.Attr), (.int .u8 p1.C.FA), (.int .u8 p1.C.High), (.int .u8 p1.C.Color), (.int .u8 p1.C.f_Set), (SV.val s1)]))]) [X, blk b0 (.cells (List.toArray [(.int .i64 p0.Model), (.bool p0.Alt), (.int .i64 p0.Size.Rows), (.int .i64 p0.Size.Cols), (SV.val s0), (.int .i64 p0.Cursor)]) 41 (0, 0)), slO s0 48 en_Vapi_Cell p0.L] (fun K R => ∀ (i0 : SV), K (.tuple (List.toArray [])) (X :: blk b0 (.cells (List.toArray [(.int .i64 r.Model), (.bool r.Alt), (.int .i64 r.Size.Rows), (.int .i64 r.Size.Cols), (SV.val i0), (.int .i64 r.Cursor)]) 41 (0, 0)) :: slO i0 48 en_Vapi_Cell r.L :: R)) := by
  refine tri_of (fn := Try.f46) (N := 69) Try.func46 rfl rfl rfl ?_
  intro R K hk
  unfold m_vitrineref12_Do at h
  change GC _ none _ [] [(0, (.pointer (some ⟨b0, 0, none⟩))), (1, (.agg (List.toArray [(.int .u8 p1.Do), (.int .i64 p1.N), (.bool p1.On), (.int .u8 p1.Code), (.int .u8 p1.C.Char), (.bool p1.C.Attr), (.int .u8 p1.C.FA), (.int .u8 p1.C.High), (.int .u8 p1.C.Color), (.int .u8 p1.C.f_Set), (SV.val s1)])))] (X :: blk b0 (.cells (List.toArray [(.int .i64 p0.Model), (.bool p0.Alt), (.int .i64 p0.Size.Rows), (.int .i64 p0.Size.Cols), (SV.val s0), (.int .i64 p0.Cursor)]) 41 (0, 0)) :: slO s0 48 en_Vapi_Cell p0.L :: R) g _ _
  refine c_seq ?_
  refine c_region ?_
  refine o1 rfl (o_box (cs := [(.int .u8 p1.Do), (.int .i64 p1.N), (.bool p1.On), (.int .u8 p1.Code), (.int .u8 p1.C.Char), (.bool p1.C.Attr), (.int .u8 p1.C.FA), (.int .u8 p1.C.High), (.int .u8 p1.C.Color), (.int .u8 p1.C.f_Set), (SV.val s1)]) rfl rfl (fun b1284 => ?_))
  refine o_end ?_
  refine e_seq ?_
  refine c_seq ?_
  refine c_region ?_
  refine o1 rfl (o_fa (fd := ⟨ "Do", 5, 0, false, "", "", 0⟩) rfl rfl rfl rfl rfl ?_)
  refine o1 rfl (o_ld (b := b1284) (off := 0) (v := (.int .u8 p1.Do)) rfl rm0 rfl rfl ?_)
  refine o1 rfl (o_rem (m := p1.Do) (n := 6) rfl rfl (by decide) ?_)
  refine o_end ?_
  refine e_seq ?_
  replace h := bsome h
  obtain ⟨d1, h, hk1⟩ := h
  refine cj (D := Unit) (ι := SV) (fun _ i1 => True) (fun _ i1 => []) (fun _ i1 => X :: blk b0 (.cells (List.toArray [(.int .i64 d1.1), (.bool d1.2.1), (.int .i64 d1.2.2.1), (.int .i64 d1.2.2.2.1), (SV.val i1), (.int .i64 d1.2.2.2.2.2)]) 41 (0, 0)) :: slO i1 48 en_Vapi_Cell d1.2.2.2.2.1 :: R) ?_ ?_
  · refine c_block ?_
    refine c_seq ?_
    refine c_region ?_
    refine o1 rfl (o_p (v := (.bool ((Int.tmod p1.Do 6) == 0))) rfl ?_)
    refine o1 rfl (o_p rfl ?_)
    refine o_end ?_
    refine e_seq ?_
    replace h := bsome h
    obtain ⟨d2, h, hk2⟩ := h
    refine cj (D := Unit) (ι := SV) (fun _ i2 => True) (fun _ i2 => []) (fun _ i2 => X :: blk b0 (.cells (List.toArray [(.int .i64 d2.1), (.bool d2.2.1), (.int .i64 d2.2.2.1), (.int .i64 d2.2.2.2.1), (SV.val i2), (.int .i64 d2.2.2.2.2.2)]) 41 (0, 0)) :: slO i2 48 en_Vapi_Cell d2.2.2.2.2.1 :: R) ?_ ?_
    · refine c_cond (b := ((Int.tmod p1.Do 6) == 0)) rfl (fun hb1286 => ?_) (fun hb1286 => ?_)
      · replace h := cond_t hb1286 h
        refine c_region ?_
        refine o1 rfl (o_p rfl ?_)
        refine o1 rfl (o_fa (fd := ⟨ "On", 4, 2, false, "", "", 16⟩) rfl rfl rfl rfl rfl ?_)
        refine o1 rfl (o_ld (b := b1284) (off := 2) (v := (.bool p1.On)) rfl rm0 rfl rfl ?_)
        replace h := bsome h
        obtain ⟨d3, h3, h⟩ := h
        refine o1 rfl (o_call has80 rfl (c_vitrineref12_Clear_2 X p0 b0 s0 p1.On _ h3) (pc rm1 (pc rm1 (pc rm1 pn))) (fun i3 => ?_))
        refine o_end ?_
        have hd := Option.some.inj h
        subst hd
        exact ej () i3 trivial sn (kc rm0 (kc rm0 (kc rm0 (kd (kd kr)))))
      · replace h := cond_f hb1286 h
        refine c_seq ?_
        refine c_region ?_
        refine o1 rfl (o_p (v := (.bool ((Int.tmod p1.Do 6) == 1))) rfl ?_)
        refine o1 rfl (o_p rfl ?_)
        refine o_end ?_
        refine e_seq ?_
        refine c_cond (b := ((Int.tmod p1.Do 6) == 1)) rfl (fun hb1293 => ?_) (fun hb1293 => ?_)
        · replace h := cond_t hb1293 h
          refine c_region ?_
          refine o1 rfl (o_p rfl ?_)
          refine o1 rfl (o_p rfl ?_)
          refine o1 rfl (o_fa (fd := ⟨ "N", 3, 1, false, "", "", 8⟩) rfl rfl rfl rfl rfl ?_)
          refine o1 rfl (o_ld (b := b1284) (off := 1) (v := (.int .i64 p1.N)) rfl rm0 rfl rfl ?_)
          replace h := bsome h
          obtain ⟨d4, h4, h⟩ := h
          refine o1 rfl (o_call has17 rfl (c_vitrineref12_Wrap X (⟨p0.Model, p0.Alt, p0.Size, p0.L, p0.Cursor⟩ : Vvitrineref12_Space) b0 s0 p1.N _ h4) (pc rm1 (pc rm1 (pc rm1 pn))) ?_)
          refine o1 rfl (o_p rfl ?_)
          refine o1 rfl (o_fa (fd := ⟨ "Cursor", 3, 5, false, "", "", 56⟩) rfl rfl rfl rfl rfl ?_)
          refine o0 (o_st (b := b0) (off := 5) (vs := [(.int .i64 d4)]) (cs' := [(.int .i64 p0.Model), (.bool p0.Alt), (.int .i64 p0.Size.Rows), (.int .i64 p0.Size.Cols), (SV.val s0), (.int .i64 d4)]) rfl rfl rp1 rfl rfl rfl rfl rfl rfl ?_)
          refine o_end ?_
          have hd := Option.some.inj h
          subst hd
          exact ej () s0 trivial sn (kc rm0 (kc rm0 (kc rm0 (kd kr))))
        · replace h := cond_f hb1293 h
          refine c_seq ?_
          refine c_region ?_
          refine o1 rfl (o_p (v := (.bool ((Int.tmod p1.Do 6) == 2))) rfl ?_)
          refine o1 rfl (o_p rfl ?_)
          refine o_end ?_
          refine e_seq ?_
          refine c_cond (b := ((Int.tmod p1.Do 6) == 2)) rfl (fun hb1296 => ?_) (fun hb1296 => ?_)
          · replace h := cond_t hb1296 h
            refine c_region ?_
            refine o1 rfl (o_p rfl ?_)
            refine o1 rfl (o_fa (fd := ⟨ "N", 3, 1, false, "", "", 8⟩) rfl rfl rfl rfl rfl ?_)
            refine o1 rfl (o_ld (b := b1284) (off := 1) (v := (.int .i64 p1.N)) rfl rm0 rfl rfl ?_)
            refine o1 rfl (o_fa (fd := ⟨ "Code", 5, 3, false, "", "", 17⟩) rfl rfl rfl rfl rfl ?_)
            refine o1 rfl (o_ld (b := b1284) (off := 3) (v := (.int .u8 p1.Code)) rfl rm0 rfl rfl ?_)
            replace h := bsome h
            obtain ⟨d5, h5, h⟩ := h
            refine o1 rfl (o_call has81 rfl (c_vitrineref12_Put X (⟨p0.Model, p0.Alt, p0.Size, p0.L, p0.Cursor⟩ : Vvitrineref12_Space) b0 s0 p1.N p1.Code _ h5) (pc rm1 (pc rm1 (pc rm1 pn))) ?_)
            refine o_end ?_
            have hd := Option.some.inj h
            subst hd
            exact ej () s0 trivial sn (kc rm0 (kc rm0 (kc rm0 (kd kr))))
          · replace h := cond_f hb1296 h
            refine c_seq ?_
            refine c_region ?_
            refine o1 rfl (o_p (v := (.bool ((Int.tmod p1.Do 6) == 3))) rfl ?_)
            refine o1 rfl (o_p rfl ?_)
            refine o_end ?_
            refine e_seq ?_
            refine c_cond (b := ((Int.tmod p1.Do 6) == 3)) rfl (fun hb1324 => ?_) (fun hb1324 => ?_)
            · replace h := cond_t hb1324 h
              refine c_region ?_
              refine o1 rfl (o_p rfl ?_)
              refine o1 rfl (o_fa (fd := ⟨ "N", 3, 1, false, "", "", 8⟩) rfl rfl rfl rfl rfl ?_)
              refine o1 rfl (o_ld (b := b1284) (off := 1) (v := (.int .i64 p1.N)) rfl rm0 rfl rfl ?_)
              refine o1 rfl (o_fa (fd := ⟨ "Code", 5, 3, false, "", "", 17⟩) rfl rfl rfl rfl rfl ?_)
              refine o1 rfl (o_ld (b := b1284) (off := 3) (v := (.int .u8 p1.Code)) rfl rm0 rfl rfl ?_)
              refine o1 rfl (o_build (fs := [⟨ "Char", 5, 0, false, "", "", 0⟩, ⟨ "Attr", 4, 1, false, "", "", 1⟩, ⟨ "FA", 5, 2, false, "", "", 2⟩, ⟨ "High", 5, 3, false, "", "", 3⟩, ⟨ "Color", 5, 4, false, "", "", 4⟩, ⟨ "Set", 5, 5, false, "", "", 5⟩]) (ps := [(0, 1), (1, 1), (2, 1), (3, 1), (4, 1), (5, 1)]) (cs := [(.int .u8 0), (.bool true), (.int .u8 p1.Code), (.int .u8 0), (.int .u8 0), (.int .u8 0)]) rfl rfl rfl rfl rfl ?_)
              replace h := bsome h
              obtain ⟨d6, h6, h⟩ := h
              refine o1 rfl (o_call has82 rfl (c_vitrineref12_Set X (⟨p0.Model, p0.Alt, p0.Size, p0.L, p0.Cursor⟩ : Vvitrineref12_Space) b0 s0 p1.N (⟨0, true, p1.Code, 0, 0, 0⟩ : Vapi_Cell) _ h6) (pc rm1 (pc rm1 (pc rm1 pn))) ?_)
              refine o_end ?_
              have hd := Option.some.inj h
              subst hd
              exact ej () s0 trivial sn (kc rm0 (kc rm0 (kc rm0 (kd kr))))
            · replace h := cond_f hb1324 h
              refine c_seq ?_
              refine c_region ?_
              refine o1 rfl (o_p (v := (.bool ((Int.tmod p1.Do 6) == 4))) rfl ?_)
              refine o1 rfl (o_p rfl ?_)
              refine o_end ?_
              refine e_seq ?_
              refine c_cond (b := ((Int.tmod p1.Do 6) == 4)) rfl (fun hb1326 => ?_) (fun hb1326 => ?_)
              · replace h := cond_t hb1326 h
                refine c_region ?_
                refine o1 rfl (o_p rfl ?_)
                refine o1 rfl (o_fa (fd := ⟨ "N", 3, 1, false, "", "", 8⟩) rfl rfl rfl rfl rfl ?_)
                refine o1 rfl (o_ld (b := b1284) (off := 1) (v := (.int .i64 p1.N)) rfl rm0 rfl rfl ?_)
                refine o1 rfl (o_fa (fd := ⟨ "C", 48, 4, false, "", "", 18⟩) rfl rfl rfl rfl rfl ?_)
                refine o1 rfl (o_ld (b := b1284) (off := 4) (v := (.agg (List.toArray [(.int .u8 p1.C.Char), (.bool p1.C.Attr), (.int .u8 p1.C.FA), (.int .u8 p1.C.High), (.int .u8 p1.C.Color), (.int .u8 p1.C.f_Set)]))) rfl rm0 rfl rfl ?_)
                replace h := bsome h
                obtain ⟨d7, h7, h⟩ := h
                refine o1 rfl (o_call has82 rfl (c_vitrineref12_Set X (⟨p0.Model, p0.Alt, p0.Size, p0.L, p0.Cursor⟩ : Vvitrineref12_Space) b0 s0 p1.N p1.C _ h7) (pc rm1 (pc rm1 (pc rm1 pn))) ?_)
                refine o_end ?_
                have hd := Option.some.inj h
                subst hd
                exact ej () s0 trivial sn (kc rm0 (kc rm0 (kc rm0 (kd kr))))
              · replace h := cond_f hb1326 h
                refine c_seq ?_
                refine c_region ?_
                refine o1 rfl (o_fa (fd := ⟨ "Text", 31, 10, false, "", "", 24⟩) rfl rfl rfl rfl rfl ?_)
                refine o1 rfl (o_ld (b := b1284) (off := 10) (v := (SV.val s1)) rfl rm0 rfl rfl ?_)
                refine o1 rfl (o_len (s := s1) rfl rfl rfl rm1 q0 ?_)
                refine o1 rfl (o_p rfl ?_)
                refine o_end ?_
                refine e_seq ?_
                replace h := bsome h
                obtain ⟨d8, h, hk8⟩ := h
                refine cj (D := Unit) (ι := Unit) (fun _ i8 => True) (fun _ i8 => []) (fun _ i8 => X :: blk b0 (.cells (List.toArray [(.int .i64 d8.1), (.bool d8.2.1), (.int .i64 d8.2.2.1), (.int .i64 d8.2.2.2.1), (SV.val s0), (.int .i64 d8.2.2.2.2.2)]) 41 (0, 0)) :: slO s0 48 en_Vapi_Cell d8.2.2.2.2.1 :: R) ?_ ?_
                · refine c_block ?_
                  refine c_loop (l_sub (sc rfl (sc rfl (sc rfl (sc rfl (sc rfl sn))))) (l_keep (kc rm1 (kc rm0 (kc rm0 (kc rm0 kr)))) (lf (X := Int × Int × Bool × Int × Int × (List Vapi_Cell) × Int) (ι := Unit) (fun k x => vitrineref12_Do_l9 p1 k x) _ (fun x9 i9 => True) (fun x9 i9 => [(12, (.int .i64 x9.1)), (11, (.int .i64 (p1.Text.length : Int))), (10, (SV.val s1)), (3, (.pointer (some ⟨b1284, 0, none⟩))), (0, (.pointer (some ⟨b0, 0, none⟩)))]) (fun x9 i9 => X :: blk b1284 (.cells (List.toArray [(.int .u8 p1.Do), (.int .i64 p1.N), (.bool p1.On), (.int .u8 p1.Code), (.int .u8 p1.C.Char), (.bool p1.C.Attr), (.int .u8 p1.C.FA), (.int .u8 p1.C.High), (.int .u8 p1.C.Color), (.int .u8 p1.C.f_Set), (SV.val s1)]) 94 (0, 0)) :: blk b0 (.cells (List.toArray [(.int .i64 x9.2.1), (.bool x9.2.2.1), (.int .i64 x9.2.2.2.1), (.int .i64 x9.2.2.2.2.1), (SV.val s0), (.int .i64 x9.2.2.2.2.2.2)]) 41 (0, 0)) :: slO s0 48 en_Vapi_Cell x9.2.2.2.2.2.1 :: R) (fun _ => rfl) ?_ fuel (0, p0.Model, p0.Alt, p0.Size.Rows, p0.Size.Cols, p0.L, p0.Cursor) () trivial h)))
                  clear h
                  rintro k9 ih9 x9 i9 _ h
                  rw [vitrineref12_Do_l9.eq_2] at h
                  refine l_round ?_
                  refine c_seq ?_
                  refine c_region ?_
                  refine o1 rfl (o_p (v := (.bool (decide (x9.1 < (p1.Text.length : Int))))) rfl ?_)
                  refine o_end ?_
                  refine e_seq ?_
                  refine c_seq ?_
                  refine c_cond (b := (decide (x9.1 < (p1.Text.length : Int)))) rfl (fun hb1338 => ?_) (fun hb1338 => ?_)
                  · replace h := cond_t hb1338 h
                    refine c_skip ?_
                    refine e_seq ?_
                    refine c_seq ?_
                    refine c_block ?_
                    refine c_seq ?_
                    refine c_region ?_
                    refine o1 rfl (o_p rfl ?_)
                    replace h := gsome h
                    obtain ⟨hg1339, h⟩ := h
                    refine o1 rfl (o_ix (s := s1) (n := x9.1) (e := (enI .u8)) rfl rfl rfl rfl rfl rfl rm0 q0 hg1339 ?_)
                    refine o1 rfl (o_ldE (s := s1) (e := (enI .u8)) (n := x9.1) (f := 0) (v := (.int .u8 (rd p1.Text x9.1))) rfl rm0 q0 hg1339 rfl rfl ?_)
                    refine o1 rfl (o_p rfl ?_)
                    refine o1 rfl (o_p rfl ?_)
                    refine o_end ?_
                    refine e_seq ?_
                    refine c_seq ?_
                    refine c_region ?_
                    refine o1 rfl (o_p rfl ?_)
                    refine o1 rfl (o_p (v := (.bool (decide (x9.1 < 200)))) rfl ?_)
                    refine o_end ?_
                    refine e_seq ?_
                    replace h := bsome h
                    obtain ⟨d12, h, hk12⟩ := h
                    refine cj (D := Unit) (ι := Unit) (fun _ i12 => True) (fun _ i12 => [(12, (.int .i64 x9.1)), (11, (.int .i64 (p1.Text.length : Int))), (10, (SV.val s1)), (3, (.pointer (some ⟨b1284, 0, none⟩))), (0, (.pointer (some ⟨b0, 0, none⟩)))]) (fun _ i12 => X :: blk b1284 (.cells (List.toArray [(.int .u8 p1.Do), (.int .i64 p1.N), (.bool p1.On), (.int .u8 p1.Code), (.int .u8 p1.C.Char), (.bool p1.C.Attr), (.int .u8 p1.C.FA), (.int .u8 p1.C.High), (.int .u8 p1.C.Color), (.int .u8 p1.C.f_Set), (SV.val s1)]) 94 (0, 0)) :: blk b0 (.cells (List.toArray [(.int .i64 d12.1), (.bool d12.2.1), (.int .i64 d12.2.2.1), (.int .i64 d12.2.2.2.1), (SV.val s0), (.int .i64 d12.2.2.2.2.2)]) 41 (0, 0)) :: slO s0 48 en_Vapi_Cell d12.2.2.2.2.1 :: R) ?_ ?_
                    · refine c_cond (b := (decide (x9.1 < 200))) rfl (fun hb1340 => ?_) (fun hb1340 => ?_)
                      · replace h := cond_t hb1340 h
                        refine c_region ?_
                        refine o1 rfl (o_p rfl ?_)
                        refine o1 rfl (o_p rfl ?_)
                        refine o1 rfl (o_fa (fd := ⟨ "N", 3, 1, false, "", "", 8⟩) rfl rfl rfl rfl rfl ?_)
                        refine o1 rfl (o_ld (b := b1284) (off := 1) (v := (.int .i64 p1.N)) rfl rm1 rfl rfl ?_)
                        replace h := bsome h
                        obtain ⟨d13, h13, h⟩ := h
                        refine o1 rfl (o_call has17 rfl (c_vitrineref12_Wrap X (⟨x9.2.1, x9.2.2.1, (⟨x9.2.2.2.1, x9.2.2.2.2.1⟩ : Vvitrineref04_Size), x9.2.2.2.2.2.1, x9.2.2.2.2.2.2⟩ : Vvitrineref12_Space) b0 s0 p1.N _ h13) (pc rm0 (pc rm1 (pc rm1 pn))) ?_)
                        refine o1 rfl (o_p rfl ?_)
                        refine o1 rfl (o_p (v := (.int .i64 (w64 (d13 + x9.1)))) rfl ?_)
                        refine o1 rfl (o_p rfl ?_)
                        replace h := bsome h
                        obtain ⟨d14, h14, h⟩ := h
                        refine o1 rfl (o_call has81 rfl (c_vitrineref12_Put X (⟨x9.2.1, x9.2.2.1, (⟨x9.2.2.2.1, x9.2.2.2.2.1⟩ : Vvitrineref04_Size), x9.2.2.2.2.2.1, x9.2.2.2.2.2.2⟩ : Vvitrineref12_Space) b0 s0 (w64 (d13 + x9.1)) (rd p1.Text x9.1) _ h14) (pc rm0 (pc rm0 (pc rm0 pn))) ?_)
                        refine o_end ?_
                        have hd := Option.some.inj h
                        subst hd
                        exact ej () () trivial (sc rfl (sc rfl (sc rfl (sc rfl (sc rfl sn))))) (kc rm0 (kc rm2 (kc rm0 (kc rm0 kr))))
                      · replace h := cond_f hb1340 h
                        refine c_skip ?_
                        have hd := Option.some.inj h
                        subst hd
                        exact ej () () trivial (sc rfl (sc rfl (sc rfl (sc rfl (sc rfl sn))))) (kc rm0 (kc rm0 (kc rm0 (kc rm0 kr))))
                    · rintro _ i12 _
                      replace h := hk12
                      clear hk12
                      refine e_blk ?_
                      refine e_seq ?_
                      refine c_region ?_
                      refine o1 rfl (o_p (v := (.int .i64 (w64 (x9.1 + 1)))) rfl ?_)
                      refine o1 rfl (o_p rfl ?_)
                      refine o_end ?_
                      exact e_loop (l_sub (sc rfl (sc rfl (sc rfl (sc rfl (sc rfl sn))))) (l_keep (kc rm0 (kc rm0 (kc rm0 (kc rm0 kr)))) (ih9 (w64 (x9.1 + 1), d12.1, d12.2.1, d12.2.2.1, d12.2.2.2.1, d12.2.2.2.2.1, d12.2.2.2.2.2) () trivial h)))
                  · replace h := cond_f hb1338 h
                    refine c_exit ?_
                    refine e_then_exit ?_
                    refine e_then_exit ?_
                    refine e_blk_exit ?_
                    have hd := Option.some.inj h
                    subst hd
                    exact ej () () trivial sn (kc rm0 (kc rm1 (kc rm1 (kd kr))))
                · rintro _ i8 _
                  replace h := hk8
                  clear hk8
                  have hd := Option.some.inj h
                  subst hd
                  exact ej () s0 trivial sn (kc rm0 (kc rm0 (kc rm0 kr)))
    · rintro _ i2 _
      replace h := hk2
      clear hk2
      refine e_blk ?_
      have hd := Option.some.inj h
      subst hd
      exact ej () i2 trivial sn (kc rm0 (kc rm0 (kc rm0 kr)))
  · rintro _ i1 _
    replace h := hk1
    clear hk1
    refine e_fall ?_
    refine r_endt rfl rfl (kc rm0 (kc rm0 (kc rm0 kr))) ?_
    have hr := Option.some.inj h
    subst hr
    exact hk i1

theorem c_space_Space_Clear_2 {g : Gw} (X : HP) (p0 : Vspace_Space) (b0 : Nat) (s0 : SV) (p1 : Bool) (r : Vspace_Space) (h : m_space_Space_Clear_2 p0 p1 = some r) : Tri env g 47 (List.toArray [(.pointer (some ⟨b0, 0, none⟩)), (.bool p1)]) [X, blk b0 (.cells (List.toArray [(.int .i64 p0.model), (.bool p0.alternate), (.int .i64 p0.size.Rows), (.int .i64 p0.size.Cols), (SV.val s0), (.int .i64 p0.cursor), (.int .i64 p0.attrs)]) 165 (0, 0)), slO s0 48 en_Vapi_Cell p0.cells] (fun K R => ∀ (i0 : SV), K (.tuple (List.toArray [])) (X :: blk b0 (.cells (List.toArray [(.int .i64 r.model), (.bool r.alternate), (.int .i64 r.size.Rows), (.int .i64 r.size.Cols), (SV.val i0), (.int .i64 r.cursor), (.int .i64 r.attrs)]) 165 (0, 0)) :: slO i0 48 en_Vapi_Cell r.cells :: slO s0 48 en_Vapi_Cell p0.cells :: R)) := by
  refine tri_of (fn := Try.f47) (N := 39) Try.func47 rfl rfl rfl ?_
  intro R K hk
  unfold m_space_Space_Clear_2 at h
  change GC _ none _ [] [(0, (.pointer (some ⟨b0, 0, none⟩))), (1, (.bool p1))] (X :: blk b0 (.cells (List.toArray [(.int .i64 p0.model), (.bool p0.alternate), (.int .i64 p0.size.Rows), (.int .i64 p0.size.Cols), (SV.val s0), (.int .i64 p0.cursor), (.int .i64 p0.attrs)]) 165 (0, 0)) :: slO s0 48 en_Vapi_Cell p0.cells :: R) g _ _
  refine c_seq ?_
  refine c_seq ?_
  refine c_region ?_
  refine o1 rfl (o_p rfl ?_)
  refine o1 rfl (o_p (v := (.bool false)) rfl ?_)
  refine o_end ?_
  refine e_seq ?_
  refine c_cond_f rfl rfl ?_
  refine c_skip ?_
  refine e_seq ?_
  refine c_seq ?_
  refine c_region ?_
  refine o1 rfl (o_p rfl ?_)
  refine o_end ?_
  refine e_seq ?_
  refine c_seq ?_
  refine c_seq ?_
  refine c_region ?_
  refine o1 rfl (o_p rfl ?_)
  refine o_end ?_
  refine e_seq ?_
  replace h := bsome h
  obtain ⟨d1, h, hk1⟩ := h
  refine cj (D := Unit) (ι := Unit) (fun _ i1 => True) (fun _ i1 => [(4, (.int .i64 d1)), (0, (.pointer (some ⟨b0, 0, none⟩))), (1, (.bool p1))]) (fun _ i1 => X :: blk b0 (.cells (List.toArray [(.int .i64 p0.model), (.bool p0.alternate), (.int .i64 p0.size.Rows), (.int .i64 p0.size.Cols), (SV.val s0), (.int .i64 p0.cursor), (.int .i64 p0.attrs)]) 165 (0, 0)) :: slO s0 48 en_Vapi_Cell p0.cells :: R) ?_ ?_
  · refine c_cond (b := p1) rfl (fun hb1376 => ?_) (fun hb1376 => ?_)
    · replace h := cond_t hb1376 h
      refine c_region ?_
      refine o1 rfl (o_p rfl ?_)
      refine o1 rfl (o_p rfl ?_)
      refine o1 rfl (o_fa (fd := ⟨ "model", 3, 0, false, "", "vitrine/space", 0⟩) rfl rfl rfl rfl rfl ?_)
      refine o1 rfl (o_ld (b := b0) (off := 0) (v := (.int .i64 p0.model)) rfl rm1 rfl rfl ?_)
      refine o1 rfl (o_p rfl ?_)
      refine o_end ?_
      have hd := Option.some.inj h
      subst hd
      exact ej () () trivial (sc rfl (sc rfl (sc rfl sn))) (kc rm0 (kc rm0 (kc rm0 kr)))
    · replace h := cond_f hb1376 h
      refine c_skip ?_
      have hd := Option.some.inj h
      subst hd
      exact ej () () trivial (sc rfl (sc rfl (sc rfl sn))) (kc rm0 (kc rm0 (kc rm0 kr)))
  · rintro _ i1 _
    replace h := hk1
    clear hk1
    refine e_seq ?_
    refine c_seq ?_
    refine c_region ?_
    refine o1 rfl (o_p rfl ?_)
    refine o1 rfl (o_p rfl ?_)
    refine o1 rfl (o_p rfl ?_)
    refine o1 rfl (o_fa (fd := ⟨ "alternate", 4, 1, false, "", "vitrine/space", 8⟩) rfl rfl rfl rfl rfl ?_)
    refine o0 (o_st (b := b0) (off := 1) (vs := [(.bool p1)]) (cs' := [(.int .i64 p0.model), (.bool p1), (.int .i64 p0.size.Rows), (.int .i64 p0.size.Cols), (SV.val s0), (.int .i64 p0.cursor), (.int .i64 p0.attrs)]) rfl rfl rp1 rfl rfl rfl rfl rfl rfl ?_)
    refine o_end ?_
    refine e_seq ?_
    refine c_seq ?_
    refine c_region ?_
    refine o1 rfl (o_p rfl ?_)
    refine o1 rfl (o_p rfl ?_)
    replace h := bsome h
    obtain ⟨d2, h2, h⟩ := h
    refine o1 rfl (o_call has78 rfl (c_addr_Model X d1 _ h2) (pc rm0 pn) ?_)
    refine o1 rfl (o_p rfl ?_)
    refine o1 rfl (o_p rfl ?_)
    refine o1 rfl (o_p rfl ?_)
    refine o1 rfl (o_p rfl ?_)
    refine o1 rfl (o_fa (fd := ⟨ "size", 131, 2, false, "", "vitrine/space", 16⟩) rfl rfl rfl rfl rfl ?_)
    refine o0 (o_st (b := b0) (off := 2) (vs := [(.int .i64 d2.1.Rows), (.int .i64 d2.1.Cols)]) (cs' := [(.int .i64 p0.model), (.bool p1), (.int .i64 d2.1.Rows), (.int .i64 d2.1.Cols), (SV.val s0), (.int .i64 p0.cursor), (.int .i64 p0.attrs)]) rfl rfl rp1 rfl rfl rfl rfl rfl rfl ?_)
    refine o_end ?_
    refine e_seq ?_
    refine c_seq ?_
    refine c_region ?_
    refine o1 rfl (o_p rfl ?_)
    refine o1 rfl (o_p rfl ?_)
    refine o1 rfl (o_p rfl ?_)
    refine o1 rfl (o_fa (fd := ⟨ "size", 131, 2, false, "", "vitrine/space", 16⟩) rfl rfl rfl rfl rfl ?_)
    refine o1 rfl (o_ld (b := b0) (off := 2) (v := (.agg (List.toArray [(.int .i64 d2.1.Rows), (.int .i64 d2.1.Cols)]))) rfl rm1 rfl rfl ?_)
    replace h := bsome h
    obtain ⟨d3, h3, h⟩ := h
    refine o1 rfl (o_call has71 rfl (c_addr_Size_Cells X (⟨d2.1.Rows, d2.1.Cols⟩ : Vaddr_Size) _ h3) (pc rm0 pn) ?_)
    replace h := gsome h
    obtain ⟨hg1377, h⟩ := h
    refine o1 rfl (o_mk (e := en_Vapi_Cell) (z := (⟨0, false, 0, 0, 0, 0⟩ : Vapi_Cell)) (zs := [(.int .u8 0), (.bool false), (.int .u8 0), (.int .u8 0), (.int .u8 0), (.int .u8 0)]) rfl rfl rfl rfl rfl rfl rfl rfl rfl hg1377 (fun s1378 => ?_))
    refine o1 rfl (o_p rfl ?_)
    refine o1 rfl (o_fa (fd := ⟨ "cells", 39, 4, false, "", "vitrine/space", 32⟩) rfl rfl rfl rfl rfl ?_)
    refine o0 (o_st (b := b0) (off := 4) (vs := [(SV.val s1378)]) (cs' := [(.int .i64 p0.model), (.bool p1), (.int .i64 d2.1.Rows), (.int .i64 d2.1.Cols), (SV.val s1378), (.int .i64 p0.cursor), (.int .i64 p0.attrs)]) rfl rfl rp2 rfl rfl rfl rfl rfl rfl ?_)
    refine o_end ?_
    refine e_seq ?_
    refine c_region ?_
    refine o1 rfl (o_p rfl ?_)
    refine o1 rfl (o_p rfl ?_)
    refine o1 rfl (o_p rfl ?_)
    refine o1 rfl (o_fa (fd := ⟨ "cursor", 3, 5, false, "", "vitrine/space", 56⟩) rfl rfl rfl rfl rfl ?_)
    refine o0 (o_st (b := b0) (off := 5) (vs := [(.int .i64 0)]) (cs' := [(.int .i64 p0.model), (.bool p1), (.int .i64 d2.1.Rows), (.int .i64 d2.1.Cols), (SV.val s1378), (.int .i64 0), (.int .i64 p0.attrs)]) rfl rfl rp2 rfl rfl rfl rfl rfl rfl ?_)
    refine o1 rfl (o_p rfl ?_)
    refine o1 rfl (o_fa (fd := ⟨ "attrs", 3, 6, false, "", "vitrine/space", 64⟩) rfl rfl rfl rfl rfl ?_)
    refine o0 (o_st (b := b0) (off := 6) (vs := [(.int .i64 0)]) (cs' := [(.int .i64 p0.model), (.bool p1), (.int .i64 d2.1.Rows), (.int .i64 d2.1.Cols), (SV.val s1378), (.int .i64 0), (.int .i64 0)]) rfl rfl rp2 rfl rfl rfl rfl rfl rfl ?_)
    refine o_end ?_
    refine e_fall ?_
    refine r_endt rfl rfl (kc rm1 (kc rm1 (kc rm0 (kc rm0 kr)))) ?_
    have hr := Option.some.inj h
    subst hr
    exact hk s1378

theorem c_addr_rest {g : Gw} (X : HP) (p0 : Int) (p1 : Int) (r : Int) (h : m_addr_rest p0 p1 = some r) : Tri env g 110 (List.toArray [(.int .i64 p0), (.int .i64 p1)]) [X] (fun K R => K (.int .i64 r) (X :: R)) := by
  refine tri_of (fn := Try.f110) (N := 14) Try.func110 rfl rfl rfl ?_
  intro R K hk
  unfold m_addr_rest at h
  change GC _ none _ [] [(0, (.int .i64 p0)), (1, (.int .i64 p1))] (X :: R) g _ _
  refine c_seq ?_
  refine c_region ?_
  refine o1 rfl (o_p rfl ?_)
  refine o_end ?_
  refine e_seq ?_
  refine c_seq ?_
  refine c_region ?_
  refine o1 rfl (o_p rfl ?_)
  refine o1 rfl (o_p rfl ?_)
  replace h := gsome h
  obtain ⟨hg1394, h⟩ := h
  refine o1 rfl (o_rem (m := p0) (n := p1) rfl rfl hg1394 ?_)
  refine o1 rfl (o_p rfl ?_)
  refine o_end ?_
  refine e_seq ?_
  refine c_seq ?_
  refine c_seq ?_
  refine c_region ?_
  refine o1 rfl (o_p rfl ?_)
  refine o1 rfl (o_p (v := (.bool (decide ((Int.tmod p0 p1) < 0)))) rfl ?_)
  refine o_end ?_
  refine e_seq ?_
  replace h := bsome h
  obtain ⟨d1, h, hk1⟩ := h
  refine cj (D := Unit) (ι := Unit) (fun _ i1 => True) (fun _ i1 => [(0, (.int .i64 d1))]) (fun _ i1 => X :: R) ?_ ?_
  · refine c_cond (b := (decide ((Int.tmod p0 p1) < 0))) rfl (fun hb1395 => ?_) (fun hb1395 => ?_)
    · replace h := cond_t hb1395 h
      refine c_region ?_
      refine o1 rfl (o_p rfl ?_)
      refine o1 rfl (o_p rfl ?_)
      refine o1 rfl (o_p (v := (.int .i64 (w64 ((Int.tmod p0 p1) + p1)))) rfl ?_)
      refine o1 rfl (o_p rfl ?_)
      refine o_end ?_
      have hd := Option.some.inj h
      subst hd
      exact ej () () trivial (sc rfl sn) (kc rm0 kr)
    · replace h := cond_f hb1395 h
      refine c_skip ?_
      have hd := Option.some.inj h
      subst hd
      exact ej () () trivial (sc rfl sn) (kc rm0 kr)
  · rintro _ i1 _
    replace h := hk1
    clear hk1
    refine e_seq ?_
    refine c_seq ?_
    refine c_region ?_
    refine o1 rfl (o_p rfl ?_)
    refine o1 rfl (o_p rfl ?_)
    refine o_end ?_
    refine e_seq ?_
    refine c_ret ?_
    refine e_ret ?_
    refine r_endt rfl rfl (kc rm0 kr) ?_
    have hr := Option.some.inj h
    subst hr
    exact hk

theorem c_addr_Size_Wrap {g : Gw} (X : HP) (p0 : Vaddr_Size) (p1 : Int) (r : Int) (h : m_addr_Size_Wrap p0 p1 = some r) : Tri env g 83 (List.toArray [(.agg (List.toArray [(.int .i64 p0.Rows), (.int .i64 p0.Cols)])), (.int .i64 p1)]) [X] (fun K R => K (.int .i64 r) (X :: R)) := by
  refine tri_of (fn := Try.f83) (N := 12) Try.func83 rfl rfl rfl ?_
  intro R K hk
  unfold m_addr_Size_Wrap at h
  change GC _ none _ [] [(0, (.agg (List.toArray [(.int .i64 p0.Rows), (.int .i64 p0.Cols)]))), (1, (.int .i64 p1))] (X :: R) g _ _
  refine c_seq ?_
  refine c_region ?_
  refine o1 rfl (o_box (cs := [(.int .i64 p0.Rows), (.int .i64 p0.Cols)]) rfl rfl (fun b1391 => ?_))
  refine o1 rfl (o_p rfl ?_)
  refine o_end ?_
  refine e_seq ?_
  refine c_seq ?_
  refine c_seq ?_
  refine c_region ?_
  refine o1 rfl (o_ld (b := b1391) (off := 0) (v := (.agg (List.toArray [(.int .i64 p0.Rows), (.int .i64 p0.Cols)]))) rfl rm0 rfl rfl ?_)
  replace h := bsome h
  obtain ⟨d1, h1, h⟩ := h
  refine o1 rfl (o_call has105 rfl (c_addr_Size_Valid X p0 _ h1) (pc rm1 pn) ?_)
  refine o1 rfl (o_p (v := (.bool (!d1))) rfl ?_)
  refine o_end ?_
  refine e_seq ?_
  refine c_cond (b := (!d1)) rfl (fun hb1393 => ?_) (fun hb1393 => ?_)
  · replace h := cond_t hb1393 h
    refine c_seq ?_
    refine c_region ?_
    refine o1 rfl (o_p rfl ?_)
    refine o_end ?_
    refine e_seq ?_
    refine c_ret ?_
    refine e_then_ret ?_
    refine e_ret ?_
    refine r_endt rfl rfl (kc rm0 (kd kr)) ?_
    have hr := Option.some.inj h
    subst hr
    exact hk
  · replace h := cond_f hb1393 h
    refine c_skip ?_
    refine e_seq ?_
    refine c_seq ?_
    refine c_region ?_
    refine o1 rfl (o_p rfl ?_)
    refine o1 rfl (o_ld (b := b1391) (off := 0) (v := (.agg (List.toArray [(.int .i64 p0.Rows), (.int .i64 p0.Cols)]))) rfl rm1 rfl rfl ?_)
    replace h := bsome h
    obtain ⟨d3, h3, h⟩ := h
    refine o1 rfl (o_call has71 rfl (c_addr_Size_Cells X p0 _ h3) (pc rm0 pn) ?_)
    replace h := bsome h
    obtain ⟨d4, h4, h⟩ := h
    refine o1 rfl (o_call has110 rfl (c_addr_rest X p1 d3 _ h4) (pc rm0 pn) ?_)
    refine o1 rfl (o_p rfl ?_)
    refine o_end ?_
    refine e_seq ?_
    refine c_ret ?_
    refine e_ret ?_
    refine r_endt rfl rfl (kc rm0 (kd kr)) ?_
    have hr := Option.some.inj h
    subst hr
    exact hk

theorem c_space_count {g : Gw} (X : HP) (p0 : Vapi_Cell) (r : Int) (h : m_space_count p0 = some r) : Tri env g 84 (List.toArray [(.agg (List.toArray [(.int .u8 p0.Char), (.bool p0.Attr), (.int .u8 p0.FA), (.int .u8 p0.High), (.int .u8 p0.Color), (.int .u8 p0.f_Set)]))]) [X] (fun K R => K (.int .i64 r) (X :: R)) := by
  refine tri_of (fn := Try.f84) (N := 5) Try.func84 rfl rfl rfl ?_
  intro R K hk
  unfold m_space_count at h
  change GC _ none _ [] [(0, (.agg (List.toArray [(.int .u8 p0.Char), (.bool p0.Attr), (.int .u8 p0.FA), (.int .u8 p0.High), (.int .u8 p0.Color), (.int .u8 p0.f_Set)])))] (X :: R) g _ _
  refine c_seq ?_
  refine c_region ?_
  refine o1 rfl (o_box (cs := [(.int .u8 p0.Char), (.bool p0.Attr), (.int .u8 p0.FA), (.int .u8 p0.High), (.int .u8 p0.Color), (.int .u8 p0.f_Set)]) rfl rfl (fun b1397 => ?_))
  refine o1 rfl (o_p rfl ?_)
  refine o_end ?_
  refine e_seq ?_
  refine c_seq ?_
  refine c_seq ?_
  refine c_region ?_
  refine o1 rfl (o_fa (fd := ⟨ "Attr", 4, 1, false, "", "", 1⟩) rfl rfl rfl rfl rfl ?_)
  refine o1 rfl (o_ld (b := b1397) (off := 1) (v := (.bool p0.Attr)) rfl rm0 rfl rfl ?_)
  refine o_end ?_
  refine e_seq ?_
  refine c_cond (b := p0.Attr) rfl (fun hb1399 => ?_) (fun hb1399 => ?_)
  · replace h := cond_t hb1399 h
    refine c_seq ?_
    refine c_region ?_
    refine o1 rfl (o_p rfl ?_)
    refine o_end ?_
    refine e_seq ?_
    refine c_ret ?_
    refine e_then_ret ?_
    refine e_ret ?_
    refine r_endt rfl rfl (kc rm1 (kd kr)) ?_
    have hr := Option.some.inj h
    subst hr
    exact hk
  · replace h := cond_f hb1399 h
    refine c_skip ?_
    refine e_seq ?_
    refine c_seq ?_
    refine c_region ?_
    refine o1 rfl (o_p rfl ?_)
    refine o_end ?_
    refine e_seq ?_
    refine c_ret ?_
    refine e_ret ?_
    refine r_endt rfl rfl (kc rm1 (kd kr)) ?_
    have hr := Option.some.inj h
    subst hr
    exact hk

theorem c_space_Space_Set {g : Gw} (X : HP) (p0 : Vspace_Space) (b0 : Nat) (s0 : SV) (p1 : Int) (p2 : Vapi_Cell) (r : Vspace_Space) (h : m_space_Space_Set p0 p1 p2 = some r) : Tri env g 48 (List.toArray [(.pointer (some ⟨b0, 0, none⟩)), (.int .i64 p1), (.agg (List.toArray [(.int .u8 p2.Char), (.bool p2.Attr), (.int .u8 p2.FA), (.int .u8 p2.High), (.int .u8 p2.Color), (.int .u8 p2.f_Set)]))]) [X, blk b0 (.cells (List.toArray [(.int .i64 p0.model), (.bool p0.alternate), (.int .i64 p0.size.Rows), (.int .i64 p0.size.Cols), (SV.val s0), (.int .i64 p0.cursor), (.int .i64 p0.attrs)]) 165 (0, 0)), slO s0 48 en_Vapi_Cell p0.cells] (fun K R => K (.tuple (List.toArray [])) (X :: blk b0 (.cells (List.toArray [(.int .i64 r.model), (.bool r.alternate), (.int .i64 r.size.Rows), (.int .i64 r.size.Cols), (SV.val s0), (.int .i64 r.cursor), (.int .i64 r.attrs)]) 165 (0, 0)) :: slO s0 48 en_Vapi_Cell r.cells :: R)) := by
  refine tri_of (fn := Try.f48) (N := 47) Try.func48 rfl rfl rfl ?_
  intro R K hk
  unfold m_space_Space_Set at h
  change GC _ none _ [] [(0, (.pointer (some ⟨b0, 0, none⟩))), (1, (.int .i64 p1)), (2, (.agg (List.toArray [(.int .u8 p2.Char), (.bool p2.Attr), (.int .u8 p2.FA), (.int .u8 p2.High), (.int .u8 p2.Color), (.int .u8 p2.f_Set)])))] (X :: blk b0 (.cells (List.toArray [(.int .i64 p0.model), (.bool p0.alternate), (.int .i64 p0.size.Rows), (.int .i64 p0.size.Cols), (SV.val s0), (.int .i64 p0.cursor), (.int .i64 p0.attrs)]) 165 (0, 0)) :: slO s0 48 en_Vapi_Cell p0.cells :: R) g _ _
  refine c_seq ?_
  refine c_region ?_
  refine o1 rfl (o_box (cs := [(.int .u8 p2.Char), (.bool p2.Attr), (.int .u8 p2.FA), (.int .u8 p2.High), (.int .u8 p2.Color), (.int .u8 p2.f_Set)]) rfl rfl (fun b1388 => ?_))
  refine o_end ?_
  refine e_seq ?_
  refine c_seq ?_
  refine c_seq ?_
  refine c_region ?_
  refine o1 rfl (o_p rfl ?_)
  refine o1 rfl (o_p (v := (.bool false)) rfl ?_)
  refine o_end ?_
  refine e_seq ?_
  refine c_cond_f rfl rfl ?_
  refine c_skip ?_
  refine e_seq ?_
  refine c_seq ?_
  refine c_seq ?_
  refine c_region ?_
  refine o1 rfl (o_fa (fd := ⟨ "Attr", 4, 1, false, "", "", 1⟩) rfl rfl rfl rfl rfl ?_)
  refine o1 rfl (o_ld (b := b1388) (off := 1) (v := (.bool p2.Attr)) rfl rm0 rfl rfl ?_)
  refine o_end ?_
  refine e_seq ?_
  replace h := bsome h
  obtain ⟨d1, h, hk1⟩ := h
  refine cj (D := Unit) (ι := Unit) (fun _ i1 => True) (fun _ i1 => [(5, (.pointer (some ⟨b1388, 0, none⟩))), (0, (.pointer (some ⟨b0, 0, none⟩))), (1, (.int .i64 p1))]) (fun _ i1 => X :: blk b1388 (.cells (List.toArray [(.int .u8 d1.1), (.bool p2.Attr), (.int .u8 d1.2), (.int .u8 p2.High), (.int .u8 p2.Color), (.int .u8 p2.f_Set)]) 48 (0, 0)) :: blk b0 (.cells (List.toArray [(.int .i64 p0.model), (.bool p0.alternate), (.int .i64 p0.size.Rows), (.int .i64 p0.size.Cols), (SV.val s0), (.int .i64 p0.cursor), (.int .i64 p0.attrs)]) 165 (0, 0)) :: slO s0 48 en_Vapi_Cell p0.cells :: R) ?_ ?_
  · refine c_cond (b := p2.Attr) rfl (fun hb1390 => ?_) (fun hb1390 => ?_)
    · replace h := cond_t hb1390 h
      refine c_region ?_
      refine o1 rfl (o_fa (fd := ⟨ "FA", 5, 2, false, "", "", 2⟩) rfl rfl rfl rfl rfl ?_)
      refine o1 rfl (o_ld (b := b1388) (off := 2) (v := (.int .u8 p2.FA)) rfl rm0 rfl rfl ?_)
      refine o1 rfl (o_p (v := (.int .u8 (iband .u8 p2.FA 61))) rfl ?_)
      refine o1 rfl (o_fa (fd := ⟨ "Char", 5, 0, false, "", "", 0⟩) rfl rfl rfl rfl rfl ?_)
      refine o0 (o_st (b := b1388) (off := 0) (vs := [(.int .u8 0)]) (cs' := [(.int .u8 0), (.bool p2.Attr), (.int .u8 p2.FA), (.int .u8 p2.High), (.int .u8 p2.Color), (.int .u8 p2.f_Set)]) rfl rfl rp0 rfl rfl rfl rfl rfl rfl ?_)
      refine o1 rfl (o_fa (fd := ⟨ "FA", 5, 2, false, "", "", 2⟩) rfl rfl rfl rfl rfl ?_)
      refine o0 (o_st (b := b1388) (off := 2) (vs := [(.int .u8 (iband .u8 p2.FA 61))]) (cs' := [(.int .u8 0), (.bool p2.Attr), (.int .u8 (iband .u8 p2.FA 61)), (.int .u8 p2.High), (.int .u8 p2.Color), (.int .u8 p2.f_Set)]) rfl rfl rp0 rfl rfl rfl rfl rfl rfl ?_)
      refine o_end ?_
      have hd := Option.some.inj h
      subst hd
      exact ej () () trivial (sc rfl (sc rfl (sc rfl sn))) (kc rm1 (kc rm0 (kc rm0 (kc rm0 kr))))
    · replace h := cond_f hb1390 h
      refine c_region ?_
      refine o1 rfl (o_fa (fd := ⟨ "FA", 5, 2, false, "", "", 2⟩) rfl rfl rfl rfl rfl ?_)
      refine o0 (o_st (b := b1388) (off := 2) (vs := [(.int .u8 0)]) (cs' := [(.int .u8 p2.Char), (.bool p2.Attr), (.int .u8 0), (.int .u8 p2.High), (.int .u8 p2.Color), (.int .u8 p2.f_Set)]) rfl rfl rp0 rfl rfl rfl rfl rfl rfl ?_)
      refine o_end ?_
      have hd := Option.some.inj h
      subst hd
      exact ej () () trivial (sc rfl (sc rfl (sc rfl sn))) (kc rm1 (kc rm0 (kc rm0 (kc rm0 kr))))
  · rintro _ i1 _
    replace h := hk1
    clear hk1
    refine e_seq ?_
    refine c_seq ?_
    refine c_region ?_
    refine o1 rfl (o_p rfl ?_)
    refine o1 rfl (o_p rfl ?_)
    refine o1 rfl (o_fa (fd := ⟨ "size", 131, 2, false, "", "vitrine/space", 16⟩) rfl rfl rfl rfl rfl ?_)
    refine o1 rfl (o_ld (b := b0) (off := 2) (v := (.agg (List.toArray [(.int .i64 p0.size.Rows), (.int .i64 p0.size.Cols)]))) rfl rm2 rfl rfl ?_)
    refine o1 rfl (o_p rfl ?_)
    replace h := bsome h
    obtain ⟨d2, h2, h⟩ := h
    refine o1 rfl (o_call has83 rfl (c_addr_Size_Wrap X p0.size p1 _ h2) (pc rm0 pn) ?_)
    refine o1 rfl (o_p rfl ?_)
    refine o_end ?_
    refine e_seq ?_
    refine c_seq ?_
    replace h := gsome h
    obtain ⟨hg1396, h⟩ := h
    refine c_draw (n := 3) (q := [(0, 22, (.pointer (some ⟨b0, 0, none⟩))), (1, 23, (.pointer (some ⟨b0, 0, none⟩))), (2, 24, (.pointer (some ⟨b0, 6, none⟩))), (3, 25, (.int .i64 p0.attrs)), (4, 26, (.agg (List.toArray [(.int .u8 d1.1), (.bool p2.Attr), (.int .u8 d1.2), (.int .u8 p2.High), (.int .u8 p2.Color), (.int .u8 p2.f_Set)]))), (6, 28, (.pointer (some ⟨b0, 0, none⟩))), (7, 29, (.pointer (some ⟨b0, 0, none⟩))), (8, 30, (.pointer (some ⟨b0, 4, none⟩))), (9, 31, (SV.val s0)), (10, 32, (.int .i64 d2)), (11, 33, (.pointer (some ⟨SV.blk s0, SV.off s0 + Int.toNat d2 * 6, none⟩))), (12, 34, (.agg (List.toArray [(.int .u8 ((rd p0.cells d2).Char)), (.bool ((rd p0.cells d2).Attr)), (.int .u8 ((rd p0.cells d2).FA)), (.int .u8 ((rd p0.cells d2).High)), (.int .u8 ((rd p0.cells d2).Color)), (.int .u8 ((rd p0.cells d2).f_Set))])))]) (pend := [0, 1, 2, 3, 4, 6, 7, 8, 9, 10, 11, 12]) rfl rfl rfl ?_
    replace h := bsome h
    obtain ⟨d4, h4, h⟩ := h
    refine ⟨⟨fun _ => ⟨rfl, rfl, rfl, .inl ⟨rfl, (o_p rfl ⟨rfl, rfl⟩)⟩⟩, fun _ => ⟨rfl, rfl, rfl, .inl ⟨rfl, (o_p rfl ⟨rfl, rfl⟩)⟩⟩, fun _ => ⟨rfl, rfl, rfl, .inl ⟨rfl, (o_fa (fd := ⟨ "attrs", 3, 6, false, "", "vitrine/space", 64⟩) rfl rfl rfl rfl rfl ⟨rfl, rfl⟩)⟩⟩, fun _ => ⟨rfl, rfl, rfl, .inl ⟨rfl, (o_ld (b := b0) (off := 6) (v := (.int .i64 p0.attrs)) rfl rm2 rfl rfl ⟨rfl, rfl⟩)⟩⟩, fun _ => ⟨rfl, rfl, rfl, .inl ⟨rfl, (o_ld (b := b1388) (off := 0) (v := (.agg (List.toArray [(.int .u8 d1.1), (.bool p2.Attr), (.int .u8 d1.2), (.int .u8 p2.High), (.int .u8 p2.Color), (.int .u8 p2.f_Set)]))) rfl rm1 rfl rfl ⟨rfl, rfl⟩)⟩⟩, fun _ => ⟨rfl, rfl, rfl, .inl ⟨rfl, (o_p rfl ⟨rfl, rfl⟩)⟩⟩, fun _ => ⟨rfl, rfl, rfl, .inl ⟨rfl, (o_p rfl ⟨rfl, rfl⟩)⟩⟩, fun _ => ⟨rfl, rfl, rfl, .inl ⟨rfl, (o_fa (fd := ⟨ "cells", 39, 4, false, "", "vitrine/space", 32⟩) rfl rfl rfl rfl rfl ⟨rfl, rfl⟩)⟩⟩, fun _ => ⟨rfl, rfl, rfl, .inl ⟨rfl, (o_ld (b := b0) (off := 4) (v := (SV.val s0)) rfl rm2 rfl rfl ⟨rfl, rfl⟩)⟩⟩, fun _ => ⟨rfl, rfl, rfl, .inl ⟨rfl, (o_p rfl ⟨rfl, rfl⟩)⟩⟩, fun _ => ⟨rfl, rfl, rfl, .inl ⟨rfl, (o_ix (s := s0) (n := d2) (e := en_Vapi_Cell) rfl rfl rfl rfl rfl rfl rm3 (rd_own _ _ _ _) hg1396 ⟨rfl, rfl⟩)⟩⟩, fun _ => ⟨rfl, rfl, rfl, .inl ⟨rfl, (o_ldE (s := s0) (e := en_Vapi_Cell) (n := d2) (f := 0) (v := (.agg (List.toArray [(.int .u8 ((rd p0.cells d2).Char)), (.bool ((rd p0.cells d2).Attr)), (.int .u8 ((rd p0.cells d2).FA)), (.int .u8 ((rd p0.cells d2).High)), (.int .u8 ((rd p0.cells d2).Color)), (.int .u8 ((rd p0.cells d2).f_Set))]))) rfl rm3 (rd_own _ _ _ _) hg1396 rfl rfl ⟨rfl, rfl⟩)⟩⟩, trivial⟩, rfl, .inr ⟨[5], rfl, rfl, ⟨rfl, .inl rfl, ?_⟩, trivial⟩⟩
    refine (o_call has84 rfl (c_space_count X { p2 with Char := d1.1, FA := d1.2 } _ h4) (pc rm0 pn) ?_)
    refine ⟨[], [0, 1, 2, 3, 6, 7, 8, 9, 10, 11, 12], rfl, rfl, rfl, rfl, ?_⟩
    replace h := bsome h
    obtain ⟨d5, h5, h⟩ := h
    refine ⟨⟨fun _ => ⟨rfl, rfl, rfl, .inl ⟨rfl, (o_p rfl ⟨rfl, rfl⟩)⟩⟩, fun _ => ⟨rfl, rfl, rfl, .inl ⟨rfl, (o_p rfl ⟨rfl, rfl⟩)⟩⟩, fun _ => ⟨rfl, rfl, rfl, .inl ⟨rfl, (o_fa (fd := ⟨ "attrs", 3, 6, false, "", "vitrine/space", 64⟩) rfl rfl rfl rfl rfl ⟨rfl, rfl⟩)⟩⟩, fun _ => ⟨rfl, rfl, rfl, .inl ⟨rfl, (o_ld (b := b0) (off := 6) (v := (.int .i64 p0.attrs)) rfl rm2 rfl rfl ⟨rfl, rfl⟩)⟩⟩, (fun h => nomatch h), fun _ => ⟨rfl, rfl, rfl, .inl ⟨rfl, (o_p rfl ⟨rfl, rfl⟩)⟩⟩, fun _ => ⟨rfl, rfl, rfl, .inl ⟨rfl, (o_p rfl ⟨rfl, rfl⟩)⟩⟩, fun _ => ⟨rfl, rfl, rfl, .inl ⟨rfl, (o_fa (fd := ⟨ "cells", 39, 4, false, "", "vitrine/space", 32⟩) rfl rfl rfl rfl rfl ⟨rfl, rfl⟩)⟩⟩, fun _ => ⟨rfl, rfl, rfl, .inl ⟨rfl, (o_ld (b := b0) (off := 4) (v := (SV.val s0)) rfl rm2 rfl rfl ⟨rfl, rfl⟩)⟩⟩, fun _ => ⟨rfl, rfl, rfl, .inl ⟨rfl, (o_p rfl ⟨rfl, rfl⟩)⟩⟩, fun _ => ⟨rfl, rfl, rfl, .inl ⟨rfl, (o_ix (s := s0) (n := d2) (e := en_Vapi_Cell) rfl rfl rfl rfl rfl rfl rm3 (rd_own _ _ _ _) hg1396 ⟨rfl, rfl⟩)⟩⟩, fun _ => ⟨rfl, rfl, rfl, .inl ⟨rfl, (o_ldE (s := s0) (e := en_Vapi_Cell) (n := d2) (f := 0) (v := (.agg (List.toArray [(.int .u8 ((rd p0.cells d2).Char)), (.bool ((rd p0.cells d2).Attr)), (.int .u8 ((rd p0.cells d2).FA)), (.int .u8 ((rd p0.cells d2).High)), (.int .u8 ((rd p0.cells d2).Color)), (.int .u8 ((rd p0.cells d2).f_Set))]))) rfl rm3 (rd_own _ _ _ _) hg1396 rfl rfl ⟨rfl, rfl⟩)⟩⟩, trivial⟩, rfl, .inr ⟨[13], rfl, rfl, ⟨rfl, .inl rfl, ?_⟩, trivial⟩⟩
    refine (o_call has84 rfl (c_space_count X (rd p0.cells d2) _ h5) (pc rm0 pn) ?_)
    refine ⟨[(14, 36, (.int .i64 (w64 (d4 - d5)))), (15, 37, (.int .i64 (w64 (p0.attrs + (w64 (d4 - d5)))))), (16, 38, (.pointer (some ⟨b0, 0, none⟩))), (17, 39, (.pointer (some ⟨b0, 6, none⟩)))], [0, 1, 2, 3, 14, 15, 16, 17], rfl, rfl, rfl, rfl, ?_⟩
    refine ⟨⟨fun _ => ⟨rfl, rfl, rfl, .inl ⟨rfl, (o_p (v := (.int .i64 (w64 (d4 - d5)))) rfl ⟨rfl, rfl⟩)⟩⟩, fun _ => ⟨rfl, rfl, rfl, .inl ⟨rfl, (o_p (v := (.int .i64 (w64 (p0.attrs + (w64 (d4 - d5)))))) rfl ⟨rfl, rfl⟩)⟩⟩, fun _ => ⟨rfl, rfl, rfl, .inl ⟨rfl, (o_p rfl ⟨rfl, rfl⟩)⟩⟩, fun _ => ⟨rfl, rfl, rfl, .inl ⟨rfl, (o_fa (fd := ⟨ "attrs", 3, 6, false, "", "vitrine/space", 64⟩) rfl rfl rfl rfl rfl ⟨rfl, rfl⟩)⟩⟩, fun _ => ⟨rfl, rfl, rfl, .inl ⟨rfl, (o_p rfl ⟨rfl, rfl⟩)⟩⟩, fun _ => ⟨rfl, rfl, rfl, .inl ⟨rfl, (o_p rfl ⟨rfl, rfl⟩)⟩⟩, fun _ => ⟨rfl, rfl, rfl, .inl ⟨rfl, (o_fa (fd := ⟨ "attrs", 3, 6, false, "", "vitrine/space", 64⟩) rfl rfl rfl rfl rfl ⟨rfl, rfl⟩)⟩⟩, fun _ => ⟨rfl, rfl, rfl, .inl ⟨rfl, (o_ld (b := b0) (off := 6) (v := (.int .i64 p0.attrs)) rfl rm2 rfl rfl ⟨rfl, rfl⟩)⟩⟩, (fun h => nomatch h), (fun h => nomatch h), (fun h => nomatch h), (fun h => nomatch h), (fun h => nomatch h), (fun h => nomatch h), (fun h => nomatch h), (fun h => nomatch h), trivial⟩, rfl, .inr ⟨[18], rfl, rfl, ⟨rfl, .inl rfl, ?_⟩, trivial⟩⟩
    refine (o_st (b := b0) (off := 6) (vs := [(.int .i64 (w64 (p0.attrs + (w64 (d4 - d5)))))]) (cs' := [(.int .i64 p0.model), (.bool p0.alternate), (.int .i64 p0.size.Rows), (.int .i64 p0.size.Cols), (SV.val s0), (.int .i64 p0.cursor), (.int .i64 (w64 (p0.attrs + (w64 (d4 - d5)))))]) rfl rfl rp2 rfl rfl rfl rfl rfl rfl ?_)
    refine ⟨[], [], rfl, rfl, ?_⟩
    refine ⟨⟨(fun h => nomatch h), (fun h => nomatch h), (fun h => nomatch h), (fun h => nomatch h), (fun h => nomatch h), (fun h => nomatch h), (fun h => nomatch h), (fun h => nomatch h), (fun h => nomatch h), (fun h => nomatch h), (fun h => nomatch h), (fun h => nomatch h), (fun h => nomatch h), (fun h => nomatch h), (fun h => nomatch h), (fun h => nomatch h), trivial⟩, rfl, rfl, rfl, ?_⟩
    refine e_seq ?_
    replace h := gsome h
    obtain ⟨hg1400, h⟩ := h
    refine c_draw (n := 1) (q := [(0, 40, (.pointer (some ⟨b0, 0, none⟩))), (1, 41, (.pointer (some ⟨b0, 0, none⟩))), (2, 42, (.pointer (some ⟨b0, 4, none⟩))), (3, 43, (SV.val s0)), (4, 44, (.int .i64 d2)), (5, 45, (.agg (List.toArray [(.int .u8 d1.1), (.bool p2.Attr), (.int .u8 d1.2), (.int .u8 p2.High), (.int .u8 p2.Color), (.int .u8 p2.f_Set)]))), (6, 46, (.pointer (some ⟨SV.blk s0, SV.off s0 + Int.toNat d2 * 6, none⟩)))]) (pend := [0, 1, 2, 3, 4, 5, 6]) rfl rfl rfl ?_
    refine ⟨⟨fun _ => ⟨rfl, rfl, rfl, .inl ⟨rfl, (o_p rfl ⟨rfl, rfl⟩)⟩⟩, fun _ => ⟨rfl, rfl, rfl, .inl ⟨rfl, (o_p rfl ⟨rfl, rfl⟩)⟩⟩, fun _ => ⟨rfl, rfl, rfl, .inl ⟨rfl, (o_fa (fd := ⟨ "cells", 39, 4, false, "", "vitrine/space", 32⟩) rfl rfl rfl rfl rfl ⟨rfl, rfl⟩)⟩⟩, fun _ => ⟨rfl, rfl, rfl, .inl ⟨rfl, (o_ld (b := b0) (off := 4) (v := (SV.val s0)) rfl rm2 rfl rfl ⟨rfl, rfl⟩)⟩⟩, fun _ => ⟨rfl, rfl, rfl, .inl ⟨rfl, (o_p rfl ⟨rfl, rfl⟩)⟩⟩, fun _ => ⟨rfl, rfl, rfl, .inl ⟨rfl, (o_ld (b := b1388) (off := 0) (v := (.agg (List.toArray [(.int .u8 d1.1), (.bool p2.Attr), (.int .u8 d1.2), (.int .u8 p2.High), (.int .u8 p2.Color), (.int .u8 p2.f_Set)]))) rfl rm1 rfl rfl ⟨rfl, rfl⟩)⟩⟩, fun _ => ⟨rfl, rfl, rfl, .inl ⟨rfl, (o_ix (s := s0) (n := d2) (e := en_Vapi_Cell) rfl rfl rfl rfl rfl rfl rm3 (rd_own _ _ _ _) hg1400 ⟨rfl, rfl⟩)⟩⟩, trivial⟩, rfl, .inr ⟨[7], rfl, rfl, ⟨rfl, .inl rfl, ?_⟩, trivial⟩⟩
    refine (o_stE (s := s0) (e := en_Vapi_Cell) (n := d2) (f := 0) (vs := [(.int .u8 d1.1), (.bool p2.Attr), (.int .u8 d1.2), (.int .u8 p2.High), (.int .u8 p2.Color), (.int .u8 p2.f_Set)]) (u := { p2 with Char := d1.1, FA := d1.2 }) rfl rfl rp3 hg1400 rfl rfl rfl rfl rfl rfl ?_)
    refine ⟨[], [], rfl, rfl, ?_⟩
    refine ⟨⟨(fun h => nomatch h), (fun h => nomatch h), (fun h => nomatch h), (fun h => nomatch h), (fun h => nomatch h), (fun h => nomatch h), (fun h => nomatch h), trivial⟩, rfl, rfl, rfl, ?_⟩
    refine e_fall ?_
    refine r_endt rfl rfl (kc rm0 (kc rm1 (kc rm1 (kd kr)))) ?_
    have hr := Option.some.inj h
    subst hr
    exact hk

theorem c_space_Space_Place {g : Gw} (X : HP) (p0 : Vspace_Space) (b0 : Nat) (s0 : SV) (p1 : Int) (r : Vspace_Space) (h : m_space_Space_Place p0 p1 = some r) : Tri env g 49 (List.toArray [(.pointer (some ⟨b0, 0, none⟩)), (.int .i64 p1)]) [X, blk b0 (.cells (List.toArray [(.int .i64 p0.model), (.bool p0.alternate), (.int .i64 p0.size.Rows), (.int .i64 p0.size.Cols), (SV.val s0), (.int .i64 p0.cursor), (.int .i64 p0.attrs)]) 165 (0, 0)), slO s0 48 en_Vapi_Cell p0.cells] (fun K R => K (.tuple (List.toArray [])) (X :: blk b0 (.cells (List.toArray [(.int .i64 r.model), (.bool r.alternate), (.int .i64 r.size.Rows), (.int .i64 r.size.Cols), (SV.val s0), (.int .i64 r.cursor), (.int .i64 r.attrs)]) 165 (0, 0)) :: slO s0 48 en_Vapi_Cell r.cells :: R)) := by
  refine tri_of (fn := Try.f49) (N := 15) Try.func49 rfl rfl rfl ?_
  intro R K hk
  unfold m_space_Space_Place at h
  change GC _ none _ [] [(0, (.pointer (some ⟨b0, 0, none⟩))), (1, (.int .i64 p1))] (X :: blk b0 (.cells (List.toArray [(.int .i64 p0.model), (.bool p0.alternate), (.int .i64 p0.size.Rows), (.int .i64 p0.size.Cols), (SV.val s0), (.int .i64 p0.cursor), (.int .i64 p0.attrs)]) 165 (0, 0)) :: slO s0 48 en_Vapi_Cell p0.cells :: R) g _ _
  refine c_seq ?_
  refine c_region ?_
  refine o1 rfl (o_p rfl ?_)
  refine o1 rfl (o_p (v := (.bool true)) rfl ?_)
  refine o_end ?_
  refine e_seq ?_
  refine c_cond_t rfl rfl ?_
  refine c_region ?_
  refine o1 rfl (o_p rfl ?_)
  refine o1 rfl (o_p rfl ?_)
  refine o1 rfl (o_p rfl ?_)
  refine o1 rfl (o_fa (fd := ⟨ "size", 131, 2, false, "", "vitrine/space", 16⟩) rfl rfl rfl rfl rfl ?_)
  refine o1 rfl (o_ld (b := b0) (off := 2) (v := (.agg (List.toArray [(.int .i64 p0.size.Rows), (.int .i64 p0.size.Cols)]))) rfl rm1 rfl rfl ?_)
  refine o1 rfl (o_p rfl ?_)
  replace h := bsome h
  obtain ⟨d1, h1, h⟩ := h
  refine o1 rfl (o_call has83 rfl (c_addr_Size_Wrap X p0.size p1 _ h1) (pc rm0 pn) ?_)
  refine o1 rfl (o_p rfl ?_)
  refine o1 rfl (o_fa (fd := ⟨ "cursor", 3, 5, false, "", "vitrine/space", 56⟩) rfl rfl rfl rfl rfl ?_)
  refine o0 (o_st (b := b0) (off := 5) (vs := [(.int .i64 d1)]) (cs' := [(.int .i64 p0.model), (.bool p0.alternate), (.int .i64 p0.size.Rows), (.int .i64 p0.size.Cols), (SV.val s0), (.int .i64 d1), (.int .i64 p0.attrs)]) rfl rfl rp1 rfl rfl rfl rfl rfl rfl ?_)
  refine o_end ?_
  refine e_fall ?_
  refine r_endt rfl rfl (kc rm0 (kc rm0 (kc rm0 kr))) ?_
  have hr := Option.some.inj h
  subst hr
  exact hk

theorem c_keys_place {g : Gw} (X : HP) (p0 : ByteArray) (p1 : Int) (r : Int) (h : m_keys_place p0 p1 = some r) : Tri env g 92 (List.toArray [(.string p0), (.int .u8 p1)]) [X] (fun K R => K (.int .i64 r) (X :: R)) := by
  refine tri_of (fn := Try.f92) (N := 19) Try.func92 rfl rfl rfl ?_
  intro R K hk
  unfold m_keys_place at h
  change GC _ none _ [] [(0, (.string p0)), (1, (.int .u8 p1))] (X :: R) g _ _
  refine c_seq ?_
  refine c_region ?_
  refine o1 rfl (o_p rfl ?_)
  refine o_end ?_
  refine e_seq ?_
  refine c_seq ?_
  refine c_seq ?_
  refine c_region ?_
  refine o1 rfl (o_p rfl ?_)
  refine o1 rfl (o_lens (s := p0) rfl rfl rfl ?_)
  refine o1 rfl (o_p rfl ?_)
  refine o_end ?_
  refine e_seq ?_
  replace h := jn_some h
  obtain ⟨y1, h, hk1⟩ := h
  refine cj (D := Unit) (ι := Unit) (fun d1 i1 => y1 = Sum.inl d1) (fun d1 i1 => []) (fun d1 i1 => X :: R) ?_ ?_
  · refine c_block ?_
    refine c_loop (l_sub (sc rfl (sc rfl (sc rfl (sc rfl sn)))) (l_keep (kc rm0 kr) (lf (X := Int) (ι := Unit) (fun k x => keys_place_l2 p0 p1 k x) _ (fun x2 i2 => True) (fun x2 i2 => [(8, (.int .i64 x2)), (7, (.int .i64 (p0.size : Int))), (0, (.string p0)), (1, (.int .u8 p1))]) (fun x2 i2 => X :: R) (fun _ => rfl) ?_ fuel 0 () trivial h)))
    clear h
    rintro k2 ih2 x2 i2 _ h
    rw [keys_place_l2.eq_2] at h
    refine l_round ?_
    refine c_seq ?_
    refine c_region ?_
    refine o1 rfl (o_p (v := (.bool (decide (x2 < (p0.size : Int))))) rfl ?_)
    refine o_end ?_
    refine e_seq ?_
    refine c_seq ?_
    refine c_cond (b := (decide (x2 < (p0.size : Int)))) rfl (fun hb1439 => ?_) (fun hb1439 => ?_)
    · replace h := cond_t hb1439 h
      refine c_skip ?_
      refine e_seq ?_
      refine c_seq ?_
      refine c_block ?_
      refine c_seq ?_
      refine c_region ?_
      refine o1 rfl (o_p rfl ?_)
      refine o1 rfl (o_p rfl ?_)
      refine o_end ?_
      refine e_seq ?_
      refine c_seq ?_
      refine c_region ?_
      refine o1 rfl (o_p rfl ?_)
      refine o1 rfl (o_p rfl ?_)
      replace h := gsome h
      obtain ⟨hg1440, h⟩ := h
      refine o1 rfl (o_sidx (s := p0) (n := x2) rfl rfl rfl rfl hg1440 ?_)
      refine o1 rfl (o_p rfl ?_)
      refine o1 rfl (o_p (v := (.bool ((sbyte p0 x2) == p1))) rfl ?_)
      refine o_end ?_
      refine e_seq ?_
      refine c_cond (b := ((sbyte p0 x2) == p1)) rfl (fun hb1441 => ?_) (fun hb1441 => ?_)
      · replace h := cond_t hb1441 h
        refine c_seq ?_
        refine c_region ?_
        refine o1 rfl (o_p rfl ?_)
        refine o1 rfl (o_p (v := (.int .i64 (w64 (x2 + 1)))) rfl ?_)
        refine o1 rfl (o_p rfl ?_)
        refine o_end ?_
        refine e_seq ?_
        refine c_ret ?_
        refine e_blk_ret ?_
        refine e_then_ret ?_
        refine e_then_ret ?_
        refine e_blk_ret ?_
        refine ej_ret ?_
        replace h := esc_some h
        obtain ⟨z1, h, rfl⟩ := h
        obtain rfl := (hk1 : z1 = _)
        refine e_then_ret ?_
        refine e_ret ?_
        refine r_endt rfl rfl (kc rm0 kr) ?_
        have hr := Option.some.inj h
        subst hr
        exact hk
      · replace h := cond_f hb1441 h
        refine c_skip ?_
        refine e_blk ?_
        refine e_seq ?_
        refine c_region ?_
        refine o1 rfl (o_p (v := (.int .i64 (w64 (x2 + 1)))) rfl ?_)
        refine o1 rfl (o_p rfl ?_)
        refine o_end ?_
        exact e_loop (l_sub (sc rfl (sc rfl (sc rfl (sc rfl sn)))) (l_keep (kc rm0 kr) (ih2 (w64 (x2 + 1)) () trivial h)))
    · replace h := cond_f hb1439 h
      refine c_exit ?_
      refine e_then_exit ?_
      refine e_then_exit ?_
      refine e_blk_exit ?_
      have hd := Option.some.inj h
      subst hd
      exact ej () () rfl sn (kc rm0 kr)
  · rintro d1 i1 rfl
    replace h := JK_inl hk1
    clear hk1
    refine e_seq ?_
    refine c_seq ?_
    refine c_region ?_
    refine o1 rfl (o_p rfl ?_)
    refine o_end ?_
    refine e_seq ?_
    refine c_ret ?_
    refine e_ret ?_
    refine r_endt rfl rfl (kc rm0 kr) ?_
    have hr := Option.some.inj h
    subst hr
    exact hk

theorem c_keys_Short {g : Gw} (X : HP) (p0 : Int) (r : Bool) (h : m_keys_Short p0 = some r) : Tri env g 51 (List.toArray [(.int .u8 p0)]) [X] (fun K R => K (.bool r) (X :: R)) := by
  refine tri_of (fn := Try.f51) (N := 10) Try.func51 rfl rfl rfl ?_
  intro R K hk
  unfold m_keys_Short at h
  change GC _ none _ [] [(0, (.int .u8 p0))] (X :: R) g _ _
  refine c_seq ?_
  refine c_region ?_
  refine o1 rfl (o_p rfl ?_)
  refine o_end ?_
  refine e_seq ?_
  refine c_seq ?_
  replace h := bsome h
  obtain ⟨d1, h, hk1⟩ := h
  refine cj (D := Unit) (ι := Unit) (fun _ i1 => True) (fun _ i1 => [(2, (.bool d1))]) (fun _ i1 => X :: R) ?_ ?_
  · refine c_region ?_
    refine o1 rfl (o_p rfl ?_)
    refine o1 rfl (o_p (v := (.bool (p0 == 109))) rfl ?_)
    refine o1 rfl (o_p rfl ?_)
    rcases bool_or ((p0 == 109)) with hb1432 | hb1432
    · replace h := cond_t hb1432 h
      refine on rfl rfl rfl hb1432 ?_
      refine on rfl rfl rfl hb1432 ?_
      refine on rfl rfl rfl hb1432 ?_
      refine o1 rfl (o_pick_t rfl hb1432 rfl ?_)
      refine o1 rfl (o_p rfl ?_)
      refine o_end ?_
      have hd := Option.some.inj h
      subst hd
      exact ej () () trivial (sc rfl sn) (kc rm0 kr)
    · replace h := cond_f hb1432 h
      refine oy rfl rfl rfl hb1432 (o_p rfl ?_)
      replace h := bsome h
      obtain ⟨d2, h2, h⟩ := h
      refine oy rfl rfl rfl hb1432 (o_call has92 rfl (c_keys_place X (ByteArray.mk (List.toArray [108, 110, 107])) p0 _ h2) (pc rm0 pn) ?_)
      refine oy rfl rfl rfl hb1432 (o_p (v := (.bool (decide (d2 > 0)))) rfl ?_)
      refine o1 rfl (o_pick_f rfl hb1432 rfl ?_)
      refine o1 rfl (o_p rfl ?_)
      refine o_end ?_
      have hd := Option.some.inj h
      subst hd
      exact ej () () trivial (sc rfl sn) (kc rm0 kr)
  · rintro _ i1 _
    replace h := hk1
    clear hk1
    refine e_seq ?_
    refine c_ret ?_
    refine e_ret ?_
    refine r_endt rfl rfl (kc rm0 kr) ?_
    have hr := Option.some.inj h
    subst hr
    exact hk

theorem c_space_Space_Cursor {g : Gw} (X : HP) (p0 : Vspace_Space) (b0 : Nat) (s0 : SV) (r : Int) (h : m_space_Space_Cursor p0 = some r) : Tri env g 99 (List.toArray [(.pointer (some ⟨b0, 0, none⟩))]) [X, blk b0 (.cells (List.toArray [(.int .i64 p0.model), (.bool p0.alternate), (.int .i64 p0.size.Rows), (.int .i64 p0.size.Cols), (SV.val s0), (.int .i64 p0.cursor), (.int .i64 p0.attrs)]) 165 (0, 0)), slO s0 48 en_Vapi_Cell p0.cells] (fun K R => K (.int .i64 r) (X :: blk b0 (.cells (List.toArray [(.int .i64 p0.model), (.bool p0.alternate), (.int .i64 p0.size.Rows), (.int .i64 p0.size.Cols), (SV.val s0), (.int .i64 p0.cursor), (.int .i64 p0.attrs)]) 165 (0, 0)) :: slO s0 48 en_Vapi_Cell p0.cells :: R)) := by
  refine tri_of (fn := Try.f99) (N := 9) Try.func99 rfl rfl rfl ?_
  intro R K hk
  unfold m_space_Space_Cursor at h
  change GC _ none _ [] [(0, (.pointer (some ⟨b0, 0, none⟩)))] (X :: blk b0 (.cells (List.toArray [(.int .i64 p0.model), (.bool p0.alternate), (.int .i64 p0.size.Rows), (.int .i64 p0.size.Cols), (SV.val s0), (.int .i64 p0.cursor), (.int .i64 p0.attrs)]) 165 (0, 0)) :: slO s0 48 en_Vapi_Cell p0.cells :: R) g _ _
  refine c_seq ?_
  refine c_region ?_
  refine o1 rfl (o_p rfl ?_)
  refine o_end ?_
  refine e_seq ?_
  refine c_seq ?_
  refine c_seq ?_
  refine c_region ?_
  refine o1 rfl (o_p rfl ?_)
  refine o1 rfl (o_p (v := (.bool false)) rfl ?_)
  refine o_end ?_
  refine e_seq ?_
  refine c_cond_f rfl rfl ?_
  refine c_skip ?_
  refine e_seq ?_
  refine c_seq ?_
  refine c_region ?_
  refine o1 rfl (o_p rfl ?_)
  refine o1 rfl (o_p rfl ?_)
  refine o1 rfl (o_fa (fd := ⟨ "cursor", 3, 5, false, "", "vitrine/space", 56⟩) rfl rfl rfl rfl rfl ?_)
  refine o1 rfl (o_ld (b := b0) (off := 5) (v := (.int .i64 p0.cursor)) rfl rm1 rfl rfl ?_)
  refine o1 rfl (o_p rfl ?_)
  refine o_end ?_
  refine e_seq ?_
  refine c_ret ?_
  refine e_ret ?_
  refine r_endt rfl rfl (kc rm0 (kc rm0 (kc rm0 kr))) ?_
  have hr := Option.some.inj h
  subst hr
  exact hk

theorem c_read_sender_addr {g : Gw} (X : HP) (p0 : Vread_sender) (b0 : Nat) (s0 : SV) (p1 : Int) (r : Vread_sender) (h : m_read_sender_addr p0 p1 = some r) : Tri env g 89 (List.toArray [(.pointer (some ⟨b0, 0, none⟩)), (.int .i64 p1)]) [X, blk b0 (.cells (List.toArray [(SV.val s0), (.int .u8 p0.last.Char), (.bool p0.last.Attr), (.int .u8 p0.last.FA), (.int .u8 p0.last.High), (.int .u8 p0.last.Color), (.int .u8 p0.last.f_Set), (.int .i64 p0.mode)]) 130 (0, 0)), slO s0 5 (enI .u8) p0.out] (fun K R => ∀ (i0 : SV), K (.tuple (List.toArray [])) (X :: blk b0 (.cells (List.toArray [(SV.val i0), (.int .u8 r.last.Char), (.bool r.last.Attr), (.int .u8 r.last.FA), (.int .u8 r.last.High), (.int .u8 r.last.Color), (.int .u8 r.last.f_Set), (.int .i64 r.mode)]) 130 (0, 0)) :: slO i0 5 (enI .u8) r.out :: R)) := by
  refine tri_of (fn := Try.f89) (N := 22) Try.func89 rfl rfl rfl ?_
  intro R K hk
  unfold m_read_sender_addr at h
  change GC _ none _ [] [(0, (.pointer (some ⟨b0, 0, none⟩))), (1, (.int .i64 p1))] (X :: blk b0 (.cells (List.toArray [(SV.val s0), (.int .u8 p0.last.Char), (.bool p0.last.Attr), (.int .u8 p0.last.FA), (.int .u8 p0.last.High), (.int .u8 p0.last.Color), (.int .u8 p0.last.f_Set), (.int .i64 p0.mode)]) 130 (0, 0)) :: slO s0 5 (enI .u8) p0.out :: R) g _ _
  refine c_seq ?_
  refine c_region ?_
  refine o1 rfl (o_p rfl ?_)
  replace h := bsome h
  obtain ⟨d1, h1, h⟩ := h
  refine o1 rfl (o_call has60 rfl (c_addr_Encode X 12 p1 _ h1) (pc rm0 pn) (fun i1 => ?_))
  refine o1 rfl (o_p rfl ?_)
  refine o1 rfl (o_p rfl ?_)
  refine o1 rfl (o_p rfl ?_)
  refine o1 rfl (o_p rfl ?_)
  refine o1 rfl (o_p rfl ?_)
  refine o_end ?_
  refine e_seq ?_
  refine c_seq ?_
  refine c_region ?_
  refine o1 rfl (o_p rfl ?_)
  refine o1 rfl (o_p (v := (.bool (d1.2 == 0))) rfl ?_)
  refine o_end ?_
  refine e_seq ?_
  refine c_cond (b := (d1.2 == 0)) rfl (fun hb1452 => ?_) (fun hb1452 => ?_)
  · replace h := cond_t hb1452 h
    refine c_region ?_
    refine o1 rfl (o_p rfl ?_)
    refine o1 rfl (o_p rfl ?_)
    refine o1 rfl (o_p rfl ?_)
    refine o1 rfl (o_fa (fd := ⟨ "out", 31, 0, false, "", "vitrine/read", 0⟩) rfl rfl rfl rfl rfl ?_)
    refine o1 rfl (o_ld (b := b0) (off := 0) (v := (SV.val s0)) rfl rm2 rfl rfl ?_)
    refine o1 rfl (o_p rfl ?_)
    replace h := gsome h
    obtain ⟨hg1453, h⟩ := h
    refine o1 rfl (o_app (s := s0) (r := i1) (e := (enI .u8)) (l := p0.out) (l2 := d1.1) (zs := [(.int .u8 0)]) rfl rfl rfl rfl rfl rfl rfl rfl rfl rfl rfl rm3 rm1 (rd_own _ _ _ _) hg1453 (fun s1454 => ?_))
    refine o1 rfl (o_p rfl ?_)
    refine o1 rfl (o_fa (fd := ⟨ "out", 31, 0, false, "", "vitrine/read", 0⟩) rfl rfl rfl rfl rfl ?_)
    refine o0 (o_st (b := b0) (off := 0) (vs := [(SV.val s1454)]) (cs' := [(SV.val s1454), (.int .u8 p0.last.Char), (.bool p0.last.Attr), (.int .u8 p0.last.FA), (.int .u8 p0.last.High), (.int .u8 p0.last.Color), (.int .u8 p0.last.f_Set), (.int .i64 p0.mode)]) rfl rfl rp3 rfl rfl rfl rfl rfl rfl ?_)
    refine o_end ?_
    refine e_fall ?_
    refine r_endt rfl rfl (kc rm1 (kc rm2 (kc rm0 (kd kr)))) ?_
    have hr := Option.some.inj h
    subst hr
    exact hk s1454
  · replace h := cond_f hb1452 h
    refine c_skip ?_
    refine e_fall ?_
    refine r_endt rfl rfl (kc rm0 (kc rm1 (kc rm1 (kd kr)))) ?_
    have hr := Option.some.inj h
    subst hr
    exact hk s0

theorem c_read_begin {g : Gw} (X : HP) (p0 : Vspace_Space) (b0 : Nat) (s0 : SV) (p1 : Int) (p2 : Int) (p3 : Bool) (r : (Int) ⊕ (Vread_sender × Int)) (h : m_read_begin p0 p1 p2 p3 = some r) : Tri env g 66 (List.toArray [(.pointer (some ⟨b0, 0, none⟩)), (.int .u8 p1), (.int .i64 p2), (.bool p3)]) [X, blk b0 (.cells (List.toArray [(.int .i64 p0.model), (.bool p0.alternate), (.int .i64 p0.size.Rows), (.int .i64 p0.size.Cols), (SV.val s0), (.int .i64 p0.cursor), (.int .i64 p0.attrs)]) 165 (0, 0)), slO s0 48 en_Vapi_Cell p0.cells] (fun K R => match r with | .inl r => K (.tuple (List.toArray [(.pointer none), (.int .i64 r)])) (X :: blk b0 (.cells (List.toArray [(.int .i64 p0.model), (.bool p0.alternate), (.int .i64 p0.size.Rows), (.int .i64 p0.size.Cols), (SV.val s0), (.int .i64 p0.cursor), (.int .i64 p0.attrs)]) 165 (0, 0)) :: slO s0 48 en_Vapi_Cell p0.cells :: R) | .inr r => ∀ (i0 : Nat × SV), K (.tuple (List.toArray [(.pointer (some ⟨i0.1, 0, none⟩)), (.int .i64 r.2)])) (X :: blk b0 (.cells (List.toArray [(.int .i64 p0.model), (.bool p0.alternate), (.int .i64 p0.size.Rows), (.int .i64 p0.size.Cols), (SV.val s0), (.int .i64 p0.cursor), (.int .i64 p0.attrs)]) 165 (0, 0)) :: slO s0 48 en_Vapi_Cell p0.cells :: blk i0.1 (.cells (List.toArray [(SV.val i0.2), (.int .u8 r.1.last.Char), (.bool r.1.last.Attr), (.int .u8 r.1.last.FA), (.int .u8 r.1.last.High), (.int .u8 r.1.last.Color), (.int .u8 r.1.last.f_Set), (.int .i64 r.1.mode)]) 130 (0, 0)) :: slO i0.2 5 (enI .u8) r.1.out :: R)) := by
  refine tri_of (fn := Try.f66) (N := 33) Try.func66 rfl rfl rfl ?_
  intro R K hk
  unfold m_read_begin at h
  change GC _ none _ [] [(0, (.pointer (some ⟨b0, 0, none⟩))), (1, (.int .u8 p1)), (2, (.int .i64 p2)), (3, (.bool p3))] (X :: blk b0 (.cells (List.toArray [(.int .i64 p0.model), (.bool p0.alternate), (.int .i64 p0.size.Rows), (.int .i64 p0.size.Cols), (SV.val s0), (.int .i64 p0.cursor), (.int .i64 p0.attrs)]) 165 (0, 0)) :: slO s0 48 en_Vapi_Cell p0.cells :: R) g _ _
  refine c_seq ?_
  refine c_region ?_
  refine o1 rfl (o_p rfl ?_)
  refine o1 rfl (o_p rfl ?_)
  refine o_end ?_
  refine e_seq ?_
  refine c_seq ?_
  refine c_block ?_
  refine c_seq ?_
  refine c_region ?_
  refine o1 rfl (o_p rfl ?_)
  refine o1 rfl (o_p (v := (.bool false)) rfl ?_)
  refine o1 rfl (o_p rfl ?_)
  refine o_end ?_
  refine e_seq ?_
  refine c_cond_f rfl rfl ?_
  refine c_seq ?_
  replace h := bsome h
  obtain ⟨d2, h, hk2⟩ := h
  refine cj (D := Unit) (ι := Unit) (fun _ i2 => True) (fun _ i2 => [(14, (.bool d2)), (0, (.pointer (some ⟨b0, 0, none⟩))), (1, (.int .u8 p1)), (2, (.int .i64 p2)), (3, (.bool p3))]) (fun _ i2 => X :: blk b0 (.cells (List.toArray [(.int .i64 p0.model), (.bool p0.alternate), (.int .i64 p0.size.Rows), (.int .i64 p0.size.Cols), (SV.val s0), (.int .i64 p0.cursor), (.int .i64 p0.attrs)]) 165 (0, 0)) :: slO s0 48 en_Vapi_Cell p0.cells :: R) ?_ ?_
  · refine c_region ?_
    refine o1 rfl (o_p rfl ?_)
    refine o1 rfl (o_p (v := (.bool (decide (p2 < 0)))) rfl ?_)
    refine o1 rfl (o_p rfl ?_)
    rcases bool_or ((decide (p2 < 0))) with hb1444 | hb1444
    · replace h := cond_t hb1444 h
      refine on rfl rfl rfl hb1444 ?_
      refine on rfl rfl rfl hb1444 ?_
      refine o1 rfl (o_pick_t rfl hb1444 rfl ?_)
      refine o1 rfl (o_p rfl ?_)
      refine o_end ?_
      have hd := Option.some.inj h
      subst hd
      exact ej () () trivial (sc rfl (sc rfl (sc rfl (sc rfl (sc rfl sn))))) (kc rm0 (kc rm0 (kc rm0 kr)))
    · replace h := cond_f hb1444 h
      refine oy rfl rfl rfl hb1444 (o_p rfl ?_)
      refine oy rfl rfl rfl hb1444 (o_p (v := (.bool (decide (p2 > 2)))) rfl ?_)
      refine o1 rfl (o_pick_f rfl hb1444 rfl ?_)
      refine o1 rfl (o_p rfl ?_)
      refine o_end ?_
      have hd := Option.some.inj h
      subst hd
      exact ej () () trivial (sc rfl (sc rfl (sc rfl (sc rfl (sc rfl sn))))) (kc rm0 (kc rm0 (kc rm0 kr)))
  · rintro _ i2 _
    replace h := hk2
    clear hk2
    refine e_seq ?_
    refine c_cond (b := d2) rfl (fun hb1445 => ?_) (fun hb1445 => ?_)
    · replace h := cond_t hb1445 h
      refine c_seq ?_
      refine c_region ?_
      refine o1 rfl (o_p rfl ?_)
      refine o1 rfl (o_p rfl ?_)
      refine o_end ?_
      refine e_seq ?_
      refine c_ret ?_
      refine e_blk_ret ?_
      refine e_then_ret ?_
      refine e_ret ?_
      refine r_endt rfl rfl (kc rm0 (kc rm0 (kc rm0 kr))) ?_
      have hr := Option.some.inj h
      subst hr
      exact hk
    · replace h := cond_f hb1445 h
      refine c_skip ?_
      refine e_blk ?_
      refine e_seq ?_
      refine c_seq ?_
      refine c_region ?_
      refine o1 rfl (o_p rfl ?_)
      refine o1 rfl (o_bs (e := (enI .u8)) (l := [p1]) (zs := [(.int .u8 0)]) rfl rfl rfl rfl rfl rfl rfl rfl rfl rfl (fun s1446 => ?_))
      refine o1 rfl (o_p rfl ?_)
      refine o1 rfl (o_build (fs := [⟨ "out", 31, 0, false, "", "vitrine/read", 0⟩, ⟨ "last", 48, 1, false, "", "vitrine/read", 24⟩, ⟨ "mode", 3, 7, false, "", "vitrine/read", 32⟩]) (ps := [(0, 1), (1, 6), (7, 1)]) (cs := [(SV.val s1446), (.int .u8 0), (.bool false), (.int .u8 0), (.int .u8 0), (.int .u8 0), (.int .u8 0), (.int .i64 p2)]) rfl rfl rfl rfl rfl ?_)
      refine o1 rfl (o_box (cs := [(SV.val s1446), (.int .u8 0), (.bool false), (.int .u8 0), (.int .u8 0), (.int .u8 0), (.int .u8 0), (.int .i64 p2)]) rfl rfl (fun b1448 => ?_))
      refine o1 rfl (o_p rfl ?_)
      refine o_end ?_
      refine e_seq ?_
      refine c_seq ?_
      refine c_seq ?_
      refine c_region ?_
      refine o1 rfl (o_p rfl ?_)
      refine o1 rfl (o_p (v := (.bool (!p3))) rfl ?_)
      refine o_end ?_
      refine e_seq ?_
      replace h := bsome h
      obtain ⟨d4, h, hk4⟩ := h
      refine cj (D := Unit) (ι := SV) (fun _ i4 => True) (fun _ i4 => [(10, (.pointer (some ⟨b1448, 0, none⟩)))]) (fun _ i4 => X :: blk b1448 (.cells (List.toArray [(SV.val i4), (.int .u8 d4.2.1), (.bool d4.2.2.1), (.int .u8 d4.2.2.2.1), (.int .u8 d4.2.2.2.2.1), (.int .u8 d4.2.2.2.2.2.1), (.int .u8 d4.2.2.2.2.2.2.1), (.int .i64 d4.2.2.2.2.2.2.2)]) 130 (0, 0)) :: blk b0 (.cells (List.toArray [(.int .i64 p0.model), (.bool p0.alternate), (.int .i64 p0.size.Rows), (.int .i64 p0.size.Cols), (SV.val s0), (.int .i64 p0.cursor), (.int .i64 p0.attrs)]) 165 (0, 0)) :: slO i4 5 (enI .u8) d4.1 :: slO s0 48 en_Vapi_Cell p0.cells :: R) ?_ ?_
      · refine c_cond (b := (!p3)) rfl (fun hb1450 => ?_) (fun hb1450 => ?_)
        · replace h := cond_t hb1450 h
          refine c_region ?_
          refine o1 rfl (o_p rfl ?_)
          refine o1 rfl (o_p rfl ?_)
          replace h := bsome h
          obtain ⟨d5, h5, h⟩ := h
          refine o1 rfl (o_call has99 rfl (c_space_Space_Cursor X p0 b0 s0 _ h5) (pc rm2 (pc rm2 (pc rm2 pn))) ?_)
          replace h := bsome h
          obtain ⟨d6, h6, h⟩ := h
          refine o1 rfl (o_call has89 rfl (c_read_sender_addr X (⟨[p1], (⟨0, false, 0, 0, 0, 0⟩ : Vapi_Cell), p2⟩ : Vread_sender) b1448 s1446 d5 _ h6) (pc rm0 (pc rm2 (pc rm2 pn))) (fun i6 => ?_))
          refine o_end ?_
          have hd := Option.some.inj h
          subst hd
          exact ej () i6 trivial (sc rfl sn) (kc rm0 (kc rm0 (kc rm1 (kc rm0 (kc rm0 kr)))))
        · replace h := cond_f hb1450 h
          refine c_skip ?_
          have hd := Option.some.inj h
          subst hd
          exact ej () s1446 trivial (sc rfl sn) (kc rm2 (kc rm0 (kc rm1 (kc rm0 (kc rm0 kr)))))
      · rintro _ i4 _
        replace h := hk4
        clear hk4
        refine e_seq ?_
        refine c_seq ?_
        refine c_region ?_
        refine o1 rfl (o_p rfl ?_)
        refine o1 rfl (o_p rfl ?_)
        refine o1 rfl (o_p rfl ?_)
        refine o_end ?_
        refine e_seq ?_
        refine c_ret ?_
        refine e_ret ?_
        refine r_endt rfl rfl (kc rm0 (kc rm1 (kc rm2 (kc rm0 (kc rm0 kr))))) ?_
        have hr := Option.some.inj h
        subst hr
        exact hk (b1448, i4)

theorem c_read_bytesOf {g : Gw} (X : HP) (p0 : Vread_sender) (b0 : Nat) (s0 : SV) (r : Vread_sender × (List Int)) (h : m_read_bytesOf p0 = some r) : Tri env g 85 (List.toArray [(.pointer (some ⟨b0, 0, none⟩))]) [X, blk b0 (.cells (List.toArray [(SV.val s0), (.int .u8 p0.last.Char), (.bool p0.last.Attr), (.int .u8 p0.last.FA), (.int .u8 p0.last.High), (.int .u8 p0.last.Color), (.int .u8 p0.last.f_Set), (.int .i64 p0.mode)]) 130 (0, 0)), slO s0 5 (enI .u8) p0.out] (fun K R => ∀ (i0 : HP), (Rd i0 s0 5 (enI .u8) r.1.out) → (Rd i0 s0 5 (enI .u8) r.2) → (Ext X i0) → K (SV.val s0) (i0 :: blk b0 (.cells (List.toArray [(SV.val s0), (.int .u8 r.1.last.Char), (.bool r.1.last.Attr), (.int .u8 r.1.last.FA), (.int .u8 r.1.last.High), (.int .u8 r.1.last.Color), (.int .u8 r.1.last.f_Set), (.int .i64 r.1.mode)]) 130 (0, 0)) :: R)) := by
  refine tri_of (fn := Try.f85) (N := 9) Try.func85 rfl rfl rfl ?_
  intro R K hk
  unfold m_read_bytesOf at h
  change GC _ none _ [] [(0, (.pointer (some ⟨b0, 0, none⟩)))] (X :: blk b0 (.cells (List.toArray [(SV.val s0), (.int .u8 p0.last.Char), (.bool p0.last.Attr), (.int .u8 p0.last.FA), (.int .u8 p0.last.High), (.int .u8 p0.last.Color), (.int .u8 p0.last.f_Set), (.int .i64 p0.mode)]) 130 (0, 0)) :: slO s0 5 (enI .u8) p0.out :: R) g _ _
  refine c_seq ?_
  refine c_region ?_
  refine o1 rfl (o_p rfl ?_)
  refine o_end ?_
  refine e_seq ?_
  refine c_seq ?_
  refine c_seq ?_
  refine c_region ?_
  refine o1 rfl (o_p rfl ?_)
  refine o1 rfl (o_p (v := (.bool false)) rfl ?_)
  refine o_end ?_
  refine e_seq ?_
  refine c_cond_f rfl rfl ?_
  refine c_skip ?_
  refine e_seq ?_
  refine c_seq ?_
  refine c_region ?_
  refine o1 rfl (o_p rfl ?_)
  refine o1 rfl (o_p rfl ?_)
  refine o1 rfl (o_fa (fd := ⟨ "out", 31, 0, false, "", "vitrine/read", 0⟩) rfl rfl rfl rfl rfl ?_)
  refine o1 rfl (o_ld (b := b0) (off := 0) (v := (SV.val s0)) rfl rm1 rfl rfl ?_)
  refine o1 rfl (o_p rfl ?_)
  refine o_end ?_
  refine e_seq ?_
  refine c_ret ?_
  refine e_ret ?_
  refine r_fz rm2 rm0 (fun X1468 hx1469 hs1470 => ?_)
  refine r_endt rfl rfl (kc rm0 (kc rm0 kr)) ?_
  have hr := Option.some.inj h
  subst hr
  exact hk X1468 hs1470 hs1470 hx1469

theorem c_space_Space_Formatted {g : Gw} (X : HP) (p0 : Vspace_Space) (b0 : Nat) (s0 : SV) (r : Bool) (h : m_space_Space_Formatted p0 = some r) : Tri env g 86 (List.toArray [(.pointer (some ⟨b0, 0, none⟩))]) [X, blk b0 (.cells (List.toArray [(.int .i64 p0.model), (.bool p0.alternate), (.int .i64 p0.size.Rows), (.int .i64 p0.size.Cols), (SV.val s0), (.int .i64 p0.cursor), (.int .i64 p0.attrs)]) 165 (0, 0)), slO s0 48 en_Vapi_Cell p0.cells] (fun K R => K (.bool r) (X :: blk b0 (.cells (List.toArray [(.int .i64 p0.model), (.bool p0.alternate), (.int .i64 p0.size.Rows), (.int .i64 p0.size.Cols), (SV.val s0), (.int .i64 p0.cursor), (.int .i64 p0.attrs)]) 165 (0, 0)) :: slO s0 48 en_Vapi_Cell p0.cells :: R)) := by
  refine tri_of (fn := Try.f86) (N := 12) Try.func86 rfl rfl rfl ?_
  intro R K hk
  unfold m_space_Space_Formatted at h
  change GC _ none _ [] [(0, (.pointer (some ⟨b0, 0, none⟩)))] (X :: blk b0 (.cells (List.toArray [(.int .i64 p0.model), (.bool p0.alternate), (.int .i64 p0.size.Rows), (.int .i64 p0.size.Cols), (SV.val s0), (.int .i64 p0.cursor), (.int .i64 p0.attrs)]) 165 (0, 0)) :: slO s0 48 en_Vapi_Cell p0.cells :: R) g _ _
  refine c_seq ?_
  refine c_region ?_
  refine o1 rfl (o_p rfl ?_)
  refine o_end ?_
  refine e_seq ?_
  refine c_seq ?_
  refine c_region ?_
  refine o1 rfl (o_p rfl ?_)
  refine o1 rfl (o_p (v := (.bool true)) rfl ?_)
  refine o1 rfl (o_p rfl ?_)
  refine oy rfl rfl rfl rfl (o_p rfl ?_)
  refine oy rfl rfl rfl rfl (o_p rfl ?_)
  refine oy rfl rfl rfl rfl (o_fa (fd := ⟨ "attrs", 3, 6, false, "", "vitrine/space", 64⟩) rfl rfl rfl rfl rfl ?_)
  refine oy rfl rfl rfl rfl (o_ld (b := b0) (off := 6) (v := (.int .i64 p0.attrs)) rfl rm1 rfl rfl ?_)
  refine oy rfl rfl rfl rfl (o_p (v := (.bool (decide (p0.attrs > 0)))) rfl ?_)
  refine o1 rfl (o_pick_t rfl rfl rfl ?_)
  refine o1 rfl (o_p rfl ?_)
  refine o_end ?_
  refine e_seq ?_
  refine c_ret ?_
  refine e_ret ?_
  refine r_endt rfl rfl (kc rm0 (kc rm0 (kc rm0 kr))) ?_
  have hr := Option.some.inj h
  subst hr
  exact hk

theorem c_space_Space_All {g : Gw} (X : HP) (p0 : Vspace_Space) (b0 : Nat) (s0 : SV) (r : Unit) (h : m_space_Space_All p0 = some r) : Tri env g 67 (List.toArray [(.pointer (some ⟨b0, 0, none⟩))]) [X, blk b0 (.cells (List.toArray [(.int .i64 p0.model), (.bool p0.alternate), (.int .i64 p0.size.Rows), (.int .i64 p0.size.Cols), (SV.val s0), (.int .i64 p0.cursor), (.int .i64 p0.attrs)]) 165 (0, 0)), slO s0 48 en_Vapi_Cell p0.cells] (fun K R => ∀ (i0 : Nat), K (.func (.func 100) #[] (List.toArray [(.pointer (some ⟨i0, 0, none⟩))])) (X :: blk b0 (.cells (List.toArray [(.int .i64 p0.model), (.bool p0.alternate), (.int .i64 p0.size.Rows), (.int .i64 p0.size.Cols), (SV.val s0), (.int .i64 p0.cursor), (.int .i64 p0.attrs)]) 165 (0, 0)) :: slO s0 48 en_Vapi_Cell p0.cells :: blk i0 (.cells (List.toArray [(.pointer (some ⟨b0, 0, none⟩))]) 24 (0, 0)) :: R)) := by
  refine tri_of (fn := Try.f67) (N := 4) Try.func67 rfl rfl rfl ?_
  intro R K hk
  unfold m_space_Space_All at h
  change GC _ none _ [] [(0, (.pointer (some ⟨b0, 0, none⟩)))] (X :: blk b0 (.cells (List.toArray [(.int .i64 p0.model), (.bool p0.alternate), (.int .i64 p0.size.Rows), (.int .i64 p0.size.Cols), (SV.val s0), (.int .i64 p0.cursor), (.int .i64 p0.attrs)]) 165 (0, 0)) :: slO s0 48 en_Vapi_Cell p0.cells :: R) g _ _
  refine c_seq ?_
  refine c_region ?_
  refine o1 rfl (o_box (cs := [(.pointer (some ⟨b0, 0, none⟩))]) rfl rfl (fun b1472 => ?_))
  refine o1 rfl (o_p rfl ?_)
  refine o_end ?_
  refine e_seq ?_
  refine c_seq ?_
  refine c_region ?_
  refine o1 rfl (o_p rfl ?_)
  refine o1 rfl (o_p rfl ?_)
  refine o_end ?_
  refine e_seq ?_
  refine c_ret ?_
  refine e_ret ?_
  refine r_endt rfl rfl (kc rm1 (kc rm1 (kc rm1 (kc rm0 kr)))) ?_
  have hr := Option.some.inj h
  subst hr
  exact hk b1472

theorem c_space_Space_Size {g : Gw} (X : HP) (p0 : Vspace_Space) (b0 : Nat) (s0 : SV) (r : Vaddr_Size) (h : m_space_Space_Size p0 = some r) : Tri env g 70 (List.toArray [(.pointer (some ⟨b0, 0, none⟩))]) [X, blk b0 (.cells (List.toArray [(.int .i64 p0.model), (.bool p0.alternate), (.int .i64 p0.size.Rows), (.int .i64 p0.size.Cols), (SV.val s0), (.int .i64 p0.cursor), (.int .i64 p0.attrs)]) 165 (0, 0)), slO s0 48 en_Vapi_Cell p0.cells] (fun K R => K (.agg (List.toArray [(.int .i64 r.Rows), (.int .i64 r.Cols)])) (X :: blk b0 (.cells (List.toArray [(.int .i64 p0.model), (.bool p0.alternate), (.int .i64 p0.size.Rows), (.int .i64 p0.size.Cols), (SV.val s0), (.int .i64 p0.cursor), (.int .i64 p0.attrs)]) 165 (0, 0)) :: slO s0 48 en_Vapi_Cell p0.cells :: R)) := by
  refine tri_of (fn := Try.f70) (N := 10) Try.func70 rfl rfl rfl ?_
  intro R K hk
  unfold m_space_Space_Size at h
  change GC _ none _ [] [(0, (.pointer (some ⟨b0, 0, none⟩)))] (X :: blk b0 (.cells (List.toArray [(.int .i64 p0.model), (.bool p0.alternate), (.int .i64 p0.size.Rows), (.int .i64 p0.size.Cols), (SV.val s0), (.int .i64 p0.cursor), (.int .i64 p0.attrs)]) 165 (0, 0)) :: slO s0 48 en_Vapi_Cell p0.cells :: R) g _ _
  refine c_seq ?_
  refine c_region ?_
  refine o1 rfl (o_alloc (cs := [(.int .i64 0), (.int .i64 0)]) rfl rfl (fun b1475 => ?_))
  refine o_end ?_
  refine e_seq ?_
  refine c_seq ?_
  refine c_seq ?_
  refine c_region ?_
  refine o1 rfl (o_p rfl ?_)
  refine o1 rfl (o_p (v := (.bool false)) rfl ?_)
  refine o_end ?_
  refine e_seq ?_
  refine c_cond_f rfl rfl ?_
  refine c_skip ?_
  refine e_seq ?_
  refine c_seq ?_
  refine c_region ?_
  refine o1 rfl (o_p rfl ?_)
  refine o1 rfl (o_p rfl ?_)
  refine o1 rfl (o_fa (fd := ⟨ "size", 131, 2, false, "", "vitrine/space", 16⟩) rfl rfl rfl rfl rfl ?_)
  refine o1 rfl (o_ld (b := b0) (off := 2) (v := (.agg (List.toArray [(.int .i64 p0.size.Rows), (.int .i64 p0.size.Cols)]))) rfl rm2 rfl rfl ?_)
  refine o0 (o_st (b := b1475) (off := 0) (vs := [(.int .i64 p0.size.Rows), (.int .i64 p0.size.Cols)]) (cs' := [(.int .i64 p0.size.Rows), (.int .i64 p0.size.Cols)]) rfl rfl rp0 rfl rfl rfl rfl rfl rfl ?_)
  refine o_end ?_
  refine e_seq ?_
  refine c_ret ?_
  refine e_ret ?_
  refine r_endc (B := [[(.int .i64 p0.size.Rows), (.int .i64 p0.size.Cols)]]) rfl ⟨⟨_, _, _, _, rfl, rm0⟩, trivial⟩ rfl (kc rm1 (kc rm1 (kc rm1 (kd kr)))) ?_
  have hr := Option.some.inj h
  subst hr
  exact hk

theorem c_space_Space_At {g : Gw} (X : HP) (p0 : Vspace_Space) (b0 : Nat) (s0 : SV) (p1 : Int) (r : Vapi_Cell) (h : m_space_Space_At p0 p1 = some r) : Tri env g 91 (List.toArray [(.pointer (some ⟨b0, 0, none⟩)), (.int .i64 p1)]) [X, blk b0 (.cells (List.toArray [(.int .i64 p0.model), (.bool p0.alternate), (.int .i64 p0.size.Rows), (.int .i64 p0.size.Cols), (SV.val s0), (.int .i64 p0.cursor), (.int .i64 p0.attrs)]) 165 (0, 0)), slO s0 48 en_Vapi_Cell p0.cells] (fun K R => K (.agg (List.toArray [(.int .u8 r.Char), (.bool r.Attr), (.int .u8 r.FA), (.int .u8 r.High), (.int .u8 r.Color), (.int .u8 r.f_Set)])) (X :: blk b0 (.cells (List.toArray [(.int .i64 p0.model), (.bool p0.alternate), (.int .i64 p0.size.Rows), (.int .i64 p0.size.Cols), (SV.val s0), (.int .i64 p0.cursor), (.int .i64 p0.attrs)]) 165 (0, 0)) :: slO s0 48 en_Vapi_Cell p0.cells :: R)) := by
  refine tri_of (fn := Try.f91) (N := 20) Try.func91 rfl rfl rfl ?_
  intro R K hk
  unfold m_space_Space_At at h
  change GC _ none _ [] [(0, (.pointer (some ⟨b0, 0, none⟩))), (1, (.int .i64 p1))] (X :: blk b0 (.cells (List.toArray [(.int .i64 p0.model), (.bool p0.alternate), (.int .i64 p0.size.Rows), (.int .i64 p0.size.Cols), (SV.val s0), (.int .i64 p0.cursor), (.int .i64 p0.attrs)]) 165 (0, 0)) :: slO s0 48 en_Vapi_Cell p0.cells :: R) g _ _
  refine c_seq ?_
  refine c_region ?_
  refine o1 rfl (o_alloc (cs := [(.int .u8 0), (.bool false), (.int .u8 0), (.int .u8 0), (.int .u8 0), (.int .u8 0)]) rfl rfl (fun b1478 => ?_))
  refine o_end ?_
  refine e_seq ?_
  refine c_seq ?_
  refine c_seq ?_
  refine c_region ?_
  refine o1 rfl (o_p rfl ?_)
  refine o1 rfl (o_p (v := (.bool false)) rfl ?_)
  refine o_end ?_
  refine e_seq ?_
  refine c_cond_f rfl rfl ?_
  refine c_skip ?_
  refine e_seq ?_
  refine c_seq ?_
  refine c_draw (n := 2) (q := [(0, 8, (.pointer (some ⟨b0, 0, none⟩))), (1, 9, (.pointer (some ⟨b0, 0, none⟩))), (2, 10, (.pointer (some ⟨b0, 4, none⟩))), (3, 11, (SV.val s0)), (4, 12, (.pointer (some ⟨b0, 0, none⟩))), (5, 13, (.pointer (some ⟨b0, 0, none⟩))), (6, 14, (.pointer (some ⟨b0, 2, none⟩))), (7, 15, (.agg (List.toArray [(.int .i64 p0.size.Rows), (.int .i64 p0.size.Cols)]))), (8, 16, (.int .i64 p1))]) (pend := [0, 1, 2, 3, 4, 5, 6, 7, 8]) rfl rfl rfl ?_
  replace h := bsome h
  obtain ⟨d2, h2, h⟩ := h
  refine ⟨⟨fun _ => ⟨rfl, rfl, rfl, .inl ⟨rfl, (o_p rfl ⟨rfl, rfl⟩)⟩⟩, fun _ => ⟨rfl, rfl, rfl, .inl ⟨rfl, (o_p rfl ⟨rfl, rfl⟩)⟩⟩, fun _ => ⟨rfl, rfl, rfl, .inl ⟨rfl, (o_fa (fd := ⟨ "cells", 39, 4, false, "", "vitrine/space", 32⟩) rfl rfl rfl rfl rfl ⟨rfl, rfl⟩)⟩⟩, fun _ => ⟨rfl, rfl, rfl, .inl ⟨rfl, (o_ld (b := b0) (off := 4) (v := (SV.val s0)) rfl rm2 rfl rfl ⟨rfl, rfl⟩)⟩⟩, fun _ => ⟨rfl, rfl, rfl, .inl ⟨rfl, (o_p rfl ⟨rfl, rfl⟩)⟩⟩, fun _ => ⟨rfl, rfl, rfl, .inl ⟨rfl, (o_p rfl ⟨rfl, rfl⟩)⟩⟩, fun _ => ⟨rfl, rfl, rfl, .inl ⟨rfl, (o_fa (fd := ⟨ "size", 131, 2, false, "", "vitrine/space", 16⟩) rfl rfl rfl rfl rfl ⟨rfl, rfl⟩)⟩⟩, fun _ => ⟨rfl, rfl, rfl, .inl ⟨rfl, (o_ld (b := b0) (off := 2) (v := (.agg (List.toArray [(.int .i64 p0.size.Rows), (.int .i64 p0.size.Cols)]))) rfl rm2 rfl rfl ⟨rfl, rfl⟩)⟩⟩, fun _ => ⟨rfl, rfl, rfl, .inl ⟨rfl, (o_p rfl ⟨rfl, rfl⟩)⟩⟩, trivial⟩, rfl, .inr ⟨[9], rfl, rfl, ⟨rfl, .inl rfl, ?_⟩, trivial⟩⟩
  refine (o_call has83 rfl (c_addr_Size_Wrap X p0.size p1 _ h2) (pc rm1 pn) ?_)
  replace h := gsome h
  obtain ⟨hg1480, h⟩ := h
  refine ⟨[(10, 18, (.pointer (some ⟨SV.blk s0, SV.off s0 + Int.toNat d2 * 6, none⟩))), (11, 19, (.agg (List.toArray [(.int .u8 ((rd p0.cells d2).Char)), (.bool ((rd p0.cells d2).Attr)), (.int .u8 ((rd p0.cells d2).FA)), (.int .u8 ((rd p0.cells d2).High)), (.int .u8 ((rd p0.cells d2).Color)), (.int .u8 ((rd p0.cells d2).f_Set))])))], [0, 1, 2, 3, 10, 11], rfl, rfl, rfl, rfl, ?_⟩
  refine ⟨⟨fun _ => ⟨rfl, rfl, rfl, .inl ⟨rfl, (o_ix (s := s0) (n := d2) (e := en_Vapi_Cell) rfl rfl rfl rfl rfl rfl rm3 (rd_own _ _ _ _) hg1480 ⟨rfl, rfl⟩)⟩⟩, fun _ => ⟨rfl, rfl, rfl, .inl ⟨rfl, (o_ldE (s := s0) (e := en_Vapi_Cell) (n := d2) (f := 0) (v := (.agg (List.toArray [(.int .u8 ((rd p0.cells d2).Char)), (.bool ((rd p0.cells d2).Attr)), (.int .u8 ((rd p0.cells d2).FA)), (.int .u8 ((rd p0.cells d2).High)), (.int .u8 ((rd p0.cells d2).Color)), (.int .u8 ((rd p0.cells d2).f_Set))]))) rfl rm3 (rd_own _ _ _ _) hg1480 rfl rfl ⟨rfl, rfl⟩)⟩⟩, fun _ => ⟨rfl, rfl, rfl, .inl ⟨rfl, (o_p rfl ⟨rfl, rfl⟩)⟩⟩, fun _ => ⟨rfl, rfl, rfl, .inl ⟨rfl, (o_p rfl ⟨rfl, rfl⟩)⟩⟩, fun _ => ⟨rfl, rfl, rfl, .inl ⟨rfl, (o_fa (fd := ⟨ "cells", 39, 4, false, "", "vitrine/space", 32⟩) rfl rfl rfl rfl rfl ⟨rfl, rfl⟩)⟩⟩, fun _ => ⟨rfl, rfl, rfl, .inl ⟨rfl, (o_ld (b := b0) (off := 4) (v := (SV.val s0)) rfl rm2 rfl rfl ⟨rfl, rfl⟩)⟩⟩, (fun h => nomatch h), (fun h => nomatch h), (fun h => nomatch h), (fun h => nomatch h), (fun h => nomatch h), trivial⟩, rfl, .inr ⟨[12], rfl, rfl, ⟨rfl, .inl rfl, ?_⟩, trivial⟩⟩
  refine (o_st (b := b1478) (off := 0) (vs := [(.int .u8 ((rd p0.cells d2).Char)), (.bool ((rd p0.cells d2).Attr)), (.int .u8 ((rd p0.cells d2).FA)), (.int .u8 ((rd p0.cells d2).High)), (.int .u8 ((rd p0.cells d2).Color)), (.int .u8 ((rd p0.cells d2).f_Set))]) (cs' := [(.int .u8 ((rd p0.cells d2).Char)), (.bool ((rd p0.cells d2).Attr)), (.int .u8 ((rd p0.cells d2).FA)), (.int .u8 ((rd p0.cells d2).High)), (.int .u8 ((rd p0.cells d2).Color)), (.int .u8 ((rd p0.cells d2).f_Set))]) rfl rfl rp1 rfl rfl rfl rfl rfl rfl ?_)
  refine ⟨[], [], rfl, rfl, ?_⟩
  refine ⟨⟨(fun h => nomatch h), (fun h => nomatch h), (fun h => nomatch h), (fun h => nomatch h), (fun h => nomatch h), (fun h => nomatch h), (fun h => nomatch h), (fun h => nomatch h), (fun h => nomatch h), (fun h => nomatch h), (fun h => nomatch h), trivial⟩, rfl, rfl, rfl, ?_⟩
  refine e_seq ?_
  refine c_ret ?_
  refine e_ret ?_
  refine r_endc (B := [[(.int .u8 ((rd p0.cells d2).Char)), (.bool ((rd p0.cells d2).Attr)), (.int .u8 ((rd p0.cells d2).FA)), (.int .u8 ((rd p0.cells d2).High)), (.int .u8 ((rd p0.cells d2).Color)), (.int .u8 ((rd p0.cells d2).f_Set))]]) rfl ⟨⟨_, _, _, _, rfl, rm1⟩, trivial⟩ rfl (kc rm0 (kc rm1 (kc rm1 (kd kr)))) ?_
  have hr := Option.some.inj h
  subst hr
  exact hk

theorem c_attr_looks {g : Gw} (X : HP) (p0 : Vapi_Cell) (r : (Vattr_Pair × Vattr_Pair × Vattr_Pair)) (h : m_attr_looks p0 = some r) : Tri env g 128 (List.toArray [(.agg (List.toArray [(.int .u8 p0.Char), (.bool p0.Attr), (.int .u8 p0.FA), (.int .u8 p0.High), (.int .u8 p0.Color), (.int .u8 p0.f_Set)]))]) [X] (fun K R => K (.agg (List.toArray [(.int .u8 r.1.f_Type), (.int .u8 r.1.Value), (.int .u8 r.2.1.f_Type), (.int .u8 r.2.1.Value), (.int .u8 r.2.2.f_Type), (.int .u8 r.2.2.Value)])) (X :: R)) := by
  refine tri_of (fn := Try.f128) (N := 13) Try.func128 rfl rfl rfl ?_
  intro R K hk
  unfold m_attr_looks at h
  change GC _ none _ [] [(0, (.agg (List.toArray [(.int .u8 p0.Char), (.bool p0.Attr), (.int .u8 p0.FA), (.int .u8 p0.High), (.int .u8 p0.Color), (.int .u8 p0.f_Set)])))] (X :: R) g _ _
  refine c_seq ?_
  refine c_region ?_
  refine o1 rfl (o_box (cs := [(.int .u8 p0.Char), (.bool p0.Attr), (.int .u8 p0.FA), (.int .u8 p0.High), (.int .u8 p0.Color), (.int .u8 p0.f_Set)]) rfl rfl (fun b1493 => ?_))
  refine o1 rfl (o_alloc (cs := [(.int .u8 0), (.int .u8 0), (.int .u8 0), (.int .u8 0), (.int .u8 0), (.int .u8 0)]) rfl rfl (fun b1495 => ?_))
  refine o_end ?_
  refine e_seq ?_
  refine c_seq ?_
  refine c_region ?_
  refine o1 rfl (o_fa (fd := ⟨ "High", 5, 3, false, "", "", 3⟩) rfl rfl rfl rfl rfl ?_)
  refine o1 rfl (o_ld (b := b1493) (off := 3) (v := (.int .u8 p0.High)) rfl rm1 rfl rfl ?_)
  refine o1 rfl (o_build (fs := [⟨ "Type", 5, 0, false, "", "", 0⟩, ⟨ "Value", 5, 1, false, "", "", 1⟩]) (ps := [(0, 1), (1, 1)]) (cs := [(.int .u8 65), (.int .u8 p0.High)]) rfl rfl rfl rfl rfl ?_)
  refine o1 rfl (o_fa (fd := ⟨ "Color", 5, 4, false, "", "", 4⟩) rfl rfl rfl rfl rfl ?_)
  refine o1 rfl (o_ld (b := b1493) (off := 4) (v := (.int .u8 p0.Color)) rfl rm1 rfl rfl ?_)
  refine o1 rfl (o_build (fs := [⟨ "Type", 5, 0, false, "", "", 0⟩, ⟨ "Value", 5, 1, false, "", "", 1⟩]) (ps := [(0, 1), (1, 1)]) (cs := [(.int .u8 66), (.int .u8 p0.Color)]) rfl rfl rfl rfl rfl ?_)
  refine o1 rfl (o_fa (fd := ⟨ "Set", 5, 5, false, "", "", 5⟩) rfl rfl rfl rfl rfl ?_)
  refine o1 rfl (o_ld (b := b1493) (off := 5) (v := (.int .u8 p0.f_Set)) rfl rm1 rfl rfl ?_)
  refine o1 rfl (o_build (fs := [⟨ "Type", 5, 0, false, "", "", 0⟩, ⟨ "Value", 5, 1, false, "", "", 1⟩]) (ps := [(0, 1), (1, 1)]) (cs := [(.int .u8 67), (.int .u8 p0.f_Set)]) rfl rfl rfl rfl rfl ?_)
  refine o1 rfl (o_buildA (cs := [(.int .u8 65), (.int .u8 p0.High), (.int .u8 66), (.int .u8 p0.Color), (.int .u8 67), (.int .u8 p0.f_Set)]) rfl rfl rfl rfl rfl ?_)
  refine o0 (o_st (b := b1495) (off := 0) (vs := [(.int .u8 65), (.int .u8 p0.High), (.int .u8 66), (.int .u8 p0.Color), (.int .u8 67), (.int .u8 p0.f_Set)]) (cs' := [(.int .u8 65), (.int .u8 p0.High), (.int .u8 66), (.int .u8 p0.Color), (.int .u8 67), (.int .u8 p0.f_Set)]) rfl rfl rp0 rfl rfl rfl rfl rfl rfl ?_)
  refine o_end ?_
  refine e_seq ?_
  refine c_ret ?_
  refine e_ret ?_
  refine r_endc (B := [[(.int .u8 65), (.int .u8 p0.High), (.int .u8 66), (.int .u8 p0.Color), (.int .u8 67), (.int .u8 p0.f_Set)]]) rfl ⟨⟨_, _, _, _, rfl, rm0⟩, trivial⟩ rfl (kc rm2 (kd (kd kr))) ?_
  have hr := Option.some.inj h
  subst hr
  exact hk

theorem c_attr_Diff {g : Gw} (X : HP) (p0 : Vapi_Cell) (p1 : Vapi_Cell) (r : (List Vattr_Pair)) (h : m_attr_Diff p0 p1 = some r) : Tri env g 103 (List.toArray [(.agg (List.toArray [(.int .u8 p0.Char), (.bool p0.Attr), (.int .u8 p0.FA), (.int .u8 p0.High), (.int .u8 p0.Color), (.int .u8 p0.f_Set)])), (.agg (List.toArray [(.int .u8 p1.Char), (.bool p1.Attr), (.int .u8 p1.FA), (.int .u8 p1.High), (.int .u8 p1.Color), (.int .u8 p1.f_Set)]))]) [X] (fun K R => ∀ (i0 : SV), K (SV.val i0) (X :: slO i0 196 en_Vattr_Pair r :: R)) := by
  refine tri_of (fn := Try.f103) (N := 33) Try.func103 rfl rfl rfl ?_
  intro R K hk
  unfold m_attr_Diff at h
  change GC _ none _ [] [(0, (.agg (List.toArray [(.int .u8 p0.Char), (.bool p0.Attr), (.int .u8 p0.FA), (.int .u8 p0.High), (.int .u8 p0.Color), (.int .u8 p0.f_Set)]))), (1, (.agg (List.toArray [(.int .u8 p1.Char), (.bool p1.Attr), (.int .u8 p1.FA), (.int .u8 p1.High), (.int .u8 p1.Color), (.int .u8 p1.f_Set)])))] (X :: R) g _ _
  refine c_seq ?_
  refine c_region ?_
  refine o1 rfl (o_box (cs := [(.int .u8 p0.Char), (.bool p0.Attr), (.int .u8 p0.FA), (.int .u8 p0.High), (.int .u8 p0.Color), (.int .u8 p0.f_Set)]) rfl rfl (fun b1489 => ?_))
  refine o1 rfl (o_box (cs := [(.int .u8 p1.Char), (.bool p1.Attr), (.int .u8 p1.FA), (.int .u8 p1.High), (.int .u8 p1.Color), (.int .u8 p1.f_Set)]) rfl rfl (fun b1491 => ?_))
  refine o1 rfl (o_p rfl ?_)
  refine o_end ?_
  refine e_seq ?_
  refine c_seq ?_
  refine c_region ?_
  refine o1 rfl (o_p rfl ?_)
  refine o_end ?_
  refine e_seq ?_
  refine c_seq ?_
  replace h := bsome h
  obtain ⟨d1, h, hk1⟩ := h
  refine cj (D := Unit) (ι := Nat × Nat) (fun _ i1 => True) (fun _ i1 => [(7, (.pointer (some ⟨i1.1, 0, none⟩))), (6, (.pointer (some ⟨i1.2, 0, none⟩))), (5, (SV.val SV.nil))]) (fun _ i1 => X :: blk i1.1 (.cells (List.toArray [(.int .u8 d1.1), (.int .u8 d1.2.1), (.int .u8 d1.2.2.1), (.int .u8 d1.2.2.2.1), (.int .u8 d1.2.2.2.2.1), (.int .u8 d1.2.2.2.2.2.1)]) 228 (0, 0)) :: blk i1.2 (.cells (List.toArray [(.int .u8 d1.2.2.2.2.2.2.1), (.int .u8 d1.2.2.2.2.2.2.2.1), (.int .u8 d1.2.2.2.2.2.2.2.2.1), (.int .u8 d1.2.2.2.2.2.2.2.2.2.1), (.int .u8 d1.2.2.2.2.2.2.2.2.2.2.1), (.int .u8 d1.2.2.2.2.2.2.2.2.2.2.2)]) 228 (0, 0)) :: R) ?_ ?_
  · replace h := bsome h
    obtain ⟨d2, h2, h⟩ := h
    replace h := bsome h
    obtain ⟨d3, h3, h⟩ := h
    refine c_draw (n := 6) (q := [(0, 10, (.agg (List.toArray [(.int .u8 p0.Char), (.bool p0.Attr), (.int .u8 p0.FA), (.int .u8 p0.High), (.int .u8 p0.Color), (.int .u8 p0.f_Set)]))), (2, 12, (.agg (List.toArray [(.int .u8 p1.Char), (.bool p1.Attr), (.int .u8 p1.FA), (.int .u8 p1.High), (.int .u8 p1.Color), (.int .u8 p1.f_Set)])))]) (pend := [0, 2]) rfl rfl rfl ?_
    refine ⟨⟨fun _ => ⟨rfl, rfl, rfl, .inl ⟨rfl, (o_ld (b := b1489) (off := 0) (v := (.agg (List.toArray [(.int .u8 p0.Char), (.bool p0.Attr), (.int .u8 p0.FA), (.int .u8 p0.High), (.int .u8 p0.Color), (.int .u8 p0.f_Set)]))) rfl rm1 rfl rfl ⟨rfl, rfl⟩)⟩⟩, fun _ => ⟨rfl, rfl, rfl, .inl ⟨rfl, (o_ld (b := b1491) (off := 0) (v := (.agg (List.toArray [(.int .u8 p1.Char), (.bool p1.Attr), (.int .u8 p1.FA), (.int .u8 p1.High), (.int .u8 p1.Color), (.int .u8 p1.f_Set)]))) rfl rm0 rfl rfl ⟨rfl, rfl⟩)⟩⟩, trivial⟩, rfl, .inr ⟨[1, 4, 5], rfl, rfl, ⟨rfl, .inl rfl, ?_⟩, ⟨rfl, .inl rfl, ?_⟩, ⟨rfl, .inl rfl, ?_⟩, trivial⟩⟩
    · refine (o_call has128 rfl (c_attr_looks X p0 _ h2) (pc rm2 pn) ?_)
      refine ⟨[], [2], rfl, rfl, rfl, rfl, ?_⟩
      refine ⟨⟨(fun h => nomatch h), fun _ => ⟨rfl, rfl, rfl, .inl ⟨rfl, (o_ld (b := b1491) (off := 0) (v := (.agg (List.toArray [(.int .u8 p1.Char), (.bool p1.Attr), (.int .u8 p1.FA), (.int .u8 p1.High), (.int .u8 p1.Color), (.int .u8 p1.f_Set)]))) rfl rm1 rfl rfl ⟨rfl, rfl⟩)⟩⟩, trivial⟩, rfl, .inr ⟨[3, 4, 5], rfl, rfl, ⟨rfl, .inl rfl, ?_⟩, ⟨rfl, .inl rfl, ?_⟩, ⟨rfl, .inl rfl, ?_⟩, trivial⟩⟩
      · refine (o_call has128 rfl (c_attr_looks X p1 _ h3) (pc rm0 pn) ?_)
        refine ⟨[], [], rfl, rfl, rfl, rfl, ?_⟩
        refine ⟨⟨(fun h => nomatch h), (fun h => nomatch h), trivial⟩, rfl, .inr ⟨[4, 5], rfl, rfl, ⟨rfl, .inl rfl, ?_⟩, ⟨rfl, .inl rfl, ?_⟩, trivial⟩⟩
        · refine (o_alloc (cs := [(.int .u8 0), (.int .u8 0), (.int .u8 0), (.int .u8 0), (.int .u8 0), (.int .u8 0)]) rfl rfl (fun b1497 => ?_))
          refine ⟨[], [], rfl, rfl, rfl, rfl, ?_⟩
          refine ⟨⟨(fun h => nomatch h), (fun h => nomatch h), trivial⟩, rfl, .inr ⟨[5], rfl, rfl, ⟨rfl, .inl rfl, ?_⟩, trivial⟩⟩
          refine (o_alloc (cs := [(.int .u8 0), (.int .u8 0), (.int .u8 0), (.int .u8 0), (.int .u8 0), (.int .u8 0)]) rfl rfl (fun b1499 => ?_))
          refine ⟨[], [], rfl, rfl, rfl, rfl, ?_⟩
          refine ⟨⟨(fun h => nomatch h), (fun h => nomatch h), trivial⟩, rfl, .inr ⟨[6], rfl, rfl, ⟨rfl, .inl rfl, ?_⟩, trivial⟩⟩
          refine (o_st (b := b1497) (off := 0) (vs := [(.int .u8 d2.1.f_Type), (.int .u8 d2.1.Value), (.int .u8 d2.2.1.f_Type), (.int .u8 d2.2.1.Value), (.int .u8 d2.2.2.f_Type), (.int .u8 d2.2.2.Value)]) (cs' := [(.int .u8 d2.1.f_Type), (.int .u8 d2.1.Value), (.int .u8 d2.2.1.f_Type), (.int .u8 d2.2.1.Value), (.int .u8 d2.2.2.f_Type), (.int .u8 d2.2.2.Value)]) rfl rfl rp1 rfl rfl rfl rfl rfl rfl ?_)
          refine ⟨[], [], rfl, rfl, ?_⟩
          refine ⟨⟨(fun h => nomatch h), (fun h => nomatch h), trivial⟩, rfl, .inr ⟨[7], rfl, rfl, ⟨rfl, .inl rfl, ?_⟩, trivial⟩⟩
          refine (o_st (b := b1499) (off := 0) (vs := [(.int .u8 d3.1.f_Type), (.int .u8 d3.1.Value), (.int .u8 d3.2.1.f_Type), (.int .u8 d3.2.1.Value), (.int .u8 d3.2.2.f_Type), (.int .u8 d3.2.2.Value)]) (cs' := [(.int .u8 d3.1.f_Type), (.int .u8 d3.1.Value), (.int .u8 d3.2.1.f_Type), (.int .u8 d3.2.1.Value), (.int .u8 d3.2.2.f_Type), (.int .u8 d3.2.2.Value)]) rfl rfl rp0 rfl rfl rfl rfl rfl rfl ?_)
          refine ⟨[], [], rfl, rfl, ?_⟩
          refine ⟨⟨(fun h => nomatch h), (fun h => nomatch h), trivial⟩, rfl, rfl, rfl, ?_⟩
          have hd := Option.some.inj h
          subst hd
          exact ej () (b1499, b1497) trivial (sc rfl (sc rfl (sc rfl sn))) (kc rm2 (kc rm0 (kc rm0 (kd (kd kr)))))
        · refine (o_alloc (cs := [(.int .u8 0), (.int .u8 0), (.int .u8 0), (.int .u8 0), (.int .u8 0), (.int .u8 0)]) rfl rfl (fun b1499 => ?_))
          refine ⟨[], [], rfl, rfl, rfl, rfl, ?_⟩
          refine ⟨⟨(fun h => nomatch h), (fun h => nomatch h), trivial⟩, rfl, .inr ⟨[4], rfl, rfl, ⟨rfl, .inl rfl, ?_⟩, trivial⟩⟩
          refine (o_alloc (cs := [(.int .u8 0), (.int .u8 0), (.int .u8 0), (.int .u8 0), (.int .u8 0), (.int .u8 0)]) rfl rfl (fun b1497 => ?_))
          refine ⟨[], [], rfl, rfl, rfl, rfl, ?_⟩
          refine ⟨⟨(fun h => nomatch h), (fun h => nomatch h), trivial⟩, rfl, .inr ⟨[6], rfl, rfl, ⟨rfl, .inl rfl, ?_⟩, trivial⟩⟩
          refine (o_st (b := b1497) (off := 0) (vs := [(.int .u8 d2.1.f_Type), (.int .u8 d2.1.Value), (.int .u8 d2.2.1.f_Type), (.int .u8 d2.2.1.Value), (.int .u8 d2.2.2.f_Type), (.int .u8 d2.2.2.Value)]) (cs' := [(.int .u8 d2.1.f_Type), (.int .u8 d2.1.Value), (.int .u8 d2.2.1.f_Type), (.int .u8 d2.2.1.Value), (.int .u8 d2.2.2.f_Type), (.int .u8 d2.2.2.Value)]) rfl rfl rp0 rfl rfl rfl rfl rfl rfl ?_)
          refine ⟨[], [], rfl, rfl, ?_⟩
          refine ⟨⟨(fun h => nomatch h), (fun h => nomatch h), trivial⟩, rfl, .inr ⟨[7], rfl, rfl, ⟨rfl, .inl rfl, ?_⟩, trivial⟩⟩
          refine (o_st (b := b1499) (off := 0) (vs := [(.int .u8 d3.1.f_Type), (.int .u8 d3.1.Value), (.int .u8 d3.2.1.f_Type), (.int .u8 d3.2.1.Value), (.int .u8 d3.2.2.f_Type), (.int .u8 d3.2.2.Value)]) (cs' := [(.int .u8 d3.1.f_Type), (.int .u8 d3.1.Value), (.int .u8 d3.2.1.f_Type), (.int .u8 d3.2.1.Value), (.int .u8 d3.2.2.f_Type), (.int .u8 d3.2.2.Value)]) rfl rfl rp1 rfl rfl rfl rfl rfl rfl ?_)
          refine ⟨[], [], rfl, rfl, ?_⟩
          refine ⟨⟨(fun h => nomatch h), (fun h => nomatch h), trivial⟩, rfl, rfl, rfl, ?_⟩
          have hd := Option.some.inj h
          subst hd
          exact ej () (b1499, b1497) trivial (sc rfl (sc rfl (sc rfl sn))) (kc rm2 (kc rm1 (kc rm0 (kd (kd kr)))))
      · refine (o_alloc (cs := [(.int .u8 0), (.int .u8 0), (.int .u8 0), (.int .u8 0), (.int .u8 0), (.int .u8 0)]) rfl rfl (fun b1497 => ?_))
        refine ⟨[], [2], rfl, rfl, rfl, rfl, ?_⟩
        refine ⟨⟨(fun h => nomatch h), fun _ => ⟨rfl, rfl, rfl, .inl ⟨rfl, (o_ld (b := b1491) (off := 0) (v := (.agg (List.toArray [(.int .u8 p1.Char), (.bool p1.Attr), (.int .u8 p1.FA), (.int .u8 p1.High), (.int .u8 p1.Color), (.int .u8 p1.f_Set)]))) rfl rm2 rfl rfl ⟨rfl, rfl⟩)⟩⟩, trivial⟩, rfl, .inr ⟨[3, 5], rfl, rfl, ⟨rfl, .inl rfl, ?_⟩, ⟨rfl, .inl rfl, ?_⟩, trivial⟩⟩
        · refine (o_call has128 rfl (c_attr_looks X p1 _ h3) (pc rm1 pn) ?_)
          refine ⟨[], [], rfl, rfl, rfl, rfl, ?_⟩
          refine ⟨⟨(fun h => nomatch h), (fun h => nomatch h), trivial⟩, rfl, .inr ⟨[5], rfl, rfl, ⟨rfl, .inl rfl, ?_⟩, trivial⟩⟩
          refine (o_alloc (cs := [(.int .u8 0), (.int .u8 0), (.int .u8 0), (.int .u8 0), (.int .u8 0), (.int .u8 0)]) rfl rfl (fun b1499 => ?_))
          refine ⟨[], [], rfl, rfl, rfl, rfl, ?_⟩
          refine ⟨⟨(fun h => nomatch h), (fun h => nomatch h), trivial⟩, rfl, .inr ⟨[6], rfl, rfl, ⟨rfl, .inl rfl, ?_⟩, trivial⟩⟩
          refine (o_st (b := b1497) (off := 0) (vs := [(.int .u8 d2.1.f_Type), (.int .u8 d2.1.Value), (.int .u8 d2.2.1.f_Type), (.int .u8 d2.2.1.Value), (.int .u8 d2.2.2.f_Type), (.int .u8 d2.2.2.Value)]) (cs' := [(.int .u8 d2.1.f_Type), (.int .u8 d2.1.Value), (.int .u8 d2.2.1.f_Type), (.int .u8 d2.2.1.Value), (.int .u8 d2.2.2.f_Type), (.int .u8 d2.2.2.Value)]) rfl rfl rp2 rfl rfl rfl rfl rfl rfl ?_)
          refine ⟨[], [], rfl, rfl, ?_⟩
          refine ⟨⟨(fun h => nomatch h), (fun h => nomatch h), trivial⟩, rfl, .inr ⟨[7], rfl, rfl, ⟨rfl, .inl rfl, ?_⟩, trivial⟩⟩
          refine (o_st (b := b1499) (off := 0) (vs := [(.int .u8 d3.1.f_Type), (.int .u8 d3.1.Value), (.int .u8 d3.2.1.f_Type), (.int .u8 d3.2.1.Value), (.int .u8 d3.2.2.f_Type), (.int .u8 d3.2.2.Value)]) (cs' := [(.int .u8 d3.1.f_Type), (.int .u8 d3.1.Value), (.int .u8 d3.2.1.f_Type), (.int .u8 d3.2.1.Value), (.int .u8 d3.2.2.f_Type), (.int .u8 d3.2.2.Value)]) rfl rfl rp0 rfl rfl rfl rfl rfl rfl ?_)
          refine ⟨[], [], rfl, rfl, ?_⟩
          refine ⟨⟨(fun h => nomatch h), (fun h => nomatch h), trivial⟩, rfl, rfl, rfl, ?_⟩
          have hd := Option.some.inj h
          subst hd
          exact ej () (b1499, b1497) trivial (sc rfl (sc rfl (sc rfl sn))) (kc rm1 (kc rm0 (kc rm0 (kd (kd kr)))))
        · refine (o_alloc (cs := [(.int .u8 0), (.int .u8 0), (.int .u8 0), (.int .u8 0), (.int .u8 0), (.int .u8 0)]) rfl rfl (fun b1499 => ?_))
          refine ⟨[], [2], rfl, rfl, rfl, rfl, ?_⟩
          refine ⟨⟨(fun h => nomatch h), fun _ => ⟨rfl, rfl, rfl, .inl ⟨rfl, (o_ld (b := b1491) (off := 0) (v := (.agg (List.toArray [(.int .u8 p1.Char), (.bool p1.Attr), (.int .u8 p1.FA), (.int .u8 p1.High), (.int .u8 p1.Color), (.int .u8 p1.f_Set)]))) rfl rm3 rfl rfl ⟨rfl, rfl⟩)⟩⟩, trivial⟩, rfl, .inr ⟨[3], rfl, rfl, ⟨rfl, .inl rfl, ?_⟩, trivial⟩⟩
          refine (o_call has128 rfl (c_attr_looks X p1 _ h3) (pc rm2 pn) ?_)
          refine ⟨[], [], rfl, rfl, rfl, rfl, ?_⟩
          refine ⟨⟨(fun h => nomatch h), (fun h => nomatch h), trivial⟩, rfl, .inr ⟨[6], rfl, rfl, ⟨rfl, .inl rfl, ?_⟩, trivial⟩⟩
          refine (o_st (b := b1497) (off := 0) (vs := [(.int .u8 d2.1.f_Type), (.int .u8 d2.1.Value), (.int .u8 d2.2.1.f_Type), (.int .u8 d2.2.1.Value), (.int .u8 d2.2.2.f_Type), (.int .u8 d2.2.2.Value)]) (cs' := [(.int .u8 d2.1.f_Type), (.int .u8 d2.1.Value), (.int .u8 d2.2.1.f_Type), (.int .u8 d2.2.1.Value), (.int .u8 d2.2.2.f_Type), (.int .u8 d2.2.2.Value)]) rfl rfl rp2 rfl rfl rfl rfl rfl rfl ?_)
          refine ⟨[], [], rfl, rfl, ?_⟩
          refine ⟨⟨(fun h => nomatch h), (fun h => nomatch h), trivial⟩, rfl, .inr ⟨[7], rfl, rfl, ⟨rfl, .inl rfl, ?_⟩, trivial⟩⟩
          refine (o_st (b := b1499) (off := 0) (vs := [(.int .u8 d3.1.f_Type), (.int .u8 d3.1.Value), (.int .u8 d3.2.1.f_Type), (.int .u8 d3.2.1.Value), (.int .u8 d3.2.2.f_Type), (.int .u8 d3.2.2.Value)]) (cs' := [(.int .u8 d3.1.f_Type), (.int .u8 d3.1.Value), (.int .u8 d3.2.1.f_Type), (.int .u8 d3.2.1.Value), (.int .u8 d3.2.2.f_Type), (.int .u8 d3.2.2.Value)]) rfl rfl rp1 rfl rfl rfl rfl rfl rfl ?_)
          refine ⟨[], [], rfl, rfl, ?_⟩
          refine ⟨⟨(fun h => nomatch h), (fun h => nomatch h), trivial⟩, rfl, rfl, rfl, ?_⟩
          have hd := Option.some.inj h
          subst hd
          exact ej () (b1499, b1497) trivial (sc rfl (sc rfl (sc rfl sn))) (kc rm0 (kc rm0 (kc rm0 (kd (kd kr)))))
      · refine (o_alloc (cs := [(.int .u8 0), (.int .u8 0), (.int .u8 0), (.int .u8 0), (.int .u8 0), (.int .u8 0)]) rfl rfl (fun b1499 => ?_))
        refine ⟨[], [2], rfl, rfl, rfl, rfl, ?_⟩
        refine ⟨⟨(fun h => nomatch h), fun _ => ⟨rfl, rfl, rfl, .inl ⟨rfl, (o_ld (b := b1491) (off := 0) (v := (.agg (List.toArray [(.int .u8 p1.Char), (.bool p1.Attr), (.int .u8 p1.FA), (.int .u8 p1.High), (.int .u8 p1.Color), (.int .u8 p1.f_Set)]))) rfl rm2 rfl rfl ⟨rfl, rfl⟩)⟩⟩, trivial⟩, rfl, .inr ⟨[3, 4], rfl, rfl, ⟨rfl, .inl rfl, ?_⟩, ⟨rfl, .inl rfl, ?_⟩, trivial⟩⟩
        · refine (o_call has128 rfl (c_attr_looks X p1 _ h3) (pc rm1 pn) ?_)
          refine ⟨[], [], rfl, rfl, rfl, rfl, ?_⟩
          refine ⟨⟨(fun h => nomatch h), (fun h => nomatch h), trivial⟩, rfl, .inr ⟨[4], rfl, rfl, ⟨rfl, .inl rfl, ?_⟩, trivial⟩⟩
          refine (o_alloc (cs := [(.int .u8 0), (.int .u8 0), (.int .u8 0), (.int .u8 0), (.int .u8 0), (.int .u8 0)]) rfl rfl (fun b1497 => ?_))
          refine ⟨[], [], rfl, rfl, rfl, rfl, ?_⟩
          refine ⟨⟨(fun h => nomatch h), (fun h => nomatch h), trivial⟩, rfl, .inr ⟨[6], rfl, rfl, ⟨rfl, .inl rfl, ?_⟩, trivial⟩⟩
          refine (o_st (b := b1497) (off := 0) (vs := [(.int .u8 d2.1.f_Type), (.int .u8 d2.1.Value), (.int .u8 d2.2.1.f_Type), (.int .u8 d2.2.1.Value), (.int .u8 d2.2.2.f_Type), (.int .u8 d2.2.2.Value)]) (cs' := [(.int .u8 d2.1.f_Type), (.int .u8 d2.1.Value), (.int .u8 d2.2.1.f_Type), (.int .u8 d2.2.1.Value), (.int .u8 d2.2.2.f_Type), (.int .u8 d2.2.2.Value)]) rfl rfl rp0 rfl rfl rfl rfl rfl rfl ?_)
          refine ⟨[], [], rfl, rfl, ?_⟩
          refine ⟨⟨(fun h => nomatch h), (fun h => nomatch h), trivial⟩, rfl, .inr ⟨[7], rfl, rfl, ⟨rfl, .inl rfl, ?_⟩, trivial⟩⟩
          refine (o_st (b := b1499) (off := 0) (vs := [(.int .u8 d3.1.f_Type), (.int .u8 d3.1.Value), (.int .u8 d3.2.1.f_Type), (.int .u8 d3.2.1.Value), (.int .u8 d3.2.2.f_Type), (.int .u8 d3.2.2.Value)]) (cs' := [(.int .u8 d3.1.f_Type), (.int .u8 d3.1.Value), (.int .u8 d3.2.1.f_Type), (.int .u8 d3.2.1.Value), (.int .u8 d3.2.2.f_Type), (.int .u8 d3.2.2.Value)]) rfl rfl rp2 rfl rfl rfl rfl rfl rfl ?_)
          refine ⟨[], [], rfl, rfl, ?_⟩
          refine ⟨⟨(fun h => nomatch h), (fun h => nomatch h), trivial⟩, rfl, rfl, rfl, ?_⟩
          have hd := Option.some.inj h
          subst hd
          exact ej () (b1499, b1497) trivial (sc rfl (sc rfl (sc rfl sn))) (kc rm1 (kc rm1 (kc rm0 (kd (kd kr)))))
        · refine (o_alloc (cs := [(.int .u8 0), (.int .u8 0), (.int .u8 0), (.int .u8 0), (.int .u8 0), (.int .u8 0)]) rfl rfl (fun b1497 => ?_))
          refine ⟨[], [2], rfl, rfl, rfl, rfl, ?_⟩
          refine ⟨⟨(fun h => nomatch h), fun _ => ⟨rfl, rfl, rfl, .inl ⟨rfl, (o_ld (b := b1491) (off := 0) (v := (.agg (List.toArray [(.int .u8 p1.Char), (.bool p1.Attr), (.int .u8 p1.FA), (.int .u8 p1.High), (.int .u8 p1.Color), (.int .u8 p1.f_Set)]))) rfl rm3 rfl rfl ⟨rfl, rfl⟩)⟩⟩, trivial⟩, rfl, .inr ⟨[3], rfl, rfl, ⟨rfl, .inl rfl, ?_⟩, trivial⟩⟩
          refine (o_call has128 rfl (c_attr_looks X p1 _ h3) (pc rm2 pn) ?_)
          refine ⟨[], [], rfl, rfl, rfl, rfl, ?_⟩
          refine ⟨⟨(fun h => nomatch h), (fun h => nomatch h), trivial⟩, rfl, .inr ⟨[6], rfl, rfl, ⟨rfl, .inl rfl, ?_⟩, trivial⟩⟩
          refine (o_st (b := b1497) (off := 0) (vs := [(.int .u8 d2.1.f_Type), (.int .u8 d2.1.Value), (.int .u8 d2.2.1.f_Type), (.int .u8 d2.2.1.Value), (.int .u8 d2.2.2.f_Type), (.int .u8 d2.2.2.Value)]) (cs' := [(.int .u8 d2.1.f_Type), (.int .u8 d2.1.Value), (.int .u8 d2.2.1.f_Type), (.int .u8 d2.2.1.Value), (.int .u8 d2.2.2.f_Type), (.int .u8 d2.2.2.Value)]) rfl rfl rp1 rfl rfl rfl rfl rfl rfl ?_)
          refine ⟨[], [], rfl, rfl, ?_⟩
          refine ⟨⟨(fun h => nomatch h), (fun h => nomatch h), trivial⟩, rfl, .inr ⟨[7], rfl, rfl, ⟨rfl, .inl rfl, ?_⟩, trivial⟩⟩
          refine (o_st (b := b1499) (off := 0) (vs := [(.int .u8 d3.1.f_Type), (.int .u8 d3.1.Value), (.int .u8 d3.2.1.f_Type), (.int .u8 d3.2.1.Value), (.int .u8 d3.2.2.f_Type), (.int .u8 d3.2.2.Value)]) (cs' := [(.int .u8 d3.1.f_Type), (.int .u8 d3.1.Value), (.int .u8 d3.2.1.f_Type), (.int .u8 d3.2.1.Value), (.int .u8 d3.2.2.f_Type), (.int .u8 d3.2.2.Value)]) rfl rfl rp2 rfl rfl rfl rfl rfl rfl ?_)
          refine ⟨[], [], rfl, rfl, ?_⟩
          refine ⟨⟨(fun h => nomatch h), (fun h => nomatch h), trivial⟩, rfl, rfl, rfl, ?_⟩
          have hd := Option.some.inj h
          subst hd
          exact ej () (b1499, b1497) trivial (sc rfl (sc rfl (sc rfl sn))) (kc rm0 (kc rm1 (kc rm0 (kd (kd kr)))))
    · refine (o_alloc (cs := [(.int .u8 0), (.int .u8 0), (.int .u8 0), (.int .u8 0), (.int .u8 0), (.int .u8 0)]) rfl rfl (fun b1497 => ?_))
      refine ⟨[], [0, 2], rfl, rfl, rfl, rfl, ?_⟩
      refine ⟨⟨fun _ => ⟨rfl, rfl, rfl, .inl ⟨rfl, (o_ld (b := b1489) (off := 0) (v := (.agg (List.toArray [(.int .u8 p0.Char), (.bool p0.Attr), (.int .u8 p0.FA), (.int .u8 p0.High), (.int .u8 p0.Color), (.int .u8 p0.f_Set)]))) rfl rm2 rfl rfl ⟨rfl, rfl⟩)⟩⟩, fun _ => ⟨rfl, rfl, rfl, .inl ⟨rfl, (o_ld (b := b1491) (off := 0) (v := (.agg (List.toArray [(.int .u8 p1.Char), (.bool p1.Attr), (.int .u8 p1.FA), (.int .u8 p1.High), (.int .u8 p1.Color), (.int .u8 p1.f_Set)]))) rfl rm1 rfl rfl ⟨rfl, rfl⟩)⟩⟩, trivial⟩, rfl, .inr ⟨[1, 5], rfl, rfl, ⟨rfl, .inl rfl, ?_⟩, ⟨rfl, .inl rfl, ?_⟩, trivial⟩⟩
      · refine (o_call has128 rfl (c_attr_looks X p0 _ h2) (pc rm3 pn) ?_)
        refine ⟨[], [2], rfl, rfl, rfl, rfl, ?_⟩
        refine ⟨⟨(fun h => nomatch h), fun _ => ⟨rfl, rfl, rfl, .inl ⟨rfl, (o_ld (b := b1491) (off := 0) (v := (.agg (List.toArray [(.int .u8 p1.Char), (.bool p1.Attr), (.int .u8 p1.FA), (.int .u8 p1.High), (.int .u8 p1.Color), (.int .u8 p1.f_Set)]))) rfl rm2 rfl rfl ⟨rfl, rfl⟩)⟩⟩, trivial⟩, rfl, .inr ⟨[3, 5], rfl, rfl, ⟨rfl, .inl rfl, ?_⟩, ⟨rfl, .inl rfl, ?_⟩, trivial⟩⟩
        · refine (o_call has128 rfl (c_attr_looks X p1 _ h3) (pc rm0 pn) ?_)
          refine ⟨[], [], rfl, rfl, rfl, rfl, ?_⟩
          refine ⟨⟨(fun h => nomatch h), (fun h => nomatch h), trivial⟩, rfl, .inr ⟨[5], rfl, rfl, ⟨rfl, .inl rfl, ?_⟩, trivial⟩⟩
          refine (o_alloc (cs := [(.int .u8 0), (.int .u8 0), (.int .u8 0), (.int .u8 0), (.int .u8 0), (.int .u8 0)]) rfl rfl (fun b1499 => ?_))
          refine ⟨[], [], rfl, rfl, rfl, rfl, ?_⟩
          refine ⟨⟨(fun h => nomatch h), (fun h => nomatch h), trivial⟩, rfl, .inr ⟨[6], rfl, rfl, ⟨rfl, .inl rfl, ?_⟩, trivial⟩⟩
          refine (o_st (b := b1497) (off := 0) (vs := [(.int .u8 d2.1.f_Type), (.int .u8 d2.1.Value), (.int .u8 d2.2.1.f_Type), (.int .u8 d2.2.1.Value), (.int .u8 d2.2.2.f_Type), (.int .u8 d2.2.2.Value)]) (cs' := [(.int .u8 d2.1.f_Type), (.int .u8 d2.1.Value), (.int .u8 d2.2.1.f_Type), (.int .u8 d2.2.1.Value), (.int .u8 d2.2.2.f_Type), (.int .u8 d2.2.2.Value)]) rfl rfl rp2 rfl rfl rfl rfl rfl rfl ?_)
          refine ⟨[], [], rfl, rfl, ?_⟩
          refine ⟨⟨(fun h => nomatch h), (fun h => nomatch h), trivial⟩, rfl, .inr ⟨[7], rfl, rfl, ⟨rfl, .inl rfl, ?_⟩, trivial⟩⟩
          refine (o_st (b := b1499) (off := 0) (vs := [(.int .u8 d3.1.f_Type), (.int .u8 d3.1.Value), (.int .u8 d3.2.1.f_Type), (.int .u8 d3.2.1.Value), (.int .u8 d3.2.2.f_Type), (.int .u8 d3.2.2.Value)]) (cs' := [(.int .u8 d3.1.f_Type), (.int .u8 d3.1.Value), (.int .u8 d3.2.1.f_Type), (.int .u8 d3.2.1.Value), (.int .u8 d3.2.2.f_Type), (.int .u8 d3.2.2.Value)]) rfl rfl rp0 rfl rfl rfl rfl rfl rfl ?_)
          refine ⟨[], [], rfl, rfl, ?_⟩
          refine ⟨⟨(fun h => nomatch h), (fun h => nomatch h), trivial⟩, rfl, rfl, rfl, ?_⟩
          have hd := Option.some.inj h
          subst hd
          exact ej () (b1499, b1497) trivial (sc rfl (sc rfl (sc rfl sn))) (kc rm1 (kc rm0 (kc rm0 (kd (kd kr)))))
        · refine (o_alloc (cs := [(.int .u8 0), (.int .u8 0), (.int .u8 0), (.int .u8 0), (.int .u8 0), (.int .u8 0)]) rfl rfl (fun b1499 => ?_))
          refine ⟨[], [2], rfl, rfl, rfl, rfl, ?_⟩
          refine ⟨⟨(fun h => nomatch h), fun _ => ⟨rfl, rfl, rfl, .inl ⟨rfl, (o_ld (b := b1491) (off := 0) (v := (.agg (List.toArray [(.int .u8 p1.Char), (.bool p1.Attr), (.int .u8 p1.FA), (.int .u8 p1.High), (.int .u8 p1.Color), (.int .u8 p1.f_Set)]))) rfl rm3 rfl rfl ⟨rfl, rfl⟩)⟩⟩, trivial⟩, rfl, .inr ⟨[3], rfl, rfl, ⟨rfl, .inl rfl, ?_⟩, trivial⟩⟩
          refine (o_call has128 rfl (c_attr_looks X p1 _ h3) (pc rm1 pn) ?_)
          refine ⟨[], [], rfl, rfl, rfl, rfl, ?_⟩
          refine ⟨⟨(fun h => nomatch h), (fun h => nomatch h), trivial⟩, rfl, .inr ⟨[6], rfl, rfl, ⟨rfl, .inl rfl, ?_⟩, trivial⟩⟩
          refine (o_st (b := b1497) (off := 0) (vs := [(.int .u8 d2.1.f_Type), (.int .u8 d2.1.Value), (.int .u8 d2.2.1.f_Type), (.int .u8 d2.2.1.Value), (.int .u8 d2.2.2.f_Type), (.int .u8 d2.2.2.Value)]) (cs' := [(.int .u8 d2.1.f_Type), (.int .u8 d2.1.Value), (.int .u8 d2.2.1.f_Type), (.int .u8 d2.2.1.Value), (.int .u8 d2.2.2.f_Type), (.int .u8 d2.2.2.Value)]) rfl rfl rp2 rfl rfl rfl rfl rfl rfl ?_)
          refine ⟨[], [], rfl, rfl, ?_⟩
          refine ⟨⟨(fun h => nomatch h), (fun h => nomatch h), trivial⟩, rfl, .inr ⟨[7], rfl, rfl, ⟨rfl, .inl rfl, ?_⟩, trivial⟩⟩
          refine (o_st (b := b1499) (off := 0) (vs := [(.int .u8 d3.1.f_Type), (.int .u8 d3.1.Value), (.int .u8 d3.2.1.f_Type), (.int .u8 d3.2.1.Value), (.int .u8 d3.2.2.f_Type), (.int .u8 d3.2.2.Value)]) (cs' := [(.int .u8 d3.1.f_Type), (.int .u8 d3.1.Value), (.int .u8 d3.2.1.f_Type), (.int .u8 d3.2.1.Value), (.int .u8 d3.2.2.f_Type), (.int .u8 d3.2.2.Value)]) rfl rfl rp1 rfl rfl rfl rfl rfl rfl ?_)
          refine ⟨[], [], rfl, rfl, ?_⟩
          refine ⟨⟨(fun h => nomatch h), (fun h => nomatch h), trivial⟩, rfl, rfl, rfl, ?_⟩
          have hd := Option.some.inj h
          subst hd
          exact ej () (b1499, b1497) trivial (sc rfl (sc rfl (sc rfl sn))) (kc rm0 (kc rm0 (kc rm0 (kd (kd kr)))))
      · refine (o_alloc (cs := [(.int .u8 0), (.int .u8 0), (.int .u8 0), (.int .u8 0), (.int .u8 0), (.int .u8 0)]) rfl rfl (fun b1499 => ?_))
        refine ⟨[], [0, 2], rfl, rfl, rfl, rfl, ?_⟩
        refine ⟨⟨fun _ => ⟨rfl, rfl, rfl, .inl ⟨rfl, (o_ld (b := b1489) (off := 0) (v := (.agg (List.toArray [(.int .u8 p0.Char), (.bool p0.Attr), (.int .u8 p0.FA), (.int .u8 p0.High), (.int .u8 p0.Color), (.int .u8 p0.f_Set)]))) rfl rm3 rfl rfl ⟨rfl, rfl⟩)⟩⟩, fun _ => ⟨rfl, rfl, rfl, .inl ⟨rfl, (o_ld (b := b1491) (off := 0) (v := (.agg (List.toArray [(.int .u8 p1.Char), (.bool p1.Attr), (.int .u8 p1.FA), (.int .u8 p1.High), (.int .u8 p1.Color), (.int .u8 p1.f_Set)]))) rfl rm2 rfl rfl ⟨rfl, rfl⟩)⟩⟩, trivial⟩, rfl, .inr ⟨[1], rfl, rfl, ⟨rfl, .inl rfl, ?_⟩, trivial⟩⟩
        refine (o_call has128 rfl (c_attr_looks X p0 _ h2) (pc rm4 pn) ?_)
        refine ⟨[], [2], rfl, rfl, rfl, rfl, ?_⟩
        refine ⟨⟨(fun h => nomatch h), fun _ => ⟨rfl, rfl, rfl, .inl ⟨rfl, (o_ld (b := b1491) (off := 0) (v := (.agg (List.toArray [(.int .u8 p1.Char), (.bool p1.Attr), (.int .u8 p1.FA), (.int .u8 p1.High), (.int .u8 p1.Color), (.int .u8 p1.f_Set)]))) rfl rm3 rfl rfl ⟨rfl, rfl⟩)⟩⟩, trivial⟩, rfl, .inr ⟨[3], rfl, rfl, ⟨rfl, .inl rfl, ?_⟩, trivial⟩⟩
        refine (o_call has128 rfl (c_attr_looks X p1 _ h3) (pc rm0 pn) ?_)
        refine ⟨[], [], rfl, rfl, rfl, rfl, ?_⟩
        refine ⟨⟨(fun h => nomatch h), (fun h => nomatch h), trivial⟩, rfl, .inr ⟨[6], rfl, rfl, ⟨rfl, .inl rfl, ?_⟩, trivial⟩⟩
        refine (o_st (b := b1497) (off := 0) (vs := [(.int .u8 d2.1.f_Type), (.int .u8 d2.1.Value), (.int .u8 d2.2.1.f_Type), (.int .u8 d2.2.1.Value), (.int .u8 d2.2.2.f_Type), (.int .u8 d2.2.2.Value)]) (cs' := [(.int .u8 d2.1.f_Type), (.int .u8 d2.1.Value), (.int .u8 d2.2.1.f_Type), (.int .u8 d2.2.1.Value), (.int .u8 d2.2.2.f_Type), (.int .u8 d2.2.2.Value)]) rfl rfl rp2 rfl rfl rfl rfl rfl rfl ?_)
        refine ⟨[], [], rfl, rfl, ?_⟩
        refine ⟨⟨(fun h => nomatch h), (fun h => nomatch h), trivial⟩, rfl, .inr ⟨[7], rfl, rfl, ⟨rfl, .inl rfl, ?_⟩, trivial⟩⟩
        refine (o_st (b := b1499) (off := 0) (vs := [(.int .u8 d3.1.f_Type), (.int .u8 d3.1.Value), (.int .u8 d3.2.1.f_Type), (.int .u8 d3.2.1.Value), (.int .u8 d3.2.2.f_Type), (.int .u8 d3.2.2.Value)]) (cs' := [(.int .u8 d3.1.f_Type), (.int .u8 d3.1.Value), (.int .u8 d3.2.1.f_Type), (.int .u8 d3.2.1.Value), (.int .u8 d3.2.2.f_Type), (.int .u8 d3.2.2.Value)]) rfl rfl rp1 rfl rfl rfl rfl rfl rfl ?_)
        refine ⟨[], [], rfl, rfl, ?_⟩
        refine ⟨⟨(fun h => nomatch h), (fun h => nomatch h), trivial⟩, rfl, rfl, rfl, ?_⟩
        have hd := Option.some.inj h
        subst hd
        exact ej () (b1499, b1497) trivial (sc rfl (sc rfl (sc rfl sn))) (kc rm0 (kc rm0 (kc rm0 (kd (kd kr)))))
    · refine (o_alloc (cs := [(.int .u8 0), (.int .u8 0), (.int .u8 0), (.int .u8 0), (.int .u8 0), (.int .u8 0)]) rfl rfl (fun b1499 => ?_))
      refine ⟨[], [0, 2], rfl, rfl, rfl, rfl, ?_⟩
      refine ⟨⟨fun _ => ⟨rfl, rfl, rfl, .inl ⟨rfl, (o_ld (b := b1489) (off := 0) (v := (.agg (List.toArray [(.int .u8 p0.Char), (.bool p0.Attr), (.int .u8 p0.FA), (.int .u8 p0.High), (.int .u8 p0.Color), (.int .u8 p0.f_Set)]))) rfl rm2 rfl rfl ⟨rfl, rfl⟩)⟩⟩, fun _ => ⟨rfl, rfl, rfl, .inl ⟨rfl, (o_ld (b := b1491) (off := 0) (v := (.agg (List.toArray [(.int .u8 p1.Char), (.bool p1.Attr), (.int .u8 p1.FA), (.int .u8 p1.High), (.int .u8 p1.Color), (.int .u8 p1.f_Set)]))) rfl rm1 rfl rfl ⟨rfl, rfl⟩)⟩⟩, trivial⟩, rfl, .inr ⟨[1, 4], rfl, rfl, ⟨rfl, .inl rfl, ?_⟩, ⟨rfl, .inl rfl, ?_⟩, trivial⟩⟩
      · refine (o_call has128 rfl (c_attr_looks X p0 _ h2) (pc rm3 pn) ?_)
        refine ⟨[], [2], rfl, rfl, rfl, rfl, ?_⟩
        refine ⟨⟨(fun h => nomatch h), fun _ => ⟨rfl, rfl, rfl, .inl ⟨rfl, (o_ld (b := b1491) (off := 0) (v := (.agg (List.toArray [(.int .u8 p1.Char), (.bool p1.Attr), (.int .u8 p1.FA), (.int .u8 p1.High), (.int .u8 p1.Color), (.int .u8 p1.f_Set)]))) rfl rm2 rfl rfl ⟨rfl, rfl⟩)⟩⟩, trivial⟩, rfl, .inr ⟨[3, 4], rfl, rfl, ⟨rfl, .inl rfl, ?_⟩, ⟨rfl, .inl rfl, ?_⟩, trivial⟩⟩
        · refine (o_call has128 rfl (c_attr_looks X p1 _ h3) (pc rm0 pn) ?_)
          refine ⟨[], [], rfl, rfl, rfl, rfl, ?_⟩
          refine ⟨⟨(fun h => nomatch h), (fun h => nomatch h), trivial⟩, rfl, .inr ⟨[4], rfl, rfl, ⟨rfl, .inl rfl, ?_⟩, trivial⟩⟩
          refine (o_alloc (cs := [(.int .u8 0), (.int .u8 0), (.int .u8 0), (.int .u8 0), (.int .u8 0), (.int .u8 0)]) rfl rfl (fun b1497 => ?_))
          refine ⟨[], [], rfl, rfl, rfl, rfl, ?_⟩
          refine ⟨⟨(fun h => nomatch h), (fun h => nomatch h), trivial⟩, rfl, .inr ⟨[6], rfl, rfl, ⟨rfl, .inl rfl, ?_⟩, trivial⟩⟩
          refine (o_st (b := b1497) (off := 0) (vs := [(.int .u8 d2.1.f_Type), (.int .u8 d2.1.Value), (.int .u8 d2.2.1.f_Type), (.int .u8 d2.2.1.Value), (.int .u8 d2.2.2.f_Type), (.int .u8 d2.2.2.Value)]) (cs' := [(.int .u8 d2.1.f_Type), (.int .u8 d2.1.Value), (.int .u8 d2.2.1.f_Type), (.int .u8 d2.2.1.Value), (.int .u8 d2.2.2.f_Type), (.int .u8 d2.2.2.Value)]) rfl rfl rp0 rfl rfl rfl rfl rfl rfl ?_)
          refine ⟨[], [], rfl, rfl, ?_⟩
          refine ⟨⟨(fun h => nomatch h), (fun h => nomatch h), trivial⟩, rfl, .inr ⟨[7], rfl, rfl, ⟨rfl, .inl rfl, ?_⟩, trivial⟩⟩
          refine (o_st (b := b1499) (off := 0) (vs := [(.int .u8 d3.1.f_Type), (.int .u8 d3.1.Value), (.int .u8 d3.2.1.f_Type), (.int .u8 d3.2.1.Value), (.int .u8 d3.2.2.f_Type), (.int .u8 d3.2.2.Value)]) (cs' := [(.int .u8 d3.1.f_Type), (.int .u8 d3.1.Value), (.int .u8 d3.2.1.f_Type), (.int .u8 d3.2.1.Value), (.int .u8 d3.2.2.f_Type), (.int .u8 d3.2.2.Value)]) rfl rfl rp2 rfl rfl rfl rfl rfl rfl ?_)
          refine ⟨[], [], rfl, rfl, ?_⟩
          refine ⟨⟨(fun h => nomatch h), (fun h => nomatch h), trivial⟩, rfl, rfl, rfl, ?_⟩
          have hd := Option.some.inj h
          subst hd
          exact ej () (b1499, b1497) trivial (sc rfl (sc rfl (sc rfl sn))) (kc rm1 (kc rm1 (kc rm0 (kd (kd kr)))))
        · refine (o_alloc (cs := [(.int .u8 0), (.int .u8 0), (.int .u8 0), (.int .u8 0), (.int .u8 0), (.int .u8 0)]) rfl rfl (fun b1497 => ?_))
          refine ⟨[], [2], rfl, rfl, rfl, rfl, ?_⟩
          refine ⟨⟨(fun h => nomatch h), fun _ => ⟨rfl, rfl, rfl, .inl ⟨rfl, (o_ld (b := b1491) (off := 0) (v := (.agg (List.toArray [(.int .u8 p1.Char), (.bool p1.Attr), (.int .u8 p1.FA), (.int .u8 p1.High), (.int .u8 p1.Color), (.int .u8 p1.f_Set)]))) rfl rm3 rfl rfl ⟨rfl, rfl⟩)⟩⟩, trivial⟩, rfl, .inr ⟨[3], rfl, rfl, ⟨rfl, .inl rfl, ?_⟩, trivial⟩⟩
          refine (o_call has128 rfl (c_attr_looks X p1 _ h3) (pc rm1 pn) ?_)
          refine ⟨[], [], rfl, rfl, rfl, rfl, ?_⟩
          refine ⟨⟨(fun h => nomatch h), (fun h => nomatch h), trivial⟩, rfl, .inr ⟨[6], rfl, rfl, ⟨rfl, .inl rfl, ?_⟩, trivial⟩⟩
          refine (o_st (b := b1497) (off := 0) (vs := [(.int .u8 d2.1.f_Type), (.int .u8 d2.1.Value), (.int .u8 d2.2.1.f_Type), (.int .u8 d2.2.1.Value), (.int .u8 d2.2.2.f_Type), (.int .u8 d2.2.2.Value)]) (cs' := [(.int .u8 d2.1.f_Type), (.int .u8 d2.1.Value), (.int .u8 d2.2.1.f_Type), (.int .u8 d2.2.1.Value), (.int .u8 d2.2.2.f_Type), (.int .u8 d2.2.2.Value)]) rfl rfl rp1 rfl rfl rfl rfl rfl rfl ?_)
          refine ⟨[], [], rfl, rfl, ?_⟩
          refine ⟨⟨(fun h => nomatch h), (fun h => nomatch h), trivial⟩, rfl, .inr ⟨[7], rfl, rfl, ⟨rfl, .inl rfl, ?_⟩, trivial⟩⟩
          refine (o_st (b := b1499) (off := 0) (vs := [(.int .u8 d3.1.f_Type), (.int .u8 d3.1.Value), (.int .u8 d3.2.1.f_Type), (.int .u8 d3.2.1.Value), (.int .u8 d3.2.2.f_Type), (.int .u8 d3.2.2.Value)]) (cs' := [(.int .u8 d3.1.f_Type), (.int .u8 d3.1.Value), (.int .u8 d3.2.1.f_Type), (.int .u8 d3.2.1.Value), (.int .u8 d3.2.2.f_Type), (.int .u8 d3.2.2.Value)]) rfl rfl rp2 rfl rfl rfl rfl rfl rfl ?_)
          refine ⟨[], [], rfl, rfl, ?_⟩
          refine ⟨⟨(fun h => nomatch h), (fun h => nomatch h), trivial⟩, rfl, rfl, rfl, ?_⟩
          have hd := Option.some.inj h
          subst hd
          exact ej () (b1499, b1497) trivial (sc rfl (sc rfl (sc rfl sn))) (kc rm0 (kc rm1 (kc rm0 (kd (kd kr)))))
      · refine (o_alloc (cs := [(.int .u8 0), (.int .u8 0), (.int .u8 0), (.int .u8 0), (.int .u8 0), (.int .u8 0)]) rfl rfl (fun b1497 => ?_))
        refine ⟨[], [0, 2], rfl, rfl, rfl, rfl, ?_⟩
        refine ⟨⟨fun _ => ⟨rfl, rfl, rfl, .inl ⟨rfl, (o_ld (b := b1489) (off := 0) (v := (.agg (List.toArray [(.int .u8 p0.Char), (.bool p0.Attr), (.int .u8 p0.FA), (.int .u8 p0.High), (.int .u8 p0.Color), (.int .u8 p0.f_Set)]))) rfl rm3 rfl rfl ⟨rfl, rfl⟩)⟩⟩, fun _ => ⟨rfl, rfl, rfl, .inl ⟨rfl, (o_ld (b := b1491) (off := 0) (v := (.agg (List.toArray [(.int .u8 p1.Char), (.bool p1.Attr), (.int .u8 p1.FA), (.int .u8 p1.High), (.int .u8 p1.Color), (.int .u8 p1.f_Set)]))) rfl rm2 rfl rfl ⟨rfl, rfl⟩)⟩⟩, trivial⟩, rfl, .inr ⟨[1], rfl, rfl, ⟨rfl, .inl rfl, ?_⟩, trivial⟩⟩
        refine (o_call has128 rfl (c_attr_looks X p0 _ h2) (pc rm4 pn) ?_)
        refine ⟨[], [2], rfl, rfl, rfl, rfl, ?_⟩
        refine ⟨⟨(fun h => nomatch h), fun _ => ⟨rfl, rfl, rfl, .inl ⟨rfl, (o_ld (b := b1491) (off := 0) (v := (.agg (List.toArray [(.int .u8 p1.Char), (.bool p1.Attr), (.int .u8 p1.FA), (.int .u8 p1.High), (.int .u8 p1.Color), (.int .u8 p1.f_Set)]))) rfl rm3 rfl rfl ⟨rfl, rfl⟩)⟩⟩, trivial⟩, rfl, .inr ⟨[3], rfl, rfl, ⟨rfl, .inl rfl, ?_⟩, trivial⟩⟩
        refine (o_call has128 rfl (c_attr_looks X p1 _ h3) (pc rm0 pn) ?_)
        refine ⟨[], [], rfl, rfl, rfl, rfl, ?_⟩
        refine ⟨⟨(fun h => nomatch h), (fun h => nomatch h), trivial⟩, rfl, .inr ⟨[6], rfl, rfl, ⟨rfl, .inl rfl, ?_⟩, trivial⟩⟩
        refine (o_st (b := b1497) (off := 0) (vs := [(.int .u8 d2.1.f_Type), (.int .u8 d2.1.Value), (.int .u8 d2.2.1.f_Type), (.int .u8 d2.2.1.Value), (.int .u8 d2.2.2.f_Type), (.int .u8 d2.2.2.Value)]) (cs' := [(.int .u8 d2.1.f_Type), (.int .u8 d2.1.Value), (.int .u8 d2.2.1.f_Type), (.int .u8 d2.2.1.Value), (.int .u8 d2.2.2.f_Type), (.int .u8 d2.2.2.Value)]) rfl rfl rp1 rfl rfl rfl rfl rfl rfl ?_)
        refine ⟨[], [], rfl, rfl, ?_⟩
        refine ⟨⟨(fun h => nomatch h), (fun h => nomatch h), trivial⟩, rfl, .inr ⟨[7], rfl, rfl, ⟨rfl, .inl rfl, ?_⟩, trivial⟩⟩
        refine (o_st (b := b1499) (off := 0) (vs := [(.int .u8 d3.1.f_Type), (.int .u8 d3.1.Value), (.int .u8 d3.2.1.f_Type), (.int .u8 d3.2.1.Value), (.int .u8 d3.2.2.f_Type), (.int .u8 d3.2.2.Value)]) (cs' := [(.int .u8 d3.1.f_Type), (.int .u8 d3.1.Value), (.int .u8 d3.2.1.f_Type), (.int .u8 d3.2.1.Value), (.int .u8 d3.2.2.f_Type), (.int .u8 d3.2.2.Value)]) rfl rfl rp2 rfl rfl rfl rfl rfl rfl ?_)
        refine ⟨[], [], rfl, rfl, ?_⟩
        refine ⟨⟨(fun h => nomatch h), (fun h => nomatch h), trivial⟩, rfl, rfl, rfl, ?_⟩
        have hd := Option.some.inj h
        subst hd
        exact ej () (b1499, b1497) trivial (sc rfl (sc rfl (sc rfl sn))) (kc rm0 (kc rm1 (kc rm0 (kd (kd kr)))))
  · rintro _ i1 _
    replace h := hk1
    clear hk1
    refine e_seq ?_
    refine c_seq ?_
    refine c_seq ?_
    refine c_region ?_
    refine o1 rfl (o_ld (b := i1.2) (off := 0) (v := (.agg (List.toArray [(.int .u8 d1.2.2.2.2.2.2.1), (.int .u8 d1.2.2.2.2.2.2.2.1), (.int .u8 d1.2.2.2.2.2.2.2.2.1), (.int .u8 d1.2.2.2.2.2.2.2.2.2.1), (.int .u8 d1.2.2.2.2.2.2.2.2.2.2.1), (.int .u8 d1.2.2.2.2.2.2.2.2.2.2.2)]))) rfl rm2 rfl rfl ?_)
    refine o1 rfl (o_ld (b := i1.1) (off := 0) (v := (.agg (List.toArray [(.int .u8 d1.1), (.int .u8 d1.2.1), (.int .u8 d1.2.2.1), (.int .u8 d1.2.2.2.1), (.int .u8 d1.2.2.2.2.1), (.int .u8 d1.2.2.2.2.2.1)]))) rfl rm1 rfl rfl ?_)
    refine o1 rfl (o_eqT (b := (((d1.2.2.2.2.2.2.1 == d1.1) && ((d1.2.2.2.2.2.2.2.1 == d1.2.1) && true)) && (((d1.2.2.2.2.2.2.2.2.1 == d1.2.2.1) && ((d1.2.2.2.2.2.2.2.2.2.1 == d1.2.2.2.1) && true)) && (((d1.2.2.2.2.2.2.2.2.2.2.1 == d1.2.2.2.2.1) && ((d1.2.2.2.2.2.2.2.2.2.2.2 == d1.2.2.2.2.2.1) && true)) && true)))) (xs := [(.int .u8 d1.2.2.2.2.2.2.1), (.int .u8 d1.2.2.2.2.2.2.2.1), (.int .u8 d1.2.2.2.2.2.2.2.2.1), (.int .u8 d1.2.2.2.2.2.2.2.2.2.1), (.int .u8 d1.2.2.2.2.2.2.2.2.2.2.1), (.int .u8 d1.2.2.2.2.2.2.2.2.2.2.2)]) (ys := [(.int .u8 d1.1), (.int .u8 d1.2.1), (.int .u8 d1.2.2.1), (.int .u8 d1.2.2.2.1), (.int .u8 d1.2.2.2.2.1), (.int .u8 d1.2.2.2.2.2.1)]) rfl rfl (by kernel_rfl) stood rfl ?_)
    refine o_end ?_
    refine e_seq ?_
    refine c_cond (b := (((d1.2.2.2.2.2.2.1 == d1.1) && ((d1.2.2.2.2.2.2.2.1 == d1.2.1) && true)) && (((d1.2.2.2.2.2.2.2.2.1 == d1.2.2.1) && ((d1.2.2.2.2.2.2.2.2.2.1 == d1.2.2.2.1) && true)) && (((d1.2.2.2.2.2.2.2.2.2.2.1 == d1.2.2.2.2.1) && ((d1.2.2.2.2.2.2.2.2.2.2.2 == d1.2.2.2.2.2.1) && true)) && true)))) rfl (fun hb1521 => ?_) (fun hb1521 => ?_)
    · replace h := cond_t hb1521 h
      refine c_seq ?_
      refine c_region ?_
      refine o1 rfl (o_p rfl ?_)
      refine o_end ?_
      refine e_seq ?_
      refine c_ret ?_
      refine e_then_ret ?_
      refine e_ret ?_
      refine r_add (slO SV.nil 196 en_Vattr_Pair []) (slO_nil _ _ _) ?_
      refine r_endt rfl rfl (kc rm1 (kc rm0 (kd (kd kr)))) ?_
      have hr := Option.some.inj h
      subst hr
      exact hk SV.nil
    · replace h := cond_f hb1521 h
      refine c_skip ?_
      refine e_seq ?_
      refine c_seq ?_
      refine c_seq ?_
      refine c_region ?_
      refine o1 rfl (o_ld (b := i1.1) (off := 0) (v := (.agg (List.toArray [(.int .u8 d1.1), (.int .u8 d1.2.1), (.int .u8 d1.2.2.1), (.int .u8 d1.2.2.2.1), (.int .u8 d1.2.2.2.2.1), (.int .u8 d1.2.2.2.2.2.1)]))) rfl rm1 rfl rfl ?_)
      refine o1 rfl (o_p rfl ?_)
      refine o_end ?_
      refine e_seq ?_
      replace h := bsome h
      obtain ⟨d5, h, hk5⟩ := h
      refine cj (D := Unit) (ι := SV) (fun _ i5 => True) (fun _ i5 => [(5, (SV.val i5))]) (fun _ i5 => X :: slO i5 196 en_Vattr_Pair d5 :: R) ?_ ?_
      · refine c_block ?_
        refine c_add (slO SV.nil 196 en_Vattr_Pair []) (slO_nil _ _ _) ?_
        refine c_loop (l_sub (sc rfl (sc rfl (sc rfl (sc rfl sn)))) (l_keep (kc rm1 (kc rm2 (kc rm0 (kd kr)))) (lf (X := Int × (List Vattr_Pair)) (ι := SV) (fun k x => attr_Diff_l6 d1 k x) _ (fun x6 i6 => True) (fun x6 i6 => [(18, (.int .i64 x6.1)), (17, (.agg (List.toArray [(.int .u8 d1.1), (.int .u8 d1.2.1), (.int .u8 d1.2.2.1), (.int .u8 d1.2.2.2.1), (.int .u8 d1.2.2.2.2.1), (.int .u8 d1.2.2.2.2.2.1)]))), (6, (.pointer (some ⟨i1.2, 0, none⟩))), (5, (SV.val i6))]) (fun x6 i6 => X :: blk i1.2 (.cells (List.toArray [(.int .u8 d1.2.2.2.2.2.2.1), (.int .u8 d1.2.2.2.2.2.2.2.1), (.int .u8 d1.2.2.2.2.2.2.2.2.1), (.int .u8 d1.2.2.2.2.2.2.2.2.2.1), (.int .u8 d1.2.2.2.2.2.2.2.2.2.2.1), (.int .u8 d1.2.2.2.2.2.2.2.2.2.2.2)]) 228 (0, 0)) :: slO i6 196 en_Vattr_Pair x6.2 :: R) (fun _ => rfl) ?_ fuel (0, ([] : List Vattr_Pair)) SV.nil trivial h)))
        clear h
        rintro k6 ih6 x6 i6 _ h
        rw [attr_Diff_l6.eq_2] at h
        refine l_round ?_
        refine c_seq ?_
        refine c_region ?_
        refine o1 rfl (o_p (v := (.bool (decide (x6.1 < 3)))) rfl ?_)
        refine o_end ?_
        refine e_seq ?_
        refine c_seq ?_
        refine c_cond (b := (decide (x6.1 < 3))) rfl (fun hb1547 => ?_) (fun hb1547 => ?_)
        · replace h := cond_t hb1547 h
          refine c_skip ?_
          refine e_seq ?_
          refine c_seq ?_
          refine c_block ?_
          refine c_seq ?_
          refine c_region ?_
          refine o1 rfl (o_p rfl ?_)
          replace h := gsome h
          obtain ⟨hg1548, h⟩ := h
          refine o1 rfl (o_aidx (e := en_Vattr_Pair) (l := [(⟨d1.1, d1.2.1⟩ : Vattr_Pair), (⟨d1.2.2.1, d1.2.2.2.1⟩ : Vattr_Pair), (⟨d1.2.2.2.2.1, d1.2.2.2.2.2.1⟩ : Vattr_Pair)]) (n := x6.1) (v := (.agg (List.toArray [(.int .u8 ((rd [(⟨d1.1, d1.2.1⟩ : Vattr_Pair), (⟨d1.2.2.1, d1.2.2.2.1⟩ : Vattr_Pair), (⟨d1.2.2.2.2.1, d1.2.2.2.2.2.1⟩ : Vattr_Pair)] x6.1).f_Type)), (.int .u8 ((rd [(⟨d1.1, d1.2.1⟩ : Vattr_Pair), (⟨d1.2.2.1, d1.2.2.2.1⟩ : Vattr_Pair), (⟨d1.2.2.2.2.1, d1.2.2.2.2.2.1⟩ : Vattr_Pair)] x6.1).Value))]))) rfl rfl rfl rfl rfl rfl rfl rfl hg1548 rfl ?_)
          refine o1 rfl (o_alloc (cs := [(.int .u8 0), (.int .u8 0)]) rfl rfl (fun b1549 => ?_))
          refine o1 rfl (o_p rfl ?_)
          refine o0 (o_st (b := b1549) (off := 0) (vs := [(.int .u8 ((rd [(⟨d1.1, d1.2.1⟩ : Vattr_Pair), (⟨d1.2.2.1, d1.2.2.2.1⟩ : Vattr_Pair), (⟨d1.2.2.2.2.1, d1.2.2.2.2.2.1⟩ : Vattr_Pair)] x6.1).f_Type)), (.int .u8 ((rd [(⟨d1.1, d1.2.1⟩ : Vattr_Pair), (⟨d1.2.2.1, d1.2.2.2.1⟩ : Vattr_Pair), (⟨d1.2.2.2.2.1, d1.2.2.2.2.2.1⟩ : Vattr_Pair)] x6.1).Value))]) (cs' := [(.int .u8 ((rd [(⟨d1.1, d1.2.1⟩ : Vattr_Pair), (⟨d1.2.2.1, d1.2.2.2.1⟩ : Vattr_Pair), (⟨d1.2.2.2.2.1, d1.2.2.2.2.2.1⟩ : Vattr_Pair)] x6.1).f_Type)), (.int .u8 ((rd [(⟨d1.1, d1.2.1⟩ : Vattr_Pair), (⟨d1.2.2.1, d1.2.2.2.1⟩ : Vattr_Pair), (⟨d1.2.2.2.2.1, d1.2.2.2.2.2.1⟩ : Vattr_Pair)] x6.1).Value))]) rfl rfl rp0 rfl rfl rfl rfl rfl rfl ?_)
          refine o_end ?_
          refine e_seq ?_
          refine c_seq ?_
          replace h := gsome h
          obtain ⟨hg1551, h⟩ := h
          refine c_draw (n := 0) (q := [(0, 22, (.int .i64 x6.1)), (1, 23, (.pointer (some ⟨i1.2, 0 + Int.toNat x6.1 * 2, none⟩))), (2, 24, (.agg (List.toArray [(.int .u8 ((rd [(⟨d1.2.2.2.2.2.2.1, d1.2.2.2.2.2.2.2.1⟩ : Vattr_Pair), (⟨d1.2.2.2.2.2.2.2.2.1, d1.2.2.2.2.2.2.2.2.2.1⟩ : Vattr_Pair), (⟨d1.2.2.2.2.2.2.2.2.2.2.1, d1.2.2.2.2.2.2.2.2.2.2.2⟩ : Vattr_Pair)] x6.1).f_Type)), (.int .u8 ((rd [(⟨d1.2.2.2.2.2.2.1, d1.2.2.2.2.2.2.2.1⟩ : Vattr_Pair), (⟨d1.2.2.2.2.2.2.2.2.1, d1.2.2.2.2.2.2.2.2.2.1⟩ : Vattr_Pair), (⟨d1.2.2.2.2.2.2.2.2.2.2.1, d1.2.2.2.2.2.2.2.2.2.2.2⟩ : Vattr_Pair)] x6.1).Value))]))), (3, 25, (.agg (List.toArray [(.int .u8 ((rd [(⟨d1.1, d1.2.1⟩ : Vattr_Pair), (⟨d1.2.2.1, d1.2.2.2.1⟩ : Vattr_Pair), (⟨d1.2.2.2.2.1, d1.2.2.2.2.2.1⟩ : Vattr_Pair)] x6.1).f_Type)), (.int .u8 ((rd [(⟨d1.1, d1.2.1⟩ : Vattr_Pair), (⟨d1.2.2.1, d1.2.2.2.1⟩ : Vattr_Pair), (⟨d1.2.2.2.2.1, d1.2.2.2.2.2.1⟩ : Vattr_Pair)] x6.1).Value))]))), (4, 26, (.bool (!((((rd [(⟨d1.2.2.2.2.2.2.1, d1.2.2.2.2.2.2.2.1⟩ : Vattr_Pair), (⟨d1.2.2.2.2.2.2.2.2.1, d1.2.2.2.2.2.2.2.2.2.1⟩ : Vattr_Pair), (⟨d1.2.2.2.2.2.2.2.2.2.2.1, d1.2.2.2.2.2.2.2.2.2.2.2⟩ : Vattr_Pair)] x6.1).f_Type) == ((rd [(⟨d1.1, d1.2.1⟩ : Vattr_Pair), (⟨d1.2.2.1, d1.2.2.2.1⟩ : Vattr_Pair), (⟨d1.2.2.2.2.1, d1.2.2.2.2.2.1⟩ : Vattr_Pair)] x6.1).f_Type)) && ((((rd [(⟨d1.2.2.2.2.2.2.1, d1.2.2.2.2.2.2.2.1⟩ : Vattr_Pair), (⟨d1.2.2.2.2.2.2.2.2.1, d1.2.2.2.2.2.2.2.2.2.1⟩ : Vattr_Pair), (⟨d1.2.2.2.2.2.2.2.2.2.2.1, d1.2.2.2.2.2.2.2.2.2.2.2⟩ : Vattr_Pair)] x6.1).Value) == ((rd [(⟨d1.1, d1.2.1⟩ : Vattr_Pair), (⟨d1.2.2.1, d1.2.2.2.1⟩ : Vattr_Pair), (⟨d1.2.2.2.2.1, d1.2.2.2.2.2.1⟩ : Vattr_Pair)] x6.1).Value)) && true)))))]) (pend := [0, 1, 2, 3, 4]) rfl rfl rfl ?_
          refine ⟨⟨fun _ => ⟨rfl, rfl, rfl, .inl ⟨rfl, (o_p rfl ⟨rfl, rfl⟩)⟩⟩, fun _ => ⟨rfl, rfl, rfl, .inl ⟨rfl, (o_ixA (n := x6.1) (e := en_Vattr_Pair) rfl rfl rfl rfl rfl rfl hg1551 ⟨rfl, rfl⟩)⟩⟩, fun _ => ⟨rfl, rfl, rfl, .inl ⟨rfl, (o_ldA (e := en_Vattr_Pair) (l := [(⟨d1.2.2.2.2.2.2.1, d1.2.2.2.2.2.2.2.1⟩ : Vattr_Pair), (⟨d1.2.2.2.2.2.2.2.2.1, d1.2.2.2.2.2.2.2.2.2.1⟩ : Vattr_Pair), (⟨d1.2.2.2.2.2.2.2.2.2.2.1, d1.2.2.2.2.2.2.2.2.2.2.2⟩ : Vattr_Pair)]) (n := x6.1) (f := 0) (off := 0) (b := i1.2) (c1 := []) (c2 := []) (v := (.agg (List.toArray [(.int .u8 ((rd [(⟨d1.2.2.2.2.2.2.1, d1.2.2.2.2.2.2.2.1⟩ : Vattr_Pair), (⟨d1.2.2.2.2.2.2.2.2.1, d1.2.2.2.2.2.2.2.2.2.1⟩ : Vattr_Pair), (⟨d1.2.2.2.2.2.2.2.2.2.2.1, d1.2.2.2.2.2.2.2.2.2.2.2⟩ : Vattr_Pair)] x6.1).f_Type)), (.int .u8 ((rd [(⟨d1.2.2.2.2.2.2.1, d1.2.2.2.2.2.2.2.1⟩ : Vattr_Pair), (⟨d1.2.2.2.2.2.2.2.2.1, d1.2.2.2.2.2.2.2.2.2.1⟩ : Vattr_Pair), (⟨d1.2.2.2.2.2.2.2.2.2.2.1, d1.2.2.2.2.2.2.2.2.2.2.2⟩ : Vattr_Pair)] x6.1).Value))]))) rfl rfl rm2 hg1551 rfl rfl ⟨rfl, rfl⟩)⟩⟩, fun _ => ⟨rfl, rfl, rfl, .inl ⟨rfl, (o_ld (b := b1549) (off := 0) (v := (.agg (List.toArray [(.int .u8 ((rd [(⟨d1.1, d1.2.1⟩ : Vattr_Pair), (⟨d1.2.2.1, d1.2.2.2.1⟩ : Vattr_Pair), (⟨d1.2.2.2.2.1, d1.2.2.2.2.2.1⟩ : Vattr_Pair)] x6.1).f_Type)), (.int .u8 ((rd [(⟨d1.1, d1.2.1⟩ : Vattr_Pair), (⟨d1.2.2.1, d1.2.2.2.1⟩ : Vattr_Pair), (⟨d1.2.2.2.2.1, d1.2.2.2.2.2.1⟩ : Vattr_Pair)] x6.1).Value))]))) rfl rm0 rfl rfl ⟨rfl, rfl⟩)⟩⟩, fun _ => ⟨rfl, rfl, rfl, .inl ⟨rfl, (o_neT (b := ((((rd [(⟨d1.2.2.2.2.2.2.1, d1.2.2.2.2.2.2.2.1⟩ : Vattr_Pair), (⟨d1.2.2.2.2.2.2.2.2.1, d1.2.2.2.2.2.2.2.2.2.1⟩ : Vattr_Pair), (⟨d1.2.2.2.2.2.2.2.2.2.2.1, d1.2.2.2.2.2.2.2.2.2.2.2⟩ : Vattr_Pair)] x6.1).f_Type) == ((rd [(⟨d1.1, d1.2.1⟩ : Vattr_Pair), (⟨d1.2.2.1, d1.2.2.2.1⟩ : Vattr_Pair), (⟨d1.2.2.2.2.1, d1.2.2.2.2.2.1⟩ : Vattr_Pair)] x6.1).f_Type)) && ((((rd [(⟨d1.2.2.2.2.2.2.1, d1.2.2.2.2.2.2.2.1⟩ : Vattr_Pair), (⟨d1.2.2.2.2.2.2.2.2.1, d1.2.2.2.2.2.2.2.2.2.1⟩ : Vattr_Pair), (⟨d1.2.2.2.2.2.2.2.2.2.2.1, d1.2.2.2.2.2.2.2.2.2.2.2⟩ : Vattr_Pair)] x6.1).Value) == ((rd [(⟨d1.1, d1.2.1⟩ : Vattr_Pair), (⟨d1.2.2.1, d1.2.2.2.1⟩ : Vattr_Pair), (⟨d1.2.2.2.2.1, d1.2.2.2.2.2.1⟩ : Vattr_Pair)] x6.1).Value)) && true))) (xs := [(.int .u8 ((rd [(⟨d1.2.2.2.2.2.2.1, d1.2.2.2.2.2.2.2.1⟩ : Vattr_Pair), (⟨d1.2.2.2.2.2.2.2.2.1, d1.2.2.2.2.2.2.2.2.2.1⟩ : Vattr_Pair), (⟨d1.2.2.2.2.2.2.2.2.2.2.1, d1.2.2.2.2.2.2.2.2.2.2.2⟩ : Vattr_Pair)] x6.1).f_Type)), (.int .u8 ((rd [(⟨d1.2.2.2.2.2.2.1, d1.2.2.2.2.2.2.2.1⟩ : Vattr_Pair), (⟨d1.2.2.2.2.2.2.2.2.1, d1.2.2.2.2.2.2.2.2.2.1⟩ : Vattr_Pair), (⟨d1.2.2.2.2.2.2.2.2.2.2.1, d1.2.2.2.2.2.2.2.2.2.2.2⟩ : Vattr_Pair)] x6.1).Value))]) (ys := [(.int .u8 ((rd [(⟨d1.1, d1.2.1⟩ : Vattr_Pair), (⟨d1.2.2.1, d1.2.2.2.1⟩ : Vattr_Pair), (⟨d1.2.2.2.2.1, d1.2.2.2.2.2.1⟩ : Vattr_Pair)] x6.1).f_Type)), (.int .u8 ((rd [(⟨d1.1, d1.2.1⟩ : Vattr_Pair), (⟨d1.2.2.1, d1.2.2.2.1⟩ : Vattr_Pair), (⟨d1.2.2.2.2.1, d1.2.2.2.2.2.1⟩ : Vattr_Pair)] x6.1).Value))]) rfl rfl (by kernel_rfl) stood rfl ⟨rfl, rfl⟩)⟩⟩, trivial⟩, rfl, rfl, rfl, ?_⟩
          refine e_seq ?_
          replace h := bsome h
          obtain ⟨d10, h, hk10⟩ := h
          refine cj (D := Unit) (ι := SV) (fun _ i10 => True) (fun _ i10 => [(5, (SV.val i10)), (18, (.int .i64 x6.1)), (17, (.agg (List.toArray [(.int .u8 d1.1), (.int .u8 d1.2.1), (.int .u8 d1.2.2.1), (.int .u8 d1.2.2.2.1), (.int .u8 d1.2.2.2.2.1), (.int .u8 d1.2.2.2.2.2.1)]))), (6, (.pointer (some ⟨i1.2, 0, none⟩)))]) (fun _ i10 => X :: slO i10 196 en_Vattr_Pair d10 :: blk i1.2 (.cells (List.toArray [(.int .u8 d1.2.2.2.2.2.2.1), (.int .u8 d1.2.2.2.2.2.2.2.1), (.int .u8 d1.2.2.2.2.2.2.2.2.1), (.int .u8 d1.2.2.2.2.2.2.2.2.2.1), (.int .u8 d1.2.2.2.2.2.2.2.2.2.2.1), (.int .u8 d1.2.2.2.2.2.2.2.2.2.2.2)]) 228 (0, 0)) :: R) ?_ ?_
          · refine c_cond (b := (!((((rd [(⟨d1.2.2.2.2.2.2.1, d1.2.2.2.2.2.2.2.1⟩ : Vattr_Pair), (⟨d1.2.2.2.2.2.2.2.2.1, d1.2.2.2.2.2.2.2.2.2.1⟩ : Vattr_Pair), (⟨d1.2.2.2.2.2.2.2.2.2.2.1, d1.2.2.2.2.2.2.2.2.2.2.2⟩ : Vattr_Pair)] x6.1).f_Type) == ((rd [(⟨d1.1, d1.2.1⟩ : Vattr_Pair), (⟨d1.2.2.1, d1.2.2.2.1⟩ : Vattr_Pair), (⟨d1.2.2.2.2.1, d1.2.2.2.2.2.1⟩ : Vattr_Pair)] x6.1).f_Type)) && ((((rd [(⟨d1.2.2.2.2.2.2.1, d1.2.2.2.2.2.2.2.1⟩ : Vattr_Pair), (⟨d1.2.2.2.2.2.2.2.2.1, d1.2.2.2.2.2.2.2.2.2.1⟩ : Vattr_Pair), (⟨d1.2.2.2.2.2.2.2.2.2.2.1, d1.2.2.2.2.2.2.2.2.2.2.2⟩ : Vattr_Pair)] x6.1).Value) == ((rd [(⟨d1.1, d1.2.1⟩ : Vattr_Pair), (⟨d1.2.2.1, d1.2.2.2.1⟩ : Vattr_Pair), (⟨d1.2.2.2.2.1, d1.2.2.2.2.2.1⟩ : Vattr_Pair)] x6.1).Value)) && true)))) rfl (fun hb1552 => ?_) (fun hb1552 => ?_)
            · replace h := cond_t hb1552 h
              refine c_region ?_
              refine o1 rfl (o_p rfl ?_)
              refine o1 rfl (o_ld (b := b1549) (off := 0) (v := (.agg (List.toArray [(.int .u8 ((rd [(⟨d1.1, d1.2.1⟩ : Vattr_Pair), (⟨d1.2.2.1, d1.2.2.2.1⟩ : Vattr_Pair), (⟨d1.2.2.2.2.1, d1.2.2.2.2.2.1⟩ : Vattr_Pair)] x6.1).f_Type)), (.int .u8 ((rd [(⟨d1.1, d1.2.1⟩ : Vattr_Pair), (⟨d1.2.2.1, d1.2.2.2.1⟩ : Vattr_Pair), (⟨d1.2.2.2.2.1, d1.2.2.2.2.2.1⟩ : Vattr_Pair)] x6.1).Value))]))) rfl rm0 rfl rfl ?_)
              refine o1 rfl (o_bs (e := en_Vattr_Pair) (l := [(rd [(⟨d1.1, d1.2.1⟩ : Vattr_Pair), (⟨d1.2.2.1, d1.2.2.2.1⟩ : Vattr_Pair), (⟨d1.2.2.2.2.1, d1.2.2.2.2.2.1⟩ : Vattr_Pair)] x6.1)]) (zs := [(.int .u8 0), (.int .u8 0)]) rfl rfl rfl rfl rfl rfl rfl rfl rfl rfl (fun s1553 => ?_))
              replace h := gsome h
              obtain ⟨hg1555, h⟩ := h
              refine o1 rfl (o_app (s := i6) (r := s1553) (e := en_Vattr_Pair) (l := x6.2) (l2 := [(rd [(⟨d1.1, d1.2.1⟩ : Vattr_Pair), (⟨d1.2.2.1, d1.2.2.2.1⟩ : Vattr_Pair), (⟨d1.2.2.2.2.1, d1.2.2.2.2.2.1⟩ : Vattr_Pair)] x6.1)]) (zs := [(.int .u8 0), (.int .u8 0)]) rfl rfl rfl rfl rfl rfl rfl rfl rfl rfl rfl rm4 rm0 (rd_own _ _ _ _) hg1555 (fun s1556 => ?_))
              refine o1 rfl (o_p rfl ?_)
              refine o_end ?_
              have hd := Option.some.inj h
              subst hd
              exact ej () s1556 trivial (sc rfl (sc rfl (sc rfl (sc rfl sn)))) (kc rm3 (kc rm0 (kc rm2 (kd (kd kr)))))
            · replace h := cond_f hb1552 h
              refine c_skip ?_
              have hd := Option.some.inj h
              subst hd
              exact ej () i6 trivial (sc rfl (sc rfl (sc rfl (sc rfl sn)))) (kc rm1 (kc rm2 (kc rm1 (kd kr))))
          · rintro _ i10 _
            replace h := hk10
            clear hk10
            refine e_blk ?_
            refine e_seq ?_
            refine c_region ?_
            refine o1 rfl (o_p (v := (.int .i64 (w64 (x6.1 + 1)))) rfl ?_)
            refine o1 rfl (o_p rfl ?_)
            refine o_end ?_
            exact e_loop (l_sub (sc rfl (sc rfl (sc rfl (sc rfl sn)))) (l_keep (kc rm0 (kc rm1 (kc rm0 kr))) (ih6 (w64 (x6.1 + 1), d10) i10 trivial h)))
        · replace h := cond_f hb1547 h
          refine c_exit ?_
          refine e_then_exit ?_
          refine e_then_exit ?_
          refine e_blk_exit ?_
          have hd := Option.some.inj h
          subst hd
          exact ej () i6 trivial (sc rfl sn) (kc rm0 (kc rm1 (kd kr)))
      · rintro _ i5 _
        replace h := hk5
        clear hk5
        refine e_seq ?_
        refine c_seq ?_
        refine c_region ?_
        refine o1 rfl (o_p rfl ?_)
        refine o1 rfl (o_p rfl ?_)
        refine o_end ?_
        refine e_seq ?_
        refine c_ret ?_
        refine e_ret ?_
        refine r_endt rfl rfl (kc rm0 (kc rm0 kr)) ?_
        have hr := Option.some.inj h
        subst hr
        exact hk i5

end Go.Vt
