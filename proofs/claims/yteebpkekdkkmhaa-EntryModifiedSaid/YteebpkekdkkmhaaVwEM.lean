/- The walks: each function does what its model says. No conditions. -/
import Derived.Test.YteebpkekdkkmhaaVwEMb
set_option linter.unusedVariables false
set_option maxRecDepth 100000
set_option maxHeartbeats 4000000
namespace Go.Vt
open Go.Proofs
theorem c_read_sender_character {g : Gw} (X : HP) (p0 : Vread_sender) (b0 : Nat) (s0 : SV) (p1 : Vapi_Cell) (r : Vread_sender) (h : m_read_sender_character p0 p1 = some r) : Tri env g 69 (List.toArray [(.pointer (some ⟨b0, 0, none⟩)), (.agg (List.toArray [(.int .u8 p1.Char), (.bool p1.Attr), (.int .u8 p1.FA), (.int .u8 p1.High), (.int .u8 p1.Color), (.int .u8 p1.f_Set)]))]) [X, blk b0 (.cells (List.toArray [(SV.val s0), (.int .u8 p0.last.Char), (.bool p0.last.Attr), (.int .u8 p0.last.FA), (.int .u8 p0.last.High), (.int .u8 p0.last.Color), (.int .u8 p0.last.f_Set), (.int .i64 p0.mode)]) 130 (0, 0)), slO s0 5 (enI .u8) p0.out] (fun K R => ∀ (i0 : SV), K (.tuple (List.toArray [])) (X :: blk b0 (.cells (List.toArray [(SV.val i0), (.int .u8 r.last.Char), (.bool r.last.Attr), (.int .u8 r.last.FA), (.int .u8 r.last.High), (.int .u8 r.last.Color), (.int .u8 r.last.f_Set), (.int .i64 r.mode)]) 130 (0, 0)) :: slO i0 5 (enI .u8) r.out :: R)) := by
  refine tri_of (fn := Try.f69) (N := 69) Try.func69 rfl rfl rfl ?_
  intro R K hk
  unfold m_read_sender_character at h
  change GC _ none _ [] [(0, (.pointer (some ⟨b0, 0, none⟩))), (1, (.agg (List.toArray [(.int .u8 p1.Char), (.bool p1.Attr), (.int .u8 p1.FA), (.int .u8 p1.High), (.int .u8 p1.Color), (.int .u8 p1.f_Set)])))] (X :: blk b0 (.cells (List.toArray [(SV.val s0), (.int .u8 p0.last.Char), (.bool p0.last.Attr), (.int .u8 p0.last.FA), (.int .u8 p0.last.High), (.int .u8 p0.last.Color), (.int .u8 p0.last.f_Set), (.int .i64 p0.mode)]) 130 (0, 0)) :: slO s0 5 (enI .u8) p0.out :: R) g _ _
  refine c_seq ?_
  refine c_region ?_
  refine o1 rfl (o_box (cs := [(.int .u8 p1.Char), (.bool p1.Attr), (.int .u8 p1.FA), (.int .u8 p1.High), (.int .u8 p1.Color), (.int .u8 p1.f_Set)]) rfl rfl (fun b1486 => ?_))
  refine o_end ?_
  refine e_seq ?_
  refine c_seq ?_
  replace h := bsome h
  obtain ⟨d1, h, hk1⟩ := h
  refine cj (D := Unit) (ι := SV) (fun _ i1 => True) (fun _ i1 => [(3, (.pointer (some ⟨b1486, 0, none⟩))), (0, (.pointer (some ⟨b0, 0, none⟩)))]) (fun _ i1 => X :: blk b1486 (.cells (List.toArray [(.int .u8 p1.Char), (.bool p1.Attr), (.int .u8 p1.FA), (.int .u8 p1.High), (.int .u8 p1.Color), (.int .u8 p1.f_Set)]) 48 (0, 0)) :: blk b0 (.cells (List.toArray [(SV.val i1), (.int .u8 d1.2.1), (.bool d1.2.2.1), (.int .u8 d1.2.2.2.1), (.int .u8 d1.2.2.2.2.1), (.int .u8 d1.2.2.2.2.2.1), (.int .u8 d1.2.2.2.2.2.2), (.int .i64 p0.mode)]) 130 (0, 0)) :: slO i1 5 (enI .u8) d1.1 :: R) ?_ ?_
  · refine c_block ?_
    refine c_seq ?_
    refine c_region ?_
    refine o1 rfl (o_p rfl ?_)
    refine o1 rfl (o_p rfl ?_)
    refine o1 rfl (o_fa (fd := ⟨ "mode", 3, 7, false, "", "vitrine/read", 32⟩) rfl rfl rfl rfl rfl ?_)
    refine o1 rfl (o_ld (b := b0) (off := 7) (v := (.int .i64 p0.mode)) rfl rm2 rfl rfl ?_)
    refine o1 rfl (o_p (v := (.bool (p0.mode == 2))) rfl ?_)
    refine o1 rfl (o_p rfl ?_)
    refine o_end ?_
    refine e_seq ?_
    replace h := bsome h
    obtain ⟨d2, h, hk2⟩ := h
    refine cj (D := Unit) (ι := SV) (fun _ i2 => True) (fun _ i2 => [(3, (.pointer (some ⟨b1486, 0, none⟩))), (0, (.pointer (some ⟨b0, 0, none⟩)))]) (fun _ i2 => X :: blk b1486 (.cells (List.toArray [(.int .u8 p1.Char), (.bool p1.Attr), (.int .u8 p1.FA), (.int .u8 p1.High), (.int .u8 p1.Color), (.int .u8 p1.f_Set)]) 48 (0, 0)) :: blk b0 (.cells (List.toArray [(SV.val i2), (.int .u8 d2.2.1), (.bool d2.2.2.1), (.int .u8 d2.2.2.2.1), (.int .u8 d2.2.2.2.2.1), (.int .u8 d2.2.2.2.2.2.1), (.int .u8 d2.2.2.2.2.2.2), (.int .i64 p0.mode)]) 130 (0, 0)) :: slO i2 5 (enI .u8) d2.1 :: R) ?_ ?_
    · refine c_cond (b := (p0.mode == 2)) rfl (fun hb1488 => ?_) (fun hb1488 => ?_)
      · replace h := cond_t hb1488 h
        refine c_seq ?_
        refine c_seq ?_
        refine c_draw (n := 1) (q := [(0, 13, (.pointer (some ⟨b0, 0, none⟩))), (1, 14, (.pointer (some ⟨b0, 0, none⟩))), (2, 15, (.pointer (some ⟨b0, 1, none⟩))), (3, 16, (.agg (List.toArray [(.int .u8 p0.last.Char), (.bool p0.last.Attr), (.int .u8 p0.last.FA), (.int .u8 p0.last.High), (.int .u8 p0.last.Color), (.int .u8 p0.last.f_Set)]))), (4, 17, (.agg (List.toArray [(.int .u8 p1.Char), (.bool p1.Attr), (.int .u8 p1.FA), (.int .u8 p1.High), (.int .u8 p1.Color), (.int .u8 p1.f_Set)]))), (7, 20, (.int .i64 0))]) (pend := [0, 1, 2, 3, 4, 7]) rfl rfl rfl ?_
        replace h := bsome h
        obtain ⟨d4, h4, h⟩ := h
        refine ⟨⟨fun _ => ⟨rfl, rfl, rfl, .inl ⟨rfl, (o_p rfl ⟨rfl, rfl⟩)⟩⟩, fun _ => ⟨rfl, rfl, rfl, .inl ⟨rfl, (o_p rfl ⟨rfl, rfl⟩)⟩⟩, fun _ => ⟨rfl, rfl, rfl, .inl ⟨rfl, (o_fa (fd := ⟨ "last", 48, 1, false, "", "vitrine/read", 24⟩) rfl rfl rfl rfl rfl ⟨rfl, rfl⟩)⟩⟩, fun _ => ⟨rfl, rfl, rfl, .inl ⟨rfl, (o_ld (b := b0) (off := 1) (v := (.agg (List.toArray [(.int .u8 p0.last.Char), (.bool p0.last.Attr), (.int .u8 p0.last.FA), (.int .u8 p0.last.High), (.int .u8 p0.last.Color), (.int .u8 p0.last.f_Set)]))) rfl rm2 rfl rfl ⟨rfl, rfl⟩)⟩⟩, fun _ => ⟨rfl, rfl, rfl, .inl ⟨rfl, (o_ld (b := b1486) (off := 0) (v := (.agg (List.toArray [(.int .u8 p1.Char), (.bool p1.Attr), (.int .u8 p1.FA), (.int .u8 p1.High), (.int .u8 p1.Color), (.int .u8 p1.f_Set)]))) rfl rm0 rfl rfl ⟨rfl, rfl⟩)⟩⟩, fun _ => ⟨rfl, rfl, rfl, .inl ⟨rfl, (o_p rfl ⟨rfl, rfl⟩)⟩⟩, trivial⟩, rfl, .inr ⟨[5], rfl, rfl, ⟨rfl, .inl rfl, ?_⟩, trivial⟩⟩
        refine (o_call has103 rfl (c_attr_Diff X p0.last p1 _ h4) (pc rm1 pn) (fun i4 => ?_))
        refine ⟨[(6, 19, (.int .i64 (d4.length : Int)))], [7, 6], rfl, rfl, rfl, rfl, ?_⟩
        refine ⟨⟨fun _ => ⟨rfl, rfl, rfl, .inl ⟨rfl, (o_len (s := i4) rfl rfl rfl rm1 (rd_own _ _ _ _) ⟨rfl, rfl⟩)⟩⟩, (fun h => nomatch h), (fun h => nomatch h), (fun h => nomatch h), (fun h => nomatch h), (fun h => nomatch h), fun _ => ⟨rfl, rfl, rfl, .inl ⟨rfl, (o_p rfl ⟨rfl, rfl⟩)⟩⟩, trivial⟩, rfl, rfl, rfl, ?_⟩
        refine e_seq ?_
        replace h := bsome h
        obtain ⟨d5, h, hk5⟩ := h
        refine cj (D := Unit) (ι := SV) (fun _ i5 => True) (fun _ i5 => [(3, (.pointer (some ⟨b1486, 0, none⟩))), (0, (.pointer (some ⟨b0, 0, none⟩)))]) (fun _ i5 => X :: blk b1486 (.cells (List.toArray [(.int .u8 p1.Char), (.bool p1.Attr), (.int .u8 p1.FA), (.int .u8 p1.High), (.int .u8 p1.Color), (.int .u8 p1.f_Set)]) 48 (0, 0)) :: blk b0 (.cells (List.toArray [(SV.val i5), (.int .u8 p0.last.Char), (.bool p0.last.Attr), (.int .u8 p0.last.FA), (.int .u8 p0.last.High), (.int .u8 p0.last.Color), (.int .u8 p0.last.f_Set), (.int .i64 p0.mode)]) 130 (0, 0)) :: slO i5 5 (enI .u8) d5 :: R) ?_ ?_
        · refine c_block ?_
          refine c_loop (l_sub (sc rfl (sc rfl (sc rfl (sc rfl (sc rfl sn))))) (l_keep (kc rm0 (kc rm0 (kc rm0 (kc rm0 (kc rm0 kr))))) (lf (X := Int × (List Int)) (ι := SV) (fun k x => read_sender_character_l6 d4 k x) _ (fun x6 i6 => True) (fun x6 i6 => [(19, (.int .i64 (d4.length : Int))), (18, (SV.val i4)), (20, (.int .i64 x6.1)), (3, (.pointer (some ⟨b1486, 0, none⟩))), (0, (.pointer (some ⟨b0, 0, none⟩)))]) (fun x6 i6 => X :: slO i4 196 en_Vattr_Pair d4 :: blk b1486 (.cells (List.toArray [(.int .u8 p1.Char), (.bool p1.Attr), (.int .u8 p1.FA), (.int .u8 p1.High), (.int .u8 p1.Color), (.int .u8 p1.f_Set)]) 48 (0, 0)) :: blk b0 (.cells (List.toArray [(SV.val i6), (.int .u8 p0.last.Char), (.bool p0.last.Attr), (.int .u8 p0.last.FA), (.int .u8 p0.last.High), (.int .u8 p0.last.Color), (.int .u8 p0.last.f_Set), (.int .i64 p0.mode)]) 130 (0, 0)) :: slO i6 5 (enI .u8) x6.2 :: R) (fun _ => rfl) ?_ fuel (0, p0.out) s0 trivial h)))
          clear h
          rintro k6 ih6 x6 i6 _ h
          rw [read_sender_character_l6.eq_2] at h
          refine l_round ?_
          refine c_seq ?_
          refine c_region ?_
          refine o1 rfl (o_p (v := (.bool (decide (x6.1 < (d4.length : Int))))) rfl ?_)
          refine o_end ?_
          refine e_seq ?_
          refine c_seq ?_
          refine c_cond (b := (decide (x6.1 < (d4.length : Int)))) rfl (fun hb1585 => ?_) (fun hb1585 => ?_)
          · replace h := cond_t hb1585 h
            refine c_skip ?_
            refine e_seq ?_
            refine c_seq ?_
            refine c_block ?_
            refine c_seq ?_
            refine c_region ?_
            replace h := gsome h
            obtain ⟨hg1586, h⟩ := h
            refine o1 rfl (o_ix (s := i4) (n := x6.1) (e := en_Vattr_Pair) rfl rfl rfl rfl rfl rfl rm1 (rd_own _ _ _ _) hg1586 ?_)
            refine o1 rfl (o_ldE (s := i4) (e := en_Vattr_Pair) (n := x6.1) (f := 0) (v := (.agg (List.toArray [(.int .u8 ((rd d4 x6.1).f_Type)), (.int .u8 ((rd d4 x6.1).Value))]))) rfl rm1 (rd_own _ _ _ _) hg1586 rfl rfl ?_)
            refine o1 rfl (o_alloc (cs := [(.int .u8 0), (.int .u8 0)]) rfl rfl (fun b1587 => ?_))
            refine o0 (o_st (b := b1587) (off := 0) (vs := [(.int .u8 ((rd d4 x6.1).f_Type)), (.int .u8 ((rd d4 x6.1).Value))]) (cs' := [(.int .u8 ((rd d4 x6.1).f_Type)), (.int .u8 ((rd d4 x6.1).Value))]) rfl rfl rp0 rfl rfl rfl rfl rfl rfl ?_)
            refine o_end ?_
            refine e_seq ?_
            refine c_draw (n := 3) (q := [(0, 24, (.pointer (some ⟨b0, 0, none⟩))), (1, 25, (.pointer (some ⟨b0, 0, none⟩))), (2, 26, (.pointer (some ⟨b0, 0, none⟩))), (3, 27, (.pointer (some ⟨b0, 0, none⟩))), (4, 28, (SV.val i6)), (5, 29, (.pointer (some ⟨b1587, 0, none⟩))), (6, 30, (.int .u8 ((rd d4 x6.1).f_Type))), (7, 31, (.pointer (some ⟨b1587, 1, none⟩))), (8, 32, (.int .u8 ((rd d4 x6.1).Value)))]) (pend := [0, 1, 2, 3, 4, 5, 6, 7, 8]) rfl rfl rfl ?_
            refine ⟨⟨fun _ => ⟨rfl, rfl, rfl, .inl ⟨rfl, (o_p rfl ⟨rfl, rfl⟩)⟩⟩, fun _ => ⟨rfl, rfl, rfl, .inl ⟨rfl, (o_p rfl ⟨rfl, rfl⟩)⟩⟩, fun _ => ⟨rfl, rfl, rfl, .inl ⟨rfl, (o_p rfl ⟨rfl, rfl⟩)⟩⟩, fun _ => ⟨rfl, rfl, rfl, .inl ⟨rfl, (o_fa (fd := ⟨ "out", 31, 0, false, "", "vitrine/read", 0⟩) rfl rfl rfl rfl rfl ⟨rfl, rfl⟩)⟩⟩, fun _ => ⟨rfl, rfl, rfl, .inl ⟨rfl, (o_ld (b := b0) (off := 0) (v := (SV.val i6)) rfl rm4 rfl rfl ⟨rfl, rfl⟩)⟩⟩, fun _ => ⟨rfl, rfl, rfl, .inl ⟨rfl, (o_fa (fd := ⟨ "Type", 5, 0, false, "", "", 0⟩) rfl rfl rfl rfl rfl ⟨rfl, rfl⟩)⟩⟩, fun _ => ⟨rfl, rfl, rfl, .inl ⟨rfl, (o_ld (b := b1587) (off := 0) (v := (.int .u8 ((rd d4 x6.1).f_Type))) rfl rm0 rfl rfl ⟨rfl, rfl⟩)⟩⟩, fun _ => ⟨rfl, rfl, rfl, .inl ⟨rfl, (o_fa (fd := ⟨ "Value", 5, 1, false, "", "", 1⟩) rfl rfl rfl rfl rfl ⟨rfl, rfl⟩)⟩⟩, fun _ => ⟨rfl, rfl, rfl, .inl ⟨rfl, (o_ld (b := b1587) (off := 1) (v := (.int .u8 ((rd d4 x6.1).Value))) rfl rm0 rfl rfl ⟨rfl, rfl⟩)⟩⟩, trivial⟩, rfl, .inr ⟨[9], rfl, rfl, ⟨rfl, .inl rfl, ?_⟩, trivial⟩⟩
            refine (o_bs (e := (enI .u8)) (l := [40, (rd d4 x6.1).f_Type, (rd d4 x6.1).Value]) (zs := [(.int .u8 0)]) rfl rfl rfl rfl rfl rfl rfl rfl rfl rfl (fun s1589 => ?_))
            refine ⟨[], [0, 1, 2, 3, 4], rfl, rfl, rfl, rfl, ?_⟩
            replace h := gsome h
            obtain ⟨hg1591, h⟩ := h
            refine ⟨⟨fun _ => ⟨rfl, rfl, rfl, .inl ⟨rfl, (o_p rfl ⟨rfl, rfl⟩)⟩⟩, fun _ => ⟨rfl, rfl, rfl, .inl ⟨rfl, (o_p rfl ⟨rfl, rfl⟩)⟩⟩, fun _ => ⟨rfl, rfl, rfl, .inl ⟨rfl, (o_p rfl ⟨rfl, rfl⟩)⟩⟩, fun _ => ⟨rfl, rfl, rfl, .inl ⟨rfl, (o_fa (fd := ⟨ "out", 31, 0, false, "", "vitrine/read", 0⟩) rfl rfl rfl rfl rfl ⟨rfl, rfl⟩)⟩⟩, fun _ => ⟨rfl, rfl, rfl, .inl ⟨rfl, (o_ld (b := b0) (off := 0) (v := (SV.val i6)) rfl rm5 rfl rfl ⟨rfl, rfl⟩)⟩⟩, (fun h => nomatch h), (fun h => nomatch h), (fun h => nomatch h), (fun h => nomatch h), trivial⟩, rfl, .inr ⟨[10], rfl, rfl, ⟨rfl, .inl rfl, ?_⟩, trivial⟩⟩
            refine (o_app (s := i6) (r := s1589) (e := (enI .u8)) (l := x6.2) (l2 := [40, (rd d4 x6.1).f_Type, (rd d4 x6.1).Value]) (zs := [(.int .u8 0)]) rfl rfl rfl rfl rfl rfl rfl rfl rfl rfl rfl rm6 rm0 (rd_own _ _ _ _) hg1591 (fun s1592 => ?_))
            refine ⟨[(11, 35, (.pointer (some ⟨b0, 0, none⟩))), (12, 36, (.pointer (some ⟨b0, 0, none⟩)))], [0, 11, 12], rfl, rfl, rfl, rfl, ?_⟩
            refine ⟨⟨fun _ => ⟨rfl, rfl, rfl, .inl ⟨rfl, (o_p rfl ⟨rfl, rfl⟩)⟩⟩, fun _ => ⟨rfl, rfl, rfl, .inl ⟨rfl, (o_fa (fd := ⟨ "out", 31, 0, false, "", "vitrine/read", 0⟩) rfl rfl rfl rfl rfl ⟨rfl, rfl⟩)⟩⟩, fun _ => ⟨rfl, rfl, rfl, .inl ⟨rfl, (o_p rfl ⟨rfl, rfl⟩)⟩⟩, (fun h => nomatch h), (fun h => nomatch h), (fun h => nomatch h), (fun h => nomatch h), (fun h => nomatch h), (fun h => nomatch h), (fun h => nomatch h), (fun h => nomatch h), trivial⟩, rfl, .inr ⟨[13], rfl, rfl, ⟨rfl, .inl rfl, ?_⟩, trivial⟩⟩
            refine (o_st (b := b0) (off := 0) (vs := [(SV.val s1592)]) (cs' := [(SV.val s1592), (.int .u8 p0.last.Char), (.bool p0.last.Attr), (.int .u8 p0.last.FA), (.int .u8 p0.last.High), (.int .u8 p0.last.Color), (.int .u8 p0.last.f_Set), (.int .i64 p0.mode)]) rfl rfl rp6 rfl rfl rfl rfl rfl rfl ?_)
            refine ⟨[], [], rfl, rfl, ?_⟩
            refine ⟨⟨(fun h => nomatch h), (fun h => nomatch h), (fun h => nomatch h), (fun h => nomatch h), (fun h => nomatch h), (fun h => nomatch h), (fun h => nomatch h), (fun h => nomatch h), (fun h => nomatch h), (fun h => nomatch h), (fun h => nomatch h), trivial⟩, rfl, rfl, rfl, ?_⟩
            refine e_blk ?_
            refine e_seq ?_
            refine c_region ?_
            refine o1 rfl (o_p (v := (.int .i64 (w64 (x6.1 + 1)))) rfl ?_)
            refine o1 rfl (o_p rfl ?_)
            refine o_end ?_
            exact e_loop (l_sub (sc rfl (sc rfl (sc rfl (sc rfl (sc rfl sn))))) (l_keep (kc rm3 (kc rm3 (kc rm3 (kc rm3 (kc rm0 (kd (kd kr))))))) (ih6 (w64 (x6.1 + 1), (x6.2 ++ [40, (rd d4 x6.1).f_Type, (rd d4 x6.1).Value])) s1592 trivial h)))
          · replace h := cond_f hb1585 h
            refine c_exit ?_
            refine e_then_exit ?_
            refine e_then_exit ?_
            refine e_blk_exit ?_
            have hd := Option.some.inj h
            subst hd
            exact ej () i6 trivial (sc rfl (sc rfl sn)) (kc rm0 (kc rm1 (kc rm1 (kc rm1 (kd kr)))))
        · rintro _ i5 _
          replace h := hk5
          clear hk5
          refine e_seq ?_
          refine c_region ?_
          refine o1 rfl (o_p rfl ?_)
          refine o1 rfl (o_ld (b := b1486) (off := 0) (v := (.agg (List.toArray [(.int .u8 p1.Char), (.bool p1.Attr), (.int .u8 p1.FA), (.int .u8 p1.High), (.int .u8 p1.Color), (.int .u8 p1.f_Set)]))) rfl rm1 rfl rfl ?_)
          refine o1 rfl (o_p rfl ?_)
          refine o1 rfl (o_fa (fd := ⟨ "last", 48, 1, false, "", "vitrine/read", 24⟩) rfl rfl rfl rfl rfl ?_)
          refine o0 (o_st (b := b0) (off := 1) (vs := [(.int .u8 p1.Char), (.bool p1.Attr), (.int .u8 p1.FA), (.int .u8 p1.High), (.int .u8 p1.Color), (.int .u8 p1.f_Set)]) (cs' := [(SV.val i5), (.int .u8 p1.Char), (.bool p1.Attr), (.int .u8 p1.FA), (.int .u8 p1.High), (.int .u8 p1.Color), (.int .u8 p1.f_Set), (.int .i64 p0.mode)]) rfl rfl rp2 rfl rfl rfl rfl rfl rfl ?_)
          refine o_end ?_
          have hd := Option.some.inj h
          subst hd
          exact ej () i5 trivial (sc rfl (sc rfl sn)) (kc rm0 (kc rm0 (kc rm0 (kc rm0 kr))))
      · replace h := cond_f hb1488 h
        refine c_seq ?_
        refine c_region ?_
        refine o1 rfl (o_fa (fd := ⟨ "Set", 5, 5, false, "", "", 5⟩) rfl rfl rfl rfl rfl ?_)
        refine o1 rfl (o_ld (b := b1486) (off := 5) (v := (.int .u8 p1.f_Set)) rfl rm0 rfl rfl ?_)
        refine o1 rfl (o_p (v := (.bool (p1.f_Set == 241))) rfl ?_)
        refine o1 rfl (o_p rfl ?_)
        refine o_end ?_
        refine e_seq ?_
        refine c_cond (b := (p1.f_Set == 241)) rfl (fun hb1596 => ?_) (fun hb1596 => ?_)
        · replace h := cond_t hb1596 h
          refine c_region ?_
          refine o1 rfl (o_p rfl ?_)
          refine o1 rfl (o_p rfl ?_)
          refine o1 rfl (o_p rfl ?_)
          refine o1 rfl (o_fa (fd := ⟨ "out", 31, 0, false, "", "vitrine/read", 0⟩) rfl rfl rfl rfl rfl ?_)
          refine o1 rfl (o_ld (b := b0) (off := 0) (v := (SV.val s0)) rfl rm2 rfl rfl ?_)
          refine o1 rfl (o_bs (e := (enI .u8)) (l := [8]) (zs := [(.int .u8 0)]) rfl rfl rfl rfl rfl rfl rfl rfl rfl rfl (fun s1597 => ?_))
          replace h := gsome h
          obtain ⟨hg1599, h⟩ := h
          refine o1 rfl (o_app (s := s0) (r := s1597) (e := (enI .u8)) (l := p0.out) (l2 := [8]) (zs := [(.int .u8 0)]) rfl rfl rfl rfl rfl rfl rfl rfl rfl rfl rfl rm4 rm0 (rd_own _ _ _ _) hg1599 (fun s1600 => ?_))
          refine o1 rfl (o_p rfl ?_)
          refine o1 rfl (o_fa (fd := ⟨ "out", 31, 0, false, "", "vitrine/read", 0⟩) rfl rfl rfl rfl rfl ?_)
          refine o0 (o_st (b := b0) (off := 0) (vs := [(SV.val s1600)]) (cs' := [(SV.val s1600), (.int .u8 p0.last.Char), (.bool p0.last.Attr), (.int .u8 p0.last.FA), (.int .u8 p0.last.High), (.int .u8 p0.last.Color), (.int .u8 p0.last.f_Set), (.int .i64 p0.mode)]) rfl rfl rp4 rfl rfl rfl rfl rfl rfl ?_)
          refine o_end ?_
          have hd := Option.some.inj h
          subst hd
          exact ej () s1600 trivial (sc rfl (sc rfl sn)) (kc rm3 (kc rm2 (kc rm2 (kc rm0 (kd kr)))))
        · replace h := cond_f hb1596 h
          refine c_skip ?_
          have hd := Option.some.inj h
          subst hd
          exact ej () s0 trivial (sc rfl (sc rfl sn)) (kc rm1 (kc rm0 (kc rm0 (kc rm0 kr))))
    · rintro _ i2 _
      replace h := hk2
      clear hk2
      refine e_blk ?_
      have hd := Option.some.inj h
      subst hd
      exact ej () i2 trivial (sc rfl (sc rfl sn)) (kc rm0 (kc rm0 (kc rm0 (kc rm0 kr))))
  · rintro _ i1 _
    replace h := hk1
    clear hk1
    refine e_seq ?_
    refine c_seq ?_
    refine c_region ?_
    refine o1 rfl (o_fa (fd := ⟨ "Char", 5, 0, false, "", "", 0⟩) rfl rfl rfl rfl rfl ?_)
    refine o1 rfl (o_ld (b := b1486) (off := 0) (v := (.int .u8 p1.Char)) rfl rm1 rfl rfl ?_)
    refine o1 rfl (o_p rfl ?_)
    refine o_end ?_
    refine e_seq ?_
    refine c_seq ?_
    refine c_seq ?_
    refine c_region ?_
    refine o1 rfl (o_p rfl ?_)
    replace h := bsome h
    obtain ⟨d10, h10, h⟩ := h
    refine o1 rfl (o_call has104 rfl (c_order_Is X p1.Char _ h10) (pc rm0 pn) ?_)
    refine o_end ?_
    refine e_seq ?_
    replace h := bsome h
    obtain ⟨d11, h, hk11⟩ := h
    refine cj (D := Unit) (ι := Unit) (fun _ i11 => True) (fun _ i11 => [(6, (.int .u8 d11)), (0, (.pointer (some ⟨b0, 0, none⟩)))]) (fun _ i11 => X :: blk b0 (.cells (List.toArray [(SV.val i1), (.int .u8 d1.2.1), (.bool d1.2.2.1), (.int .u8 d1.2.2.2.1), (.int .u8 d1.2.2.2.2.1), (.int .u8 d1.2.2.2.2.2.1), (.int .u8 d1.2.2.2.2.2.2), (.int .i64 p0.mode)]) 130 (0, 0)) :: slO i1 5 (enI .u8) d1.1 :: R) ?_ ?_
    · refine c_cond (b := d10) rfl (fun hb1604 => ?_) (fun hb1604 => ?_)
      · replace h := cond_t hb1604 h
        refine c_region ?_
        refine o1 rfl (o_p rfl ?_)
        refine o_end ?_
        have hd := Option.some.inj h
        subst hd
        exact ej () () trivial (sc rfl (sc rfl sn)) (kc rm0 (kc rm1 (kc rm1 (kd kr))))
      · replace h := cond_f hb1604 h
        refine c_skip ?_
        have hd := Option.some.inj h
        subst hd
        exact ej () () trivial (sc rfl (sc rfl sn)) (kc rm0 (kc rm1 (kc rm1 (kd kr))))
    · rintro _ i11 _
      replace h := hk11
      clear hk11
      refine e_seq ?_
      refine c_region ?_
      refine o1 rfl (o_p rfl ?_)
      refine o1 rfl (o_p rfl ?_)
      refine o1 rfl (o_p rfl ?_)
      refine o1 rfl (o_fa (fd := ⟨ "out", 31, 0, false, "", "vitrine/read", 0⟩) rfl rfl rfl rfl rfl ?_)
      refine o1 rfl (o_ld (b := b0) (off := 0) (v := (SV.val i1)) rfl rm1 rfl rfl ?_)
      refine o1 rfl (o_p rfl ?_)
      refine o1 rfl (o_bs (e := (enI .u8)) (l := [d11]) (zs := [(.int .u8 0)]) rfl rfl rfl rfl rfl rfl rfl rfl rfl rfl (fun s1605 => ?_))
      replace h := gsome h
      obtain ⟨hg1607, h⟩ := h
      refine o1 rfl (o_app (s := i1) (r := s1605) (e := (enI .u8)) (l := d1.1) (l2 := [d11]) (zs := [(.int .u8 0)]) rfl rfl rfl rfl rfl rfl rfl rfl rfl rfl rfl rm3 rm0 (rd_own _ _ _ _) hg1607 (fun s1608 => ?_))
      refine o1 rfl (o_p rfl ?_)
      refine o1 rfl (o_fa (fd := ⟨ "out", 31, 0, false, "", "vitrine/read", 0⟩) rfl rfl rfl rfl rfl ?_)
      refine o0 (o_st (b := b0) (off := 0) (vs := [(SV.val s1608)]) (cs' := [(SV.val s1608), (.int .u8 d1.2.1), (.bool d1.2.2.1), (.int .u8 d1.2.2.2.1), (.int .u8 d1.2.2.2.2.1), (.int .u8 d1.2.2.2.2.2.1), (.int .u8 d1.2.2.2.2.2.2), (.int .i64 p0.mode)]) rfl rfl rp3 rfl rfl rfl rfl rfl rfl ?_)
      refine o_end ?_
      refine e_fall ?_
      refine r_endt rfl rfl (kc rm2 (kc rm2 (kc rm0 (kd kr)))) ?_
      have hr := Option.some.inj h
      subst hr
      exact hk s1608

theorem c_read_sender_some {g : Gw} (X : HP) (p0 : Vread_sender) (b0 : Nat) (s0 : SV) (p1 : Vapi_Cell) (r : Vread_sender) (h : m_read_sender_some p0 p1 = some r) : Tri env g 87 (List.toArray [(.pointer (some ⟨b0, 0, none⟩)), (.agg (List.toArray [(.int .u8 p1.Char), (.bool p1.Attr), (.int .u8 p1.FA), (.int .u8 p1.High), (.int .u8 p1.Color), (.int .u8 p1.f_Set)]))]) [X, blk b0 (.cells (List.toArray [(SV.val s0), (.int .u8 p0.last.Char), (.bool p0.last.Attr), (.int .u8 p0.last.FA), (.int .u8 p0.last.High), (.int .u8 p0.last.Color), (.int .u8 p0.last.f_Set), (.int .i64 p0.mode)]) 130 (0, 0)), slO s0 5 (enI .u8) p0.out] (fun K R => ∀ (i0 : SV), K (.tuple (List.toArray [])) (X :: blk b0 (.cells (List.toArray [(SV.val i0), (.int .u8 r.last.Char), (.bool r.last.Attr), (.int .u8 r.last.FA), (.int .u8 r.last.High), (.int .u8 r.last.Color), (.int .u8 r.last.f_Set), (.int .i64 r.mode)]) 130 (0, 0)) :: slO i0 5 (enI .u8) r.out :: R)) := by
  refine tri_of (fn := Try.f87) (N := 10) Try.func87 rfl rfl rfl ?_
  intro R K hk
  unfold m_read_sender_some at h
  change GC _ none _ [] [(0, (.pointer (some ⟨b0, 0, none⟩))), (1, (.agg (List.toArray [(.int .u8 p1.Char), (.bool p1.Attr), (.int .u8 p1.FA), (.int .u8 p1.High), (.int .u8 p1.Color), (.int .u8 p1.f_Set)])))] (X :: blk b0 (.cells (List.toArray [(SV.val s0), (.int .u8 p0.last.Char), (.bool p0.last.Attr), (.int .u8 p0.last.FA), (.int .u8 p0.last.High), (.int .u8 p0.last.Color), (.int .u8 p0.last.f_Set), (.int .i64 p0.mode)]) 130 (0, 0)) :: slO s0 5 (enI .u8) p0.out :: R) g _ _
  refine c_seq ?_
  refine c_region ?_
  refine o1 rfl (o_box (cs := [(.int .u8 p1.Char), (.bool p1.Attr), (.int .u8 p1.FA), (.int .u8 p1.High), (.int .u8 p1.Color), (.int .u8 p1.f_Set)]) rfl rfl (fun b1483 => ?_))
  refine o_end ?_
  refine e_seq ?_
  refine c_seq ?_
  refine c_region ?_
  refine o1 rfl (o_fa (fd := ⟨ "Char", 5, 0, false, "", "", 0⟩) rfl rfl rfl rfl rfl ?_)
  refine o1 rfl (o_ld (b := b1483) (off := 0) (v := (.int .u8 p1.Char)) rfl rm0 rfl rfl ?_)
  refine o1 rfl (o_p (v := (.bool (p1.Char != 0))) rfl ?_)
  refine o_end ?_
  refine e_seq ?_
  refine c_cond (b := (p1.Char != 0)) rfl (fun hb1485 => ?_) (fun hb1485 => ?_)
  · replace h := cond_t hb1485 h
    refine c_region ?_
    refine o1 rfl (o_p rfl ?_)
    refine o1 rfl (o_ld (b := b1483) (off := 0) (v := (.agg (List.toArray [(.int .u8 p1.Char), (.bool p1.Attr), (.int .u8 p1.FA), (.int .u8 p1.High), (.int .u8 p1.Color), (.int .u8 p1.f_Set)]))) rfl rm0 rfl rfl ?_)
    replace h := bsome h
    obtain ⟨d1, h1, h⟩ := h
    refine o1 rfl (o_call has69 rfl (c_read_sender_character X (⟨p0.out, p0.last, p0.mode⟩ : Vread_sender) b0 s0 p1 _ h1) (pc rm1 (pc rm1 (pc rm1 pn))) (fun i1 => ?_))
    refine o_end ?_
    refine e_fall ?_
    refine r_endt rfl rfl (kc rm0 (kc rm0 (kc rm0 (kd kr)))) ?_
    have hr := Option.some.inj h
    subst hr
    exact hk i1
  · replace h := cond_f hb1485 h
    refine c_skip ?_
    refine e_fall ?_
    refine r_endt rfl rfl (kc rm1 (kc rm1 (kc rm1 (kd kr)))) ?_
    have hr := Option.some.inj h
    subst hr
    exact hk s0

theorem c_field_Modified {g : Gw} (X : HP) (p0 : Vspace_Space) (b0 : Nat) (s0 : SV) (r : Unit) (h : m_field_Modified p0 = some r) : Tri env g 88 (List.toArray [(.pointer (some ⟨b0, 0, none⟩))]) [X, blk b0 (.cells (List.toArray [(.int .i64 p0.model), (.bool p0.alternate), (.int .i64 p0.size.Rows), (.int .i64 p0.size.Cols), (SV.val s0), (.int .i64 p0.cursor), (.int .i64 p0.attrs)]) 165 (0, 0)), slO s0 48 en_Vapi_Cell p0.cells] (fun K R => ∀ (i0 : Nat), K (.func (.func 111) #[] (List.toArray [(.pointer (some ⟨i0, 0, none⟩))])) (X :: blk b0 (.cells (List.toArray [(.int .i64 p0.model), (.bool p0.alternate), (.int .i64 p0.size.Rows), (.int .i64 p0.size.Cols), (SV.val s0), (.int .i64 p0.cursor), (.int .i64 p0.attrs)]) 165 (0, 0)) :: slO s0 48 en_Vapi_Cell p0.cells :: blk i0 (.cells (List.toArray [(.pointer (some ⟨b0, 0, none⟩))]) 24 (0, 0)) :: R)) := by
  refine tri_of (fn := Try.f88) (N := 4) Try.func88 rfl rfl rfl ?_
  intro R K hk
  unfold m_field_Modified at h
  change GC _ none _ [] [(0, (.pointer (some ⟨b0, 0, none⟩)))] (X :: blk b0 (.cells (List.toArray [(.int .i64 p0.model), (.bool p0.alternate), (.int .i64 p0.size.Rows), (.int .i64 p0.size.Cols), (SV.val s0), (.int .i64 p0.cursor), (.int .i64 p0.attrs)]) 165 (0, 0)) :: slO s0 48 en_Vapi_Cell p0.cells :: R) g _ _
  refine c_seq ?_
  refine c_region ?_
  refine o1 rfl (o_box (cs := [(.pointer (some ⟨b0, 0, none⟩))]) rfl rfl (fun b1628 => ?_))
  refine o1 rfl (o_p rfl ?_)
  refine o_end ?_
  refine e_seq ?_
  refine c_seq ?_
  refine c_region ?_
  refine o1 rfl (o_p rfl ?_)
  refine o1 rfl (o_p rfl ?_)
  refine o_end ?_
  refine e_seq ?_
  refine c_ret ?_
  refine e_ret ?_
  refine r_endt rfl rfl (kc rm1 (kc rm1 (kc rm1 (kc rm0 kr)))) ?_
  have hr := Option.some.inj h
  subst hr
  exact hk b1628

theorem c_field_Fields {g : Gw} (X : HP) (p0 : Vspace_Space) (b0 : Nat) (s0 : SV) (r : Unit) (h : m_field_Fields p0 = some r) : Tri env g 112 (List.toArray [(.pointer (some ⟨b0, 0, none⟩))]) [X, blk b0 (.cells (List.toArray [(.int .i64 p0.model), (.bool p0.alternate), (.int .i64 p0.size.Rows), (.int .i64 p0.size.Cols), (SV.val s0), (.int .i64 p0.cursor), (.int .i64 p0.attrs)]) 165 (0, 0)), slO s0 48 en_Vapi_Cell p0.cells] (fun K R => ∀ (i0 : Nat), K (.func (.func 134) #[] (List.toArray [(.pointer (some ⟨i0, 0, none⟩))])) (X :: blk b0 (.cells (List.toArray [(.int .i64 p0.model), (.bool p0.alternate), (.int .i64 p0.size.Rows), (.int .i64 p0.size.Cols), (SV.val s0), (.int .i64 p0.cursor), (.int .i64 p0.attrs)]) 165 (0, 0)) :: slO s0 48 en_Vapi_Cell p0.cells :: blk i0 (.cells (List.toArray [(.pointer (some ⟨b0, 0, none⟩))]) 24 (0, 0)) :: R)) := by
  refine tri_of (fn := Try.f112) (N := 4) Try.func112 rfl rfl rfl ?_
  intro R K hk
  unfold m_field_Fields at h
  change GC _ none _ [] [(0, (.pointer (some ⟨b0, 0, none⟩)))] (X :: blk b0 (.cells (List.toArray [(.int .i64 p0.model), (.bool p0.alternate), (.int .i64 p0.size.Rows), (.int .i64 p0.size.Cols), (SV.val s0), (.int .i64 p0.cursor), (.int .i64 p0.attrs)]) 165 (0, 0)) :: slO s0 48 en_Vapi_Cell p0.cells :: R) g _ _
  refine c_seq ?_
  refine c_region ?_
  refine o1 rfl (o_box (cs := [(.pointer (some ⟨b0, 0, none⟩))]) rfl rfl (fun b1633 => ?_))
  refine o1 rfl (o_p rfl ?_)
  refine o_end ?_
  refine e_seq ?_
  refine c_seq ?_
  refine c_region ?_
  refine o1 rfl (o_p rfl ?_)
  refine o1 rfl (o_p rfl ?_)
  refine o_end ?_
  refine e_seq ?_
  refine c_ret ?_
  refine e_ret ?_
  refine r_endt rfl rfl (kc rm1 (kc rm1 (kc rm1 (kc rm0 kr)))) ?_
  have hr := Option.some.inj h
  subst hr
  exact hk b1633

theorem c_space_Space_Attrs {g : Gw} (X : HP) (p0 : Vspace_Space) (b0 : Nat) (s0 : SV) (r : Unit) (h : m_space_Space_Attrs p0 = some r) : Tri env g 135 (List.toArray [(.pointer (some ⟨b0, 0, none⟩))]) [X, blk b0 (.cells (List.toArray [(.int .i64 p0.model), (.bool p0.alternate), (.int .i64 p0.size.Rows), (.int .i64 p0.size.Cols), (SV.val s0), (.int .i64 p0.cursor), (.int .i64 p0.attrs)]) 165 (0, 0)), slO s0 48 en_Vapi_Cell p0.cells] (fun K R => ∀ (i0 : Nat), K (.func (.func 145) #[] (List.toArray [(.pointer (some ⟨i0, 0, none⟩))])) (X :: blk b0 (.cells (List.toArray [(.int .i64 p0.model), (.bool p0.alternate), (.int .i64 p0.size.Rows), (.int .i64 p0.size.Cols), (SV.val s0), (.int .i64 p0.cursor), (.int .i64 p0.attrs)]) 165 (0, 0)) :: slO s0 48 en_Vapi_Cell p0.cells :: blk i0 (.cells (List.toArray [(.pointer (some ⟨b0, 0, none⟩))]) 24 (0, 0)) :: R)) := by
  refine tri_of (fn := Try.f135) (N := 4) Try.func135 rfl rfl rfl ?_
  intro R K hk
  unfold m_space_Space_Attrs at h
  change GC _ none _ [] [(0, (.pointer (some ⟨b0, 0, none⟩)))] (X :: blk b0 (.cells (List.toArray [(.int .i64 p0.model), (.bool p0.alternate), (.int .i64 p0.size.Rows), (.int .i64 p0.size.Cols), (SV.val s0), (.int .i64 p0.cursor), (.int .i64 p0.attrs)]) 165 (0, 0)) :: slO s0 48 en_Vapi_Cell p0.cells :: R) g _ _
  refine c_seq ?_
  refine c_region ?_
  refine o1 rfl (o_box (cs := [(.pointer (some ⟨b0, 0, none⟩))]) rfl rfl (fun b1638 => ?_))
  refine o1 rfl (o_p rfl ?_)
  refine o_end ?_
  refine e_seq ?_
  refine c_seq ?_
  refine c_region ?_
  refine o1 rfl (o_p rfl ?_)
  refine o1 rfl (o_p rfl ?_)
  refine o_end ?_
  refine e_seq ?_
  refine c_ret ?_
  refine e_ret ?_
  refine r_endt rfl rfl (kc rm1 (kc rm1 (kc rm1 (kc rm0 kr)))) ?_
  have hr := Option.some.inj h
  subst hr
  exact hk b1638

theorem c_attr_Of {g : Gw} (X : HP) (p0 : Int) (r : Vattr_Field) (h : m_attr_Of p0 = some r) : Tri env g 136 (List.toArray [(.int .u8 p0)]) [X] (fun K R => K (.agg (List.toArray [(.bool r.Protected), (.bool r.Numeric), (.int .i64 r.Display), (.bool r.Modified)])) (X :: R)) := by
  refine tri_of (fn := Try.f136) (N := 17) Try.func136 rfl rfl rfl ?_
  intro R K hk
  unfold m_attr_Of at h
  change GC _ none _ [] [(0, (.int .u8 p0))] (X :: R) g _ _
  refine c_seq ?_
  refine c_region ?_
  refine o1 rfl (o_alloc (cs := [(.bool false), (.bool false), (.int .i64 0), (.bool false)]) rfl rfl (fun b1648 => ?_))
  refine o_end ?_
  refine e_seq ?_
  refine c_seq ?_
  refine c_region ?_
  refine o1 rfl (o_p rfl ?_)
  refine o1 rfl (o_p (v := (.int .u8 (iband .u8 p0 32))) rfl ?_)
  refine o1 rfl (o_p (v := (.bool ((iband .u8 p0 32) != 0))) rfl ?_)
  refine o1 rfl (o_p rfl ?_)
  refine o1 rfl (o_p (v := (.int .u8 (iband .u8 p0 16))) rfl ?_)
  refine o1 rfl (o_p (v := (.bool ((iband .u8 p0 16) != 0))) rfl ?_)
  refine o1 rfl (o_p rfl ?_)
  refine o1 rfl (o_p (v := (.int .u8 (iband .u8 p0 12))) rfl ?_)
  refine o1 rfl (o_p (v := (.int .i64 (w64 (iband .u8 p0 12)))) rfl ?_)
  refine o1 rfl (o_shr (m := w64 (iband .u8 p0 12)) (n := 2) rfl rfl (by decide) ?_)
  refine o1 rfl (o_p rfl ?_)
  refine o1 rfl (o_p (v := (.int .u8 (iband .u8 p0 1))) rfl ?_)
  refine o1 rfl (o_p (v := (.bool ((iband .u8 p0 1) != 0))) rfl ?_)
  refine o1 rfl (o_build (fs := [⟨ "Protected", 4, 0, false, "", "", 0⟩, ⟨ "Numeric", 4, 1, false, "", "", 1⟩, ⟨ "Display", 3, 2, false, "", "", 8⟩, ⟨ "Modified", 4, 3, false, "", "", 16⟩]) (ps := [(0, 1), (1, 1), (2, 1), (3, 1)]) (cs := [(.bool ((iband .u8 p0 32) != 0)), (.bool ((iband .u8 p0 16) != 0)), (.int .i64 (ishr .i64 (w64 (iband .u8 p0 12)) 2)), (.bool ((iband .u8 p0 1) != 0))]) rfl rfl rfl rfl rfl ?_)
  refine o0 (o_st (b := b1648) (off := 0) (vs := [(.bool ((iband .u8 p0 32) != 0)), (.bool ((iband .u8 p0 16) != 0)), (.int .i64 (ishr .i64 (w64 (iband .u8 p0 12)) 2)), (.bool ((iband .u8 p0 1) != 0))]) (cs' := [(.bool ((iband .u8 p0 32) != 0)), (.bool ((iband .u8 p0 16) != 0)), (.int .i64 (ishr .i64 (w64 (iband .u8 p0 12)) 2)), (.bool ((iband .u8 p0 1) != 0))]) rfl rfl rp0 rfl rfl rfl rfl rfl rfl ?_)
  refine o_end ?_
  refine e_seq ?_
  refine c_ret ?_
  refine e_ret ?_
  refine r_endc (B := [[(.bool ((iband .u8 p0 32) != 0)), (.bool ((iband .u8 p0 16) != 0)), (.int .i64 (ishr .i64 (w64 (iband .u8 p0 12)) 2)), (.bool ((iband .u8 p0 1) != 0))]]) rfl ⟨⟨_, _, _, _, rfl, rm0⟩, trivial⟩ rfl (kc rm1 (kd kr)) ?_
  have hr := Option.some.inj h
  subst hr
  exact hk

theorem c_field_Places {g : Gw} (X : HP) (p0 : Vspace_Space) (b0 : Nat) (s0 : SV) (p1 : Int) (r : Unit) (h : m_field_Places p0 p1 = some r) : Tri env g 90 (List.toArray [(.pointer (some ⟨b0, 0, none⟩)), (.int .i64 p1)]) [X, blk b0 (.cells (List.toArray [(.int .i64 p0.model), (.bool p0.alternate), (.int .i64 p0.size.Rows), (.int .i64 p0.size.Cols), (SV.val s0), (.int .i64 p0.cursor), (.int .i64 p0.attrs)]) 165 (0, 0)), slO s0 48 en_Vapi_Cell p0.cells] (fun K R => ∀ (i0 : Nat × Nat), K (.func (.func 113) #[] (List.toArray [(.pointer (some ⟨i0.1, 0, none⟩)), (.pointer (some ⟨i0.2, 0, none⟩))])) (X :: blk b0 (.cells (List.toArray [(.int .i64 p0.model), (.bool p0.alternate), (.int .i64 p0.size.Rows), (.int .i64 p0.size.Cols), (SV.val s0), (.int .i64 p0.cursor), (.int .i64 p0.attrs)]) 165 (0, 0)) :: slO s0 48 en_Vapi_Cell p0.cells :: blk i0.1 (.cells (List.toArray [(.pointer (some ⟨b0, 0, none⟩))]) 24 (0, 0)) :: blk i0.2 (.cells (List.toArray [(.int .i64 p1)]) 3 (0, 0)) :: R)) := by
  refine tri_of (fn := Try.f90) (N := 6) Try.func90 rfl rfl rfl ?_
  intro R K hk
  unfold m_field_Places at h
  change GC _ none _ [] [(0, (.pointer (some ⟨b0, 0, none⟩))), (1, (.int .i64 p1))] (X :: blk b0 (.cells (List.toArray [(.int .i64 p0.model), (.bool p0.alternate), (.int .i64 p0.size.Rows), (.int .i64 p0.size.Cols), (SV.val s0), (.int .i64 p0.cursor), (.int .i64 p0.attrs)]) 165 (0, 0)) :: slO s0 48 en_Vapi_Cell p0.cells :: R) g _ _
  refine c_seq ?_
  refine c_region ?_
  refine o1 rfl (o_box (cs := [(.pointer (some ⟨b0, 0, none⟩))]) rfl rfl (fun b1659 => ?_))
  refine o1 rfl (o_box (cs := [(.int .i64 p1)]) rfl rfl (fun b1661 => ?_))
  refine o1 rfl (o_p rfl ?_)
  refine o_end ?_
  refine e_seq ?_
  refine c_seq ?_
  refine c_region ?_
  refine o1 rfl (o_p rfl ?_)
  refine o1 rfl (o_p rfl ?_)
  refine o_end ?_
  refine e_seq ?_
  refine c_ret ?_
  refine e_ret ?_
  refine r_endt rfl rfl (kc rm2 (kc rm2 (kc rm2 (kc rm1 (kc rm0 kr))))) ?_
  have hr := Option.some.inj h
  subst hr
  exact hk (b1659, b1661)

theorem c_read_modified {g : Gw} (X : HP) (p0 : Vspace_Space) (b0 : Nat) (s0 : SV) (p1 : Int) (p2 : Int) (p3 : Bool) (r : Vspace_Space × (List Int) × Int) (h : m_read_modified p0 p1 p2 p3 = some r) : Tri env g 50 (List.toArray [(.pointer (some ⟨b0, 0, none⟩)), (.int .u8 p1), (.int .i64 p2), (.bool p3)]) [X, blk b0 (.cells (List.toArray [(.int .i64 p0.model), (.bool p0.alternate), (.int .i64 p0.size.Rows), (.int .i64 p0.size.Cols), (SV.val s0), (.int .i64 p0.cursor), (.int .i64 p0.attrs)]) 165 (0, 0)), slO s0 48 en_Vapi_Cell p0.cells] (fun K R => ∀ (i0 : HP × SV), (Rd i0.1 i0.2 5 (enI .u8) r.2.1) → (Ext X i0.1) → K (.tuple (List.toArray [(SV.val i0.2), (.int .i64 r.2.2)])) (i0.1 :: blk b0 (.cells (List.toArray [(.int .i64 r.1.model), (.bool r.1.alternate), (.int .i64 r.1.size.Rows), (.int .i64 r.1.size.Cols), (SV.val s0), (.int .i64 r.1.cursor), (.int .i64 r.1.attrs)]) 165 (0, 0)) :: slO s0 48 en_Vapi_Cell r.1.cells :: R)) := by
  refine tri_of (fn := Try.f50) (N := 78) Try.func50 rfl rfl rfl ?_
  intro R K hk
  unfold m_read_modified at h
  change GC _ none _ [] [(0, (.pointer (some ⟨b0, 0, none⟩))), (1, (.int .u8 p1)), (2, (.int .i64 p2)), (3, (.bool p3))] (X :: blk b0 (.cells (List.toArray [(.int .i64 p0.model), (.bool p0.alternate), (.int .i64 p0.size.Rows), (.int .i64 p0.size.Cols), (SV.val s0), (.int .i64 p0.cursor), (.int .i64 p0.attrs)]) 165 (0, 0)) :: slO s0 48 en_Vapi_Cell p0.cells :: R) g _ _
  refine c_seq ?_
  refine c_region ?_
  refine o1 rfl (o_box (cs := [(.pointer (some ⟨b0, 0, none⟩))]) rfl rfl (fun b1442 => ?_))
  refine o1 rfl (o_p rfl ?_)
  refine o1 rfl (o_p rfl ?_)
  refine o_end ?_
  refine e_seq ?_
  refine c_seq ?_
  refine c_region ?_
  refine o1 rfl (o_ld (b := b1442) (off := 0) (v := (.pointer (some ⟨b0, 0, none⟩))) rfl rm0 rfl rfl ?_)
  refine o1 rfl (o_p rfl ?_)
  refine o1 rfl (o_p rfl ?_)
  refine o1 rfl (o_p rfl ?_)
  replace h := bsome h
  obtain ⟨d2, h2, h⟩ := h
  rcases d2 with d2 | d2
  · cases h
  · refine o1 rfl (o_call has66 rfl (c_read_begin X (⟨p0.model, p0.alternate, p0.size, p0.cells, p0.cursor, p0.attrs⟩ : Vspace_Space) b0 s0 p1 p2 p3 _ h2) (pc rm1 (pc rm1 (pc rm1 pn))) (fun i2 => ?_))
    refine o1 rfl (o_p rfl ?_)
    refine o1 rfl (o_p rfl ?_)
    refine o1 rfl (o_p rfl ?_)
    refine o1 rfl (o_alloc (cs := [(.pointer none)]) rfl rfl (fun b1463 => ?_))
    refine o0 (o_st (b := b1463) (off := 0) (vs := [(.pointer (some ⟨i2.1, 0, none⟩))]) (cs' := [(.pointer (some ⟨i2.1, 0, none⟩))]) rfl rfl rp0 rfl rfl rfl rfl rfl rfl ?_)
    refine o1 rfl (o_p rfl ?_)
    refine o_end ?_
    refine e_seq ?_
    refine c_seq ?_
    refine c_seq ?_
    replace h := bsome h
    obtain ⟨d3, h, hk3⟩ := h
    refine cj (D := Unit) (ι := Unit) (fun _ i3 => True) (fun _ i3 => [(28, (.bool d3.1)), (11, (.int .i64 d3.2.1)), (10, (.pointer (some ⟨b1463, 0, none⟩))), (4, (.pointer (some ⟨b1442, 0, none⟩)))]) (fun _ i3 => X :: blk b1463 (.cells (List.toArray [(.pointer (some ⟨i2.1, 0, none⟩))]) 122 (0, 0)) :: blk b1442 (.cells (List.toArray [(.pointer (some ⟨b0, 0, none⟩))]) 24 (0, 0)) :: blk b0 (.cells (List.toArray [(.int .i64 p0.model), (.bool p0.alternate), (.int .i64 p0.size.Rows), (.int .i64 p0.size.Cols), (SV.val s0), (.int .i64 p0.cursor), (.int .i64 p0.attrs)]) 165 (0, 0)) :: blk i2.1 (.cells (List.toArray [(SV.val i2.2), (.int .u8 d3.2.2.2.1), (.bool d3.2.2.2.2.1), (.int .u8 d3.2.2.2.2.2.1), (.int .u8 d3.2.2.2.2.2.2.1), (.int .u8 d3.2.2.2.2.2.2.2.1), (.int .u8 d3.2.2.2.2.2.2.2.2.1), (.int .i64 d3.2.2.2.2.2.2.2.2.2)]) 130 (0, 0)) :: slO s0 48 en_Vapi_Cell p0.cells :: slO i2.2 5 (enI .u8) d3.2.2.1 :: R) ?_ ?_
    · refine c_region ?_
      refine o1 rfl (o_p rfl ?_)
      refine o1 rfl (o_p (v := (.bool (d2.2 != 0))) rfl ?_)
      refine o1 rfl (o_p rfl ?_)
      rcases bool_or ((d2.2 != 0)) with hb1465 | hb1465
      · replace h := cond_t hb1465 h
        refine on rfl rfl rfl hb1465 ?_
        refine o1 rfl (o_pick_t rfl hb1465 rfl ?_)
        refine o_end ?_
        have hd := Option.some.inj h
        subst hd
        exact ej () () trivial (sc rfl (sc rfl (sc rfl (sc rfl sn)))) (kc rm1 (kc rm0 (kc rm4 (kc rm0 (kc rm1 (kc rm0 (kc rm0 kr)))))))
      · replace h := cond_f hb1465 h
        refine oy rfl rfl rfl hb1465 (o_p rfl ?_)
        refine o1 rfl (o_pick_f rfl hb1465 rfl ?_)
        refine o_end ?_
        have hd := Option.some.inj h
        subst hd
        exact ej () () trivial (sc rfl (sc rfl (sc rfl (sc rfl sn)))) (kc rm1 (kc rm0 (kc rm4 (kc rm0 (kc rm1 (kc rm0 (kc rm0 kr)))))))
    · rintro _ i3 _
      replace h := hk3
      clear hk3
      refine e_seq ?_
      refine c_cond (b := d3.1) rfl (fun hb1467 => ?_) (fun hb1467 => ?_)
      · replace h := cond_t hb1467 h
        refine c_seq ?_
        refine c_region ?_
        refine o1 rfl (o_ld (b := b1463) (off := 0) (v := (.pointer (some ⟨i2.1, 0, none⟩))) rfl rm1 rfl rfl ?_)
        replace h := bsome h
        obtain ⟨d5, h5, h⟩ := h
        refine o1 rfl (o_call has85 rfl (c_read_bytesOf X (⟨d3.2.2.1, (⟨d3.2.2.2.1, d3.2.2.2.2.1, d3.2.2.2.2.2.1, d3.2.2.2.2.2.2.1, d3.2.2.2.2.2.2.2.1, d3.2.2.2.2.2.2.2.2.1⟩ : Vapi_Cell), d3.2.2.2.2.2.2.2.2.2⟩ : Vread_sender) i2.1 i2.2 _ h5) (pc rm0 (pc rm3 (pc rm4 pn))) (fun i5 f5_0 f5_1 f5_2 => ?_))
        refine o1 rfl (o_p rfl ?_)
        refine o1 rfl (o_p rfl ?_)
        refine o1 rfl (o_p rfl ?_)
        refine o_end ?_
        refine e_seq ?_
        refine c_ret ?_
        refine e_then_ret ?_
        refine e_ret ?_
        refine r_endt rfl rfl (kc rm0 (kc rm3 (kc rm3 (kd (kd (kd kr)))))) ?_
        have hr := Option.some.inj h
        subst hr
        exact hk (i5, i2.2) f5_1 f5_2
      · replace h := cond_f hb1467 h
        refine c_skip ?_
        refine e_seq ?_
        refine c_seq ?_
        refine c_seq ?_
        refine c_region ?_
        refine o1 rfl (o_ld (b := b1442) (off := 0) (v := (.pointer (some ⟨b0, 0, none⟩))) rfl rm2 rfl rfl ?_)
        replace h := bsome h
        obtain ⟨d6, h6, h⟩ := h
        refine o1 rfl (o_call has86 rfl (c_space_Space_Formatted X p0 b0 s0 _ h6) (pc rm0 (pc rm2 (pc rm3 pn))) ?_)
        refine o1 rfl (o_p (v := (.bool (!d6))) rfl ?_)
        refine o_end ?_
        refine e_seq ?_
        refine c_cond (b := (!d6)) rfl (fun hb1471 => ?_) (fun hb1471 => ?_)
        · replace h := cond_t hb1471 h
          refine c_seq ?_
          refine c_seq ?_
          refine c_region ?_
          refine o1 rfl (o_ld (b := b1442) (off := 0) (v := (.pointer (some ⟨b0, 0, none⟩))) rfl rm4 rfl rfl ?_)
          replace h := bsome h
          obtain ⟨d8, h8, h⟩ := h
          refine o1 rfl (o_call has67 rfl (c_space_Space_All X p0 b0 s0 _ h8) (pc rm0 (pc rm0 (pc rm0 pn))) (fun i8 => ?_))
          refine o_end ?_
          refine e_seq ?_
          replace h := bsome h
          obtain ⟨d9, h, hk9⟩ := h
          refine cjd (D := Unit) (ι := SV × Nat) (fun _ i9 => [mk i9.2]) (fun _ i9 => True) (fun _ i9 => [(10, (.pointer (some ⟨b1463, 0, none⟩)))]) (fun _ i9 => X :: blk b1463 (.cells (List.toArray [(.pointer (some ⟨i2.1, 0, none⟩))]) 122 (0, 0)) :: blk b0 (.cells (List.toArray [(.int .i64 p0.model), (.bool p0.alternate), (.int .i64 p0.size.Rows), (.int .i64 p0.size.Cols), (SV.val s0), (.int .i64 p0.cursor), (.int .i64 p0.attrs)]) 165 (0, 0)) :: blk i2.1 (.cells (List.toArray [(SV.val i9.1), (.int .u8 d9.2.1), (.bool d9.2.2.1), (.int .u8 d9.2.2.2.1), (.int .u8 d9.2.2.2.2.1), (.int .u8 d9.2.2.2.2.2.1), (.int .u8 d9.2.2.2.2.2.2.1), (.int .i64 d9.2.2.2.2.2.2.2)]) 130 (0, 0)) :: slO s0 48 en_Vapi_Cell p0.cells :: slO i9.1 5 (enI .u8) d9.1 :: blk i9.2 (.deferred (some [])) :: R) ?_ ?_
          · refine c_block ?_
            replace h := bsome h
            obtain ⟨d10, h, hk10⟩ := h
            refine cjd (D := Unit) (ι := SV × Nat) (fun _ i10 => [mk i10.2]) (fun _ i10 => True) (fun _ i10 => [(10, (.pointer (some ⟨b1463, 0, none⟩)))]) (fun _ i10 => X :: blk b1463 (.cells (List.toArray [(.pointer (some ⟨i2.1, 0, none⟩))]) 122 (0, 0)) :: blk b0 (.cells (List.toArray [(.int .i64 p0.model), (.bool p0.alternate), (.int .i64 p0.size.Rows), (.int .i64 p0.size.Cols), (SV.val s0), (.int .i64 p0.cursor), (.int .i64 p0.attrs)]) 165 (0, 0)) :: blk i2.1 (.cells (List.toArray [(SV.val i10.1), (.int .u8 d10.2.1), (.bool d10.2.2.1), (.int .u8 d10.2.2.2.1), (.int .u8 d10.2.2.2.2.1), (.int .u8 d10.2.2.2.2.2.1), (.int .u8 d10.2.2.2.2.2.2.1), (.int .i64 d10.2.2.2.2.2.2.2)]) 130 (0, 0)) :: slO s0 48 en_Vapi_Cell p0.cells :: slO i10.1 5 (enI .u8) d10.1 :: blk i10.2 (.deferred (some [])) :: R) ?_ ?_
            · refine c_range' (fn := Try.f100) (M := 18) rfl has100 Try.func100 rfl rfl rfl (fun l11 D11 a11 fc11 rc11 hrc11 ht11 => ?_)
              change GC _ none _ [] [(0, (.func (.yield l11) #[] #[])), (1, (.pointer (some ⟨i8, 0, none⟩)))] (blk l11 (.loop (rc11 .ready none)) :: blk D11 (.deferred (some [])) :: X :: blk b0 (.cells (List.toArray [(.int .i64 p0.model), (.bool p0.alternate), (.int .i64 p0.size.Rows), (.int .i64 p0.size.Cols), (SV.val s0), (.int .i64 p0.cursor), (.int .i64 p0.attrs)]) 165 (0, 0)) :: slO s0 48 en_Vapi_Cell p0.cells :: blk i8 (.cells (List.toArray [(.pointer (some ⟨b0, 0, none⟩))]) 24 (0, 0)) :: blk b1463 (.cells (List.toArray [(.pointer (some ⟨i2.1, 0, none⟩))]) 122 (0, 0)) :: blk b1442 (.cells (List.toArray [(.pointer (some ⟨b0, 0, none⟩))]) 24 (0, 0)) :: blk i2.1 (.cells (List.toArray [(SV.val i2.2), (.int .u8 d3.2.2.2.1), (.bool d3.2.2.2.2.1), (.int .u8 d3.2.2.2.2.2.1), (.int .u8 d3.2.2.2.2.2.2.1), (.int .u8 d3.2.2.2.2.2.2.2.1), (.int .u8 d3.2.2.2.2.2.2.2.2.1), (.int .i64 d3.2.2.2.2.2.2.2.2.2)]) 130 (0, 0)) :: slO i2.2 5 (enI .u8) d3.2.2.1 :: R) g _ _
              refine c_seq ?_
              refine c_region ?_
              refine o1 rfl (o_ld (b := i8) (off := 0) (v := (.pointer (some ⟨b0, 0, none⟩))) rfl rm5 rfl rfl ?_)
              replace h := bsome h
              obtain ⟨d12, h12, h⟩ := h
              refine o1 rfl (o_call has70 rfl (c_space_Space_Size X p0 b0 s0 _ h12) (pc rm2 (pc rm2 (pc rm2 pn))) ?_)
              replace h := bsome h
              obtain ⟨d13, h13, h⟩ := h
              refine o1 rfl (o_call has71 rfl (c_addr_Size_Cells X d12 _ h13) (pc rm0 pn) ?_)
              refine o1 rfl (o_p rfl ?_)
              refine o_end ?_
              refine e_seq ?_
              replace h := bsome h
              obtain ⟨d14, h, hk14⟩ := h
              refine cj (D := Unit) (ι := SV) (fun _ i14 => True) (fun _ i14 => []) (fun _ i14 => X :: blk b0 (.cells (List.toArray [(.int .i64 p0.model), (.bool p0.alternate), (.int .i64 p0.size.Rows), (.int .i64 p0.size.Cols), (SV.val s0), (.int .i64 p0.cursor), (.int .i64 p0.attrs)]) 165 (0, 0)) :: blk i8 (.cells (List.toArray [(.pointer (some ⟨b0, 0, none⟩))]) 24 (0, 0)) :: blk b1463 (.cells (List.toArray [(.pointer (some ⟨i2.1, 0, none⟩))]) 122 (0, 0)) :: blk b1442 (.cells (List.toArray [(.pointer (some ⟨b0, 0, none⟩))]) 24 (0, 0)) :: slO s0 48 en_Vapi_Cell p0.cells :: blk i2.1 (.cells (List.toArray [(SV.val i14), (.int .u8 d14.2.1), (.bool d14.2.2.1), (.int .u8 d14.2.2.2.1), (.int .u8 d14.2.2.2.2.1), (.int .u8 d14.2.2.2.2.2.1), (.int .u8 d14.2.2.2.2.2.2.1), (.int .i64 d14.2.2.2.2.2.2.2)]) 130 (0, 0)) :: slO i14 5 (enI .u8) d14.1 :: blk l11 (.loop (rc11 .ready none)) :: blk D11 (.deferred (some [])) :: R) ?_ ?_
              · refine c_block ?_
                refine c_loop (l_sub (sc rfl (sc rfl (sc rfl (sc rfl sn)))) (l_keep (kc rm0 (kc rm4 (kc rm0 (kc rm3 (kc rm3 (kc rm0 (kc rm2 (kc rm2 (kc rm0 (kc rm0 kr)))))))))) (lf (X := Int × (List Int) × Int × Bool × Int × Int × Int × Int × Int) (ι := SV) (fun k x => read_modified_l15 p0 d13 k x) _ (fun x15 i15 => True) (fun x15 i15 => [(7, (.int .i64 x15.1)), (6, (.int .i64 d13)), (0, (.func (.yield l11) #[] #[])), (1, (.pointer (some ⟨i8, 0, none⟩)))]) (fun x15 i15 => X :: blk i8 (.cells (List.toArray [(.pointer (some ⟨b0, 0, none⟩))]) 24 (0, 0)) :: blk b0 (.cells (List.toArray [(.int .i64 p0.model), (.bool p0.alternate), (.int .i64 p0.size.Rows), (.int .i64 p0.size.Cols), (SV.val s0), (.int .i64 p0.cursor), (.int .i64 p0.attrs)]) 165 (0, 0)) :: blk b1463 (.cells (List.toArray [(.pointer (some ⟨i2.1, 0, none⟩))]) 122 (0, 0)) :: blk b1442 (.cells (List.toArray [(.pointer (some ⟨b0, 0, none⟩))]) 24 (0, 0)) :: slO s0 48 en_Vapi_Cell p0.cells :: blk i2.1 (.cells (List.toArray [(SV.val i15), (.int .u8 x15.2.2.1), (.bool x15.2.2.2.1), (.int .u8 x15.2.2.2.2.1), (.int .u8 x15.2.2.2.2.2.1), (.int .u8 x15.2.2.2.2.2.2.1), (.int .u8 x15.2.2.2.2.2.2.2.1), (.int .i64 x15.2.2.2.2.2.2.2.2)]) 130 (0, 0)) :: slO i15 5 (enI .u8) x15.2.1 :: blk l11 (.loop (rc11 .ready none)) :: blk D11 (.deferred (some [])) :: R) (fun _ => rfl) ?_ fuel (0, d3.2.2.1, d3.2.2.2.1, d3.2.2.2.2.1, d3.2.2.2.2.2.1, d3.2.2.2.2.2.2.1, d3.2.2.2.2.2.2.2.1, d3.2.2.2.2.2.2.2.2.1, d3.2.2.2.2.2.2.2.2.2) i2.2 trivial h)))
                clear h
                rintro k15 ih15 x15 i15 _ h
                rw [read_modified_l15.eq_2] at h
                refine l_round ?_
                refine c_seq ?_
                refine c_region ?_
                refine o1 rfl (o_p (v := (.bool (decide (x15.1 < d13)))) rfl ?_)
                refine o_end ?_
                refine e_seq ?_
                refine c_seq ?_
                refine c_cond (b := (decide (x15.1 < d13))) rfl (fun hb1620 => ?_) (fun hb1620 => ?_)
                · replace h := cond_t hb1620 h
                  refine c_skip ?_
                  refine e_seq ?_
                  refine c_seq ?_
                  refine c_block ?_
                  refine c_seq ?_
                  refine c_region ?_
                  refine o1 rfl (o_p rfl ?_)
                  refine o1 rfl (o_p rfl ?_)
                  refine o_end ?_
                  refine e_seq ?_
                  refine c_seq ?_
                  refine c_region ?_
                  refine o1 rfl (o_p rfl ?_)
                  refine o1 rfl (o_p rfl ?_)
                  refine o1 rfl (o_ld (b := i8) (off := 0) (v := (.pointer (some ⟨b0, 0, none⟩))) rfl rm1 rfl rfl ?_)
                  refine o1 rfl (o_p rfl ?_)
                  replace h := bsome h
                  obtain ⟨d18, h18, h⟩ := h
                  refine o1 rfl (o_call has91 rfl (c_space_Space_At X (⟨p0.model, p0.alternate, p0.size, p0.cells, p0.cursor, p0.attrs⟩ : Vspace_Space) b0 s0 x15.1 _ h18) (pc rm0 (pc rm1 (pc rm3 pn))) ?_)
                  refine o1 rfl (o_yield' hrc11 ht11 rfl rfl rfl rfl rm8 ?_)
                  refine c_region ?_
                  refine o1 rfl (o_alloc (cs := [(.int .u8 0), (.bool false), (.int .u8 0), (.int .u8 0), (.int .u8 0), (.int .u8 0)]) rfl rfl (fun b1621 => ?_))
                  refine o0 (o_st (b := b1621) (off := 0) (vs := [(.int .u8 d18.Char), (.bool d18.Attr), (.int .u8 d18.FA), (.int .u8 d18.High), (.int .u8 d18.Color), (.int .u8 d18.f_Set)]) (cs' := [(.int .u8 d18.Char), (.bool d18.Attr), (.int .u8 d18.FA), (.int .u8 d18.High), (.int .u8 d18.Color), (.int .u8 d18.f_Set)]) rfl rfl rp0 rfl rfl rfl rfl rfl rfl ?_)
                  refine o_end ?_
                  refine e_begin' hrc11 rm1 ?_
                  refine c_block ?_
                  refine c_region ?_
                  refine o1 rfl (o_ld (b := b1463) (off := 0) (v := (.pointer (some ⟨i2.1, 0, none⟩))) rfl rm6 rfl rfl ?_)
                  refine o1 rfl (o_ld (b := b1621) (off := 0) (v := (.agg (List.toArray [(.int .u8 d18.Char), (.bool d18.Attr), (.int .u8 d18.FA), (.int .u8 d18.High), (.int .u8 d18.Color), (.int .u8 d18.f_Set)]))) rfl rm1 rfl rfl ?_)
                  replace h := bsome h
                  obtain ⟨d20, h20, h⟩ := h
                  refine o1 rfl (o_call has87 rfl (c_read_sender_some X (⟨x15.2.1, (⟨x15.2.2.1, x15.2.2.2.1, x15.2.2.2.2.1, x15.2.2.2.2.2.1, x15.2.2.2.2.2.2.1, x15.2.2.2.2.2.2.2.1⟩ : Vapi_Cell), x15.2.2.2.2.2.2.2.2⟩ : Vread_sender) i2.1 i15 (⟨d18.Char, d18.Attr, d18.FA, d18.High, d18.Color, d18.f_Set⟩ : Vapi_Cell) _ h20) (pc rm2 (pc rm7 (pc rm7 pn))) (fun i20 => ?_))
                  refine o_end ?_
                  refine e_blk ?_
                  refine e_on' hrc11 rm3 ?_
                  refine o1 rfl (o_p (v := (.bool false)) rfl ?_)
                  refine o_end ?_
                  refine e_seq ?_
                  refine c_cond_f rfl rfl ?_
                  refine c_skip ?_
                  refine e_blk ?_
                  refine e_seq ?_
                  refine c_region ?_
                  refine o1 rfl (o_p (v := (.int .i64 (w64 (x15.1 + 1)))) rfl ?_)
                  refine o1 rfl (o_p rfl ?_)
                  refine o_end ?_
                  exact e_loop (l_sub (sc rfl (sc rfl (sc rfl (sc rfl sn)))) (l_keep (kc rm1 (kc rm6 (kc rm4 (kc rm5 (kc rm5 (kc rm4 (kc rm1 (kc rm1 (kc rm0 (kc rm1 (kd kr))))))))))) (ih15 (w64 (x15.1 + 1), d20.out, d20.last.Char, d20.last.Attr, d20.last.FA, d20.last.High, d20.last.Color, d20.last.f_Set, d20.mode) i20 trivial h)))
                · replace h := cond_f hb1620 h
                  refine c_exit ?_
                  refine e_then_exit ?_
                  refine e_then_exit ?_
                  refine e_blk_exit ?_
                  have hd := Option.some.inj h
                  subst hd
                  exact ej () i15 trivial sn (kc rm0 (kc rm1 (kc rm0 (kc rm0 (kc rm0 (kc rm0 (kc rm0 (kc rm0 (kc rm0 (kc rm0 kr))))))))))
              · rintro _ i14 _
                replace h := hk14
                clear hk14
                refine e_fall ?_
                refine r_end (rs := []) (vs := []) rfl rfl ?_
                refine ke' hrc11 rm8 (by simp) ?_
                have hd := Option.some.inj h
                subst hd
                exact ejd () (i14, D11) trivial rfl (sc rfl sn) (kc rm0 (kc rm2 (kc rm0 (kc rm3 (kc rm2 (kc rm2 (kc rm2 (kd (kd kr)))))))))
            · rintro _ i10 _
              replace h := hk10
              clear hk10
              refine e_blk ?_
              have hd := Option.some.inj h
              subst hd
              exact ejd () (i10.1, i10.2) trivial rfl (sc rfl sn) (kc rm0 (kc rm0 (kc rm0 (kc rm0 (kc rm0 (kc rm0 (kc rm0 kr)))))))
          · rintro _ i9 _
            replace h := hk9
            clear hk9
            refine e_seq ?_
            refine c_seq ?_
            refine c_region ?_
            refine o1 rfl (o_ld (b := b1463) (off := 0) (v := (.pointer (some ⟨i2.1, 0, none⟩))) rfl rm1 rfl rfl ?_)
            refine o1 rfl (o_p rfl ?_)
            refine o1 rfl (o_fa (fd := ⟨ "out", 31, 0, false, "", "vitrine/read", 0⟩) rfl rfl rfl rfl rfl ?_)
            refine o1 rfl (o_ld (b := i2.1) (off := 0) (v := (SV.val i9.1)) rfl rm3 rfl rfl ?_)
            refine o1 rfl (o_p rfl ?_)
            refine o1 rfl (o_p rfl ?_)
            refine o_end ?_
            refine e_seq ?_
            refine c_ret ?_
            refine e_then_ret ?_
            refine e_ret ?_
            refine r_mark rm6 ?_
            refine r_fz rm5 rm0 (fun X1762 hx1763 hs1764 => ?_)
            refine r_endt rfl rfl (kc rm0 (kc rm1 (kc rm2 (kd (kd kr))))) ?_
            have hr := Option.some.inj h
            subst hr
            exact hk (X1762, i9.1) hs1764 hx1763
        · replace h := cond_f hb1471 h
          refine c_skip ?_
          refine e_seq ?_
          refine c_seq ?_
          refine c_seq ?_
          refine c_region ?_
          refine o1 rfl (o_ld (b := b1442) (off := 0) (v := (.pointer (some ⟨b0, 0, none⟩))) rfl rm4 rfl rfl ?_)
          replace h := bsome h
          obtain ⟨d21, h21, h⟩ := h
          refine o1 rfl (o_call has88 rfl (c_field_Modified X p0 b0 s0 _ h21) (pc rm0 (pc rm0 (pc rm0 pn))) (fun i21 => ?_))
          refine o_end ?_
          refine e_seq ?_
          replace h := bsome h
          obtain ⟨d22, h, hk22⟩ := h
          refine cjd (D := Unit) (ι := SV × Nat) (fun _ i22 => [mk i22.2]) (fun _ i22 => True) (fun _ i22 => [(10, (.pointer (some ⟨b1463, 0, none⟩)))]) (fun _ i22 => X :: blk b1463 (.cells (List.toArray [(.pointer (some ⟨i2.1, 0, none⟩))]) 122 (0, 0)) :: blk b0 (.cells (List.toArray [(.int .i64 p0.model), (.bool p0.alternate), (.int .i64 p0.size.Rows), (.int .i64 p0.size.Cols), (SV.val s0), (.int .i64 p0.cursor), (.int .i64 p0.attrs)]) 165 (0, 0)) :: blk i2.1 (.cells (List.toArray [(SV.val i22.1), (.int .u8 d22.2.1), (.bool d22.2.2.1), (.int .u8 d22.2.2.2.1), (.int .u8 d22.2.2.2.2.1), (.int .u8 d22.2.2.2.2.2.1), (.int .u8 d22.2.2.2.2.2.2.1), (.int .i64 d22.2.2.2.2.2.2.2)]) 130 (0, 0)) :: slO s0 48 en_Vapi_Cell p0.cells :: slO i22.1 5 (enI .u8) d22.1 :: blk i22.2 (.deferred (some [])) :: R) ?_ ?_
          · refine c_block ?_
            replace h := bsome h
            obtain ⟨d23, h, hk23⟩ := h
            refine cjd (D := Unit) (ι := SV × Nat) (fun _ i23 => [mk i23.2]) (fun _ i23 => True) (fun _ i23 => [(10, (.pointer (some ⟨b1463, 0, none⟩)))]) (fun _ i23 => X :: blk b1463 (.cells (List.toArray [(.pointer (some ⟨i2.1, 0, none⟩))]) 122 (0, 0)) :: blk b0 (.cells (List.toArray [(.int .i64 p0.model), (.bool p0.alternate), (.int .i64 p0.size.Rows), (.int .i64 p0.size.Cols), (SV.val s0), (.int .i64 p0.cursor), (.int .i64 p0.attrs)]) 165 (0, 0)) :: blk i2.1 (.cells (List.toArray [(SV.val i23.1), (.int .u8 d23.2.1), (.bool d23.2.2.1), (.int .u8 d23.2.2.2.1), (.int .u8 d23.2.2.2.2.1), (.int .u8 d23.2.2.2.2.2.1), (.int .u8 d23.2.2.2.2.2.2.1), (.int .i64 d23.2.2.2.2.2.2.2)]) 130 (0, 0)) :: slO s0 48 en_Vapi_Cell p0.cells :: slO i23.1 5 (enI .u8) d23.1 :: blk i23.2 (.deferred (some [])) :: R) ?_ ?_
            · refine c_range' (fn := Try.f111) (M := 17) rfl has111 Try.func111 rfl rfl rfl (fun l24 D24 a24 fc24 rc24 hrc24 ht24 => ?_)
              change GC _ none _ [] [(0, (.func (.yield l24) #[] #[])), (1, (.pointer (some ⟨i21, 0, none⟩)))] (blk l24 (.loop (rc24 .ready none)) :: blk D24 (.deferred (some [])) :: X :: blk b0 (.cells (List.toArray [(.int .i64 p0.model), (.bool p0.alternate), (.int .i64 p0.size.Rows), (.int .i64 p0.size.Cols), (SV.val s0), (.int .i64 p0.cursor), (.int .i64 p0.attrs)]) 165 (0, 0)) :: slO s0 48 en_Vapi_Cell p0.cells :: blk i21 (.cells (List.toArray [(.pointer (some ⟨b0, 0, none⟩))]) 24 (0, 0)) :: blk b1463 (.cells (List.toArray [(.pointer (some ⟨i2.1, 0, none⟩))]) 122 (0, 0)) :: blk b1442 (.cells (List.toArray [(.pointer (some ⟨b0, 0, none⟩))]) 24 (0, 0)) :: blk i2.1 (.cells (List.toArray [(SV.val i2.2), (.int .u8 d3.2.2.2.1), (.bool d3.2.2.2.2.1), (.int .u8 d3.2.2.2.2.2.1), (.int .u8 d3.2.2.2.2.2.2.1), (.int .u8 d3.2.2.2.2.2.2.2.1), (.int .u8 d3.2.2.2.2.2.2.2.2.1), (.int .i64 d3.2.2.2.2.2.2.2.2.2)]) 130 (0, 0)) :: slO i2.2 5 (enI .u8) d3.2.2.1 :: R) g _ _
              refine c_seq ?_
              refine c_region ?_
              refine o1 rfl (o_box (cs := [(.func (.yield l24) #[] #[])]) rfl rfl (fun b1631 => ?_))
              refine o_end ?_
              refine e_seq ?_
              refine c_seq ?_
              refine c_region ?_
              refine o1 rfl (o_ld (b := i21) (off := 0) (v := (.pointer (some ⟨b0, 0, none⟩))) rfl rm6 rfl rfl ?_)
              replace h := bsome h
              obtain ⟨d25, h25, h⟩ := h
              refine o1 rfl (o_call has112 rfl (c_field_Fields X p0 b0 s0 _ h25) (pc rm3 (pc rm3 (pc rm3 pn))) (fun i25 => ?_))
              refine o_end ?_
              refine e_seq ?_
              replace h := bsome h
              obtain ⟨d26, h, hk26⟩ := h
              refine cjd (D := Unit) (ι := SV × Nat) (fun _ i26 => [mk i26.2]) (fun _ i26 => True) (fun _ i26 => []) (fun _ i26 => X :: blk b0 (.cells (List.toArray [(.int .i64 p0.model), (.bool p0.alternate), (.int .i64 p0.size.Rows), (.int .i64 p0.size.Cols), (SV.val s0), (.int .i64 p0.cursor), (.int .i64 p0.attrs)]) 165 (0, 0)) :: blk i21 (.cells (List.toArray [(.pointer (some ⟨b0, 0, none⟩))]) 24 (0, 0)) :: blk b1463 (.cells (List.toArray [(.pointer (some ⟨i2.1, 0, none⟩))]) 122 (0, 0)) :: blk b1442 (.cells (List.toArray [(.pointer (some ⟨b0, 0, none⟩))]) 24 (0, 0)) :: slO s0 48 en_Vapi_Cell p0.cells :: blk i2.1 (.cells (List.toArray [(SV.val i26.1), (.int .u8 d26.2.1), (.bool d26.2.2.1), (.int .u8 d26.2.2.2.1), (.int .u8 d26.2.2.2.2.1), (.int .u8 d26.2.2.2.2.2.1), (.int .u8 d26.2.2.2.2.2.2.1), (.int .i64 d26.2.2.2.2.2.2.2)]) 130 (0, 0)) :: slO i26.1 5 (enI .u8) d26.1 :: blk i26.2 (.deferred (some [])) :: blk l24 (.loop (rc24 .ready none)) :: blk D24 (.deferred (some [])) :: R) ?_ ?_
              · refine c_block ?_
                replace h := bsome h
                obtain ⟨d27, h, hk27⟩ := h
                refine cjd (D := Unit) (ι := SV × Nat) (fun _ i27 => [mk i27.2]) (fun _ i27 => True) (fun _ i27 => []) (fun _ i27 => X :: blk b0 (.cells (List.toArray [(.int .i64 p0.model), (.bool p0.alternate), (.int .i64 p0.size.Rows), (.int .i64 p0.size.Cols), (SV.val s0), (.int .i64 p0.cursor), (.int .i64 p0.attrs)]) 165 (0, 0)) :: blk i21 (.cells (List.toArray [(.pointer (some ⟨b0, 0, none⟩))]) 24 (0, 0)) :: blk b1463 (.cells (List.toArray [(.pointer (some ⟨i2.1, 0, none⟩))]) 122 (0, 0)) :: blk b1442 (.cells (List.toArray [(.pointer (some ⟨b0, 0, none⟩))]) 24 (0, 0)) :: slO s0 48 en_Vapi_Cell p0.cells :: blk i2.1 (.cells (List.toArray [(SV.val i27.1), (.int .u8 d27.2.1), (.bool d27.2.2.1), (.int .u8 d27.2.2.2.1), (.int .u8 d27.2.2.2.2.1), (.int .u8 d27.2.2.2.2.2.1), (.int .u8 d27.2.2.2.2.2.2.1), (.int .i64 d27.2.2.2.2.2.2.2)]) 130 (0, 0)) :: slO i27.1 5 (enI .u8) d27.1 :: blk i27.2 (.deferred (some [])) :: blk l24 (.loop (rc24 .ready none)) :: blk D24 (.deferred (some [])) :: R) ?_ ?_
                · refine c_range' (fn := Try.f134) (M := 16) rfl has134 Try.func134 rfl rfl rfl (fun l28 D28 a28 fc28 rc28 hrc28 ht28 => ?_)
                  change GC _ none _ [] [(0, (.func (.yield l28) #[] #[])), (1, (.pointer (some ⟨i25, 0, none⟩)))] (blk l28 (.loop (rc28 .ready none)) :: blk D28 (.deferred (some [])) :: X :: blk b0 (.cells (List.toArray [(.int .i64 p0.model), (.bool p0.alternate), (.int .i64 p0.size.Rows), (.int .i64 p0.size.Cols), (SV.val s0), (.int .i64 p0.cursor), (.int .i64 p0.attrs)]) 165 (0, 0)) :: slO s0 48 en_Vapi_Cell p0.cells :: blk i25 (.cells (List.toArray [(.pointer (some ⟨b0, 0, none⟩))]) 24 (0, 0)) :: blk b1631 (.cells (List.toArray [(.func (.yield l24) #[] #[])]) 211 (0, 0)) :: blk l24 (.loop (rc24 .ready none)) :: blk D24 (.deferred (some [])) :: blk i21 (.cells (List.toArray [(.pointer (some ⟨b0, 0, none⟩))]) 24 (0, 0)) :: blk b1463 (.cells (List.toArray [(.pointer (some ⟨i2.1, 0, none⟩))]) 122 (0, 0)) :: blk b1442 (.cells (List.toArray [(.pointer (some ⟨b0, 0, none⟩))]) 24 (0, 0)) :: blk i2.1 (.cells (List.toArray [(SV.val i2.2), (.int .u8 d3.2.2.2.1), (.bool d3.2.2.2.2.1), (.int .u8 d3.2.2.2.2.2.1), (.int .u8 d3.2.2.2.2.2.2.1), (.int .u8 d3.2.2.2.2.2.2.2.1), (.int .u8 d3.2.2.2.2.2.2.2.2.1), (.int .i64 d3.2.2.2.2.2.2.2.2.2)]) 130 (0, 0)) :: slO i2.2 5 (enI .u8) d3.2.2.1 :: R) g _ _
                  refine c_seq ?_
                  refine c_region ?_
                  refine o1 rfl (o_box (cs := [(.func (.yield l28) #[] #[])]) rfl rfl (fun b1636 => ?_))
                  refine o_end ?_
                  refine e_seq ?_
                  refine c_seq ?_
                  refine c_region ?_
                  refine o1 rfl (o_ld (b := i25) (off := 0) (v := (.pointer (some ⟨b0, 0, none⟩))) rfl rm6 rfl rfl ?_)
                  replace h := bsome h
                  obtain ⟨d29, h29, h⟩ := h
                  refine o1 rfl (o_call has135 rfl (c_space_Space_Attrs X p0 b0 s0 _ h29) (pc rm3 (pc rm3 (pc rm3 pn))) (fun i29 => ?_))
                  refine o_end ?_
                  refine e_seq ?_
                  replace h := bsome h
                  obtain ⟨d30, h, hk30⟩ := h
                  refine cjd (D := Unit) (ι := SV × Nat) (fun _ i30 => [mk i30.2]) (fun _ i30 => True) (fun _ i30 => []) (fun _ i30 => X :: blk b0 (.cells (List.toArray [(.int .i64 p0.model), (.bool p0.alternate), (.int .i64 p0.size.Rows), (.int .i64 p0.size.Cols), (SV.val s0), (.int .i64 p0.cursor), (.int .i64 p0.attrs)]) 165 (0, 0)) :: blk i21 (.cells (List.toArray [(.pointer (some ⟨b0, 0, none⟩))]) 24 (0, 0)) :: blk b1463 (.cells (List.toArray [(.pointer (some ⟨i2.1, 0, none⟩))]) 122 (0, 0)) :: blk b1442 (.cells (List.toArray [(.pointer (some ⟨b0, 0, none⟩))]) 24 (0, 0)) :: blk i25 (.cells (List.toArray [(.pointer (some ⟨b0, 0, none⟩))]) 24 (0, 0)) :: blk b1631 (.cells (List.toArray [(.func (.yield l24) #[] #[])]) 211 (0, 0)) :: slO s0 48 en_Vapi_Cell p0.cells :: blk i2.1 (.cells (List.toArray [(SV.val i30.1), (.int .u8 d30.2.1), (.bool d30.2.2.1), (.int .u8 d30.2.2.2.1), (.int .u8 d30.2.2.2.2.1), (.int .u8 d30.2.2.2.2.2.1), (.int .u8 d30.2.2.2.2.2.2.1), (.int .i64 d30.2.2.2.2.2.2.2)]) 130 (0, 0)) :: slO i30.1 5 (enI .u8) d30.1 :: blk i30.2 (.deferred (some [])) :: blk l28 (.loop (rc28 .ready none)) :: blk D28 (.deferred (some [])) :: blk l24 (.loop (rc24 .ready none)) :: blk D24 (.deferred (some [])) :: R) ?_ ?_
                  · refine c_block ?_
                    replace h := bsome h
                    obtain ⟨d31, h, hk31⟩ := h
                    refine cjd (D := Unit) (ι := SV × Nat) (fun _ i31 => [mk i31.2]) (fun _ i31 => True) (fun _ i31 => []) (fun _ i31 => X :: blk b0 (.cells (List.toArray [(.int .i64 p0.model), (.bool p0.alternate), (.int .i64 p0.size.Rows), (.int .i64 p0.size.Cols), (SV.val s0), (.int .i64 p0.cursor), (.int .i64 p0.attrs)]) 165 (0, 0)) :: blk i21 (.cells (List.toArray [(.pointer (some ⟨b0, 0, none⟩))]) 24 (0, 0)) :: blk b1463 (.cells (List.toArray [(.pointer (some ⟨i2.1, 0, none⟩))]) 122 (0, 0)) :: blk b1442 (.cells (List.toArray [(.pointer (some ⟨b0, 0, none⟩))]) 24 (0, 0)) :: blk i25 (.cells (List.toArray [(.pointer (some ⟨b0, 0, none⟩))]) 24 (0, 0)) :: blk b1631 (.cells (List.toArray [(.func (.yield l24) #[] #[])]) 211 (0, 0)) :: slO s0 48 en_Vapi_Cell p0.cells :: blk i2.1 (.cells (List.toArray [(SV.val i31.1), (.int .u8 d31.2.1), (.bool d31.2.2.1), (.int .u8 d31.2.2.2.1), (.int .u8 d31.2.2.2.2.1), (.int .u8 d31.2.2.2.2.2.1), (.int .u8 d31.2.2.2.2.2.2.1), (.int .i64 d31.2.2.2.2.2.2.2)]) 130 (0, 0)) :: slO i31.1 5 (enI .u8) d31.1 :: blk i31.2 (.deferred (some [])) :: blk l28 (.loop (rc28 .ready none)) :: blk D28 (.deferred (some [])) :: blk l24 (.loop (rc24 .ready none)) :: blk D24 (.deferred (some [])) :: R) ?_ ?_
                    · refine c_range' (fn := Try.f145) (M := 17) rfl has145 Try.func145 rfl rfl rfl (fun l32 D32 a32 fc32 rc32 hrc32 ht32 => ?_)
                      change GC _ none _ [] [(0, (.func (.yield l32) #[] #[])), (1, (.pointer (some ⟨i29, 0, none⟩)))] (blk l32 (.loop (rc32 .ready none)) :: blk D32 (.deferred (some [])) :: X :: blk b0 (.cells (List.toArray [(.int .i64 p0.model), (.bool p0.alternate), (.int .i64 p0.size.Rows), (.int .i64 p0.size.Cols), (SV.val s0), (.int .i64 p0.cursor), (.int .i64 p0.attrs)]) 165 (0, 0)) :: slO s0 48 en_Vapi_Cell p0.cells :: blk i29 (.cells (List.toArray [(.pointer (some ⟨b0, 0, none⟩))]) 24 (0, 0)) :: blk b1636 (.cells (List.toArray [(.func (.yield l28) #[] #[])]) 233 (0, 0)) :: blk l28 (.loop (rc28 .ready none)) :: blk D28 (.deferred (some [])) :: blk i25 (.cells (List.toArray [(.pointer (some ⟨b0, 0, none⟩))]) 24 (0, 0)) :: blk b1631 (.cells (List.toArray [(.func (.yield l24) #[] #[])]) 211 (0, 0)) :: blk l24 (.loop (rc24 .ready none)) :: blk D24 (.deferred (some [])) :: blk i21 (.cells (List.toArray [(.pointer (some ⟨b0, 0, none⟩))]) 24 (0, 0)) :: blk b1463 (.cells (List.toArray [(.pointer (some ⟨i2.1, 0, none⟩))]) 122 (0, 0)) :: blk b1442 (.cells (List.toArray [(.pointer (some ⟨b0, 0, none⟩))]) 24 (0, 0)) :: blk i2.1 (.cells (List.toArray [(SV.val i2.2), (.int .u8 d3.2.2.2.1), (.bool d3.2.2.2.2.1), (.int .u8 d3.2.2.2.2.2.1), (.int .u8 d3.2.2.2.2.2.2.1), (.int .u8 d3.2.2.2.2.2.2.2.1), (.int .u8 d3.2.2.2.2.2.2.2.2.1), (.int .i64 d3.2.2.2.2.2.2.2.2.2)]) 130 (0, 0)) :: slO i2.2 5 (enI .u8) d3.2.2.1 :: R) g _ _
                      refine c_seq ?_
                      refine c_region ?_
                      refine o1 rfl (o_box (cs := [(.func (.yield l32) #[] #[])]) rfl rfl (fun b1641 => ?_))
                      refine o_end ?_
                      refine e_seq ?_
                      refine c_seq ?_
                      refine c_region ?_
                      refine o1 rfl (o_ld (b := i29) (off := 0) (v := (.pointer (some ⟨b0, 0, none⟩))) rfl rm6 rfl rfl ?_)
                      replace h := bsome h
                      obtain ⟨d33, h33, h⟩ := h
                      refine o1 rfl (o_call has67 rfl (c_space_Space_All X p0 b0 s0 _ h33) (pc rm3 (pc rm3 (pc rm3 pn))) (fun i33 => ?_))
                      refine o_end ?_
                      refine e_seq ?_
                      replace h := bsome h
                      obtain ⟨d34, h, hk34⟩ := h
                      refine cjd (D := Unit) (ι := SV × Nat) (fun _ i34 => [mk i34.2]) (fun _ i34 => True) (fun _ i34 => []) (fun _ i34 => X :: blk b0 (.cells (List.toArray [(.int .i64 p0.model), (.bool p0.alternate), (.int .i64 p0.size.Rows), (.int .i64 p0.size.Cols), (SV.val s0), (.int .i64 p0.cursor), (.int .i64 p0.attrs)]) 165 (0, 0)) :: blk i21 (.cells (List.toArray [(.pointer (some ⟨b0, 0, none⟩))]) 24 (0, 0)) :: blk b1463 (.cells (List.toArray [(.pointer (some ⟨i2.1, 0, none⟩))]) 122 (0, 0)) :: blk b1442 (.cells (List.toArray [(.pointer (some ⟨b0, 0, none⟩))]) 24 (0, 0)) :: blk i25 (.cells (List.toArray [(.pointer (some ⟨b0, 0, none⟩))]) 24 (0, 0)) :: blk b1631 (.cells (List.toArray [(.func (.yield l24) #[] #[])]) 211 (0, 0)) :: blk i29 (.cells (List.toArray [(.pointer (some ⟨b0, 0, none⟩))]) 24 (0, 0)) :: blk b1636 (.cells (List.toArray [(.func (.yield l28) #[] #[])]) 233 (0, 0)) :: slO s0 48 en_Vapi_Cell p0.cells :: blk i2.1 (.cells (List.toArray [(SV.val i34.1), (.int .u8 d34.2.1), (.bool d34.2.2.1), (.int .u8 d34.2.2.2.1), (.int .u8 d34.2.2.2.2.1), (.int .u8 d34.2.2.2.2.2.1), (.int .u8 d34.2.2.2.2.2.2.1), (.int .i64 d34.2.2.2.2.2.2.2)]) 130 (0, 0)) :: slO i34.1 5 (enI .u8) d34.1 :: blk i34.2 (.deferred (some [])) :: blk l32 (.loop (rc32 .ready none)) :: blk D32 (.deferred (some [])) :: blk l28 (.loop (rc28 .ready none)) :: blk D28 (.deferred (some [])) :: blk l24 (.loop (rc24 .ready none)) :: blk D24 (.deferred (some [])) :: R) ?_ ?_
                      · refine c_block ?_
                        replace h := bsome h
                        obtain ⟨d35, h, hk35⟩ := h
                        refine cjd (D := Unit) (ι := SV × Nat) (fun _ i35 => [mk i35.2]) (fun _ i35 => True) (fun _ i35 => []) (fun _ i35 => X :: blk b0 (.cells (List.toArray [(.int .i64 p0.model), (.bool p0.alternate), (.int .i64 p0.size.Rows), (.int .i64 p0.size.Cols), (SV.val s0), (.int .i64 p0.cursor), (.int .i64 p0.attrs)]) 165 (0, 0)) :: blk i21 (.cells (List.toArray [(.pointer (some ⟨b0, 0, none⟩))]) 24 (0, 0)) :: blk b1463 (.cells (List.toArray [(.pointer (some ⟨i2.1, 0, none⟩))]) 122 (0, 0)) :: blk b1442 (.cells (List.toArray [(.pointer (some ⟨b0, 0, none⟩))]) 24 (0, 0)) :: blk i25 (.cells (List.toArray [(.pointer (some ⟨b0, 0, none⟩))]) 24 (0, 0)) :: blk b1631 (.cells (List.toArray [(.func (.yield l24) #[] #[])]) 211 (0, 0)) :: blk i29 (.cells (List.toArray [(.pointer (some ⟨b0, 0, none⟩))]) 24 (0, 0)) :: blk b1636 (.cells (List.toArray [(.func (.yield l28) #[] #[])]) 233 (0, 0)) :: slO s0 48 en_Vapi_Cell p0.cells :: blk i2.1 (.cells (List.toArray [(SV.val i35.1), (.int .u8 d35.2.1), (.bool d35.2.2.1), (.int .u8 d35.2.2.2.1), (.int .u8 d35.2.2.2.2.1), (.int .u8 d35.2.2.2.2.2.1), (.int .u8 d35.2.2.2.2.2.2.1), (.int .i64 d35.2.2.2.2.2.2.2)]) 130 (0, 0)) :: slO i35.1 5 (enI .u8) d35.1 :: blk i35.2 (.deferred (some [])) :: blk l32 (.loop (rc32 .ready none)) :: blk D32 (.deferred (some [])) :: blk l28 (.loop (rc28 .ready none)) :: blk D28 (.deferred (some [])) :: blk l24 (.loop (rc24 .ready none)) :: blk D24 (.deferred (some [])) :: R) ?_ ?_
                        · refine c_range' (fn := Try.f100) (M := 18) rfl has100 Try.func100 rfl rfl rfl (fun l36 D36 a36 fc36 rc36 hrc36 ht36 => ?_)
                          change GC _ none _ [] [(0, (.func (.yield l36) #[] #[])), (1, (.pointer (some ⟨i33, 0, none⟩)))] (blk l36 (.loop (rc36 .ready none)) :: blk D36 (.deferred (some [])) :: X :: blk b0 (.cells (List.toArray [(.int .i64 p0.model), (.bool p0.alternate), (.int .i64 p0.size.Rows), (.int .i64 p0.size.Cols), (SV.val s0), (.int .i64 p0.cursor), (.int .i64 p0.attrs)]) 165 (0, 0)) :: slO s0 48 en_Vapi_Cell p0.cells :: blk i33 (.cells (List.toArray [(.pointer (some ⟨b0, 0, none⟩))]) 24 (0, 0)) :: blk b1641 (.cells (List.toArray [(.func (.yield l32) #[] #[])]) 211 (0, 0)) :: blk l32 (.loop (rc32 .ready none)) :: blk D32 (.deferred (some [])) :: blk i29 (.cells (List.toArray [(.pointer (some ⟨b0, 0, none⟩))]) 24 (0, 0)) :: blk b1636 (.cells (List.toArray [(.func (.yield l28) #[] #[])]) 233 (0, 0)) :: blk l28 (.loop (rc28 .ready none)) :: blk D28 (.deferred (some [])) :: blk i25 (.cells (List.toArray [(.pointer (some ⟨b0, 0, none⟩))]) 24 (0, 0)) :: blk b1631 (.cells (List.toArray [(.func (.yield l24) #[] #[])]) 211 (0, 0)) :: blk l24 (.loop (rc24 .ready none)) :: blk D24 (.deferred (some [])) :: blk i21 (.cells (List.toArray [(.pointer (some ⟨b0, 0, none⟩))]) 24 (0, 0)) :: blk b1463 (.cells (List.toArray [(.pointer (some ⟨i2.1, 0, none⟩))]) 122 (0, 0)) :: blk b1442 (.cells (List.toArray [(.pointer (some ⟨b0, 0, none⟩))]) 24 (0, 0)) :: blk i2.1 (.cells (List.toArray [(SV.val i2.2), (.int .u8 d3.2.2.2.1), (.bool d3.2.2.2.2.1), (.int .u8 d3.2.2.2.2.2.1), (.int .u8 d3.2.2.2.2.2.2.1), (.int .u8 d3.2.2.2.2.2.2.2.1), (.int .u8 d3.2.2.2.2.2.2.2.2.1), (.int .i64 d3.2.2.2.2.2.2.2.2.2)]) 130 (0, 0)) :: slO i2.2 5 (enI .u8) d3.2.2.1 :: R) g _ _
                          refine c_seq ?_
                          refine c_region ?_
                          refine o1 rfl (o_ld (b := i33) (off := 0) (v := (.pointer (some ⟨b0, 0, none⟩))) rfl rm5 rfl rfl ?_)
                          replace h := bsome h
                          obtain ⟨d37, h37, h⟩ := h
                          refine o1 rfl (o_call has70 rfl (c_space_Space_Size X p0 b0 s0 _ h37) (pc rm2 (pc rm2 (pc rm2 pn))) ?_)
                          replace h := bsome h
                          obtain ⟨d38, h38, h⟩ := h
                          refine o1 rfl (o_call has71 rfl (c_addr_Size_Cells X (⟨d37.Rows, d37.Cols⟩ : Vaddr_Size) _ h38) (pc rm0 pn) ?_)
                          refine o1 rfl (o_p rfl ?_)
                          refine o_end ?_
                          refine e_seq ?_
                          replace h := bsome h
                          obtain ⟨d39, h, hk39⟩ := h
                          refine cj (D := Unit) (ι := SV) (fun _ i39 => True) (fun _ i39 => []) (fun _ i39 => X :: blk b0 (.cells (List.toArray [(.int .i64 p0.model), (.bool p0.alternate), (.int .i64 p0.size.Rows), (.int .i64 p0.size.Cols), (SV.val s0), (.int .i64 p0.cursor), (.int .i64 p0.attrs)]) 165 (0, 0)) :: blk i21 (.cells (List.toArray [(.pointer (some ⟨b0, 0, none⟩))]) 24 (0, 0)) :: blk b1463 (.cells (List.toArray [(.pointer (some ⟨i2.1, 0, none⟩))]) 122 (0, 0)) :: blk b1442 (.cells (List.toArray [(.pointer (some ⟨b0, 0, none⟩))]) 24 (0, 0)) :: blk i25 (.cells (List.toArray [(.pointer (some ⟨b0, 0, none⟩))]) 24 (0, 0)) :: blk b1631 (.cells (List.toArray [(.func (.yield l24) #[] #[])]) 211 (0, 0)) :: blk i29 (.cells (List.toArray [(.pointer (some ⟨b0, 0, none⟩))]) 24 (0, 0)) :: blk b1636 (.cells (List.toArray [(.func (.yield l28) #[] #[])]) 233 (0, 0)) :: blk i33 (.cells (List.toArray [(.pointer (some ⟨b0, 0, none⟩))]) 24 (0, 0)) :: blk b1641 (.cells (List.toArray [(.func (.yield l32) #[] #[])]) 211 (0, 0)) :: slO s0 48 en_Vapi_Cell p0.cells :: blk i2.1 (.cells (List.toArray [(SV.val i39), (.int .u8 d39.2.1), (.bool d39.2.2.1), (.int .u8 d39.2.2.2.1), (.int .u8 d39.2.2.2.2.1), (.int .u8 d39.2.2.2.2.2.1), (.int .u8 d39.2.2.2.2.2.2.1), (.int .i64 d39.2.2.2.2.2.2.2)]) 130 (0, 0)) :: slO i39 5 (enI .u8) d39.1 :: blk l36 (.loop (rc36 .ready none)) :: blk D36 (.deferred (some [])) :: blk l32 (.loop (rc32 .ready none)) :: blk D32 (.deferred (some [])) :: blk l28 (.loop (rc28 .ready none)) :: blk D28 (.deferred (some [])) :: blk l24 (.loop (rc24 .ready none)) :: blk D24 (.deferred (some [])) :: R) ?_ ?_
                          · refine c_block ?_
                            refine c_loop (l_sub (sc rfl (sc rfl (sc rfl (sc rfl sn)))) (l_keep (kc rm0 (kc rm4 (kc rm0 (kc rm14 (kc rm14 (kc rm14 (kc rm10 (kc rm10 (kc rm6 (kc rm6 (kc rm3 (kc rm0 (kc rm8 (kc rm8 (kc rm0 (kc rm0 (kc rm0 (kc rm0 (kc rm0 (kc rm0 (kc rm0 (kc rm0 kr)))))))))))))))))))))) (lf (X := Int × (List Int) × Int × Bool × Int × Int × Int × Int × Int) (ι := SV) (fun k x => read_modified_l40 p0 d38 k x) _ (fun x40 i40 => True) (fun x40 i40 => [(7, (.int .i64 x40.1)), (6, (.int .i64 d38)), (0, (.func (.yield l36) #[] #[])), (1, (.pointer (some ⟨i33, 0, none⟩)))]) (fun x40 i40 => X :: blk i33 (.cells (List.toArray [(.pointer (some ⟨b0, 0, none⟩))]) 24 (0, 0)) :: blk b0 (.cells (List.toArray [(.int .i64 p0.model), (.bool p0.alternate), (.int .i64 p0.size.Rows), (.int .i64 p0.size.Cols), (SV.val s0), (.int .i64 p0.cursor), (.int .i64 p0.attrs)]) 165 (0, 0)) :: blk i21 (.cells (List.toArray [(.pointer (some ⟨b0, 0, none⟩))]) 24 (0, 0)) :: blk b1463 (.cells (List.toArray [(.pointer (some ⟨i2.1, 0, none⟩))]) 122 (0, 0)) :: blk b1442 (.cells (List.toArray [(.pointer (some ⟨b0, 0, none⟩))]) 24 (0, 0)) :: blk i25 (.cells (List.toArray [(.pointer (some ⟨b0, 0, none⟩))]) 24 (0, 0)) :: blk b1631 (.cells (List.toArray [(.func (.yield l24) #[] #[])]) 211 (0, 0)) :: blk i29 (.cells (List.toArray [(.pointer (some ⟨b0, 0, none⟩))]) 24 (0, 0)) :: blk b1636 (.cells (List.toArray [(.func (.yield l28) #[] #[])]) 233 (0, 0)) :: blk b1641 (.cells (List.toArray [(.func (.yield l32) #[] #[])]) 211 (0, 0)) :: slO s0 48 en_Vapi_Cell p0.cells :: blk i2.1 (.cells (List.toArray [(SV.val i40), (.int .u8 x40.2.2.1), (.bool x40.2.2.2.1), (.int .u8 x40.2.2.2.2.1), (.int .u8 x40.2.2.2.2.2.1), (.int .u8 x40.2.2.2.2.2.2.1), (.int .u8 x40.2.2.2.2.2.2.2.1), (.int .i64 x40.2.2.2.2.2.2.2.2)]) 130 (0, 0)) :: slO i40 5 (enI .u8) x40.2.1 :: blk l36 (.loop (rc36 .ready none)) :: blk D36 (.deferred (some [])) :: blk l32 (.loop (rc32 .ready none)) :: blk D32 (.deferred (some [])) :: blk l28 (.loop (rc28 .ready none)) :: blk D28 (.deferred (some [])) :: blk l24 (.loop (rc24 .ready none)) :: blk D24 (.deferred (some [])) :: R) (fun _ => rfl) ?_ fuel (0, d3.2.2.1, d3.2.2.2.1, d3.2.2.2.2.1, d3.2.2.2.2.2.1, d3.2.2.2.2.2.2.1, d3.2.2.2.2.2.2.2.1, d3.2.2.2.2.2.2.2.2.1, d3.2.2.2.2.2.2.2.2.2) i2.2 trivial h)))
                            clear h
                            rintro k40 ih40 x40 i40 _ h
                            rw [read_modified_l40.eq_2] at h
                            refine l_round ?_
                            refine c_seq ?_
                            refine c_region ?_
                            refine o1 rfl (o_p (v := (.bool (decide (x40.1 < d38)))) rfl ?_)
                            refine o_end ?_
                            refine e_seq ?_
                            refine c_seq ?_
                            refine c_cond (b := (decide (x40.1 < d38))) rfl (fun hb1718 => ?_) (fun hb1718 => ?_)
                            · replace h := cond_t hb1718 h
                              refine c_skip ?_
                              refine e_seq ?_
                              refine c_seq ?_
                              refine c_block ?_
                              refine c_seq ?_
                              refine c_region ?_
                              refine o1 rfl (o_p rfl ?_)
                              refine o1 rfl (o_p rfl ?_)
                              refine o_end ?_
                              refine e_seq ?_
                              refine c_seq ?_
                              refine c_region ?_
                              refine o1 rfl (o_p rfl ?_)
                              refine o1 rfl (o_p rfl ?_)
                              refine o1 rfl (o_ld (b := i33) (off := 0) (v := (.pointer (some ⟨b0, 0, none⟩))) rfl rm1 rfl rfl ?_)
                              refine o1 rfl (o_p rfl ?_)
                              replace h := bsome h
                              obtain ⟨d43, h43, h⟩ := h
                              refine o1 rfl (o_call has91 rfl (c_space_Space_At X p0 b0 s0 x40.1 _ h43) (pc rm0 (pc rm1 (pc rm9 pn))) ?_)
                              refine o1 rfl (o_yield' hrc36 ht36 rfl rfl rfl rfl rm14 ?_)
                              refine c_seq ?_
                              refine c_region ?_
                              refine o1 rfl (o_p rfl ?_)
                              refine o_end ?_
                              refine e_seq ?_
                              refine c_region ?_
                              refine o1 rfl (o_alloc (cs := [(.int .u8 0), (.bool false), (.int .u8 0), (.int .u8 0), (.int .u8 0), (.int .u8 0)]) rfl rfl (fun b1719 => ?_))
                              refine o0 (o_st (b := b1719) (off := 0) (vs := [(.int .u8 d43.Char), (.bool d43.Attr), (.int .u8 d43.FA), (.int .u8 d43.High), (.int .u8 d43.Color), (.int .u8 d43.f_Set)]) (cs' := [(.int .u8 d43.Char), (.bool d43.Attr), (.int .u8 d43.FA), (.int .u8 d43.High), (.int .u8 d43.Color), (.int .u8 d43.f_Set)]) rfl rfl rp0 rfl rfl rfl rfl rfl rfl ?_)
                              refine o_end ?_
                              refine e_begin' hrc36 rm1 ?_
                              refine c_block ?_
                              refine c_seq ?_
                              replace h := bsome h
                              obtain ⟨d45, h, hk45⟩ := h
                              refine cj (D := Unit) (ι := SV) (fun _ i45 => True) (fun _ i45 => [(16, (.bool false))]) (fun _ i45 => X :: blk b0 (.cells (List.toArray [(.int .i64 p0.model), (.bool p0.alternate), (.int .i64 p0.size.Rows), (.int .i64 p0.size.Cols), (SV.val s0), (.int .i64 p0.cursor), (.int .i64 p0.attrs)]) 165 (0, 0)) :: blk i21 (.cells (List.toArray [(.pointer (some ⟨b0, 0, none⟩))]) 24 (0, 0)) :: blk b1463 (.cells (List.toArray [(.pointer (some ⟨i2.1, 0, none⟩))]) 122 (0, 0)) :: blk b1442 (.cells (List.toArray [(.pointer (some ⟨b0, 0, none⟩))]) 24 (0, 0)) :: blk i25 (.cells (List.toArray [(.pointer (some ⟨b0, 0, none⟩))]) 24 (0, 0)) :: blk b1631 (.cells (List.toArray [(.func (.yield l24) #[] #[])]) 211 (0, 0)) :: blk i29 (.cells (List.toArray [(.pointer (some ⟨b0, 0, none⟩))]) 24 (0, 0)) :: blk b1636 (.cells (List.toArray [(.func (.yield l28) #[] #[])]) 233 (0, 0)) :: blk i33 (.cells (List.toArray [(.pointer (some ⟨b0, 0, none⟩))]) 24 (0, 0)) :: blk b1641 (.cells (List.toArray [(.func (.yield l32) #[] #[])]) 211 (0, 0)) :: slO s0 48 en_Vapi_Cell p0.cells :: blk i2.1 (.cells (List.toArray [(SV.val i45), (.int .u8 d45.2.1), (.bool d45.2.2.1), (.int .u8 d45.2.2.2.1), (.int .u8 d45.2.2.2.2.1), (.int .u8 d45.2.2.2.2.2.1), (.int .u8 d45.2.2.2.2.2.2.1), (.int .i64 d45.2.2.2.2.2.2.2)]) 130 (0, 0)) :: slO i45 5 (enI .u8) d45.1 :: blk l32 (.loop (rc32 .ready none)) :: blk l28 (.loop (rc28 .ready none)) :: blk l24 (.loop (rc24 .ready none)) :: blk l36 (.loop (rc36 .busy none)) :: blk D36 (.deferred (some [])) :: blk D32 (.deferred (some [])) :: blk D28 (.deferred (some [])) :: blk D24 (.deferred (some [])) :: R) ?_ ?_
                              · refine c_region ?_
                                refine o1 rfl (o_fa (fd := ⟨ "Attr", 4, 1, false, "", "", 1⟩) rfl rfl rfl rfl rfl ?_)
                                refine o1 rfl (o_ld (b := b1719) (off := 1) (v := (.bool d43.Attr)) rfl rm1 rfl rfl ?_)
                                refine o1 rfl (o_p rfl ?_)
                                rcases bool_or (d43.Attr) with hb1721 | hb1721
                                · replace h := cond_t hb1721 h
                                  refine oy rfl rfl rfl hb1721 (o_ld (b := b1641) (off := 0) (v := (.func (.yield l32) #[] #[])) rfl rm13 rfl rfl ?_)
                                  refine oy rfl rfl rfl hb1721 (o_p rfl ?_)
                                  refine oy rfl rfl rfl hb1721 (o_yield' hrc32 ht32 rfl rfl rfl rfl rm17 ?_)
                                  refine c_region ?_
                                  refine o1 rfl (o_p rfl ?_)
                                  refine o_end ?_
                                  refine e_begin' hrc32 rm0 ?_
                                  refine c_block ?_
                                  refine c_seq ?_
                                  refine c_draw (n := 3) (q := [(0, 7, (.func (.yield l28) #[] #[])), (1, 8, (.int .i64 x40.1)), (2, 9, (.pointer (some ⟨b0, 0, none⟩))), (3, 10, (.int .i64 x40.1))]) (pend := [0, 1, 2, 3]) rfl rfl rfl ?_
                                  replace h := bsome h
                                  obtain ⟨d48, h48, h⟩ := h
                                  refine ⟨⟨fun _ => ⟨rfl, rfl, rfl, .inl ⟨rfl, (o_ld (b := b1636) (off := 0) (v := (.func (.yield l28) #[] #[])) rfl rm13 rfl rfl ⟨rfl, rfl⟩)⟩⟩, fun _ => ⟨rfl, rfl, rfl, .inl ⟨rfl, (o_p rfl ⟨rfl, rfl⟩)⟩⟩, fun _ => ⟨rfl, rfl, rfl, .inl ⟨rfl, (o_ld (b := i25) (off := 0) (v := (.pointer (some ⟨b0, 0, none⟩))) rfl rm10 rfl rfl ⟨rfl, rfl⟩)⟩⟩, fun _ => ⟨rfl, rfl, rfl, .inl ⟨rfl, (o_p rfl ⟨rfl, rfl⟩)⟩⟩, trivial⟩, rfl, .inr ⟨[4], rfl, rfl, ⟨rfl, .inl rfl, ?_⟩, trivial⟩⟩
                                  refine (o_call has91 rfl (c_space_Space_At X p0 b0 s0 x40.1 _ h48) (pc rm3 (pc rm3 (pc rm3 pn))) ?_)
                                  refine ⟨[(5, 12, (.int .u8 d48.FA))], [0, 1, 5], rfl, rfl, rfl, rfl, ?_⟩
                                  replace h := bsome h
                                  obtain ⟨d49, h49, h⟩ := h
                                  refine ⟨⟨fun _ => ⟨rfl, rfl, rfl, .inl ⟨rfl, (o_field (v := (.int .u8 d48.FA)) rfl rfl rfl ⟨rfl, rfl⟩)⟩⟩, fun _ => ⟨rfl, rfl, rfl, .inl ⟨rfl, (o_ld (b := b1636) (off := 0) (v := (.func (.yield l28) #[] #[])) rfl rm13 rfl rfl ⟨rfl, rfl⟩)⟩⟩, fun _ => ⟨rfl, rfl, rfl, .inl ⟨rfl, (o_p rfl ⟨rfl, rfl⟩)⟩⟩, (fun h => nomatch h), (fun h => nomatch h), trivial⟩, rfl, .inr ⟨[6], rfl, rfl, ⟨rfl, .inl rfl, ?_⟩, trivial⟩⟩
                                  refine (o_call has136 rfl (c_attr_Of X d48.FA _ h49) (pc rm0 pn) ?_)
                                  refine ⟨[], [0, 1], rfl, rfl, rfl, rfl, ?_⟩
                                  refine ⟨⟨(fun h => nomatch h), fun _ => ⟨rfl, rfl, rfl, .inl ⟨rfl, (o_ld (b := b1636) (off := 0) (v := (.func (.yield l28) #[] #[])) rfl rm13 rfl rfl ⟨rfl, rfl⟩)⟩⟩, fun _ => ⟨rfl, rfl, rfl, .inl ⟨rfl, (o_p rfl ⟨rfl, rfl⟩)⟩⟩, (fun h => nomatch h), (fun h => nomatch h), trivial⟩, rfl, .inr ⟨[7], rfl, rfl, ⟨rfl, .inl rfl, ?_⟩, trivial⟩⟩
                                  refine (o_yield' hrc28 ht28 rfl rfl rfl rfl rm19 ?_)
                                  refine c_seq ?_
                                  refine c_region ?_
                                  refine o1 rfl (o_p rfl ?_)
                                  refine o_end ?_
                                  refine e_seq ?_
                                  refine c_region ?_
                                  refine o1 rfl (o_alloc (cs := [(.bool false), (.bool false), (.int .i64 0), (.bool false)]) rfl rfl (fun b1722 => ?_))
                                  refine o0 (o_st (b := b1722) (off := 0) (vs := [(.bool d49.Protected), (.bool d49.Numeric), (.int .i64 d49.Display), (.bool d49.Modified)]) (cs' := [(.bool d49.Protected), (.bool d49.Numeric), (.int .i64 d49.Display), (.bool d49.Modified)]) rfl rfl rp0 rfl rfl rfl rfl rfl rfl ?_)
                                  refine o_end ?_
                                  refine e_begin' hrc28 rm1 ?_
                                  refine c_block ?_
                                  refine c_seq ?_
                                  replace h := bsome h
                                  obtain ⟨d51, h, hk51⟩ := h
                                  refine cj (D := Unit) (ι := SV) (fun _ i51 => True) (fun _ i51 => [(16, (.bool false))]) (fun _ i51 => X :: blk b0 (.cells (List.toArray [(.int .i64 p0.model), (.bool p0.alternate), (.int .i64 p0.size.Rows), (.int .i64 p0.size.Cols), (SV.val s0), (.int .i64 p0.cursor), (.int .i64 p0.attrs)]) 165 (0, 0)) :: blk i21 (.cells (List.toArray [(.pointer (some ⟨b0, 0, none⟩))]) 24 (0, 0)) :: blk b1463 (.cells (List.toArray [(.pointer (some ⟨i2.1, 0, none⟩))]) 122 (0, 0)) :: blk b1442 (.cells (List.toArray [(.pointer (some ⟨b0, 0, none⟩))]) 24 (0, 0)) :: blk i25 (.cells (List.toArray [(.pointer (some ⟨b0, 0, none⟩))]) 24 (0, 0)) :: blk b1631 (.cells (List.toArray [(.func (.yield l24) #[] #[])]) 211 (0, 0)) :: blk i29 (.cells (List.toArray [(.pointer (some ⟨b0, 0, none⟩))]) 24 (0, 0)) :: blk b1636 (.cells (List.toArray [(.func (.yield l28) #[] #[])]) 233 (0, 0)) :: blk i33 (.cells (List.toArray [(.pointer (some ⟨b0, 0, none⟩))]) 24 (0, 0)) :: blk b1641 (.cells (List.toArray [(.func (.yield l32) #[] #[])]) 211 (0, 0)) :: blk b1719 (.cells (List.toArray [(.int .u8 d43.Char), (.bool d43.Attr), (.int .u8 d43.FA), (.int .u8 d43.High), (.int .u8 d43.Color), (.int .u8 d43.f_Set)]) 48 (0, 0)) :: slO s0 48 en_Vapi_Cell p0.cells :: blk i2.1 (.cells (List.toArray [(SV.val i51), (.int .u8 d51.2.1), (.bool d51.2.2.1), (.int .u8 d51.2.2.2.1), (.int .u8 d51.2.2.2.2.1), (.int .u8 d51.2.2.2.2.2.1), (.int .u8 d51.2.2.2.2.2.2.1), (.int .i64 d51.2.2.2.2.2.2.2)]) 130 (0, 0)) :: slO i51 5 (enI .u8) d51.1 :: blk l24 (.loop (rc24 .ready none)) :: blk l28 (.loop (rc28 .busy none)) :: blk l32 (.loop (rc32 .busy none)) :: blk l36 (.loop (rc36 .busy none)) :: blk D36 (.deferred (some [])) :: blk D32 (.deferred (some [])) :: blk D28 (.deferred (some [])) :: blk D24 (.deferred (some [])) :: R) ?_ ?_
                                  · refine c_region ?_
                                    refine o1 rfl (o_fa (fd := ⟨ "Modified", 4, 3, false, "", "", 16⟩) rfl rfl rfl rfl rfl ?_)
                                    refine o1 rfl (o_ld (b := b1722) (off := 3) (v := (.bool d49.Modified)) rfl rm1 rfl rfl ?_)
                                    refine o1 rfl (o_p rfl ?_)
                                    rcases bool_or (d49.Modified) with hb1724 | hb1724
                                    · replace h := cond_t hb1724 h
                                      refine oy rfl rfl rfl hb1724 (o_ld (b := b1631) (off := 0) (v := (.func (.yield l24) #[] #[])) rfl rm13 rfl rfl ?_)
                                      refine oy rfl rfl rfl hb1724 (o_p rfl ?_)
                                      refine oy rfl rfl rfl hb1724 (o_yield' hrc24 ht24 rfl rfl rfl rfl rm22 ?_)
                                      refine c_region ?_
                                      refine o1 rfl (o_p rfl ?_)
                                      refine o_end ?_
                                      refine e_begin' hrc24 rm0 ?_
                                      replace h := bsome h
                                      obtain ⟨d52, h, hk52⟩ := h
                                      refine cj (D := Unit) (ι := SV) (fun _ i52 => True) (fun _ i52 => []) (fun _ i52 => X :: blk b0 (.cells (List.toArray [(.int .i64 p0.model), (.bool p0.alternate), (.int .i64 p0.size.Rows), (.int .i64 p0.size.Cols), (SV.val s0), (.int .i64 p0.cursor), (.int .i64 p0.attrs)]) 165 (0, 0)) :: blk i21 (.cells (List.toArray [(.pointer (some ⟨b0, 0, none⟩))]) 24 (0, 0)) :: blk b1463 (.cells (List.toArray [(.pointer (some ⟨i2.1, 0, none⟩))]) 122 (0, 0)) :: blk b1442 (.cells (List.toArray [(.pointer (some ⟨b0, 0, none⟩))]) 24 (0, 0)) :: blk i25 (.cells (List.toArray [(.pointer (some ⟨b0, 0, none⟩))]) 24 (0, 0)) :: blk b1631 (.cells (List.toArray [(.func (.yield l24) #[] #[])]) 211 (0, 0)) :: blk i29 (.cells (List.toArray [(.pointer (some ⟨b0, 0, none⟩))]) 24 (0, 0)) :: blk b1636 (.cells (List.toArray [(.func (.yield l28) #[] #[])]) 233 (0, 0)) :: blk i33 (.cells (List.toArray [(.pointer (some ⟨b0, 0, none⟩))]) 24 (0, 0)) :: blk b1641 (.cells (List.toArray [(.func (.yield l32) #[] #[])]) 211 (0, 0)) :: blk b1719 (.cells (List.toArray [(.int .u8 d43.Char), (.bool d43.Attr), (.int .u8 d43.FA), (.int .u8 d43.High), (.int .u8 d43.Color), (.int .u8 d43.f_Set)]) 48 (0, 0)) :: blk b1722 (.cells (List.toArray [(.bool d49.Protected), (.bool d49.Numeric), (.int .i64 d49.Display), (.bool d49.Modified)]) 215 (0, 0)) :: slO s0 48 en_Vapi_Cell p0.cells :: blk i2.1 (.cells (List.toArray [(SV.val i52), (.int .u8 d52.2.1), (.bool d52.2.2.1), (.int .u8 d52.2.2.2.1), (.int .u8 d52.2.2.2.2.1), (.int .u8 d52.2.2.2.2.2.1), (.int .u8 d52.2.2.2.2.2.2.1), (.int .i64 d52.2.2.2.2.2.2.2)]) 130 (0, 0)) :: slO i52 5 (enI .u8) d52.1 :: blk l24 (.loop (rc24 .busy none)) :: blk l28 (.loop (rc28 .busy none)) :: blk l32 (.loop (rc32 .busy none)) :: blk l36 (.loop (rc36 .busy none)) :: blk D36 (.deferred (some [])) :: blk D32 (.deferred (some [])) :: blk D28 (.deferred (some [])) :: blk D24 (.deferred (some [])) :: R) ?_ ?_
                                      · refine c_block ?_
                                        refine c_seq ?_
                                        refine c_draw (n := 3) (q := [(0, 49, (.pointer (some ⟨i2.1, 0, none⟩))), (1, 50, (.pointer (some ⟨i2.1, 0, none⟩))), (2, 51, (.pointer (some ⟨i2.1, 0, none⟩))), (3, 52, (.pointer (some ⟨i2.1, 0, none⟩))), (4, 53, (SV.val i40))]) (pend := [0, 1, 2, 3, 4]) rfl rfl rfl ?_
                                        refine ⟨⟨fun _ => ⟨rfl, rfl, rfl, .inl ⟨rfl, (o_ld (b := b1463) (off := 0) (v := (.pointer (some ⟨i2.1, 0, none⟩))) rfl rm11 rfl rfl ⟨rfl, rfl⟩)⟩⟩, fun _ => ⟨rfl, rfl, rfl, .inl ⟨rfl, (o_ld (b := b1463) (off := 0) (v := (.pointer (some ⟨i2.1, 0, none⟩))) rfl rm11 rfl rfl ⟨rfl, rfl⟩)⟩⟩, fun _ => ⟨rfl, rfl, rfl, .inl ⟨rfl, (o_p rfl ⟨rfl, rfl⟩)⟩⟩, fun _ => ⟨rfl, rfl, rfl, .inl ⟨rfl, (o_fa (fd := ⟨ "out", 31, 0, false, "", "vitrine/read", 0⟩) rfl rfl rfl rfl rfl ⟨rfl, rfl⟩)⟩⟩, fun _ => ⟨rfl, rfl, rfl, .inl ⟨rfl, (o_ld (b := i2.1) (off := 0) (v := (SV.val i40)) rfl rm18 rfl rfl ⟨rfl, rfl⟩)⟩⟩, trivial⟩, rfl, .inr ⟨[5], rfl, rfl, ⟨rfl, .inl rfl, ?_⟩, trivial⟩⟩
                                        refine (o_bs (e := (enI .u8)) (l := [17]) (zs := [(.int .u8 0)]) rfl rfl rfl rfl rfl rfl rfl rfl rfl rfl (fun s1725 => ?_))
                                        refine ⟨[], [0, 1, 2, 3, 4], rfl, rfl, rfl, rfl, ?_⟩
                                        replace h := gsome h
                                        obtain ⟨hg1727, h⟩ := h
                                        refine ⟨⟨fun _ => ⟨rfl, rfl, rfl, .inl ⟨rfl, (o_ld (b := b1463) (off := 0) (v := (.pointer (some ⟨i2.1, 0, none⟩))) rfl rm12 rfl rfl ⟨rfl, rfl⟩)⟩⟩, fun _ => ⟨rfl, rfl, rfl, .inl ⟨rfl, (o_ld (b := b1463) (off := 0) (v := (.pointer (some ⟨i2.1, 0, none⟩))) rfl rm12 rfl rfl ⟨rfl, rfl⟩)⟩⟩, fun _ => ⟨rfl, rfl, rfl, .inl ⟨rfl, (o_p rfl ⟨rfl, rfl⟩)⟩⟩, fun _ => ⟨rfl, rfl, rfl, .inl ⟨rfl, (o_fa (fd := ⟨ "out", 31, 0, false, "", "vitrine/read", 0⟩) rfl rfl rfl rfl rfl ⟨rfl, rfl⟩)⟩⟩, fun _ => ⟨rfl, rfl, rfl, .inl ⟨rfl, (o_ld (b := i2.1) (off := 0) (v := (SV.val i40)) rfl rm19 rfl rfl ⟨rfl, rfl⟩)⟩⟩, trivial⟩, rfl, .inr ⟨[6], rfl, rfl, ⟨rfl, .inl rfl, ?_⟩, trivial⟩⟩
                                        refine (o_app (s := i40) (r := s1725) (e := (enI .u8)) (l := x40.2.1) (l2 := [17]) (zs := [(.int .u8 0)]) rfl rfl rfl rfl rfl rfl rfl rfl rfl rfl rfl rm20 rm0 (rd_own _ _ _ _) hg1727 (fun s1728 => ?_))
                                        refine ⟨[(7, 56, (.pointer (some ⟨i2.1, 0, none⟩))), (8, 57, (.pointer (some ⟨i2.1, 0, none⟩)))], [0, 7, 8], rfl, rfl, rfl, rfl, ?_⟩
                                        refine ⟨⟨fun _ => ⟨rfl, rfl, rfl, .inl ⟨rfl, (o_p rfl ⟨rfl, rfl⟩)⟩⟩, fun _ => ⟨rfl, rfl, rfl, .inl ⟨rfl, (o_fa (fd := ⟨ "out", 31, 0, false, "", "vitrine/read", 0⟩) rfl rfl rfl rfl rfl ⟨rfl, rfl⟩)⟩⟩, fun _ => ⟨rfl, rfl, rfl, .inl ⟨rfl, (o_ld (b := b1463) (off := 0) (v := (.pointer (some ⟨i2.1, 0, none⟩))) rfl rm13 rfl rfl ⟨rfl, rfl⟩)⟩⟩, (fun h => nomatch h), (fun h => nomatch h), (fun h => nomatch h), (fun h => nomatch h), trivial⟩, rfl, .inr ⟨[9], rfl, rfl, ⟨rfl, .inl rfl, ?_⟩, trivial⟩⟩
                                        refine (o_st (b := i2.1) (off := 0) (vs := [(SV.val s1728)]) (cs' := [(SV.val s1728), (.int .u8 x40.2.2.1), (.bool x40.2.2.2.1), (.int .u8 x40.2.2.2.2.1), (.int .u8 x40.2.2.2.2.2.1), (.int .u8 x40.2.2.2.2.2.2.1), (.int .u8 x40.2.2.2.2.2.2.2.1), (.int .i64 x40.2.2.2.2.2.2.2.2)]) rfl rfl rp20 rfl rfl rfl rfl rfl rfl ?_)
                                        refine ⟨[], [], rfl, rfl, ?_⟩
                                        refine ⟨⟨(fun h => nomatch h), (fun h => nomatch h), (fun h => nomatch h), (fun h => nomatch h), (fun h => nomatch h), (fun h => nomatch h), (fun h => nomatch h), trivial⟩, rfl, rfl, rfl, ?_⟩
                                        refine e_seq ?_
                                        refine c_seq ?_
                                        refine c_draw (n := 3) (q := [(0, 58, (.pointer (some ⟨i2.1, 0, none⟩))), (1, 59, (.pointer (some ⟨b0, 0, none⟩))), (3, 61, (.int .i64 x40.1)), (4, 62, (.int .i64 (w64 (x40.1 + 1))))]) (pend := [0, 1, 3, 4]) rfl rfl rfl ?_
                                        replace h := bsome h
                                        obtain ⟨d55, h55, h⟩ := h
                                        refine ⟨⟨fun _ => ⟨rfl, rfl, rfl, .inl ⟨rfl, (o_ld (b := b1463) (off := 0) (v := (.pointer (some ⟨i2.1, 0, none⟩))) rfl rm13 rfl rfl ⟨rfl, rfl⟩)⟩⟩, fun _ => ⟨rfl, rfl, rfl, .inl ⟨rfl, (o_ld (b := b1442) (off := 0) (v := (.pointer (some ⟨b0, 0, none⟩))) rfl rm14 rfl rfl ⟨rfl, rfl⟩)⟩⟩, fun _ => ⟨rfl, rfl, rfl, .inl ⟨rfl, (o_p rfl ⟨rfl, rfl⟩)⟩⟩, fun _ => ⟨rfl, rfl, rfl, .inl ⟨rfl, (o_p (v := (.int .i64 (w64 (x40.1 + 1)))) rfl ⟨rfl, rfl⟩)⟩⟩, trivial⟩, rfl, .inr ⟨[2], rfl, rfl, ⟨rfl, .inl rfl, ?_⟩, trivial⟩⟩
                                        refine (o_call has70 rfl (c_space_Space_Size X p0 b0 s0 _ h55) (pc rm5 (pc rm5 (pc rm5 pn))) ?_)
                                        refine ⟨[], [0, 3, 4], rfl, rfl, rfl, rfl, ?_⟩
                                        replace h := bsome h
                                        obtain ⟨d56, h56, h⟩ := h
                                        refine ⟨⟨fun _ => ⟨rfl, rfl, rfl, .inl ⟨rfl, (o_ld (b := b1463) (off := 0) (v := (.pointer (some ⟨i2.1, 0, none⟩))) rfl rm13 rfl rfl ⟨rfl, rfl⟩)⟩⟩, (fun h => nomatch h), fun _ => ⟨rfl, rfl, rfl, .inl ⟨rfl, (o_p rfl ⟨rfl, rfl⟩)⟩⟩, fun _ => ⟨rfl, rfl, rfl, .inl ⟨rfl, (o_p (v := (.int .i64 (w64 (x40.1 + 1)))) rfl ⟨rfl, rfl⟩)⟩⟩, trivial⟩, rfl, .inr ⟨[5], rfl, rfl, ⟨rfl, .inl rfl, ?_⟩, trivial⟩⟩
                                        refine (o_call has83 rfl (c_addr_Size_Wrap X (⟨d55.Rows, d55.Cols⟩ : Vaddr_Size) (w64 (x40.1 + 1)) _ h56) (pc rm0 pn) ?_)
                                        refine ⟨[], [0], rfl, rfl, rfl, rfl, ?_⟩
                                        replace h := bsome h
                                        obtain ⟨d57, h57, h⟩ := h
                                        refine ⟨⟨fun _ => ⟨rfl, rfl, rfl, .inl ⟨rfl, (o_ld (b := b1463) (off := 0) (v := (.pointer (some ⟨i2.1, 0, none⟩))) rfl rm13 rfl rfl ⟨rfl, rfl⟩)⟩⟩, (fun h => nomatch h), (fun h => nomatch h), (fun h => nomatch h), trivial⟩, rfl, .inr ⟨[6], rfl, rfl, ⟨rfl, .inl rfl, ?_⟩, trivial⟩⟩
                                        refine (o_call has89 rfl (c_read_sender_addr X (⟨(x40.2.1 ++ [17]), (⟨x40.2.2.1, x40.2.2.2.1, x40.2.2.2.2.1, x40.2.2.2.2.2.1, x40.2.2.2.2.2.2.1, x40.2.2.2.2.2.2.2.1⟩ : Vapi_Cell), x40.2.2.2.2.2.2.2.2⟩ : Vread_sender) i2.1 s1728 d56 _ h57) (pc rm0 (pc rm19 (pc rm2 pn))) (fun i57 => ?_))
                                        refine ⟨[], [], rfl, rfl, rfl, rfl, ?_⟩
                                        refine ⟨⟨(fun h => nomatch h), (fun h => nomatch h), (fun h => nomatch h), (fun h => nomatch h), trivial⟩, rfl, rfl, rfl, ?_⟩
                                        refine e_seq ?_
                                        refine c_seq ?_
                                        refine c_region ?_
                                        refine o1 rfl (o_ld (b := b1442) (off := 0) (v := (.pointer (some ⟨b0, 0, none⟩))) rfl rm15 rfl rfl ?_)
                                        refine o1 rfl (o_p rfl ?_)
                                        replace h := bsome h
                                        obtain ⟨d58, h58, h⟩ := h
                                        refine o1 rfl (o_call has90 rfl (c_field_Places X p0 b0 s0 x40.1 _ h58) (pc rm0 (pc rm2 (pc rm2 pn))) (fun i58 => ?_))
                                        refine o_end ?_
                                        refine e_seq ?_
                                        replace h := bsome h
                                        obtain ⟨d59, h, hk59⟩ := h
                                        refine cj (D := Unit) (ι := SV) (fun _ i59 => True) (fun _ i59 => []) (fun _ i59 => X :: blk b0 (.cells (List.toArray [(.int .i64 p0.model), (.bool p0.alternate), (.int .i64 p0.size.Rows), (.int .i64 p0.size.Cols), (SV.val s0), (.int .i64 p0.cursor), (.int .i64 p0.attrs)]) 165 (0, 0)) :: blk i21 (.cells (List.toArray [(.pointer (some ⟨b0, 0, none⟩))]) 24 (0, 0)) :: blk b1463 (.cells (List.toArray [(.pointer (some ⟨i2.1, 0, none⟩))]) 122 (0, 0)) :: blk b1442 (.cells (List.toArray [(.pointer (some ⟨b0, 0, none⟩))]) 24 (0, 0)) :: blk i25 (.cells (List.toArray [(.pointer (some ⟨b0, 0, none⟩))]) 24 (0, 0)) :: blk b1631 (.cells (List.toArray [(.func (.yield l24) #[] #[])]) 211 (0, 0)) :: blk i29 (.cells (List.toArray [(.pointer (some ⟨b0, 0, none⟩))]) 24 (0, 0)) :: blk b1636 (.cells (List.toArray [(.func (.yield l28) #[] #[])]) 233 (0, 0)) :: blk i33 (.cells (List.toArray [(.pointer (some ⟨b0, 0, none⟩))]) 24 (0, 0)) :: blk b1641 (.cells (List.toArray [(.func (.yield l32) #[] #[])]) 211 (0, 0)) :: blk b1719 (.cells (List.toArray [(.int .u8 d43.Char), (.bool d43.Attr), (.int .u8 d43.FA), (.int .u8 d43.High), (.int .u8 d43.Color), (.int .u8 d43.f_Set)]) 48 (0, 0)) :: blk b1722 (.cells (List.toArray [(.bool d49.Protected), (.bool d49.Numeric), (.int .i64 d49.Display), (.bool d49.Modified)]) 215 (0, 0)) :: slO s0 48 en_Vapi_Cell p0.cells :: blk i2.1 (.cells (List.toArray [(SV.val i59), (.int .u8 d59.2.1), (.bool d59.2.2.1), (.int .u8 d59.2.2.2.1), (.int .u8 d59.2.2.2.2.1), (.int .u8 d59.2.2.2.2.2.1), (.int .u8 d59.2.2.2.2.2.2.1), (.int .i64 d59.2.2.2.2.2.2.2)]) 130 (0, 0)) :: slO i59 5 (enI .u8) d59.1 :: blk l24 (.loop (rc24 .busy none)) :: blk l28 (.loop (rc28 .busy none)) :: blk l32 (.loop (rc32 .busy none)) :: blk l36 (.loop (rc36 .busy none)) :: blk D36 (.deferred (some [])) :: blk D32 (.deferred (some [])) :: blk D28 (.deferred (some [])) :: blk D24 (.deferred (some [])) :: R) ?_ ?_
                                        · refine c_block ?_
                                          replace h := bsome h
                                          obtain ⟨d60, h, hk60⟩ := h
                                          refine cj (D := Unit) (ι := SV) (fun _ i60 => True) (fun _ i60 => []) (fun _ i60 => X :: blk b0 (.cells (List.toArray [(.int .i64 p0.model), (.bool p0.alternate), (.int .i64 p0.size.Rows), (.int .i64 p0.size.Cols), (SV.val s0), (.int .i64 p0.cursor), (.int .i64 p0.attrs)]) 165 (0, 0)) :: blk i21 (.cells (List.toArray [(.pointer (some ⟨b0, 0, none⟩))]) 24 (0, 0)) :: blk b1463 (.cells (List.toArray [(.pointer (some ⟨i2.1, 0, none⟩))]) 122 (0, 0)) :: blk b1442 (.cells (List.toArray [(.pointer (some ⟨b0, 0, none⟩))]) 24 (0, 0)) :: blk i25 (.cells (List.toArray [(.pointer (some ⟨b0, 0, none⟩))]) 24 (0, 0)) :: blk b1631 (.cells (List.toArray [(.func (.yield l24) #[] #[])]) 211 (0, 0)) :: blk i29 (.cells (List.toArray [(.pointer (some ⟨b0, 0, none⟩))]) 24 (0, 0)) :: blk b1636 (.cells (List.toArray [(.func (.yield l28) #[] #[])]) 233 (0, 0)) :: blk i33 (.cells (List.toArray [(.pointer (some ⟨b0, 0, none⟩))]) 24 (0, 0)) :: blk b1641 (.cells (List.toArray [(.func (.yield l32) #[] #[])]) 211 (0, 0)) :: blk b1719 (.cells (List.toArray [(.int .u8 d43.Char), (.bool d43.Attr), (.int .u8 d43.FA), (.int .u8 d43.High), (.int .u8 d43.Color), (.int .u8 d43.f_Set)]) 48 (0, 0)) :: blk b1722 (.cells (List.toArray [(.bool d49.Protected), (.bool d49.Numeric), (.int .i64 d49.Display), (.bool d49.Modified)]) 215 (0, 0)) :: slO s0 48 en_Vapi_Cell p0.cells :: blk i2.1 (.cells (List.toArray [(SV.val i60), (.int .u8 d60.2.1), (.bool d60.2.2.1), (.int .u8 d60.2.2.2.1), (.int .u8 d60.2.2.2.2.1), (.int .u8 d60.2.2.2.2.2.1), (.int .u8 d60.2.2.2.2.2.2.1), (.int .i64 d60.2.2.2.2.2.2.2)]) 130 (0, 0)) :: slO i60 5 (enI .u8) d60.1 :: blk l24 (.loop (rc24 .busy none)) :: blk l28 (.loop (rc28 .busy none)) :: blk l32 (.loop (rc32 .busy none)) :: blk l36 (.loop (rc36 .busy none)) :: blk D36 (.deferred (some [])) :: blk D32 (.deferred (some [])) :: blk D28 (.deferred (some [])) :: blk D24 (.deferred (some [])) :: R) ?_ ?_
                                          · refine c_range_in' (fn := Try.f113) (M := 33) hrc24 rm8 rfl has113 Try.func113 rfl rfl rfl (fun l61 a61 fc61 rc61 hrc61 ht61 => ?_)
                                            change GC _ none _ [] [(0, (.func (.yield l61) #[] #[])), (1, (.pointer (some ⟨i58.1, 0, none⟩))), (2, (.pointer (some ⟨i58.2, 0, none⟩)))] (blk l61 (.loop (rc61 .ready none)) :: X :: blk b0 (.cells (List.toArray [(.int .i64 p0.model), (.bool p0.alternate), (.int .i64 p0.size.Rows), (.int .i64 p0.size.Cols), (SV.val s0), (.int .i64 p0.cursor), (.int .i64 p0.attrs)]) 165 (0, 0)) :: slO s0 48 en_Vapi_Cell p0.cells :: blk i58.1 (.cells (List.toArray [(.pointer (some ⟨b0, 0, none⟩))]) 24 (0, 0)) :: blk i58.2 (.cells (List.toArray [(.int .i64 x40.1)]) 3 (0, 0)) :: blk i2.1 (.cells (List.toArray [(SV.val i57), (.int .u8 d57.last.Char), (.bool d57.last.Attr), (.int .u8 d57.last.FA), (.int .u8 d57.last.High), (.int .u8 d57.last.Color), (.int .u8 d57.last.f_Set), (.int .i64 d57.mode)]) 130 (0, 0)) :: slO i57 5 (enI .u8) d57.out :: slO s1725 5 (enI .u8) [17] :: blk l24 (.loop (rc24 .busy none)) :: blk l28 (.loop (rc28 .busy none)) :: blk b1722 (.cells (List.toArray [(.bool d49.Protected), (.bool d49.Numeric), (.int .i64 d49.Display), (.bool d49.Modified)]) 215 (0, 0)) :: blk l32 (.loop (rc32 .busy none)) :: blk l36 (.loop (rc36 .busy none)) :: blk b1719 (.cells (List.toArray [(.int .u8 d43.Char), (.bool d43.Attr), (.int .u8 d43.FA), (.int .u8 d43.High), (.int .u8 d43.Color), (.int .u8 d43.f_Set)]) 48 (0, 0)) :: blk i33 (.cells (List.toArray [(.pointer (some ⟨b0, 0, none⟩))]) 24 (0, 0)) :: blk i21 (.cells (List.toArray [(.pointer (some ⟨b0, 0, none⟩))]) 24 (0, 0)) :: blk b1463 (.cells (List.toArray [(.pointer (some ⟨i2.1, 0, none⟩))]) 122 (0, 0)) :: blk b1442 (.cells (List.toArray [(.pointer (some ⟨b0, 0, none⟩))]) 24 (0, 0)) :: blk i25 (.cells (List.toArray [(.pointer (some ⟨b0, 0, none⟩))]) 24 (0, 0)) :: blk b1631 (.cells (List.toArray [(.func (.yield l24) #[] #[])]) 211 (0, 0)) :: blk i29 (.cells (List.toArray [(.pointer (some ⟨b0, 0, none⟩))]) 24 (0, 0)) :: blk b1636 (.cells (List.toArray [(.func (.yield l28) #[] #[])]) 233 (0, 0)) :: blk b1641 (.cells (List.toArray [(.func (.yield l32) #[] #[])]) 211 (0, 0)) :: blk D36 (.deferred (some [])) :: blk D32 (.deferred (some [])) :: blk D28 (.deferred (some [])) :: blk D24 (.deferred (some [])) :: R) g _ _
                                            refine c_seq ?_
                                            refine c_region ?_
                                            refine o1 rfl (o_ld (b := i58.1) (off := 0) (v := (.pointer (some ⟨b0, 0, none⟩))) rfl rm4 rfl rfl ?_)
                                            replace h := bsome h
                                            obtain ⟨d62, h62, h⟩ := h
                                            refine o1 rfl (o_call has70 rfl (c_space_Space_Size X p0 b0 s0 _ h62) (pc rm1 (pc rm1 (pc rm1 pn))) ?_)
                                            refine o1 rfl (o_alloc (cs := [(.int .i64 0), (.int .i64 0)]) rfl rfl (fun b1733 => ?_))
                                            refine o0 (o_st (b := b1733) (off := 0) (vs := [(.int .i64 d62.Rows), (.int .i64 d62.Cols)]) (cs' := [(.int .i64 d62.Rows), (.int .i64 d62.Cols)]) rfl rfl rp0 rfl rfl rfl rfl rfl rfl ?_)
                                            refine o_end ?_
                                            refine e_seq ?_
                                            refine c_seq ?_
                                            refine c_region ?_
                                            refine o1 rfl (o_ld (b := b1733) (off := 0) (v := (.agg (List.toArray [(.int .i64 d62.Rows), (.int .i64 d62.Cols)]))) rfl rm0 rfl rfl ?_)
                                            refine o1 rfl (o_ld (b := i58.2) (off := 0) (v := (.int .i64 x40.1)) rfl rm6 rfl rfl ?_)
                                            replace h := bsome h
                                            obtain ⟨d63, h63, h⟩ := h
                                            refine o1 rfl (o_call has83 rfl (c_addr_Size_Wrap X (⟨d62.Rows, d62.Cols⟩ : Vaddr_Size) x40.1 _ h63) (pc rm1 pn) ?_)
                                            refine o0 (o_st (b := i58.2) (off := 0) (vs := [(.int .i64 d63)]) (cs' := [(.int .i64 d63)]) rfl rfl rp6 rfl rfl rfl rfl rfl rfl ?_)
                                            refine o_end ?_
                                            refine e_seq ?_
                                            refine c_seq ?_
                                            refine c_seq ?_
                                            refine c_region ?_
                                            refine o1 rfl (o_ld (b := i58.1) (off := 0) (v := (.pointer (some ⟨b0, 0, none⟩))) rfl rm5 rfl rfl ?_)
                                            refine o1 rfl (o_ld (b := i58.2) (off := 0) (v := (.int .i64 d63)) rfl rm6 rfl rfl ?_)
                                            replace h := bsome h
                                            obtain ⟨d64, h64, h⟩ := h
                                            refine o1 rfl (o_call has91 rfl (c_space_Space_At X p0 b0 s0 d63 _ h64) (pc rm0 (pc rm1 (pc rm1 pn))) ?_)
                                            refine o1 rfl (o_field (v := (.bool d64.Attr)) rfl rfl rfl ?_)
                                            refine o1 rfl (o_p (v := (.bool (!d64.Attr))) rfl ?_)
                                            refine o_end ?_
                                            refine e_seq ?_
                                            refine c_cond (b := (!d64.Attr)) rfl (fun hb1735 => ?_) (fun hb1735 => ?_)
                                            · replace h := cond_t hb1735 h
                                              refine c_ret ?_
                                              refine e_then_ret ?_
                                              refine e_ret ?_
                                              refine r_end (rs := []) (vs := []) rfl rfl ?_
                                              refine ke' hrc61 rm4 (by simp) ?_
                                              have hd := Option.some.inj h
                                              subst hd
                                              exact ej () i57 trivial sn (kc rm0 (kc rm0 (kc rm14 (kc rm14 (kc rm14 (kc rm14 (kc rm14 (kc rm14 (kc rm14 (kc rm13 (kc rm13 (kc rm12 (kc rm9 (kc rm0 (kc rm3 (kc rm3 (kc rm4 (kc rm4 (kc rm4 (kc rm4 (kc rm4 (kc rm4 (kc rm4 (kc rm4 (kd (kd (kd (kd kr))))))))))))))))))))))))))))
                                            · replace h := cond_f hb1735 h
                                              refine c_skip ?_
                                              refine e_seq ?_
                                              refine c_seq ?_
                                              refine c_region ?_
                                              refine o1 rfl (o_ld (b := b1733) (off := 0) (v := (.agg (List.toArray [(.int .i64 d62.Rows), (.int .i64 d62.Cols)]))) rfl rm3 rfl rfl ?_)
                                              refine o1 rfl (o_ld (b := i58.2) (off := 0) (v := (.int .i64 d63)) rfl rm6 rfl rfl ?_)
                                              refine o1 rfl (o_p (v := (.int .i64 (w64 (d63 + 1)))) rfl ?_)
                                              replace h := bsome h
                                              obtain ⟨d66, h66, h⟩ := h
                                              refine o1 rfl (o_call has83 rfl (c_addr_Size_Wrap X (⟨d62.Rows, d62.Cols⟩ : Vaddr_Size) (w64 (d63 + 1)) _ h66) (pc rm0 pn) ?_)
                                              refine o1 rfl (o_p rfl ?_)
                                              refine o_end ?_
                                              refine e_seq ?_
                                              replace h := bsome h
                                              obtain ⟨d67, h, hk67⟩ := h
                                              refine cj (D := Unit) (ι := SV) (fun _ i67 => True) (fun _ i67 => []) (fun _ i67 => X :: blk b0 (.cells (List.toArray [(.int .i64 p0.model), (.bool p0.alternate), (.int .i64 p0.size.Rows), (.int .i64 p0.size.Cols), (SV.val s0), (.int .i64 p0.cursor), (.int .i64 p0.attrs)]) 165 (0, 0)) :: blk i21 (.cells (List.toArray [(.pointer (some ⟨b0, 0, none⟩))]) 24 (0, 0)) :: blk b1463 (.cells (List.toArray [(.pointer (some ⟨i2.1, 0, none⟩))]) 122 (0, 0)) :: blk b1442 (.cells (List.toArray [(.pointer (some ⟨b0, 0, none⟩))]) 24 (0, 0)) :: blk i25 (.cells (List.toArray [(.pointer (some ⟨b0, 0, none⟩))]) 24 (0, 0)) :: blk b1631 (.cells (List.toArray [(.func (.yield l24) #[] #[])]) 211 (0, 0)) :: blk i29 (.cells (List.toArray [(.pointer (some ⟨b0, 0, none⟩))]) 24 (0, 0)) :: blk b1636 (.cells (List.toArray [(.func (.yield l28) #[] #[])]) 233 (0, 0)) :: blk i33 (.cells (List.toArray [(.pointer (some ⟨b0, 0, none⟩))]) 24 (0, 0)) :: blk b1641 (.cells (List.toArray [(.func (.yield l32) #[] #[])]) 211 (0, 0)) :: blk b1719 (.cells (List.toArray [(.int .u8 d43.Char), (.bool d43.Attr), (.int .u8 d43.FA), (.int .u8 d43.High), (.int .u8 d43.Color), (.int .u8 d43.f_Set)]) 48 (0, 0)) :: blk b1722 (.cells (List.toArray [(.bool d49.Protected), (.bool d49.Numeric), (.int .i64 d49.Display), (.bool d49.Modified)]) 215 (0, 0)) :: blk i58.1 (.cells (List.toArray [(.pointer (some ⟨b0, 0, none⟩))]) 24 (0, 0)) :: blk i58.2 (.cells (List.toArray [(.int .i64 d63)]) 3 (0, 0)) :: blk i2.1 (.cells (List.toArray [(SV.val i67), (.int .u8 d67.2.1), (.bool d67.2.2.1), (.int .u8 d67.2.2.2.1), (.int .u8 d67.2.2.2.2.1), (.int .u8 d67.2.2.2.2.2.1), (.int .u8 d67.2.2.2.2.2.2.1), (.int .i64 d67.2.2.2.2.2.2.2)]) 130 (0, 0)) :: slO s0 48 en_Vapi_Cell p0.cells :: slO i67 5 (enI .u8) d67.1 :: blk l61 (.loop (rc61 .ready none)) :: blk l24 (.loop (rc24 .busy none)) :: blk l28 (.loop (rc28 .busy none)) :: blk l32 (.loop (rc32 .busy none)) :: blk l36 (.loop (rc36 .busy none)) :: blk D36 (.deferred (some [])) :: blk D32 (.deferred (some [])) :: blk D28 (.deferred (some [])) :: blk D24 (.deferred (some [])) :: slO s1725 5 (enI .u8) [17] :: R) ?_ ?_
                                              · refine c_block ?_
                                                refine c_loop (l_sub (sc rfl (sc rfl (sc rfl (sc rfl sn)))) (l_keep (kc rm0 (kc rm2 (kc rm3 (kc rm0 (kc rm13 (kc rm13 (kc rm13 (kc rm13 (kc rm13 (kc rm13 (kc rm13 (kc rm12 (kc rm12 (kc rm11 (kc rm8 (kc rm2 (kc rm2 (kc rm0 (kc rm1 (kc rm0 (kc rm1 (kc rm1 (kc rm1 (kc rm1 (kc rm1 (kc rm1 (kc rm1 (kc rm1 (kc rm0 kr))))))))))))))))))))))))))))) (lf (X := Int × (List Int) × Int × Bool × Int × Int × Int × Int × Int) (ι := SV) (fun k x => read_modified_l68 p0 d62 k x) _ (fun x68 i68 => True) (fun x68 i68 => [(5, (.int .i64 x68.1)), (4, (.pointer (some ⟨b1733, 0, none⟩))), (0, (.func (.yield l61) #[] #[])), (1, (.pointer (some ⟨i58.1, 0, none⟩)))]) (fun x68 i68 => X :: blk b1733 (.cells (List.toArray [(.int .i64 d62.Rows), (.int .i64 d62.Cols)]) 131 (0, 0)) :: blk i58.1 (.cells (List.toArray [(.pointer (some ⟨b0, 0, none⟩))]) 24 (0, 0)) :: blk b0 (.cells (List.toArray [(.int .i64 p0.model), (.bool p0.alternate), (.int .i64 p0.size.Rows), (.int .i64 p0.size.Cols), (SV.val s0), (.int .i64 p0.cursor), (.int .i64 p0.attrs)]) 165 (0, 0)) :: blk i21 (.cells (List.toArray [(.pointer (some ⟨b0, 0, none⟩))]) 24 (0, 0)) :: blk b1463 (.cells (List.toArray [(.pointer (some ⟨i2.1, 0, none⟩))]) 122 (0, 0)) :: blk b1442 (.cells (List.toArray [(.pointer (some ⟨b0, 0, none⟩))]) 24 (0, 0)) :: blk i25 (.cells (List.toArray [(.pointer (some ⟨b0, 0, none⟩))]) 24 (0, 0)) :: blk b1631 (.cells (List.toArray [(.func (.yield l24) #[] #[])]) 211 (0, 0)) :: blk i29 (.cells (List.toArray [(.pointer (some ⟨b0, 0, none⟩))]) 24 (0, 0)) :: blk b1636 (.cells (List.toArray [(.func (.yield l28) #[] #[])]) 233 (0, 0)) :: blk i33 (.cells (List.toArray [(.pointer (some ⟨b0, 0, none⟩))]) 24 (0, 0)) :: blk b1641 (.cells (List.toArray [(.func (.yield l32) #[] #[])]) 211 (0, 0)) :: blk b1719 (.cells (List.toArray [(.int .u8 d43.Char), (.bool d43.Attr), (.int .u8 d43.FA), (.int .u8 d43.High), (.int .u8 d43.Color), (.int .u8 d43.f_Set)]) 48 (0, 0)) :: blk b1722 (.cells (List.toArray [(.bool d49.Protected), (.bool d49.Numeric), (.int .i64 d49.Display), (.bool d49.Modified)]) 215 (0, 0)) :: blk i58.2 (.cells (List.toArray [(.int .i64 d63)]) 3 (0, 0)) :: blk i2.1 (.cells (List.toArray [(SV.val i68), (.int .u8 x68.2.2.1), (.bool x68.2.2.2.1), (.int .u8 x68.2.2.2.2.1), (.int .u8 x68.2.2.2.2.2.1), (.int .u8 x68.2.2.2.2.2.2.1), (.int .u8 x68.2.2.2.2.2.2.2.1), (.int .i64 x68.2.2.2.2.2.2.2.2)]) 130 (0, 0)) :: slO s0 48 en_Vapi_Cell p0.cells :: slO i68 5 (enI .u8) x68.2.1 :: blk l61 (.loop (rc61 .ready none)) :: blk l24 (.loop (rc24 .busy none)) :: blk l28 (.loop (rc28 .busy none)) :: blk l32 (.loop (rc32 .busy none)) :: blk l36 (.loop (rc36 .busy none)) :: blk D36 (.deferred (some [])) :: blk D32 (.deferred (some [])) :: blk D28 (.deferred (some [])) :: blk D24 (.deferred (some [])) :: slO s1725 5 (enI .u8) [17] :: R) (fun _ => rfl) ?_ fuel (d66, d57.out, d57.last.Char, d57.last.Attr, d57.last.FA, d57.last.High, d57.last.Color, d57.last.f_Set, d57.mode) i57 trivial h)))
                                                clear h
                                                rintro k68 ih68 x68 i68 _ h
                                                rw [read_modified_l68.eq_2] at h
                                                refine l_round ?_
                                                refine c_seq ?_
                                                refine c_seq ?_
                                                refine c_region ?_
                                                refine o1 rfl (o_ld (b := i58.1) (off := 0) (v := (.pointer (some ⟨b0, 0, none⟩))) rfl rm2 rfl rfl ?_)
                                                refine o1 rfl (o_p rfl ?_)
                                                replace h := bsome h
                                                obtain ⟨d69, h69, h⟩ := h
                                                refine o1 rfl (o_call has91 rfl (c_space_Space_At X p0 b0 s0 x68.1 _ h69) (pc rm0 (pc rm2 (pc rm15 pn))) ?_)
                                                refine o1 rfl (o_field (v := (.bool d69.Attr)) rfl rfl rfl ?_)
                                                refine o1 rfl (o_p (v := (.bool (!d69.Attr))) rfl ?_)
                                                refine o_end ?_
                                                refine e_seq ?_
                                                refine c_cond (b := (!d69.Attr)) rfl (fun hb1742 => ?_) (fun hb1742 => ?_)
                                                · replace h := cond_t hb1742 h
                                                  refine c_skip ?_
                                                  refine e_seq ?_
                                                  refine c_seq ?_
                                                  refine c_block ?_
                                                  refine c_seq ?_
                                                  refine c_region ?_
                                                  refine o1 rfl (o_p rfl ?_)
                                                  refine o1 rfl (o_p rfl ?_)
                                                  refine o1 rfl (o_yield' hrc61 ht61 rfl rfl rfl rfl rm19 ?_)
                                                  refine c_region ?_
                                                  refine o1 rfl (o_p rfl ?_)
                                                  refine o_end ?_
                                                  refine e_begin' hrc61 rm0 ?_
                                                  refine c_block ?_
                                                  refine c_draw (n := 2) (q := [(0, 69, (.pointer (some ⟨i2.1, 0, none⟩))), (1, 70, (.pointer (some ⟨b0, 0, none⟩))), (2, 71, (.int .i64 x68.1))]) (pend := [0, 1, 2]) rfl rfl rfl ?_
                                                  replace h := bsome h
                                                  obtain ⟨d74, h74, h⟩ := h
                                                  refine ⟨⟨fun _ => ⟨rfl, rfl, rfl, .inl ⟨rfl, (o_ld (b := b1463) (off := 0) (v := (.pointer (some ⟨i2.1, 0, none⟩))) rfl rm7 rfl rfl ⟨rfl, rfl⟩)⟩⟩, fun _ => ⟨rfl, rfl, rfl, .inl ⟨rfl, (o_ld (b := b1442) (off := 0) (v := (.pointer (some ⟨b0, 0, none⟩))) rfl rm8 rfl rfl ⟨rfl, rfl⟩)⟩⟩, fun _ => ⟨rfl, rfl, rfl, .inl ⟨rfl, (o_p rfl ⟨rfl, rfl⟩)⟩⟩, trivial⟩, rfl, .inr ⟨[3], rfl, rfl, ⟨rfl, .inl rfl, ?_⟩, trivial⟩⟩
                                                  refine (o_call has91 rfl (c_space_Space_At X p0 b0 s0 x68.1 _ h74) (pc rm1 (pc rm1 (pc rm1 pn))) ?_)
                                                  refine ⟨[], [0], rfl, rfl, rfl, rfl, ?_⟩
                                                  replace h := bsome h
                                                  obtain ⟨d75, h75, h⟩ := h
                                                  refine ⟨⟨fun _ => ⟨rfl, rfl, rfl, .inl ⟨rfl, (o_ld (b := b1463) (off := 0) (v := (.pointer (some ⟨i2.1, 0, none⟩))) rfl rm7 rfl rfl ⟨rfl, rfl⟩)⟩⟩, (fun h => nomatch h), (fun h => nomatch h), trivial⟩, rfl, .inr ⟨[4], rfl, rfl, ⟨rfl, .inl rfl, ?_⟩, trivial⟩⟩
                                                  refine (o_call has87 rfl (c_read_sender_some X (⟨x68.2.1, (⟨x68.2.2.1, x68.2.2.2.1, x68.2.2.2.2.1, x68.2.2.2.2.2.1, x68.2.2.2.2.2.2.1, x68.2.2.2.2.2.2.2.1⟩ : Vapi_Cell), x68.2.2.2.2.2.2.2.2⟩ : Vread_sender) i2.1 i68 (⟨d74.Char, d74.Attr, d74.FA, d74.High, d74.Color, d74.f_Set⟩ : Vapi_Cell) _ h75) (pc rm0 (pc rm17 (pc rm17 pn))) (fun i75 => ?_))
                                                  refine ⟨[], [], rfl, rfl, rfl, rfl, ?_⟩
                                                  refine ⟨⟨(fun h => nomatch h), (fun h => nomatch h), (fun h => nomatch h), trivial⟩, rfl, rfl, rfl, ?_⟩
                                                  refine e_blk ?_
                                                  refine e_on' hrc61 rm5 ?_
                                                  refine o1 rfl (o_p (v := (.bool false)) rfl ?_)
                                                  refine o_end ?_
                                                  refine e_seq ?_
                                                  refine c_cond_f rfl rfl ?_
                                                  refine c_skip ?_
                                                  refine e_blk ?_
                                                  refine e_seq ?_
                                                  refine c_region ?_
                                                  refine o1 rfl (o_ld (b := b1733) (off := 0) (v := (.agg (List.toArray [(.int .i64 d62.Rows), (.int .i64 d62.Cols)]))) rfl rm6 rfl rfl ?_)
                                                  refine o1 rfl (o_p rfl ?_)
                                                  refine o1 rfl (o_p (v := (.int .i64 (w64 (x68.1 + 1)))) rfl ?_)
                                                  replace h := bsome h
                                                  obtain ⟨d76, h76, h⟩ := h
                                                  refine o1 rfl (o_call has83 rfl (c_addr_Size_Wrap X (⟨d62.Rows, d62.Cols⟩ : Vaddr_Size) (w64 (x68.1 + 1)) _ h76) (pc rm1 pn) ?_)
                                                  refine o1 rfl (o_p rfl ?_)
                                                  refine o_end ?_
                                                  exact e_loop (l_sub (sc rfl (sc rfl (sc rfl (sc rfl sn)))) (l_keep (kc rm0 (kc rm5 (kc rm5 (kc rm3 (kc rm4 (kc rm4 (kc rm4 (kc rm4 (kc rm4 (kc rm4 (kc rm4 (kc rm4 (kc rm4 (kc rm4 (kc rm4 (kc rm4 (kc rm1 (kc rm2 (kc rm1 (kc rm0 (kc rm0 (kc rm0 (kc rm0 (kc rm0 (kc rm0 (kc rm0 (kc rm0 (kc rm0 (kc rm0 kr))))))))))))))))))))))))))))) (ih68 (d76, d75.out, d75.last.Char, d75.last.Attr, d75.last.FA, d75.last.High, d75.last.Color, d75.last.f_Set, d75.mode) i75 trivial h)))
                                                · replace h := cond_f hb1742 h
                                                  refine c_exit ?_
                                                  refine e_then_exit ?_
                                                  refine e_then_exit ?_
                                                  refine e_blk_exit ?_
                                                  have hd := Option.some.inj h
                                                  subst hd
                                                  exact ej () i68 trivial sn (kc rm0 (kc rm0 (kc rm3 (kc rm3 (kc rm3 (kc rm3 (kc rm3 (kc rm3 (kc rm3 (kc rm3 (kc rm3 (kc rm3 (kc rm3 (kc rm2 (kc rm2 (kc rm2 (kc rm0 (kc rm1 (kc rm1 (kc rm1 (kc rm1 (kc rm1 (kc rm1 (kc rm1 (kc rm1 (kc rm1 (kc rm1 (kc rm1 (kd kr)))))))))))))))))))))))))))))
                                              · rintro _ i67 _
                                                replace h := hk67
                                                clear hk67
                                                refine e_fall ?_
                                                refine r_end (rs := []) (vs := []) rfl rfl ?_
                                                refine ke' hrc61 rm18 (by simp) ?_
                                                have hd := Option.some.inj h
                                                subst hd
                                                exact ej () i67 trivial sn (kc rm0 (kc rm0 (kc rm0 (kc rm0 (kc rm0 (kc rm0 (kc rm0 (kc rm0 (kc rm0 (kc rm0 (kc rm0 (kc rm0 (kc rm0 (kc rm3 (kc rm2 (kc rm2 (kc rm2 (kc rm2 (kc rm2 (kc rm2 (kc rm2 (kc rm2 (kc rm2 (kc rm2 (kd (kd (kd kr)))))))))))))))))))))))))))
                                          · rintro _ i60 _
                                            replace h := hk60
                                            clear hk60
                                            refine e_blk ?_
                                            have hd := Option.some.inj h
                                            subst hd
                                            exact ej () i60 trivial sn (kc rm0 (kc rm0 (kc rm0 (kc rm0 (kc rm0 (kc rm0 (kc rm0 (kc rm0 (kc rm0 (kc rm0 (kc rm0 (kc rm0 (kc rm0 (kc rm0 (kc rm0 (kc rm0 (kc rm0 (kc rm0 (kc rm0 (kc rm0 (kc rm0 (kc rm0 (kc rm0 (kc rm0 kr))))))))))))))))))))))))
                                        · rintro _ i59 _
                                          replace h := hk59
                                          clear hk59
                                          refine e_blk ?_
                                          have hd := Option.some.inj h
                                          subst hd
                                          exact ej () i59 trivial sn (kc rm0 (kc rm0 (kc rm0 (kc rm0 (kc rm0 (kc rm0 (kc rm0 (kc rm0 (kc rm0 (kc rm0 (kc rm0 (kc rm0 (kc rm0 (kc rm0 (kc rm0 (kc rm0 (kc rm0 (kc rm0 (kc rm0 (kc rm0 (kc rm0 (kc rm0 (kc rm0 (kc rm0 kr))))))))))))))))))))))))
                                      · rintro _ i52 _
                                        replace h := hk52
                                        clear hk52
                                        refine e_on' hrc24 rm16 ?_
                                        refine oy rfl rfl rfl hb1724 (o_p (v := (.bool false)) rfl ?_)
                                        refine o1 rfl (o_pick_t rfl hb1724 rfl ?_)
                                        refine o_end ?_
                                        have hd := Option.some.inj h
                                        subst hd
                                        exact ej () i52 trivial (sc rfl sn) (kc rm1 (kc rm1 (kc rm1 (kc rm1 (kc rm1 (kc rm1 (kc rm1 (kc rm1 (kc rm1 (kc rm1 (kc rm1 (kc rm1 (kc rm2 (kc rm2 (kc rm2 (kc rm0 (kc rm1 (kc rm1 (kc rm1 (kc rm1 (kc rm1 (kc rm1 (kc rm1 (kd kr))))))))))))))))))))))))
                                    · replace h := cond_f hb1724 h
                                      refine on rfl rfl rfl hb1724 ?_
                                      refine on rfl rfl rfl hb1724 ?_
                                      refine on rfl rfl rfl hb1724 ?_
                                      refine on rfl rfl rfl hb1724 ?_
                                      refine o1 rfl (o_pick_f rfl hb1724 rfl ?_)
                                      refine o_end ?_
                                      have hd := Option.some.inj h
                                      subst hd
                                      exact ej () i40 trivial (sc rfl sn) (kc rm2 (kc rm2 (kc rm7 (kc rm7 (kc rm7 (kc rm7 (kc rm7 (kc rm7 (kc rm7 (kc rm6 (kc rm6 (kc rm5 (kc rm2 (kc rm4 (kc rm4 (kc rm7 (kc rm0 (kc rm1 (kc rm1 (kc rm1 (kc rm1 (kc rm1 (kc rm1 (kd kr))))))))))))))))))))))))
                                  · rintro _ i51 _
                                    replace h := hk51
                                    clear hk51
                                    refine e_seq ?_
                                    refine c_cond_f rfl rfl ?_
                                    refine c_skip ?_
                                    refine e_blk ?_
                                    refine e_on' hrc28 rm16 ?_
                                    refine ⟨[(8, 15, (.bool false))], [8], rfl, rfl, rfl, rfl, ?_⟩
                                    refine ⟨⟨fun _ => ⟨rfl, rfl, rfl, .inl ⟨rfl, (o_p (v := (.bool false)) rfl ⟨rfl, rfl⟩)⟩⟩, (fun h => nomatch h), (fun h => nomatch h), (fun h => nomatch h), (fun h => nomatch h), (fun h => nomatch h), trivial⟩, rfl, rfl, rfl, ?_⟩
                                    refine e_seq ?_
                                    refine c_cond_f rfl rfl ?_
                                    refine c_skip ?_
                                    refine e_blk ?_
                                    refine e_on' hrc32 rm17 ?_
                                    refine oy rfl rfl rfl hb1721 (o_p (v := (.bool false)) rfl ?_)
                                    refine o1 rfl (o_pick_t rfl hb1721 rfl ?_)
                                    refine o_end ?_
                                    have hd := Option.some.inj h
                                    subst hd
                                    exact ej () i51 trivial (sc rfl sn) (kc rm2 (kc rm2 (kc rm2 (kc rm2 (kc rm2 (kc rm2 (kc rm2 (kc rm2 (kc rm2 (kc rm2 (kc rm2 (kc rm3 (kc rm3 (kc rm3 (kc rm0 (kc rm0 (kc rm1 (kc rm1 (kc rm1 (kc rm1 (kc rm1 (kc rm1 (kd kr)))))))))))))))))))))))
                                · replace h := cond_f hb1721 h
                                  refine on rfl rfl rfl hb1721 ?_
                                  refine on rfl rfl rfl hb1721 ?_
                                  refine on rfl rfl rfl hb1721 ?_
                                  refine on rfl rfl rfl hb1721 ?_
                                  refine o1 rfl (o_pick_f rfl hb1721 rfl ?_)
                                  refine o_end ?_
                                  have hd := Option.some.inj h
                                  subst hd
                                  exact ej () i40 trivial (sc rfl sn) (kc rm2 (kc rm2 (kc rm4 (kc rm4 (kc rm4 (kc rm4 (kc rm4 (kc rm4 (kc rm4 (kc rm3 (kc rm3 (kc rm2 (kc rm2 (kc rm2 (kc rm3 (kc rm4 (kc rm5 (kc rm0 (kc rm1 (kc rm1 (kc rm1 (kc rm1 (kd kr)))))))))))))))))))))))
                              · rintro _ i45 _
                                replace h := hk45
                                clear hk45
                                refine e_seq ?_
                                refine c_cond_f rfl rfl ?_
                                refine c_skip ?_
                                refine e_blk ?_
                                refine e_on' hrc36 rm17 ?_
                                refine o1 rfl (o_p (v := (.bool false)) rfl ?_)
                                refine o_end ?_
                                refine e_seq ?_
                                refine c_cond_f rfl rfl ?_
                                refine c_skip ?_
                                refine e_blk ?_
                                refine e_seq ?_
                                refine c_region ?_
                                refine o1 rfl (o_p (v := (.int .i64 (w64 (x40.1 + 1)))) rfl ?_)
                                refine o1 rfl (o_p rfl ?_)
                                refine o_end ?_
                                exact e_loop (l_sub (sc rfl (sc rfl (sc rfl (sc rfl sn)))) (l_keep (kc rm1 (kc rm9 (kc rm1 (kc rm1 (kc rm1 (kc rm1 (kc rm1 (kc rm1 (kc rm1 (kc rm1 (kc rm1 (kc rm1 (kc rm1 (kc rm1 (kc rm0 (kc rm3 (kc rm0 (kc rm2 (kc rm0 (kc rm1 (kc rm0 (kc rm0 kr)))))))))))))))))))))) (ih40 (w64 (x40.1 + 1), d45.1, d45.2.1, d45.2.2.1, d45.2.2.2.1, d45.2.2.2.2.1, d45.2.2.2.2.2.1, d45.2.2.2.2.2.2.1, d45.2.2.2.2.2.2.2) i45 trivial h)))
                            · replace h := cond_f hb1718 h
                              refine c_exit ?_
                              refine e_then_exit ?_
                              refine e_then_exit ?_
                              refine e_blk_exit ?_
                              have hd := Option.some.inj h
                              subst hd
                              exact ej () i40 trivial sn (kc rm0 (kc rm1 (kc rm1 (kc rm1 (kc rm1 (kc rm1 (kc rm1 (kc rm1 (kc rm1 (kc rm0 (kc rm0 (kc rm0 (kc rm0 (kc rm0 (kc rm0 (kc rm0 (kc rm0 (kc rm0 (kc rm0 (kc rm0 (kc rm0 (kc rm0 kr))))))))))))))))))))))
                          · rintro _ i39 _
                            replace h := hk39
                            clear hk39
                            refine e_fall ?_
                            refine r_end (rs := []) (vs := []) rfl rfl ?_
                            refine ke' hrc36 rm14 (by simp) ?_
                            have hd := Option.some.inj h
                            subst hd
                            exact ejd () (i39, D36) trivial rfl sn (kc rm0 (kc rm0 (kc rm0 (kc rm0 (kc rm0 (kc rm0 (kc rm0 (kc rm0 (kc rm0 (kc rm2 (kc rm2 (kc rm2 (kc rm2 (kc rm2 (kc rm2 (kc rm2 (kc rm2 (kc rm2 (kc rm2 (kd (kd kr)))))))))))))))))))))
                        · rintro _ i35 _
                          replace h := hk35
                          clear hk35
                          refine e_blk ?_
                          have hd := Option.some.inj h
                          subst hd
                          exact ejd () (i35.1, i35.2) trivial rfl sn (kc rm0 (kc rm0 (kc rm0 (kc rm0 (kc rm0 (kc rm0 (kc rm0 (kc rm0 (kc rm0 (kc rm0 (kc rm0 (kc rm0 (kc rm0 (kc rm0 (kc rm0 (kc rm0 (kc rm0 (kc rm0 (kc rm0 kr)))))))))))))))))))
                      · rintro _ i34 _
                        replace h := hk34
                        clear hk34
                        refine e_fall ?_
                        refine r_mark rm12 ?_
                        refine r_end (rs := []) (vs := []) rfl rfl ?_
                        refine ke' hrc32 rm12 (by simp) ?_
                        have hd := Option.some.inj h
                        subst hd
                        exact ejd () (i34.1, D32) trivial rfl sn (kc rm0 (kc rm0 (kc rm0 (kc rm0 (kc rm0 (kc rm0 (kc rm0 (kc rm2 (kc rm2 (kc rm2 (kc rm2 (kc rm2 (kc rm2 (kc rm2 (kc rm2 (kd (kd kr)))))))))))))))))
                    · rintro _ i31 _
                      replace h := hk31
                      clear hk31
                      refine e_blk ?_
                      have hd := Option.some.inj h
                      subst hd
                      exact ejd () (i31.1, i31.2) trivial rfl sn (kc rm0 (kc rm0 (kc rm0 (kc rm0 (kc rm0 (kc rm0 (kc rm0 (kc rm0 (kc rm0 (kc rm0 (kc rm0 (kc rm0 (kc rm0 (kc rm0 (kc rm0 kr)))))))))))))))
                  · rintro _ i30 _
                    replace h := hk30
                    clear hk30
                    refine e_fall ?_
                    refine r_mark rm10 ?_
                    refine r_end (rs := []) (vs := []) rfl rfl ?_
                    refine ke' hrc28 rm10 (by simp) ?_
                    have hd := Option.some.inj h
                    subst hd
                    exact ejd () (i30.1, D28) trivial rfl sn (kc rm0 (kc rm0 (kc rm0 (kc rm0 (kc rm0 (kc rm2 (kc rm2 (kc rm2 (kc rm2 (kc rm2 (kc rm2 (kd (kd kr)))))))))))))
                · rintro _ i27 _
                  replace h := hk27
                  clear hk27
                  refine e_blk ?_
                  have hd := Option.some.inj h
                  subst hd
                  exact ejd () (i27.1, i27.2) trivial rfl sn (kc rm0 (kc rm0 (kc rm0 (kc rm0 (kc rm0 (kc rm0 (kc rm0 (kc rm0 (kc rm0 (kc rm0 (kc rm0 kr)))))))))))
              · rintro _ i26 _
                replace h := hk26
                clear hk26
                refine e_fall ?_
                refine r_mark rm8 ?_
                refine r_end (rs := []) (vs := []) rfl rfl ?_
                refine ke' hrc24 rm8 (by simp) ?_
                have hd := Option.some.inj h
                subst hd
                exact ejd () (i26.1, D24) trivial rfl (sc rfl sn) (kc rm0 (kc rm2 (kc rm0 (kc rm3 (kc rm2 (kc rm2 (kc rm2 (kd (kd kr)))))))))
            · rintro _ i23 _
              replace h := hk23
              clear hk23
              refine e_blk ?_
              have hd := Option.some.inj h
              subst hd
              exact ejd () (i23.1, i23.2) trivial rfl (sc rfl sn) (kc rm0 (kc rm0 (kc rm0 (kc rm0 (kc rm0 (kc rm0 (kc rm0 kr)))))))
          · rintro _ i22 _
            replace h := hk22
            clear hk22
            refine e_seq ?_
            refine c_seq ?_
            refine c_region ?_
            refine o1 rfl (o_ld (b := b1463) (off := 0) (v := (.pointer (some ⟨i2.1, 0, none⟩))) rfl rm1 rfl rfl ?_)
            refine o1 rfl (o_p rfl ?_)
            refine o1 rfl (o_fa (fd := ⟨ "out", 31, 0, false, "", "vitrine/read", 0⟩) rfl rfl rfl rfl rfl ?_)
            refine o1 rfl (o_ld (b := i2.1) (off := 0) (v := (SV.val i22.1)) rfl rm3 rfl rfl ?_)
            refine o1 rfl (o_p rfl ?_)
            refine o1 rfl (o_p rfl ?_)
            refine o_end ?_
            refine e_seq ?_
            refine c_ret ?_
            refine e_ret ?_
            refine r_mark rm6 ?_
            refine r_fz rm5 rm0 (fun X1765 hx1766 hs1767 => ?_)
            refine r_endt rfl rfl (kc rm0 (kc rm1 (kc rm2 (kd (kd kr))))) ?_
            have hr := Option.some.inj h
            subst hr
            exact hk (X1765, i22.1) hs1767 hx1766

theorem c_read_Modified {g : Gw} (X : HP) (p0 : Vspace_Space) (b0 : Nat) (s0 : SV) (p1 : Int) (p2 : Int) (r : Vspace_Space × (List Int) × Int) (h : m_read_Modified p0 p1 p2 = some r) : Tri env g 14 (List.toArray [(.pointer (some ⟨b0, 0, none⟩)), (.int .u8 p1), (.int .i64 p2)]) [X, blk b0 (.cells (List.toArray [(.int .i64 p0.model), (.bool p0.alternate), (.int .i64 p0.size.Rows), (.int .i64 p0.size.Cols), (SV.val s0), (.int .i64 p0.cursor), (.int .i64 p0.attrs)]) 165 (0, 0)), slO s0 48 en_Vapi_Cell p0.cells] (fun K R => ∀ (i0 : HP × SV), (Rd i0.1 i0.2 5 (enI .u8) r.2.1) → (Ext X i0.1) → K (.tuple (List.toArray [(SV.val i0.2), (.int .i64 r.2.2)])) (i0.1 :: blk b0 (.cells (List.toArray [(.int .i64 r.1.model), (.bool r.1.alternate), (.int .i64 r.1.size.Rows), (.int .i64 r.1.size.Cols), (SV.val s0), (.int .i64 r.1.cursor), (.int .i64 r.1.attrs)]) 165 (0, 0)) :: slO s0 48 en_Vapi_Cell r.1.cells :: R)) := by
  refine tri_of (fn := Try.f14) (N := 16) Try.func14 rfl rfl rfl ?_
  intro R K hk
  unfold m_read_Modified at h
  change GC _ none _ [] [(0, (.pointer (some ⟨b0, 0, none⟩))), (1, (.int .u8 p1)), (2, (.int .i64 p2))] (X :: blk b0 (.cells (List.toArray [(.int .i64 p0.model), (.bool p0.alternate), (.int .i64 p0.size.Rows), (.int .i64 p0.size.Cols), (SV.val s0), (.int .i64 p0.cursor), (.int .i64 p0.attrs)]) 165 (0, 0)) :: slO s0 48 en_Vapi_Cell p0.cells :: R) g _ _
  refine c_seq ?_
  refine c_region ?_
  refine o1 rfl (o_p rfl ?_)
  refine o1 rfl (o_p rfl ?_)
  refine o_end ?_
  refine e_seq ?_
  refine c_seq ?_
  refine c_region ?_
  refine o1 rfl (o_p rfl ?_)
  refine o1 rfl (o_p rfl ?_)
  refine o1 rfl (o_p rfl ?_)
  refine o1 rfl (o_p rfl ?_)
  replace h := bsome h
  obtain ⟨d1, h1, h⟩ := h
  refine o1 rfl (o_call has51 rfl (c_keys_Short X p1 _ h1) (pc rm0 pn) ?_)
  replace h := bsome h
  obtain ⟨d2, h2, h⟩ := h
  refine o1 rfl (o_call has50 rfl (c_read_modified X p0 b0 s0 p1 p2 d1 _ h2) (pc rm0 (pc rm0 (pc rm0 pn))) (fun i2 f2_0 f2_1 => ?_))
  refine o1 rfl (o_p rfl ?_)
  refine o1 rfl (o_p rfl ?_)
  refine o1 rfl (o_p rfl ?_)
  refine o1 rfl (o_p rfl ?_)
  refine o_end ?_
  refine e_seq ?_
  refine c_ret ?_
  refine e_ret ?_
  refine r_endt rfl rfl (kc rm0 (kc rm0 (kc rm0 kr))) ?_
  have hr := Option.some.inj h
  subst hr
  exact hk (i2.1, i2.2) f2_0 f2_1

theorem c_vitrineref12_Attrs {g : Gw} (X : HP) (p0 : Vvitrineref12_Space) (b0 : Nat) (s0 : SV) (r : (List Int)) (h : m_vitrineref12_Attrs p0 = some r) : Tri env g 12 (List.toArray [(.pointer (some ⟨b0, 0, none⟩))]) [X, blk b0 (.cells (List.toArray [(.int .i64 p0.Model), (.bool p0.Alt), (.int .i64 p0.Size.Rows), (.int .i64 p0.Size.Cols), (SV.val s0), (.int .i64 p0.Cursor)]) 41 (0, 0)), slO s0 48 en_Vapi_Cell p0.L] (fun K R => ∀ (i0 : SV), K (SV.val i0) (X :: blk b0 (.cells (List.toArray [(.int .i64 p0.Model), (.bool p0.Alt), (.int .i64 p0.Size.Rows), (.int .i64 p0.Size.Cols), (SV.val s0), (.int .i64 p0.Cursor)]) 41 (0, 0)) :: slO s0 48 en_Vapi_Cell p0.L :: slO i0 3 (enI .i64) r :: R)) := by
  refine tri_of (fn := Try.f12) (N := 24) Try.func12 rfl rfl rfl ?_
  intro R K hk
  unfold m_vitrineref12_Attrs at h
  change GC _ none _ [] [(0, (.pointer (some ⟨b0, 0, none⟩)))] (X :: blk b0 (.cells (List.toArray [(.int .i64 p0.Model), (.bool p0.Alt), (.int .i64 p0.Size.Rows), (.int .i64 p0.Size.Cols), (SV.val s0), (.int .i64 p0.Cursor)]) 41 (0, 0)) :: slO s0 48 en_Vapi_Cell p0.L :: R) g _ _
  refine c_seq ?_
  refine c_region ?_
  refine o1 rfl (o_p rfl ?_)
  refine o_end ?_
  refine e_seq ?_
  refine c_seq ?_
  refine c_region ?_
  refine o1 rfl (o_p rfl ?_)
  refine o_end ?_
  refine e_seq ?_
  refine c_seq ?_
  refine c_seq ?_
  refine c_region ?_
  refine o1 rfl (o_p rfl ?_)
  refine o1 rfl (o_p rfl ?_)
  refine o1 rfl (o_fa (fd := ⟨ "L", 39, 4, false, "", "", 32⟩) rfl rfl rfl rfl rfl ?_)
  refine o1 rfl (o_ld (b := b0) (off := 4) (v := (SV.val s0)) rfl rm1 rfl rfl ?_)
  refine o1 rfl (o_len (s := s0) rfl rfl rfl rm2 (rd_own _ _ _ _) ?_)
  refine o1 rfl (o_p rfl ?_)
  refine o_end ?_
  refine e_seq ?_
  replace h := bsome h
  obtain ⟨d1, h, hk1⟩ := h
  refine cj (D := Unit) (ι := SV) (fun _ i1 => True) (fun _ i1 => [(3, (SV.val i1))]) (fun _ i1 => X :: slO i1 3 (enI .i64) d1 :: blk b0 (.cells (List.toArray [(.int .i64 p0.Model), (.bool p0.Alt), (.int .i64 p0.Size.Rows), (.int .i64 p0.Size.Cols), (SV.val s0), (.int .i64 p0.Cursor)]) 41 (0, 0)) :: slO s0 48 en_Vapi_Cell p0.L :: R) ?_ ?_
  · refine c_block ?_
    refine c_add (slO SV.nil 3 (enI .i64) []) (slO_nil _ _ _) ?_
    refine c_loop (l_sub (sc rfl (sc rfl (sc rfl (sc rfl sn)))) (l_keep (kc rm1 (kc rm2 (kc rm0 (kc rm0 kr)))) (lf (X := Int × (List Int)) (ι := SV) (fun k x => vitrineref12_Attrs_l2 p0 k x) _ (fun x2 i2 => True) (fun x2 i2 => [(11, (.int .i64 x2.1)), (10, (.int .i64 (p0.L.length : Int))), (9, (SV.val s0)), (3, (SV.val i2))]) (fun x2 i2 => X :: slO s0 48 en_Vapi_Cell p0.L :: slO i2 3 (enI .i64) x2.2 :: blk b0 (.cells (List.toArray [(.int .i64 p0.Model), (.bool p0.Alt), (.int .i64 p0.Size.Rows), (.int .i64 p0.Size.Cols), (SV.val s0), (.int .i64 p0.Cursor)]) 41 (0, 0)) :: R) (fun _ => rfl) ?_ fuel (0, ([] : List Int)) SV.nil trivial h)))
    clear h
    rintro k2 ih2 x2 i2 _ h
    rw [vitrineref12_Attrs_l2.eq_2] at h
    refine l_round ?_
    refine c_seq ?_
    refine c_region ?_
    refine o1 rfl (o_p (v := (.bool (decide (x2.1 < (p0.L.length : Int))))) rfl ?_)
    refine o_end ?_
    refine e_seq ?_
    refine c_seq ?_
    refine c_cond (b := (decide (x2.1 < (p0.L.length : Int)))) rfl (fun hb1809 => ?_) (fun hb1809 => ?_)
    · replace h := cond_t hb1809 h
      refine c_skip ?_
      refine e_seq ?_
      refine c_seq ?_
      refine c_block ?_
      refine c_seq ?_
      refine c_region ?_
      refine o1 rfl (o_p rfl ?_)
      replace h := gsome h
      obtain ⟨hg1810, h⟩ := h
      refine o1 rfl (o_ix (s := s0) (n := x2.1) (e := en_Vapi_Cell) rfl rfl rfl rfl rfl rfl rm1 (rd_own _ _ _ _) hg1810 ?_)
      refine o1 rfl (o_ldE (s := s0) (e := en_Vapi_Cell) (n := x2.1) (f := 0) (v := (.agg (List.toArray [(.int .u8 ((rd p0.L x2.1).Char)), (.bool ((rd p0.L x2.1).Attr)), (.int .u8 ((rd p0.L x2.1).FA)), (.int .u8 ((rd p0.L x2.1).High)), (.int .u8 ((rd p0.L x2.1).Color)), (.int .u8 ((rd p0.L x2.1).f_Set))]))) rfl rm1 (rd_own _ _ _ _) hg1810 rfl rfl ?_)
      refine o1 rfl (o_alloc (cs := [(.int .u8 0), (.bool false), (.int .u8 0), (.int .u8 0), (.int .u8 0), (.int .u8 0)]) rfl rfl (fun b1811 => ?_))
      refine o1 rfl (o_p rfl ?_)
      refine o0 (o_st (b := b1811) (off := 0) (vs := [(.int .u8 ((rd p0.L x2.1).Char)), (.bool ((rd p0.L x2.1).Attr)), (.int .u8 ((rd p0.L x2.1).FA)), (.int .u8 ((rd p0.L x2.1).High)), (.int .u8 ((rd p0.L x2.1).Color)), (.int .u8 ((rd p0.L x2.1).f_Set))]) (cs' := [(.int .u8 ((rd p0.L x2.1).Char)), (.bool ((rd p0.L x2.1).Attr)), (.int .u8 ((rd p0.L x2.1).FA)), (.int .u8 ((rd p0.L x2.1).High)), (.int .u8 ((rd p0.L x2.1).Color)), (.int .u8 ((rd p0.L x2.1).f_Set))]) rfl rfl rp0 rfl rfl rfl rfl rfl rfl ?_)
      refine o_end ?_
      refine e_seq ?_
      refine c_seq ?_
      refine c_region ?_
      refine o1 rfl (o_fa (fd := ⟨ "Attr", 4, 1, false, "", "", 1⟩) rfl rfl rfl rfl rfl ?_)
      refine o1 rfl (o_ld (b := b1811) (off := 1) (v := (.bool ((rd p0.L x2.1).Attr))) rfl rm0 rfl rfl ?_)
      refine o_end ?_
      refine e_seq ?_
      replace h := bsome h
      obtain ⟨d5, h, hk5⟩ := h
      refine cj (D := Unit) (ι := SV) (fun _ i5 => True) (fun _ i5 => [(3, (SV.val i5)), (11, (.int .i64 x2.1)), (10, (.int .i64 (p0.L.length : Int))), (9, (SV.val s0))]) (fun _ i5 => X :: slO i5 3 (enI .i64) d5 :: slO s0 48 en_Vapi_Cell p0.L :: blk b0 (.cells (List.toArray [(.int .i64 p0.Model), (.bool p0.Alt), (.int .i64 p0.Size.Rows), (.int .i64 p0.Size.Cols), (SV.val s0), (.int .i64 p0.Cursor)]) 41 (0, 0)) :: R) ?_ ?_
      · refine c_cond (b := (rd p0.L x2.1).Attr) rfl (fun hb1813 => ?_) (fun hb1813 => ?_)
        · replace h := cond_t hb1813 h
          refine c_region ?_
          refine o1 rfl (o_p rfl ?_)
          refine o1 rfl (o_p rfl ?_)
          refine o1 rfl (o_bs (e := (enI .i64)) (l := [x2.1]) (zs := [(.int .i64 0)]) rfl rfl rfl rfl rfl rfl rfl rfl rfl rfl (fun s1814 => ?_))
          replace h := gsome h
          obtain ⟨hg1816, h⟩ := h
          refine o1 rfl (o_app (s := i2) (r := s1814) (e := (enI .i64)) (l := x2.2) (l2 := [x2.1]) (zs := [(.int .i64 0)]) rfl rfl rfl rfl rfl rfl rfl rfl rfl rfl rfl rm4 rm0 (rd_own _ _ _ _) hg1816 (fun s1817 => ?_))
          refine o1 rfl (o_p rfl ?_)
          refine o_end ?_
          have hd := Option.some.inj h
          subst hd
          exact ej () s1817 trivial (sc rfl (sc rfl (sc rfl (sc rfl sn)))) (kc rm3 (kc rm0 (kc rm2 (kc rm2 (kd (kd kr))))))
        · replace h := cond_f hb1813 h
          refine c_skip ?_
          have hd := Option.some.inj h
          subst hd
          exact ej () i2 trivial (sc rfl (sc rfl (sc rfl (sc rfl sn)))) (kc rm1 (kc rm2 (kc rm1 (kc rm1 (kd kr)))))
      · rintro _ i5 _
        replace h := hk5
        clear hk5
        refine e_blk ?_
        refine e_seq ?_
        refine c_region ?_
        refine o1 rfl (o_p (v := (.int .i64 (w64 (x2.1 + 1)))) rfl ?_)
        refine o1 rfl (o_p rfl ?_)
        refine o_end ?_
        exact e_loop (l_sub (sc rfl (sc rfl (sc rfl (sc rfl sn)))) (l_keep (kc rm0 (kc rm1 (kc rm0 (kc rm0 kr)))) (ih2 (w64 (x2.1 + 1), d5) i5 trivial h)))
    · replace h := cond_f hb1809 h
      refine c_exit ?_
      refine e_then_exit ?_
      refine e_then_exit ?_
      refine e_blk_exit ?_
      have hd := Option.some.inj h
      subst hd
      exact ej () i2 trivial (sc rfl sn) (kc rm0 (kc rm1 (kc rm1 (kc rm0 kr))))
  · rintro _ i1 _
    replace h := hk1
    clear hk1
    refine e_seq ?_
    refine c_seq ?_
    refine c_region ?_
    refine o1 rfl (o_p rfl ?_)
    refine o1 rfl (o_p rfl ?_)
    refine o_end ?_
    refine e_seq ?_
    refine c_ret ?_
    refine e_ret ?_
    refine r_endt rfl rfl (kc rm0 (kc rm1 (kc rm1 (kc rm0 kr)))) ?_
    have hr := Option.some.inj h
    subst hr
    exact hk i1

theorem c_vitrineref18_Short {g : Gw} (X : HP) (p0 : Int) (r : Bool) (h : m_vitrineref18_Short p0 = some r) : Tri env g 13 (List.toArray [(.int .u8 p0)]) [X] (fun K R => K (.bool r) (X :: R)) := by
  refine tri_of (fn := Try.f13) (N := 17) Try.func13 rfl rfl rfl ?_
  intro R K hk
  unfold m_vitrineref18_Short at h
  change GC _ none _ [] [(0, (.int .u8 p0))] (X :: R) g _ _
  refine c_seq ?_
  refine c_region ?_
  refine o1 rfl (o_p rfl ?_)
  refine o_end ?_
  refine e_seq ?_
  refine c_seq ?_
  replace h := bsome h
  obtain ⟨d1, h, hk1⟩ := h
  refine cj (D := Unit) (ι := Unit) (fun _ i1 => True) (fun _ i1 => [(2, (.bool d1))]) (fun _ i1 => X :: R) ?_ ?_
  · refine c_region ?_
    refine o1 rfl (o_p rfl ?_)
    refine o1 rfl (o_p (v := (.bool (p0 == 108))) rfl ?_)
    refine o1 rfl (o_p rfl ?_)
    rcases bool_or ((p0 == 108)) with hb1826 | hb1826
    · replace h := cond_t hb1826 h
      refine on rfl rfl rfl hb1826 ?_
      refine on rfl rfl rfl hb1826 ?_
      refine o1 rfl (o_pick_t rfl hb1826 rfl ?_)
      refine o1 rfl (o_p rfl ?_)
      refine on rfl rfl rfl rfl ?_
      refine on rfl rfl rfl rfl ?_
      refine o1 rfl (o_pick_t rfl rfl rfl ?_)
      refine o1 rfl (o_p rfl ?_)
      refine on rfl rfl rfl rfl ?_
      refine on rfl rfl rfl rfl ?_
      refine o1 rfl (o_pick_t rfl rfl rfl ?_)
      refine o1 rfl (o_p rfl ?_)
      refine o_end ?_
      have hd := Option.some.inj h
      subst hd
      exact ej () () trivial (sc rfl sn) (kc rm0 kr)
    · replace h := cond_f hb1826 h
      refine oy rfl rfl rfl hb1826 (o_p rfl ?_)
      refine oy rfl rfl rfl hb1826 (o_p (v := (.bool (p0 == 110))) rfl ?_)
      refine o1 rfl (o_pick_f rfl hb1826 rfl ?_)
      refine o1 rfl (o_p rfl ?_)
      rcases bool_or ((p0 == 110)) with hb1827 | hb1827
      · replace h := cond_t hb1827 h
        refine on rfl rfl rfl hb1827 ?_
        refine on rfl rfl rfl hb1827 ?_
        refine o1 rfl (o_pick_t rfl hb1827 rfl ?_)
        refine o1 rfl (o_p rfl ?_)
        refine on rfl rfl rfl rfl ?_
        refine on rfl rfl rfl rfl ?_
        refine o1 rfl (o_pick_t rfl rfl rfl ?_)
        refine o1 rfl (o_p rfl ?_)
        refine o_end ?_
        have hd := Option.some.inj h
        subst hd
        exact ej () () trivial (sc rfl sn) (kc rm0 kr)
      · replace h := cond_f hb1827 h
        refine oy rfl rfl rfl hb1827 (o_p rfl ?_)
        refine oy rfl rfl rfl hb1827 (o_p (v := (.bool (p0 == 107))) rfl ?_)
        refine o1 rfl (o_pick_f rfl hb1827 rfl ?_)
        refine o1 rfl (o_p rfl ?_)
        rcases bool_or ((p0 == 107)) with hb1828 | hb1828
        · replace h := cond_t hb1828 h
          refine on rfl rfl rfl hb1828 ?_
          refine on rfl rfl rfl hb1828 ?_
          refine o1 rfl (o_pick_t rfl hb1828 rfl ?_)
          refine o1 rfl (o_p rfl ?_)
          refine o_end ?_
          have hd := Option.some.inj h
          subst hd
          exact ej () () trivial (sc rfl sn) (kc rm0 kr)
        · replace h := cond_f hb1828 h
          refine oy rfl rfl rfl hb1828 (o_p rfl ?_)
          refine oy rfl rfl rfl hb1828 (o_p (v := (.bool (p0 == 109))) rfl ?_)
          refine o1 rfl (o_pick_f rfl hb1828 rfl ?_)
          refine o1 rfl (o_p rfl ?_)
          refine o_end ?_
          have hd := Option.some.inj h
          subst hd
          exact ej () () trivial (sc rfl sn) (kc rm0 kr)
  · rintro _ i1 _
    replace h := hk1
    clear hk1
    refine e_seq ?_
    refine c_ret ?_
    refine e_ret ?_
    refine r_endt rfl rfl (kc rm0 kr) ?_
    have hr := Option.some.inj h
    subst hr
    exact hk

theorem c_vitrineref05_Diff {g : Gw} (X : HP) (p0 : Vapi_Cell) (p1 : Vapi_Cell) (r : (List Vvitrineref05_Pair)) (h : m_vitrineref05_Diff p0 p1 = some r) : Tri env g 76 (List.toArray [(.agg (List.toArray [(.int .u8 p0.Char), (.bool p0.Attr), (.int .u8 p0.FA), (.int .u8 p0.High), (.int .u8 p0.Color), (.int .u8 p0.f_Set)])), (.agg (List.toArray [(.int .u8 p1.Char), (.bool p1.Attr), (.int .u8 p1.FA), (.int .u8 p1.High), (.int .u8 p1.Color), (.int .u8 p1.f_Set)]))]) [X] (fun K R => ∀ (i0 : SV), K (SV.val i0) (X :: slO i0 160 en_Vvitrineref05_Pair r :: R)) := by
  refine tri_of (fn := Try.f76) (N := 40) Try.func76 rfl rfl rfl ?_
  intro R K hk
  unfold m_vitrineref05_Diff at h
  change GC _ none _ [] [(0, (.agg (List.toArray [(.int .u8 p0.Char), (.bool p0.Attr), (.int .u8 p0.FA), (.int .u8 p0.High), (.int .u8 p0.Color), (.int .u8 p0.f_Set)]))), (1, (.agg (List.toArray [(.int .u8 p1.Char), (.bool p1.Attr), (.int .u8 p1.FA), (.int .u8 p1.High), (.int .u8 p1.Color), (.int .u8 p1.f_Set)])))] (X :: R) g _ _
  refine c_seq ?_
  refine c_region ?_
  refine o1 rfl (o_box (cs := [(.int .u8 p0.Char), (.bool p0.Attr), (.int .u8 p0.FA), (.int .u8 p0.High), (.int .u8 p0.Color), (.int .u8 p0.f_Set)]) rfl rfl (fun b1942 => ?_))
  refine o1 rfl (o_box (cs := [(.int .u8 p1.Char), (.bool p1.Attr), (.int .u8 p1.FA), (.int .u8 p1.High), (.int .u8 p1.Color), (.int .u8 p1.f_Set)]) rfl rfl (fun b1944 => ?_))
  refine o1 rfl (o_p rfl ?_)
  refine o_end ?_
  refine e_seq ?_
  refine c_seq ?_
  refine c_region ?_
  refine o1 rfl (o_p rfl ?_)
  refine o_end ?_
  refine e_seq ?_
  refine c_seq ?_
  refine c_seq ?_
  refine c_region ?_
  refine o1 rfl (o_fa (fd := ⟨ "High", 5, 3, false, "", "", 3⟩) rfl rfl rfl rfl rfl ?_)
  refine o1 rfl (o_ld (b := b1942) (off := 3) (v := (.int .u8 p0.High)) rfl rm1 rfl rfl ?_)
  refine o1 rfl (o_fa (fd := ⟨ "High", 5, 3, false, "", "", 3⟩) rfl rfl rfl rfl rfl ?_)
  refine o1 rfl (o_ld (b := b1944) (off := 3) (v := (.int .u8 p1.High)) rfl rm0 rfl rfl ?_)
  refine o1 rfl (o_p (v := (.bool (p0.High != p1.High))) rfl ?_)
  refine o_end ?_
  refine e_seq ?_
  replace h := bsome h
  obtain ⟨d1, h, hk1⟩ := h
  refine cj (D := Unit) (ι := SV) (fun _ i1 => True) (fun _ i1 => [(5, (SV.val i1)), (3, (.pointer (some ⟨b1944, 0, none⟩))), (2, (.pointer (some ⟨b1942, 0, none⟩)))]) (fun _ i1 => X :: slO i1 160 en_Vvitrineref05_Pair d1 :: blk b1944 (.cells (List.toArray [(.int .u8 p1.Char), (.bool p1.Attr), (.int .u8 p1.FA), (.int .u8 p1.High), (.int .u8 p1.Color), (.int .u8 p1.f_Set)]) 48 (0, 0)) :: blk b1942 (.cells (List.toArray [(.int .u8 p0.Char), (.bool p0.Attr), (.int .u8 p0.FA), (.int .u8 p0.High), (.int .u8 p0.Color), (.int .u8 p0.f_Set)]) 48 (0, 0)) :: R) ?_ ?_
  · refine c_cond (b := (p0.High != p1.High)) rfl (fun hb1946 => ?_) (fun hb1946 => ?_)
    · replace h := cond_t hb1946 h
      refine c_region ?_
      refine o1 rfl (o_p rfl ?_)
      refine o1 rfl (o_fa (fd := ⟨ "High", 5, 3, false, "", "", 3⟩) rfl rfl rfl rfl rfl ?_)
      refine o1 rfl (o_ld (b := b1944) (off := 3) (v := (.int .u8 p1.High)) rfl rm0 rfl rfl ?_)
      refine o1 rfl (o_build (fs := [⟨ "Type", 5, 0, false, "", "", 0⟩, ⟨ "Value", 5, 1, false, "", "", 1⟩]) (ps := [(0, 1), (1, 1)]) (cs := [(.int .u8 65), (.int .u8 p1.High)]) rfl rfl rfl rfl rfl ?_)
      refine o1 rfl (o_bs (e := en_Vvitrineref05_Pair) (l := [(⟨65, p1.High⟩ : Vvitrineref05_Pair)]) (zs := [(.int .u8 0), (.int .u8 0)]) rfl rfl rfl rfl rfl rfl rfl rfl rfl rfl (fun s1947 => ?_))
      refine o_add (slO SV.nil 160 en_Vvitrineref05_Pair []) (slO_nil _ _ _) ?_
      replace h := gsome h
      obtain ⟨hg1950, h⟩ := h
      refine o1 rfl (o_app (s := SV.nil) (r := s1947) (e := en_Vvitrineref05_Pair) (l := ([] : List Vvitrineref05_Pair)) (l2 := [(⟨65, p1.High⟩ : Vvitrineref05_Pair)]) (zs := [(.int .u8 0), (.int .u8 0)]) rfl rfl rfl rfl rfl rfl rfl rfl rfl rfl rfl rm0 rm0 (rd_own _ _ _ _) hg1950 (fun s1951 => ?_))
      refine o1 rfl (o_p rfl ?_)
      refine o_end ?_
      have hd := Option.some.inj h
      subst hd
      exact ej () s1951 trivial (sc rfl (sc rfl (sc rfl sn))) (kc rm4 (kc rm0 (kc rm1 (kc rm1 (kd kr)))))
    · replace h := cond_f hb1946 h
      refine c_skip ?_
      refine e_add (slO SV.nil 160 en_Vvitrineref05_Pair []) (slO_nil _ _ _) ?_
      have hd := Option.some.inj h
      subst hd
      exact ej () SV.nil trivial (sc rfl (sc rfl (sc rfl sn))) (kc rm3 (kc rm0 (kc rm0 (kc rm0 kr))))
  · rintro _ i1 _
    replace h := hk1
    clear hk1
    refine e_seq ?_
    refine c_seq ?_
    refine c_seq ?_
    refine c_region ?_
    refine o1 rfl (o_fa (fd := ⟨ "Color", 5, 4, false, "", "", 4⟩) rfl rfl rfl rfl rfl ?_)
    refine o1 rfl (o_ld (b := b1942) (off := 4) (v := (.int .u8 p0.Color)) rfl rm3 rfl rfl ?_)
    refine o1 rfl (o_fa (fd := ⟨ "Color", 5, 4, false, "", "", 4⟩) rfl rfl rfl rfl rfl ?_)
    refine o1 rfl (o_ld (b := b1944) (off := 4) (v := (.int .u8 p1.Color)) rfl rm2 rfl rfl ?_)
    refine o1 rfl (o_p (v := (.bool (p0.Color != p1.Color))) rfl ?_)
    refine o_end ?_
    refine e_seq ?_
    replace h := bsome h
    obtain ⟨d2, h, hk2⟩ := h
    refine cj (D := Unit) (ι := SV) (fun _ i2 => True) (fun _ i2 => [(5, (SV.val i2)), (3, (.pointer (some ⟨b1944, 0, none⟩))), (2, (.pointer (some ⟨b1942, 0, none⟩)))]) (fun _ i2 => X :: slO i2 160 en_Vvitrineref05_Pair d2 :: blk b1944 (.cells (List.toArray [(.int .u8 p1.Char), (.bool p1.Attr), (.int .u8 p1.FA), (.int .u8 p1.High), (.int .u8 p1.Color), (.int .u8 p1.f_Set)]) 48 (0, 0)) :: blk b1942 (.cells (List.toArray [(.int .u8 p0.Char), (.bool p0.Attr), (.int .u8 p0.FA), (.int .u8 p0.High), (.int .u8 p0.Color), (.int .u8 p0.f_Set)]) 48 (0, 0)) :: R) ?_ ?_
    · refine c_cond (b := (p0.Color != p1.Color)) rfl (fun hb1954 => ?_) (fun hb1954 => ?_)
      · replace h := cond_t hb1954 h
        refine c_region ?_
        refine o1 rfl (o_p rfl ?_)
        refine o1 rfl (o_fa (fd := ⟨ "Color", 5, 4, false, "", "", 4⟩) rfl rfl rfl rfl rfl ?_)
        refine o1 rfl (o_ld (b := b1944) (off := 4) (v := (.int .u8 p1.Color)) rfl rm2 rfl rfl ?_)
        refine o1 rfl (o_build (fs := [⟨ "Type", 5, 0, false, "", "", 0⟩, ⟨ "Value", 5, 1, false, "", "", 1⟩]) (ps := [(0, 1), (1, 1)]) (cs := [(.int .u8 66), (.int .u8 p1.Color)]) rfl rfl rfl rfl rfl ?_)
        refine o1 rfl (o_bs (e := en_Vvitrineref05_Pair) (l := [(⟨66, p1.Color⟩ : Vvitrineref05_Pair)]) (zs := [(.int .u8 0), (.int .u8 0)]) rfl rfl rfl rfl rfl rfl rfl rfl rfl rfl (fun s1955 => ?_))
        replace h := gsome h
        obtain ⟨hg1957, h⟩ := h
        refine o1 rfl (o_app (s := i1) (r := s1955) (e := en_Vvitrineref05_Pair) (l := d1) (l2 := [(⟨66, p1.Color⟩ : Vvitrineref05_Pair)]) (zs := [(.int .u8 0), (.int .u8 0)]) rfl rfl rfl rfl rfl rfl rfl rfl rfl rfl rfl rm2 rm0 (rd_own _ _ _ _) hg1957 (fun s1958 => ?_))
        refine o1 rfl (o_p rfl ?_)
        refine o_end ?_
        have hd := Option.some.inj h
        subst hd
        exact ej () s1958 trivial (sc rfl (sc rfl (sc rfl sn))) (kc rm2 (kc rm0 (kc rm1 (kc rm1 (kd kr)))))
      · replace h := cond_f hb1954 h
        refine c_skip ?_
        have hd := Option.some.inj h
        subst hd
        exact ej () i1 trivial (sc rfl (sc rfl (sc rfl sn))) (kc rm0 (kc rm0 (kc rm0 (kc rm0 kr))))
    · rintro _ i2 _
      replace h := hk2
      clear hk2
      refine e_seq ?_
      refine c_seq ?_
      refine c_seq ?_
      refine c_region ?_
      refine o1 rfl (o_fa (fd := ⟨ "Set", 5, 5, false, "", "", 5⟩) rfl rfl rfl rfl rfl ?_)
      refine o1 rfl (o_ld (b := b1942) (off := 5) (v := (.int .u8 p0.f_Set)) rfl rm3 rfl rfl ?_)
      refine o1 rfl (o_fa (fd := ⟨ "Set", 5, 5, false, "", "", 5⟩) rfl rfl rfl rfl rfl ?_)
      refine o1 rfl (o_ld (b := b1944) (off := 5) (v := (.int .u8 p1.f_Set)) rfl rm2 rfl rfl ?_)
      refine o1 rfl (o_p (v := (.bool (p0.f_Set != p1.f_Set))) rfl ?_)
      refine o_end ?_
      refine e_seq ?_
      replace h := bsome h
      obtain ⟨d3, h, hk3⟩ := h
      refine cj (D := Unit) (ι := SV) (fun _ i3 => True) (fun _ i3 => [(5, (SV.val i3))]) (fun _ i3 => X :: slO i3 160 en_Vvitrineref05_Pair d3 :: R) ?_ ?_
      · refine c_cond (b := (p0.f_Set != p1.f_Set)) rfl (fun hb1961 => ?_) (fun hb1961 => ?_)
        · replace h := cond_t hb1961 h
          refine c_region ?_
          refine o1 rfl (o_p rfl ?_)
          refine o1 rfl (o_fa (fd := ⟨ "Set", 5, 5, false, "", "", 5⟩) rfl rfl rfl rfl rfl ?_)
          refine o1 rfl (o_ld (b := b1944) (off := 5) (v := (.int .u8 p1.f_Set)) rfl rm2 rfl rfl ?_)
          refine o1 rfl (o_build (fs := [⟨ "Type", 5, 0, false, "", "", 0⟩, ⟨ "Value", 5, 1, false, "", "", 1⟩]) (ps := [(0, 1), (1, 1)]) (cs := [(.int .u8 67), (.int .u8 p1.f_Set)]) rfl rfl rfl rfl rfl ?_)
          refine o1 rfl (o_bs (e := en_Vvitrineref05_Pair) (l := [(⟨67, p1.f_Set⟩ : Vvitrineref05_Pair)]) (zs := [(.int .u8 0), (.int .u8 0)]) rfl rfl rfl rfl rfl rfl rfl rfl rfl rfl (fun s1962 => ?_))
          replace h := gsome h
          obtain ⟨hg1964, h⟩ := h
          refine o1 rfl (o_app (s := i2) (r := s1962) (e := en_Vvitrineref05_Pair) (l := d2) (l2 := [(⟨67, p1.f_Set⟩ : Vvitrineref05_Pair)]) (zs := [(.int .u8 0), (.int .u8 0)]) rfl rfl rfl rfl rfl rfl rfl rfl rfl rfl rfl rm2 rm0 (rd_own _ _ _ _) hg1964 (fun s1965 => ?_))
          refine o1 rfl (o_p rfl ?_)
          refine o_end ?_
          have hd := Option.some.inj h
          subst hd
          exact ej () s1965 trivial (sc rfl sn) (kc rm2 (kc rm0 (kd (kd (kd kr)))))
        · replace h := cond_f hb1961 h
          refine c_skip ?_
          have hd := Option.some.inj h
          subst hd
          exact ej () i2 trivial (sc rfl sn) (kc rm0 (kc rm0 (kd (kd kr))))
      · rintro _ i3 _
        replace h := hk3
        clear hk3
        refine e_seq ?_
        refine c_seq ?_
        refine c_region ?_
        refine o1 rfl (o_p rfl ?_)
        refine o1 rfl (o_p rfl ?_)
        refine o_end ?_
        refine e_seq ?_
        refine c_ret ?_
        refine e_ret ?_
        refine r_endt rfl rfl (kc rm0 (kc rm0 kr)) ?_
        have hr := Option.some.inj h
        subst hr
        exact hk i3

theorem c_vitrinelaw20_lay {g : Gw} (X : HP) (p0 : Int) (p1 : List Vvitrineref12_Act) (s0 : SV) (q0r : RdN X s0 94 en_Vvitrineref12_Act D_Vvitrineref12_Act p1) (r : Vspace_Space × Vvitrineref12_Space) (h : m_vitrinelaw20_lay p0 p1 = some r) : Tri env g 40 (List.toArray [(.int .u8 p0), (SV.val s0)]) [X] (fun K R => ∀ (i0 : Nat × SV × Nat × SV), K (.tuple (List.toArray [(.pointer (some ⟨i0.1, 0, none⟩)), (.pointer (some ⟨i0.2.2.1, 0, none⟩))])) (X :: blk i0.1 (.cells (List.toArray [(.int .i64 r.1.model), (.bool r.1.alternate), (.int .i64 r.1.size.Rows), (.int .i64 r.1.size.Cols), (SV.val i0.2.1), (.int .i64 r.1.cursor), (.int .i64 r.1.attrs)]) 165 (0, 0)) :: slO i0.2.1 48 en_Vapi_Cell r.1.cells :: blk i0.2.2.1 (.cells (List.toArray [(.int .i64 r.2.Model), (.bool r.2.Alt), (.int .i64 r.2.Size.Rows), (.int .i64 r.2.Size.Cols), (SV.val i0.2.2.2), (.int .i64 r.2.Cursor)]) 41 (0, 0)) :: slO i0.2.2.2 48 en_Vapi_Cell r.2.L :: R)) := by
  refine tri_of (fn := Try.f40) (N := 70) Try.func40 rfl rfl rfl ?_
  intro R K hk
  obtain ⟨L_q0, q0, n_q0⟩ := q0r
  unfold m_vitrinelaw20_lay at h
  change GC _ none _ [] [(0, (.int .u8 p0)), (1, (SV.val s0))] (X :: R) g _ _
  refine c_seq ?_
  refine c_region ?_
  refine o1 rfl (o_p rfl ?_)
  refine o1 rfl (o_p rfl ?_)
  refine o_end ?_
  refine e_seq ?_
  refine c_seq ?_
  refine c_region ?_
  refine o1 rfl (o_p rfl ?_)
  refine o1 rfl (o_rem (m := p0) (n := 4) rfl rfl (by decide) ?_)
  refine o1 rfl (o_p (v := (.int .i64 (w64 (Int.tmod p0 4)))) rfl ?_)
  refine o1 rfl (o_p (v := (.int .i64 (w64 (2 + (w64 (Int.tmod p0 4)))))) rfl ?_)
  refine o1 rfl (o_p rfl ?_)
  refine o_end ?_
  refine e_seq ?_
  refine c_seq ?_
  refine c_region ?_
  refine o1 rfl (o_p rfl ?_)
  replace h := bsome h
  obtain ⟨d2, h2, h⟩ := h
  rcases d2 with d2 | d2
  · cases h
  · refine o1 rfl (o_call has44 rfl (c_space_New X (w64 (2 + (w64 (Int.tmod p0 4)))) _ h2) (pc rm0 pn) (fun i2 => ?_))
    refine o1 rfl (o_p rfl ?_)
    refine o1 rfl (o_p rfl ?_)
    refine o1 rfl (o_p rfl ?_)
    refine o1 rfl (o_p rfl ?_)
    refine o1 rfl (o_p rfl ?_)
    refine o_end ?_
    refine e_seq ?_
    refine c_seq ?_
    refine c_region ?_
    refine o1 rfl (o_p rfl ?_)
    replace h := bsome h
    obtain ⟨d4, h4, h⟩ := h
    rcases d4 with d4 | d4
    · cases h
    · refine o1 rfl (o_call has45 rfl (c_vitrineref12_New X (w64 (2 + (w64 (Int.tmod p0 4)))) _ h4) (pc rm0 pn) (fun i4 => ?_))
      refine o1 rfl (o_p rfl ?_)
      refine o_end ?_
      refine e_seq ?_
      refine c_seq ?_
      refine c_seq ?_
      refine c_region ?_
      refine o1 rfl (o_p rfl ?_)
      refine o1 rfl (o_lenN (s := s0) rfl rfl rfl rm0 q0 n_q0 ?_)
      refine o1 rfl (o_p rfl ?_)
      refine o_end ?_
      refine e_seq ?_
      replace h := bsome h
      obtain ⟨d5, h, hk5⟩ := h
      refine cj (D := Unit) (ι := SV) (fun _ i5 => True) (fun _ i5 => [(9, (.pointer (some ⟨i4.1, 0, none⟩))), (7, (.pointer (some ⟨i2.1, 0, none⟩)))]) (fun _ i5 => X :: blk i4.1 (.cells (List.toArray [(.int .i64 d5.1), (.bool d5.2.1), (.int .i64 d5.2.2.1), (.int .i64 d5.2.2.2.1), (SV.val i5), (.int .i64 d5.2.2.2.2.2.1)]) 41 (0, 0)) :: blk i2.1 (.cells (List.toArray [(.int .i64 d5.2.2.2.2.2.2.1), (.bool d5.2.2.2.2.2.2.2.1), (.int .i64 d5.2.2.2.2.2.2.2.2.1), (.int .i64 d5.2.2.2.2.2.2.2.2.2.1), (SV.val i2.2), (.int .i64 d5.2.2.2.2.2.2.2.2.2.2.2.1), (.int .i64 d5.2.2.2.2.2.2.2.2.2.2.2.2)]) 165 (0, 0)) :: slO i5 48 en_Vapi_Cell d5.2.2.2.2.1 :: slO i2.2 48 en_Vapi_Cell d5.2.2.2.2.2.2.2.2.2.2.1 :: R) ?_ ?_
      · refine c_block ?_
        refine c_loop (l_sub (sc rfl (sc rfl (sc rfl (sc rfl (sc rfl sn))))) (l_keep (kc rm0 (kc rm0 (kc rm1 (kc rm0 (kc rm0 kr))))) (lf (X := Int × Int × Bool × Int × Int × (List Vapi_Cell) × Int × Int × Bool × Int × Int × (List Vapi_Cell) × Int × Int) (ι := SV) (fun k x => vitrinelaw20_lay_l6 p1 k x) _ (fun x6 i6 => True) (fun x6 i6 => [(27, (.int .i64 x6.1)), (26, (.int .i64 (p1.length : Int))), (25, (SV.val s0)), (9, (.pointer (some ⟨i4.1, 0, none⟩))), (7, (.pointer (some ⟨i2.1, 0, none⟩)))]) (fun x6 i6 => X :: blk i4.1 (.cells (List.toArray [(.int .i64 x6.2.1), (.bool x6.2.2.1), (.int .i64 x6.2.2.2.1), (.int .i64 x6.2.2.2.2.1), (SV.val i6), (.int .i64 x6.2.2.2.2.2.2.1)]) 41 (0, 0)) :: blk i2.1 (.cells (List.toArray [(.int .i64 x6.2.2.2.2.2.2.2.1), (.bool x6.2.2.2.2.2.2.2.2.1), (.int .i64 x6.2.2.2.2.2.2.2.2.2.1), (.int .i64 x6.2.2.2.2.2.2.2.2.2.2.1), (SV.val i2.2), (.int .i64 x6.2.2.2.2.2.2.2.2.2.2.2.2.1), (.int .i64 x6.2.2.2.2.2.2.2.2.2.2.2.2.2)]) 165 (0, 0)) :: slO i6 48 en_Vapi_Cell x6.2.2.2.2.2.1 :: slO i2.2 48 en_Vapi_Cell x6.2.2.2.2.2.2.2.2.2.2.2.1 :: R) (fun _ => rfl) ?_ fuel (0, d4.Model, d4.Alt, d4.Size.Rows, d4.Size.Cols, d4.L, d4.Cursor, d2.1.model, d2.1.alternate, d2.1.size.Rows, d2.1.size.Cols, d2.1.cells, d2.1.cursor, d2.1.attrs) i4.2 trivial h)))
        clear h
        rintro k6 ih6 x6 i6 _ h
        rw [vitrinelaw20_lay_l6.eq_2] at h
        refine l_round ?_
        refine c_seq ?_
        refine c_region ?_
        refine o1 rfl (o_p (v := (.bool (decide (x6.1 < (p1.length : Int))))) rfl ?_)
        refine o_end ?_
        refine e_seq ?_
        refine c_seq ?_
        refine c_cond (b := (decide (x6.1 < (p1.length : Int)))) rfl (fun hb2322 => ?_) (fun hb2322 => ?_)
        · replace h := cond_t hb2322 h
          refine c_skip ?_
          refine e_seq ?_
          refine c_seq ?_
          refine c_block ?_
          refine c_seq ?_
          refine c_region ?_
          refine o1 rfl (o_p rfl ?_)
          replace h := gsome h
          obtain ⟨hg2323, h⟩ := h
          refine o1 rfl (o_ix (s := s0) (n := x6.1) (e := en_Vvitrineref12_Act) rfl rfl rfl rfl rfl rfl rm0 q0 (NL.lt n_q0 hg2323) ?_)
          obtain ⟨sv2324, he_sv2324, hd_sv2324⟩ := NL.rd n_q0 hg2323
          have hr2325 : Rd X sv2324 5 (enI .u8) ((rd p1 x6.1).Text) := hd_sv2324
          refine o1 rfl (o_ldE (s := s0) (e := en_Vvitrineref12_Act) (n := x6.1) (f := 0) (v := (.agg (List.toArray [(.int .u8 ((rd p1 x6.1).Do)), (.int .i64 ((rd p1 x6.1).N)), (.bool ((rd p1 x6.1).On)), (.int .u8 ((rd p1 x6.1).Code)), (.int .u8 (((rd p1 x6.1).C).Char)), (.bool (((rd p1 x6.1).C).Attr)), (.int .u8 (((rd p1 x6.1).C).FA)), (.int .u8 (((rd p1 x6.1).C).High)), (.int .u8 (((rd p1 x6.1).C).Color)), (.int .u8 (((rd p1 x6.1).C).f_Set)), (SV.val sv2324)]))) rfl rm0 q0 (NL.lt n_q0 hg2323) rfl (by rw [he_sv2324]; rfl) ?_)
          refine o1 rfl (o_alloc (cs := [(.int .u8 0), (.int .i64 0), (.bool false), (.int .u8 0), (.int .u8 0), (.bool false), (.int .u8 0), (.int .u8 0), (.int .u8 0), (.int .u8 0), (SV.val SV.nil)]) rfl rfl (fun b2326 => ?_))
          refine o1 rfl (o_p rfl ?_)
          refine o0 (o_st (b := b2326) (off := 0) (vs := [(.int .u8 ((rd p1 x6.1).Do)), (.int .i64 ((rd p1 x6.1).N)), (.bool ((rd p1 x6.1).On)), (.int .u8 ((rd p1 x6.1).Code)), (.int .u8 (((rd p1 x6.1).C).Char)), (.bool (((rd p1 x6.1).C).Attr)), (.int .u8 (((rd p1 x6.1).C).FA)), (.int .u8 (((rd p1 x6.1).C).High)), (.int .u8 (((rd p1 x6.1).C).Color)), (.int .u8 (((rd p1 x6.1).C).f_Set)), (SV.val sv2324)]) (cs' := [(.int .u8 ((rd p1 x6.1).Do)), (.int .i64 ((rd p1 x6.1).N)), (.bool ((rd p1 x6.1).On)), (.int .u8 ((rd p1 x6.1).Code)), (.int .u8 (((rd p1 x6.1).C).Char)), (.bool (((rd p1 x6.1).C).Attr)), (.int .u8 (((rd p1 x6.1).C).FA)), (.int .u8 (((rd p1 x6.1).C).High)), (.int .u8 (((rd p1 x6.1).C).Color)), (.int .u8 (((rd p1 x6.1).C).f_Set)), (SV.val sv2324)]) rfl rfl rp0 rfl rfl rfl rfl rfl rfl ?_)
          refine o_end ?_
          refine e_seq ?_
          refine c_seq ?_
          refine c_region ?_
          refine o1 rfl (o_p rfl ?_)
          refine o1 rfl (o_p (v := (.bool (decide (x6.1 < 30)))) rfl ?_)
          refine o_end ?_
          refine e_seq ?_
          replace h := bsome h
          obtain ⟨d9, h, hk9⟩ := h
          refine cj (D := Unit) (ι := SV) (fun _ i9 => True) (fun _ i9 => [(27, (.int .i64 x6.1)), (26, (.int .i64 (p1.length : Int))), (25, (SV.val s0)), (9, (.pointer (some ⟨i4.1, 0, none⟩))), (7, (.pointer (some ⟨i2.1, 0, none⟩)))]) (fun _ i9 => X :: blk i4.1 (.cells (List.toArray [(.int .i64 d9.1), (.bool d9.2.1), (.int .i64 d9.2.2.1), (.int .i64 d9.2.2.2.1), (SV.val i9), (.int .i64 d9.2.2.2.2.2)]) 41 (0, 0)) :: blk i2.1 (.cells (List.toArray [(.int .i64 x6.2.2.2.2.2.2.2.1), (.bool x6.2.2.2.2.2.2.2.2.1), (.int .i64 x6.2.2.2.2.2.2.2.2.2.1), (.int .i64 x6.2.2.2.2.2.2.2.2.2.2.1), (SV.val i2.2), (.int .i64 x6.2.2.2.2.2.2.2.2.2.2.2.2.1), (.int .i64 x6.2.2.2.2.2.2.2.2.2.2.2.2.2)]) 165 (0, 0)) :: slO i9 48 en_Vapi_Cell d9.2.2.2.2.1 :: slO i2.2 48 en_Vapi_Cell x6.2.2.2.2.2.2.2.2.2.2.2.1 :: R) ?_ ?_
          · refine c_cond (b := (decide (x6.1 < 30))) rfl (fun hb2328 => ?_) (fun hb2328 => ?_)
            · replace h := cond_t hb2328 h
              refine c_region ?_
              refine o1 rfl (o_p rfl ?_)
              refine o1 rfl (o_ld (b := b2326) (off := 0) (v := (.agg (List.toArray [(.int .u8 ((rd p1 x6.1).Do)), (.int .i64 ((rd p1 x6.1).N)), (.bool ((rd p1 x6.1).On)), (.int .u8 ((rd p1 x6.1).Code)), (.int .u8 (((rd p1 x6.1).C).Char)), (.bool (((rd p1 x6.1).C).Attr)), (.int .u8 (((rd p1 x6.1).C).FA)), (.int .u8 (((rd p1 x6.1).C).High)), (.int .u8 (((rd p1 x6.1).C).Color)), (.int .u8 (((rd p1 x6.1).C).f_Set)), (SV.val sv2324)]))) rfl rm0 rfl rfl ?_)
              replace h := bsome h
              obtain ⟨d10, h10, h⟩ := h
              refine o1 rfl (o_call has46 rfl (c_vitrineref12_Do X (⟨x6.2.1, x6.2.2.1, (⟨x6.2.2.2.1, x6.2.2.2.2.1⟩ : Vvitrineref04_Size), x6.2.2.2.2.2.1, x6.2.2.2.2.2.2.1⟩ : Vvitrineref12_Space) i4.1 i6 { (rd p1 x6.1) with C := ((rd p1 x6.1).C) } sv2324 hr2325 _ h10) (pc rm1 (pc rm1 (pc rm2 pn))) (fun i10 => ?_))
              refine o_end ?_
              have hd := Option.some.inj h
              subst hd
              exact ej () i10 trivial (sc rfl (sc rfl (sc rfl (sc rfl (sc rfl sn))))) (kc rm0 (kc rm0 (kc rm2 (kc rm0 (kc rm1 (kd kr))))))
            · replace h := cond_f hb2328 h
              refine c_skip ?_
              have hd := Option.some.inj h
              subst hd
              exact ej () i6 trivial (sc rfl (sc rfl (sc rfl (sc rfl (sc rfl sn))))) (kc rm1 (kc rm1 (kc rm1 (kc rm1 (kc rm1 (kd kr))))))
          · rintro _ i9 _
            replace h := hk9
            clear hk9
            refine e_blk ?_
            refine e_seq ?_
            refine c_region ?_
            refine o1 rfl (o_p (v := (.int .i64 (w64 (x6.1 + 1)))) rfl ?_)
            refine o1 rfl (o_p rfl ?_)
            refine o_end ?_
            exact e_loop (l_sub (sc rfl (sc rfl (sc rfl (sc rfl (sc rfl sn))))) (l_keep (kc rm0 (kc rm0 (kc rm0 (kc rm0 (kc rm0 kr))))) (ih6 (w64 (x6.1 + 1), d9.1, d9.2.1, d9.2.2.1, d9.2.2.2.1, d9.2.2.2.2.1, d9.2.2.2.2.2, x6.2.2.2.2.2.2.2.1, x6.2.2.2.2.2.2.2.2.1, x6.2.2.2.2.2.2.2.2.2.1, x6.2.2.2.2.2.2.2.2.2.2.1, x6.2.2.2.2.2.2.2.2.2.2.2.1, x6.2.2.2.2.2.2.2.2.2.2.2.2.1, x6.2.2.2.2.2.2.2.2.2.2.2.2.2) i9 trivial h)))
        · replace h := cond_f hb2322 h
          refine c_exit ?_
          refine e_then_exit ?_
          refine e_then_exit ?_
          refine e_blk_exit ?_
          have hd := Option.some.inj h
          subst hd
          exact ej () i6 trivial (sc rfl (sc rfl sn)) (kc rm0 (kc rm0 (kc rm0 (kc rm0 (kc rm0 kr)))))
      · rintro _ i5 _
        replace h := hk5
        clear hk5
        refine e_seq ?_
        refine c_seq ?_
        refine c_seq ?_
        refine c_region ?_
        refine o1 rfl (o_p rfl ?_)
        refine o1 rfl (o_p rfl ?_)
        refine o1 rfl (o_fa (fd := ⟨ "Alt", 4, 1, false, "", "", 8⟩) rfl rfl rfl rfl rfl ?_)
        refine o1 rfl (o_ld (b := i4.1) (off := 1) (v := (.bool d5.2.1)) rfl rm1 rfl rfl ?_)
        refine o_end ?_
        refine e_seq ?_
        replace h := bsome h
        obtain ⟨d11, h, hk11⟩ := h
        refine cj (D := Unit) (ι := SV) (fun _ i11 => True) (fun _ i11 => [(9, (.pointer (some ⟨i4.1, 0, none⟩))), (7, (.pointer (some ⟨i2.1, 0, none⟩)))]) (fun _ i11 => X :: blk i4.1 (.cells (List.toArray [(.int .i64 d5.1), (.bool d5.2.1), (.int .i64 d5.2.2.1), (.int .i64 d5.2.2.2.1), (SV.val i5), (.int .i64 d5.2.2.2.2.2.1)]) 41 (0, 0)) :: blk i2.1 (.cells (List.toArray [(.int .i64 d11.1), (.bool d11.2.1), (.int .i64 d11.2.2.1), (.int .i64 d11.2.2.2.1), (SV.val i11), (.int .i64 d11.2.2.2.2.2.1), (.int .i64 d11.2.2.2.2.2.2)]) 165 (0, 0)) :: slO i5 48 en_Vapi_Cell d5.2.2.2.2.1 :: slO i11 48 en_Vapi_Cell d11.2.2.2.2.1 :: R) ?_ ?_
        · refine c_cond (b := d5.2.1) rfl (fun hb2335 => ?_) (fun hb2335 => ?_)
          · replace h := cond_t hb2335 h
            refine c_region ?_
            refine o1 rfl (o_p rfl ?_)
            replace h := bsome h
            obtain ⟨d12, h12, h⟩ := h
            refine o1 rfl (o_call has47 rfl (c_space_Space_Clear_2 X (⟨d5.2.2.2.2.2.2.1, d5.2.2.2.2.2.2.2.1, (⟨d5.2.2.2.2.2.2.2.2.1, d5.2.2.2.2.2.2.2.2.2.1⟩ : Vaddr_Size), d5.2.2.2.2.2.2.2.2.2.2.1, d5.2.2.2.2.2.2.2.2.2.2.2.1, d5.2.2.2.2.2.2.2.2.2.2.2.2⟩ : Vspace_Space) i2.1 i2.2 true _ h12) (pc rm0 (pc rm1 (pc rm2 pn))) (fun i12 => ?_))
            refine o_end ?_
            have hd := Option.some.inj h
            subst hd
            exact ej () i12 trivial (sc rfl (sc rfl sn)) (kc rm0 (kc rm3 (kc rm0 (kc rm2 (kc rm0 (kd kr))))))
          · replace h := cond_f hb2335 h
            refine c_skip ?_
            have hd := Option.some.inj h
            subst hd
            exact ej () i2.2 trivial (sc rfl (sc rfl sn)) (kc rm0 (kc rm0 (kc rm0 (kc rm0 (kc rm0 kr)))))
        · rintro _ i11 _
          replace h := hk11
          clear hk11
          refine e_seq ?_
          refine c_seq ?_
          refine c_seq ?_
          refine c_region ?_
          refine o1 rfl (o_p rfl ?_)
          refine o1 rfl (o_p rfl ?_)
          refine o1 rfl (o_fa (fd := ⟨ "L", 39, 4, false, "", "", 32⟩) rfl rfl rfl rfl rfl ?_)
          refine o1 rfl (o_ld (b := i4.1) (off := 4) (v := (SV.val i5)) rfl rm1 rfl rfl ?_)
          refine o1 rfl (o_len (s := i5) rfl rfl rfl rm3 (rd_own _ _ _ _) ?_)
          refine o1 rfl (o_p rfl ?_)
          refine o_end ?_
          refine e_seq ?_
          replace h := bsome h
          obtain ⟨d13, h, hk13⟩ := h
          refine cj (D := Unit) (ι := Unit) (fun _ i13 => True) (fun _ i13 => [(9, (.pointer (some ⟨i4.1, 0, none⟩))), (7, (.pointer (some ⟨i2.1, 0, none⟩)))]) (fun _ i13 => X :: blk i4.1 (.cells (List.toArray [(.int .i64 d5.1), (.bool d5.2.1), (.int .i64 d5.2.2.1), (.int .i64 d5.2.2.2.1), (SV.val i5), (.int .i64 d5.2.2.2.2.2.1)]) 41 (0, 0)) :: blk i2.1 (.cells (List.toArray [(.int .i64 d13.1), (.bool d13.2.1), (.int .i64 d13.2.2.1), (.int .i64 d13.2.2.2.1), (SV.val i11), (.int .i64 d13.2.2.2.2.2.1), (.int .i64 d13.2.2.2.2.2.2)]) 165 (0, 0)) :: slO i5 48 en_Vapi_Cell d5.2.2.2.2.1 :: slO i11 48 en_Vapi_Cell d13.2.2.2.2.1 :: R) ?_ ?_
          · refine c_block ?_
            refine c_loop (l_sub (sc rfl (sc rfl (sc rfl (sc rfl (sc rfl sn))))) (l_keep (kc rm0 (kc rm2 (kc rm0 (kc rm0 (kc rm0 kr))))) (lf (X := Int × Int × Bool × Int × Int × (List Vapi_Cell) × Int × Int) (ι := Unit) (fun k x => vitrinelaw20_lay_l14 d5 k x) _ (fun x14 i14 => True) (fun x14 i14 => [(49, (.int .i64 x14.1)), (48, (.int .i64 (d5.2.2.2.2.1.length : Int))), (47, (SV.val i5)), (9, (.pointer (some ⟨i4.1, 0, none⟩))), (7, (.pointer (some ⟨i2.1, 0, none⟩)))]) (fun x14 i14 => X :: slO i5 48 en_Vapi_Cell d5.2.2.2.2.1 :: blk i4.1 (.cells (List.toArray [(.int .i64 d5.1), (.bool d5.2.1), (.int .i64 d5.2.2.1), (.int .i64 d5.2.2.2.1), (SV.val i5), (.int .i64 d5.2.2.2.2.2.1)]) 41 (0, 0)) :: blk i2.1 (.cells (List.toArray [(.int .i64 x14.2.1), (.bool x14.2.2.1), (.int .i64 x14.2.2.2.1), (.int .i64 x14.2.2.2.2.1), (SV.val i11), (.int .i64 x14.2.2.2.2.2.2.1), (.int .i64 x14.2.2.2.2.2.2.2)]) 165 (0, 0)) :: slO i11 48 en_Vapi_Cell x14.2.2.2.2.2.1 :: R) (fun _ => rfl) ?_ fuel (0, d11.1, d11.2.1, d11.2.2.1, d11.2.2.2.1, d11.2.2.2.2.1, d11.2.2.2.2.2.1, d11.2.2.2.2.2.2) () trivial h)))
            clear h
            rintro k14 ih14 x14 i14 _ h
            rw [vitrinelaw20_lay_l14.eq_2] at h
            refine l_round ?_
            refine c_seq ?_
            refine c_region ?_
            refine o1 rfl (o_p (v := (.bool (decide (x14.1 < (d5.2.2.2.2.1.length : Int))))) rfl ?_)
            refine o_end ?_
            refine e_seq ?_
            refine c_seq ?_
            refine c_cond (b := (decide (x14.1 < (d5.2.2.2.2.1.length : Int)))) rfl (fun hb2354 => ?_) (fun hb2354 => ?_)
            · replace h := cond_t hb2354 h
              refine c_skip ?_
              refine e_seq ?_
              refine c_seq ?_
              refine c_block ?_
              refine c_seq ?_
              refine c_region ?_
              refine o1 rfl (o_p rfl ?_)
              replace h := gsome h
              obtain ⟨hg2355, h⟩ := h
              refine o1 rfl (o_ix (s := i5) (n := x14.1) (e := en_Vapi_Cell) rfl rfl rfl rfl rfl rfl rm1 (rd_own _ _ _ _) hg2355 ?_)
              refine o1 rfl (o_ldE (s := i5) (e := en_Vapi_Cell) (n := x14.1) (f := 0) (v := (.agg (List.toArray [(.int .u8 ((rd d5.2.2.2.2.1 x14.1).Char)), (.bool ((rd d5.2.2.2.2.1 x14.1).Attr)), (.int .u8 ((rd d5.2.2.2.2.1 x14.1).FA)), (.int .u8 ((rd d5.2.2.2.2.1 x14.1).High)), (.int .u8 ((rd d5.2.2.2.2.1 x14.1).Color)), (.int .u8 ((rd d5.2.2.2.2.1 x14.1).f_Set))]))) rfl rm1 (rd_own _ _ _ _) hg2355 rfl rfl ?_)
              refine o1 rfl (o_alloc (cs := [(.int .u8 0), (.bool false), (.int .u8 0), (.int .u8 0), (.int .u8 0), (.int .u8 0)]) rfl rfl (fun b2356 => ?_))
              refine o1 rfl (o_p rfl ?_)
              refine o0 (o_st (b := b2356) (off := 0) (vs := [(.int .u8 ((rd d5.2.2.2.2.1 x14.1).Char)), (.bool ((rd d5.2.2.2.2.1 x14.1).Attr)), (.int .u8 ((rd d5.2.2.2.2.1 x14.1).FA)), (.int .u8 ((rd d5.2.2.2.2.1 x14.1).High)), (.int .u8 ((rd d5.2.2.2.2.1 x14.1).Color)), (.int .u8 ((rd d5.2.2.2.2.1 x14.1).f_Set))]) (cs' := [(.int .u8 ((rd d5.2.2.2.2.1 x14.1).Char)), (.bool ((rd d5.2.2.2.2.1 x14.1).Attr)), (.int .u8 ((rd d5.2.2.2.2.1 x14.1).FA)), (.int .u8 ((rd d5.2.2.2.2.1 x14.1).High)), (.int .u8 ((rd d5.2.2.2.2.1 x14.1).Color)), (.int .u8 ((rd d5.2.2.2.2.1 x14.1).f_Set))]) rfl rfl rp0 rfl rfl rfl rfl rfl rfl ?_)
              refine o_end ?_
              refine e_seq ?_
              refine c_seq ?_
              refine c_region ?_
              refine o1 rfl (o_ld (b := b2356) (off := 0) (v := (.agg (List.toArray [(.int .u8 ((rd d5.2.2.2.2.1 x14.1).Char)), (.bool ((rd d5.2.2.2.2.1 x14.1).Attr)), (.int .u8 ((rd d5.2.2.2.2.1 x14.1).FA)), (.int .u8 ((rd d5.2.2.2.2.1 x14.1).High)), (.int .u8 ((rd d5.2.2.2.2.1 x14.1).Color)), (.int .u8 ((rd d5.2.2.2.2.1 x14.1).f_Set))]))) rfl rm0 rfl rfl ?_)
              refine o1 rfl (o_build (fs := [⟨ "Char", 5, 0, false, "", "", 0⟩, ⟨ "Attr", 4, 1, false, "", "", 1⟩, ⟨ "FA", 5, 2, false, "", "", 2⟩, ⟨ "High", 5, 3, false, "", "", 3⟩, ⟨ "Color", 5, 4, false, "", "", 4⟩, ⟨ "Set", 5, 5, false, "", "", 5⟩]) (ps := [(0, 1), (1, 1), (2, 1), (3, 1), (4, 1), (5, 1)]) (cs := [(.int .u8 0), (.bool false), (.int .u8 0), (.int .u8 0), (.int .u8 0), (.int .u8 0)]) rfl rfl rfl rfl rfl ?_)
              refine o1 rfl (o_neT (b := ((((rd d5.2.2.2.2.1 x14.1).Char) == 0) && ((((rd d5.2.2.2.2.1 x14.1).Attr) == false) && ((((rd d5.2.2.2.2.1 x14.1).FA) == 0) && ((((rd d5.2.2.2.2.1 x14.1).High) == 0) && ((((rd d5.2.2.2.2.1 x14.1).Color) == 0) && ((((rd d5.2.2.2.2.1 x14.1).f_Set) == 0) && true))))))) (xs := [(.int .u8 ((rd d5.2.2.2.2.1 x14.1).Char)), (.bool ((rd d5.2.2.2.2.1 x14.1).Attr)), (.int .u8 ((rd d5.2.2.2.2.1 x14.1).FA)), (.int .u8 ((rd d5.2.2.2.2.1 x14.1).High)), (.int .u8 ((rd d5.2.2.2.2.1 x14.1).Color)), (.int .u8 ((rd d5.2.2.2.2.1 x14.1).f_Set))]) (ys := [(.int .u8 0), (.bool false), (.int .u8 0), (.int .u8 0), (.int .u8 0), (.int .u8 0)]) rfl rfl (by kernel_rfl) stood rfl ?_)
              refine o_end ?_
              refine e_seq ?_
              replace h := bsome h
              obtain ⟨d17, h, hk17⟩ := h
              refine cj (D := Unit) (ι := Unit) (fun _ i17 => True) (fun _ i17 => [(49, (.int .i64 x14.1)), (48, (.int .i64 (d5.2.2.2.2.1.length : Int))), (47, (SV.val i5)), (9, (.pointer (some ⟨i4.1, 0, none⟩))), (7, (.pointer (some ⟨i2.1, 0, none⟩)))]) (fun _ i17 => X :: slO i5 48 en_Vapi_Cell d5.2.2.2.2.1 :: blk i4.1 (.cells (List.toArray [(.int .i64 d5.1), (.bool d5.2.1), (.int .i64 d5.2.2.1), (.int .i64 d5.2.2.2.1), (SV.val i5), (.int .i64 d5.2.2.2.2.2.1)]) 41 (0, 0)) :: blk i2.1 (.cells (List.toArray [(.int .i64 d17.1), (.bool d17.2.1), (.int .i64 d17.2.2.1), (.int .i64 d17.2.2.2.1), (SV.val i11), (.int .i64 d17.2.2.2.2.2.1), (.int .i64 d17.2.2.2.2.2.2)]) 165 (0, 0)) :: slO i11 48 en_Vapi_Cell d17.2.2.2.2.1 :: R) ?_ ?_
              · refine c_cond (b := (!((((rd d5.2.2.2.2.1 x14.1).Char) == 0) && ((((rd d5.2.2.2.2.1 x14.1).Attr) == false) && ((((rd d5.2.2.2.2.1 x14.1).FA) == 0) && ((((rd d5.2.2.2.2.1 x14.1).High) == 0) && ((((rd d5.2.2.2.2.1 x14.1).Color) == 0) && ((((rd d5.2.2.2.2.1 x14.1).f_Set) == 0) && true)))))))) rfl (fun hb2358 => ?_) (fun hb2358 => ?_)
                · replace h := cond_t hb2358 h
                  refine c_region ?_
                  refine o1 rfl (o_p rfl ?_)
                  refine o1 rfl (o_p rfl ?_)
                  refine o1 rfl (o_ld (b := b2356) (off := 0) (v := (.agg (List.toArray [(.int .u8 ((rd d5.2.2.2.2.1 x14.1).Char)), (.bool ((rd d5.2.2.2.2.1 x14.1).Attr)), (.int .u8 ((rd d5.2.2.2.2.1 x14.1).FA)), (.int .u8 ((rd d5.2.2.2.2.1 x14.1).High)), (.int .u8 ((rd d5.2.2.2.2.1 x14.1).Color)), (.int .u8 ((rd d5.2.2.2.2.1 x14.1).f_Set))]))) rfl rm0 rfl rfl ?_)
                  replace h := bsome h
                  obtain ⟨d18, h18, h⟩ := h
                  refine o1 rfl (o_call has48 rfl (c_space_Space_Set X (⟨x14.2.1, x14.2.2.1, (⟨x14.2.2.2.1, x14.2.2.2.2.1⟩ : Vaddr_Size), x14.2.2.2.2.2.1, x14.2.2.2.2.2.2.1, x14.2.2.2.2.2.2.2⟩ : Vspace_Space) i2.1 i11 x14.1 (rd d5.2.2.2.2.1 x14.1) _ h18) (pc rm1 (pc rm3 (pc rm3 pn))) ?_)
                  refine o_end ?_
                  have hd := Option.some.inj h
                  subst hd
                  exact ej () () trivial (sc rfl (sc rfl (sc rfl (sc rfl (sc rfl sn))))) (kc rm0 (kc rm3 (kc rm3 (kc rm0 (kc rm0 (kd kr))))))
                · replace h := cond_f hb2358 h
                  refine c_skip ?_
                  have hd := Option.some.inj h
                  subst hd
                  exact ej () () trivial (sc rfl (sc rfl (sc rfl (sc rfl (sc rfl sn))))) (kc rm1 (kc rm1 (kc rm1 (kc rm1 (kc rm1 (kd kr))))))
              · rintro _ i17 _
                replace h := hk17
                clear hk17
                refine e_blk ?_
                refine e_seq ?_
                refine c_region ?_
                refine o1 rfl (o_p (v := (.int .i64 (w64 (x14.1 + 1)))) rfl ?_)
                refine o1 rfl (o_p rfl ?_)
                refine o_end ?_
                exact e_loop (l_sub (sc rfl (sc rfl (sc rfl (sc rfl (sc rfl sn))))) (l_keep (kc rm0 (kc rm0 (kc rm0 (kc rm0 (kc rm0 kr))))) (ih14 (w64 (x14.1 + 1), d17.1, d17.2.1, d17.2.2.1, d17.2.2.2.1, d17.2.2.2.2.1, d17.2.2.2.2.2.1, d17.2.2.2.2.2.2) () trivial h)))
            · replace h := cond_f hb2354 h
              refine c_exit ?_
              refine e_then_exit ?_
              refine e_then_exit ?_
              refine e_blk_exit ?_
              have hd := Option.some.inj h
              subst hd
              exact ej () () trivial (sc rfl (sc rfl sn)) (kc rm0 (kc rm1 (kc rm1 (kc rm0 (kc rm0 kr)))))
          · rintro _ i13 _
            replace h := hk13
            clear hk13
            refine e_seq ?_
            refine c_seq ?_
            refine c_region ?_
            refine o1 rfl (o_p rfl ?_)
            refine o1 rfl (o_p rfl ?_)
            refine o1 rfl (o_p rfl ?_)
            refine o1 rfl (o_fa (fd := ⟨ "Cursor", 3, 5, false, "", "", 56⟩) rfl rfl rfl rfl rfl ?_)
            refine o1 rfl (o_ld (b := i4.1) (off := 5) (v := (.int .i64 d5.2.2.2.2.2.1)) rfl rm1 rfl rfl ?_)
            replace h := bsome h
            obtain ⟨d19, h19, h⟩ := h
            refine o1 rfl (o_call has49 rfl (c_space_Space_Place X (⟨d13.1, d13.2.1, (⟨d13.2.2.1, d13.2.2.2.1⟩ : Vaddr_Size), d13.2.2.2.2.1, d13.2.2.2.2.2.1, d13.2.2.2.2.2.2⟩ : Vspace_Space) i2.1 i11 d5.2.2.2.2.2.1 _ h19) (pc rm0 (pc rm1 (pc rm2 pn))) ?_)
            refine o_end ?_
            refine e_seq ?_
            refine c_seq ?_
            refine c_region ?_
            refine o1 rfl (o_p rfl ?_)
            refine o1 rfl (o_p rfl ?_)
            refine o1 rfl (o_p rfl ?_)
            refine o1 rfl (o_p rfl ?_)
            refine o_end ?_
            refine e_seq ?_
            refine c_ret ?_
            refine e_ret ?_
            refine r_endt rfl rfl (kc rm0 (kc rm0 (kc rm0 (kc rm0 (kc rm0 kr))))) ?_
            have hr := Option.some.inj h
            subst hr
            exact hk (i2.1, i11, i4.1, i5)

theorem c_vitrineref05_Right {g : Gw} (X : HP) (p0 : Vvitrineref05_Pair) (r : Bool) (h : m_vitrineref05_Right p0 = some r) : Tri env g 77 (List.toArray [(.agg (List.toArray [(.int .u8 p0.f_Type), (.int .u8 p0.Value)]))]) [X] (fun K R => K (.bool r) (X :: R)) := by
  refine tri_of (fn := Try.f77) (N := 33) Try.func77 rfl rfl rfl ?_
  intro R K hk
  unfold m_vitrineref05_Right at h
  change GC _ none _ [] [(0, (.agg (List.toArray [(.int .u8 p0.f_Type), (.int .u8 p0.Value)])))] (X :: R) g _ _
  refine c_seq ?_
  refine c_region ?_
  refine o1 rfl (o_box (cs := [(.int .u8 p0.f_Type), (.int .u8 p0.Value)]) rfl rfl (fun b2385 => ?_))
  refine o1 rfl (o_p rfl ?_)
  refine o_end ?_
  refine e_seq ?_
  refine c_seq ?_
  refine c_region ?_
  refine o1 rfl (o_p rfl ?_)
  refine o_end ?_
  refine e_seq ?_
  refine c_seq ?_
  refine c_seq ?_
  refine c_region ?_
  refine o1 rfl (o_fa (fd := ⟨ "Type", 5, 0, false, "", "", 0⟩) rfl rfl rfl rfl rfl ?_)
  refine o1 rfl (o_ld (b := b2385) (off := 0) (v := (.int .u8 p0.f_Type)) rfl rm0 rfl rfl ?_)
  refine o_end ?_
  refine e_seq ?_
  refine c_block ?_
  refine c_seq ?_
  refine c_region ?_
  refine o1 rfl (o_p (v := (.bool (p0.f_Type == 0))) rfl ?_)
  refine o1 rfl (o_p rfl ?_)
  refine o_end ?_
  refine e_seq ?_
  replace h := jn_some h
  obtain ⟨y2, h, hk2⟩ := h
  refine cj (D := (List Int)) (ι := SV) (fun d2 i2 => y2 = Sum.inl d2) (fun d2 i2 => [(3, (SV.val i2)), (1, (.pointer (some ⟨b2385, 0, none⟩)))]) (fun d2 i2 => X :: slO i2 5 (enI .u8) d2 :: blk b2385 (.cells (List.toArray [(.int .u8 p0.f_Type), (.int .u8 p0.Value)]) 160 (0, 0)) :: R) ?_ ?_
  · refine c_cond (b := (p0.f_Type == 0)) rfl (fun hb2387 => ?_) (fun hb2387 => ?_)
    · replace h := cond_t hb2387 h
      refine c_region ?_
      refine o1 rfl (o_bs (e := (enI .u8)) (l := [0]) (zs := [(.int .u8 0)]) rfl rfl rfl rfl rfl rfl rfl rfl rfl rfl (fun s2388 => ?_))
      refine o1 rfl (o_p rfl ?_)
      refine o_end ?_
      have hd := Option.some.inj h
      subst hd
      exact ej [0] s2388 rfl (sc rfl (sc rfl sn)) (kc rm2 (kc rm0 (kc rm0 kr)))
    · replace h := cond_f hb2387 h
      refine c_seq ?_
      refine c_region ?_
      refine o1 rfl (o_p (v := (.bool (p0.f_Type == 192))) rfl ?_)
      refine o1 rfl (o_p rfl ?_)
      refine o_end ?_
      refine e_seq ?_
      refine c_cond (b := (p0.f_Type == 192)) rfl (fun hb2390 => ?_) (fun hb2390 => ?_)
      · replace h := cond_t hb2390 h
        refine c_seq ?_
        refine c_region ?_
        refine o1 rfl (o_p rfl ?_)
        refine o_end ?_
        refine e_seq ?_
        refine c_ret ?_
        refine ej_ret ?_
        replace h := esc_some h
        obtain ⟨z2, h, rfl⟩ := h
        obtain rfl := (hk2 : z2 = _)
        refine e_blk_ret ?_
        refine e_then_ret ?_
        refine e_ret ?_
        refine r_endt rfl rfl (kc rm1 (kd kr)) ?_
        have hr := Option.some.inj h
        subst hr
        exact hk
      · replace h := cond_f hb2390 h
        refine c_seq ?_
        refine c_region ?_
        refine o1 rfl (o_p (v := (.bool (p0.f_Type == 65))) rfl ?_)
        refine o1 rfl (o_p rfl ?_)
        refine o_end ?_
        refine e_seq ?_
        refine c_cond (b := (p0.f_Type == 65)) rfl (fun hb2391 => ?_) (fun hb2391 => ?_)
        · replace h := cond_t hb2391 h
          refine c_region ?_
          refine o1 rfl (o_bs (e := (enI .u8)) (l := [0, 240, 241, 242, 244, 248]) (zs := [(.int .u8 0)]) rfl rfl rfl rfl rfl rfl rfl rfl rfl rfl (fun s2392 => ?_))
          refine o1 rfl (o_p rfl ?_)
          refine o_end ?_
          have hd := Option.some.inj h
          subst hd
          exact ej [0, 240, 241, 242, 244, 248] s2392 rfl (sc rfl (sc rfl sn)) (kc rm2 (kc rm0 (kc rm0 kr)))
        · replace h := cond_f hb2391 h
          refine c_seq ?_
          refine c_region ?_
          refine o1 rfl (o_p (v := (.bool (p0.f_Type == 66))) rfl ?_)
          refine o1 rfl (o_p rfl ?_)
          refine o_end ?_
          refine e_seq ?_
          refine c_cond (b := (p0.f_Type == 66)) rfl (fun hb2394 => ?_) (fun hb2394 => ?_)
          · replace h := cond_t hb2394 h
            refine c_region ?_
            refine o1 rfl (o_bs (e := (enI .u8)) (l := [0, 241, 242, 243, 244, 245, 246, 247]) (zs := [(.int .u8 0)]) rfl rfl rfl rfl rfl rfl rfl rfl rfl rfl (fun s2395 => ?_))
            refine o1 rfl (o_p rfl ?_)
            refine o_end ?_
            have hd := Option.some.inj h
            subst hd
            exact ej [0, 241, 242, 243, 244, 245, 246, 247] s2395 rfl (sc rfl (sc rfl sn)) (kc rm2 (kc rm0 (kc rm0 kr)))
          · replace h := cond_f hb2394 h
            refine c_seq ?_
            refine c_region ?_
            refine o1 rfl (o_p (v := (.bool (p0.f_Type == 67))) rfl ?_)
            refine o1 rfl (o_p rfl ?_)
            refine o_end ?_
            refine e_seq ?_
            refine c_cond (b := (p0.f_Type == 67)) rfl (fun hb2397 => ?_) (fun hb2397 => ?_)
            · replace h := cond_t hb2397 h
              refine c_region ?_
              refine o1 rfl (o_bs (e := (enI .u8)) (l := [0, 241]) (zs := [(.int .u8 0)]) rfl rfl rfl rfl rfl rfl rfl rfl rfl rfl (fun s2398 => ?_))
              refine o1 rfl (o_p rfl ?_)
              refine o_end ?_
              have hd := Option.some.inj h
              subst hd
              exact ej [0, 241] s2398 rfl (sc rfl (sc rfl sn)) (kc rm2 (kc rm0 (kc rm0 kr)))
            · replace h := cond_f hb2397 h
              refine c_skip ?_
              refine e_add (slO SV.nil 5 (enI .u8) []) (slO_nil _ _ _) ?_
              have hd := Option.some.inj h
              subst hd
              exact ej ([] : List Int) SV.nil rfl (sc rfl (sc rfl sn)) (kc rm2 (kc rm0 (kc rm0 kr)))
  · rintro d2 i2 rfl
    replace h := JK_inl hk2
    clear hk2
    refine e_blk ?_
    refine e_seq ?_
    refine c_seq ?_
    refine c_seq ?_
    refine c_region ?_
    refine o1 rfl (o_p rfl ?_)
    refine o1 rfl (o_len (s := i2) rfl rfl rfl rm1 (rd_own _ _ _ _) ?_)
    refine o1 rfl (o_p rfl ?_)
    refine o_end ?_
    refine e_seq ?_
    replace h := jn_some h
    obtain ⟨y3, h, hk3⟩ := h
    refine cj (D := Unit) (ι := Unit) (fun d3 i3 => y3 = Sum.inl d3) (fun d3 i3 => []) (fun d3 i3 => X :: R) ?_ ?_
    · refine c_block ?_
      refine c_loop (l_sub (sc rfl (sc rfl (sc rfl (sc rfl sn)))) (l_keep (kc rm0 (kc rm0 (kc rm0 kr))) (lf (X := Int) (ι := Unit) (fun k x => vitrineref05_Right_l4 p0 d2 k x) _ (fun x4 i4 => True) (fun x4 i4 => [(24, (.int .i64 x4)), (23, (.int .i64 (d2.length : Int))), (22, (SV.val i2)), (1, (.pointer (some ⟨b2385, 0, none⟩)))]) (fun x4 i4 => X :: slO i2 5 (enI .u8) d2 :: blk b2385 (.cells (List.toArray [(.int .u8 p0.f_Type), (.int .u8 p0.Value)]) 160 (0, 0)) :: R) (fun _ => rfl) ?_ fuel 0 () trivial h)))
      clear h
      rintro k4 ih4 x4 i4 _ h
      rw [vitrineref05_Right_l4.eq_2] at h
      refine l_round ?_
      refine c_seq ?_
      refine c_region ?_
      refine o1 rfl (o_p (v := (.bool (decide (x4 < (d2.length : Int))))) rfl ?_)
      refine o_end ?_
      refine e_seq ?_
      refine c_seq ?_
      refine c_cond (b := (decide (x4 < (d2.length : Int)))) rfl (fun hb2408 => ?_) (fun hb2408 => ?_)
      · replace h := cond_t hb2408 h
        refine c_skip ?_
        refine e_seq ?_
        refine c_seq ?_
        refine c_block ?_
        refine c_seq ?_
        refine c_region ?_
        replace h := gsome h
        obtain ⟨hg2409, h⟩ := h
        refine o1 rfl (o_ix (s := i2) (n := x4) (e := (enI .u8)) rfl rfl rfl rfl rfl rfl rm1 (rd_own _ _ _ _) hg2409 ?_)
        refine o1 rfl (o_ldE (s := i2) (e := (enI .u8)) (n := x4) (f := 0) (v := (.int .u8 (rd d2 x4))) rfl rm1 (rd_own _ _ _ _) hg2409 rfl rfl ?_)
        refine o1 rfl (o_p rfl ?_)
        refine o_end ?_
        refine e_seq ?_
        refine c_seq ?_
        refine c_region ?_
        refine o1 rfl (o_p rfl ?_)
        refine o1 rfl (o_fa (fd := ⟨ "Value", 5, 1, false, "", "", 1⟩) rfl rfl rfl rfl rfl ?_)
        refine o1 rfl (o_ld (b := b2385) (off := 1) (v := (.int .u8 p0.Value)) rfl rm2 rfl rfl ?_)
        refine o1 rfl (o_p (v := (.bool ((rd d2 x4) == p0.Value))) rfl ?_)
        refine o_end ?_
        refine e_seq ?_
        refine c_cond (b := ((rd d2 x4) == p0.Value)) rfl (fun hb2410 => ?_) (fun hb2410 => ?_)
        · replace h := cond_t hb2410 h
          refine c_seq ?_
          refine c_region ?_
          refine o1 rfl (o_p rfl ?_)
          refine o_end ?_
          refine e_seq ?_
          refine c_ret ?_
          refine e_blk_ret ?_
          refine e_then_ret ?_
          refine e_then_ret ?_
          refine e_blk_ret ?_
          refine ej_ret ?_
          replace h := esc_some h
          obtain ⟨z3, h, rfl⟩ := h
          obtain rfl := (hk3 : z3 = _)
          refine e_then_ret ?_
          refine e_ret ?_
          refine r_endt rfl rfl (kc rm0 (kd (kd kr))) ?_
          have hr := Option.some.inj h
          subst hr
          exact hk
        · replace h := cond_f hb2410 h
          refine c_skip ?_
          refine e_blk ?_
          refine e_seq ?_
          refine c_region ?_
          refine o1 rfl (o_p (v := (.int .i64 (w64 (x4 + 1)))) rfl ?_)
          refine o1 rfl (o_p rfl ?_)
          refine o_end ?_
          exact e_loop (l_sub (sc rfl (sc rfl (sc rfl (sc rfl sn)))) (l_keep (kc rm0 (kc rm0 (kc rm0 kr))) (ih4 (w64 (x4 + 1)) () trivial h)))
      · replace h := cond_f hb2408 h
        refine c_exit ?_
        refine e_then_exit ?_
        refine e_then_exit ?_
        refine e_blk_exit ?_
        have hd := Option.some.inj h
        subst hd
        exact ej () () rfl sn (kc rm0 (kd (kd kr)))
    · rintro d3 i3 rfl
      replace h := JK_inl hk3
      clear hk3
      refine e_seq ?_
      refine c_seq ?_
      refine c_region ?_
      refine o1 rfl (o_p rfl ?_)
      refine o_end ?_
      refine e_seq ?_
      refine c_ret ?_
      refine e_ret ?_
      refine r_endt rfl rfl (kc rm0 kr) ?_
      have hr := Option.some.inj h
      subst hr
      exact hk

theorem c_vitrinelaw20_looks {g : Gw} (X : HP) (p0 : Vvitrineref12_Space) (b0 : Nat) (s0 : SV) (r : Bool) (h : m_vitrinelaw20_looks p0 = some r) : Tri env g 41 (List.toArray [(.pointer (some ⟨b0, 0, none⟩))]) [X, blk b0 (.cells (List.toArray [(.int .i64 p0.Model), (.bool p0.Alt), (.int .i64 p0.Size.Rows), (.int .i64 p0.Size.Cols), (SV.val s0), (.int .i64 p0.Cursor)]) 41 (0, 0)), slO s0 48 en_Vapi_Cell p0.L] (fun K R => K (.bool r) (X :: blk b0 (.cells (List.toArray [(.int .i64 p0.Model), (.bool p0.Alt), (.int .i64 p0.Size.Rows), (.int .i64 p0.Size.Cols), (SV.val s0), (.int .i64 p0.Cursor)]) 41 (0, 0)) :: slO s0 48 en_Vapi_Cell p0.L :: R)) := by
  refine tri_of (fn := Try.f41) (N := 29) Try.func41 rfl rfl rfl ?_
  intro R K hk
  unfold m_vitrinelaw20_looks at h
  change GC _ none _ [] [(0, (.pointer (some ⟨b0, 0, none⟩)))] (X :: blk b0 (.cells (List.toArray [(.int .i64 p0.Model), (.bool p0.Alt), (.int .i64 p0.Size.Rows), (.int .i64 p0.Size.Cols), (SV.val s0), (.int .i64 p0.Cursor)]) 41 (0, 0)) :: slO s0 48 en_Vapi_Cell p0.L :: R) g _ _
  refine c_seq ?_
  refine c_region ?_
  refine o1 rfl (o_p rfl ?_)
  refine o_end ?_
  refine e_seq ?_
  refine c_seq ?_
  refine c_seq ?_
  refine c_region ?_
  refine o1 rfl (o_p rfl ?_)
  refine o1 rfl (o_p rfl ?_)
  refine o1 rfl (o_fa (fd := ⟨ "L", 39, 4, false, "", "", 32⟩) rfl rfl rfl rfl rfl ?_)
  refine o1 rfl (o_ld (b := b0) (off := 4) (v := (SV.val s0)) rfl rm1 rfl rfl ?_)
  refine o1 rfl (o_len (s := s0) rfl rfl rfl rm2 (rd_own _ _ _ _) ?_)
  refine o1 rfl (o_p rfl ?_)
  refine o_end ?_
  refine e_seq ?_
  replace h := jn_some h
  obtain ⟨y1, h, hk1⟩ := h
  refine cj (D := Unit) (ι := Unit) (fun d1 i1 => y1 = Sum.inl d1) (fun d1 i1 => []) (fun d1 i1 => X :: blk b0 (.cells (List.toArray [(.int .i64 p0.Model), (.bool p0.Alt), (.int .i64 p0.Size.Rows), (.int .i64 p0.Size.Cols), (SV.val s0), (.int .i64 p0.Cursor)]) 41 (0, 0)) :: slO s0 48 en_Vapi_Cell p0.L :: R) ?_ ?_
  · refine c_block ?_
    refine c_loop (l_sub (sc rfl (sc rfl (sc rfl sn))) (l_keep (kc rm0 (kc rm1 (kc rm0 kr))) (lf (X := Int) (ι := Unit) (fun k x => vitrinelaw20_looks_l2 p0 k x) _ (fun x2 i2 => True) (fun x2 i2 => [(12, (.int .i64 x2)), (11, (.int .i64 (p0.L.length : Int))), (10, (SV.val s0))]) (fun x2 i2 => X :: slO s0 48 en_Vapi_Cell p0.L :: blk b0 (.cells (List.toArray [(.int .i64 p0.Model), (.bool p0.Alt), (.int .i64 p0.Size.Rows), (.int .i64 p0.Size.Cols), (SV.val s0), (.int .i64 p0.Cursor)]) 41 (0, 0)) :: R) (fun _ => rfl) ?_ fuel 0 () trivial h)))
    clear h
    rintro k2 ih2 x2 i2 _ h
    rw [vitrinelaw20_looks_l2.eq_2] at h
    refine l_round ?_
    refine c_seq ?_
    refine c_region ?_
    refine o1 rfl (o_p (v := (.bool (decide (x2 < (p0.L.length : Int))))) rfl ?_)
    refine o_end ?_
    refine e_seq ?_
    refine c_seq ?_
    refine c_cond (b := (decide (x2 < (p0.L.length : Int)))) rfl (fun hb2442 => ?_) (fun hb2442 => ?_)
    · replace h := cond_t hb2442 h
      refine c_skip ?_
      refine e_seq ?_
      refine c_seq ?_
      replace h := jn_some h
      obtain ⟨y4, h, hk4⟩ := h
      refine cj (D := Unit) (ι := Unit) (fun d4 i4 => y4 = Sum.inl d4) (fun d4 i4 => [(12, (.int .i64 x2)), (11, (.int .i64 (p0.L.length : Int))), (10, (SV.val s0))]) (fun d4 i4 => X :: slO s0 48 en_Vapi_Cell p0.L :: blk b0 (.cells (List.toArray [(.int .i64 p0.Model), (.bool p0.Alt), (.int .i64 p0.Size.Rows), (.int .i64 p0.Size.Cols), (SV.val s0), (.int .i64 p0.Cursor)]) 41 (0, 0)) :: R) ?_ ?_
      · refine c_block ?_
        refine c_seq ?_
        refine c_region ?_
        replace h := gsome h
        obtain ⟨hg2443, h⟩ := h
        refine o1 rfl (o_ix (s := s0) (n := x2) (e := en_Vapi_Cell) rfl rfl rfl rfl rfl rfl rm1 (rd_own _ _ _ _) hg2443 ?_)
        refine o1 rfl (o_ldE (s := s0) (e := en_Vapi_Cell) (n := x2) (f := 0) (v := (.agg (List.toArray [(.int .u8 ((rd p0.L x2).Char)), (.bool ((rd p0.L x2).Attr)), (.int .u8 ((rd p0.L x2).FA)), (.int .u8 ((rd p0.L x2).High)), (.int .u8 ((rd p0.L x2).Color)), (.int .u8 ((rd p0.L x2).f_Set))]))) rfl rm1 (rd_own _ _ _ _) hg2443 rfl rfl ?_)
        refine o1 rfl (o_alloc (cs := [(.int .u8 0), (.bool false), (.int .u8 0), (.int .u8 0), (.int .u8 0), (.int .u8 0)]) rfl rfl (fun b2444 => ?_))
        refine o0 (o_st (b := b2444) (off := 0) (vs := [(.int .u8 ((rd p0.L x2).Char)), (.bool ((rd p0.L x2).Attr)), (.int .u8 ((rd p0.L x2).FA)), (.int .u8 ((rd p0.L x2).High)), (.int .u8 ((rd p0.L x2).Color)), (.int .u8 ((rd p0.L x2).f_Set))]) (cs' := [(.int .u8 ((rd p0.L x2).Char)), (.bool ((rd p0.L x2).Attr)), (.int .u8 ((rd p0.L x2).FA)), (.int .u8 ((rd p0.L x2).High)), (.int .u8 ((rd p0.L x2).Color)), (.int .u8 ((rd p0.L x2).f_Set))]) rfl rfl rp0 rfl rfl rfl rfl rfl rfl ?_)
        refine o_end ?_
        refine e_seq ?_
        refine c_seq ?_
        refine c_region ?_
        refine o1 rfl (o_build (fs := [⟨ "Char", 5, 0, false, "", "", 0⟩, ⟨ "Attr", 4, 1, false, "", "", 1⟩, ⟨ "FA", 5, 2, false, "", "", 2⟩, ⟨ "High", 5, 3, false, "", "", 3⟩, ⟨ "Color", 5, 4, false, "", "", 4⟩, ⟨ "Set", 5, 5, false, "", "", 5⟩]) (ps := [(0, 1), (1, 1), (2, 1), (3, 1), (4, 1), (5, 1)]) (cs := [(.int .u8 0), (.bool false), (.int .u8 0), (.int .u8 0), (.int .u8 0), (.int .u8 0)]) rfl rfl rfl rfl rfl ?_)
        refine o1 rfl (o_ld (b := b2444) (off := 0) (v := (.agg (List.toArray [(.int .u8 ((rd p0.L x2).Char)), (.bool ((rd p0.L x2).Attr)), (.int .u8 ((rd p0.L x2).FA)), (.int .u8 ((rd p0.L x2).High)), (.int .u8 ((rd p0.L x2).Color)), (.int .u8 ((rd p0.L x2).f_Set))]))) rfl rm0 rfl rfl ?_)
        replace h := bsome h
        obtain ⟨d5, h5, h⟩ := h
        refine o1 rfl (o_call has76 rfl (c_vitrineref05_Diff X (⟨0, false, 0, 0, 0, 0⟩ : Vapi_Cell) (rd p0.L x2) _ h5) (pc rm1 pn) (fun i5 => ?_))
        refine o1 rfl (o_len (s := i5) rfl rfl rfl rm1 (rd_own _ _ _ _) ?_)
        refine o1 rfl (o_p rfl ?_)
        refine o_end ?_
        refine e_seq ?_
        replace h := jn_some h
        obtain ⟨y6, h, hk6⟩ := h
        refine cj (D := Unit) (ι := Unit) (fun d6 i6 => y6 = Sum.inl d6) (fun d6 i6 => [(12, (.int .i64 x2)), (11, (.int .i64 (p0.L.length : Int))), (10, (SV.val s0))]) (fun d6 i6 => X :: slO s0 48 en_Vapi_Cell p0.L :: blk b0 (.cells (List.toArray [(.int .i64 p0.Model), (.bool p0.Alt), (.int .i64 p0.Size.Rows), (.int .i64 p0.Size.Cols), (SV.val s0), (.int .i64 p0.Cursor)]) 41 (0, 0)) :: R) ?_ ?_
        · refine c_block ?_
          refine c_loop (l_sub (sc rfl (sc rfl (sc rfl (sc rfl (sc rfl (sc rfl sn)))))) (l_keep (kc rm0 (kc rm0 (kc rm1 (kc rm1 (kd kr))))) (lf (X := Int) (ι := Unit) (fun k x => vitrinelaw20_looks_l7 d5 k x) _ (fun x7 i7 => True) (fun x7 i7 => [(20, (.int .i64 x7)), (19, (.int .i64 (d5.length : Int))), (18, (SV.val i5)), (12, (.int .i64 x2)), (11, (.int .i64 (p0.L.length : Int))), (10, (SV.val s0))]) (fun x7 i7 => X :: slO i5 160 en_Vvitrineref05_Pair d5 :: slO s0 48 en_Vapi_Cell p0.L :: blk b0 (.cells (List.toArray [(.int .i64 p0.Model), (.bool p0.Alt), (.int .i64 p0.Size.Rows), (.int .i64 p0.Size.Cols), (SV.val s0), (.int .i64 p0.Cursor)]) 41 (0, 0)) :: R) (fun _ => rfl) ?_ fuel 0 () trivial h)))
          clear h
          rintro k7 ih7 x7 i7 _ h
          rw [vitrinelaw20_looks_l7.eq_2] at h
          refine l_round ?_
          refine c_seq ?_
          refine c_region ?_
          refine o1 rfl (o_p (v := (.bool (decide (x7 < (d5.length : Int))))) rfl ?_)
          refine o_end ?_
          refine e_seq ?_
          refine c_seq ?_
          refine c_cond (b := (decide (x7 < (d5.length : Int)))) rfl (fun hb2457 => ?_) (fun hb2457 => ?_)
          · replace h := cond_t hb2457 h
            refine c_skip ?_
            refine e_seq ?_
            refine c_seq ?_
            refine c_block ?_
            refine c_seq ?_
            refine c_region ?_
            replace h := gsome h
            obtain ⟨hg2458, h⟩ := h
            refine o1 rfl (o_ix (s := i5) (n := x7) (e := en_Vvitrineref05_Pair) rfl rfl rfl rfl rfl rfl rm1 (rd_own _ _ _ _) hg2458 ?_)
            refine o1 rfl (o_ldE (s := i5) (e := en_Vvitrineref05_Pair) (n := x7) (f := 0) (v := (.agg (List.toArray [(.int .u8 ((rd d5 x7).f_Type)), (.int .u8 ((rd d5 x7).Value))]))) rfl rm1 (rd_own _ _ _ _) hg2458 rfl rfl ?_)
            refine o1 rfl (o_alloc (cs := [(.int .u8 0), (.int .u8 0)]) rfl rfl (fun b2459 => ?_))
            refine o0 (o_st (b := b2459) (off := 0) (vs := [(.int .u8 ((rd d5 x7).f_Type)), (.int .u8 ((rd d5 x7).Value))]) (cs' := [(.int .u8 ((rd d5 x7).f_Type)), (.int .u8 ((rd d5 x7).Value))]) rfl rfl rp0 rfl rfl rfl rfl rfl rfl ?_)
            refine o_end ?_
            refine e_seq ?_
            refine c_seq ?_
            refine c_region ?_
            refine o1 rfl (o_ld (b := b2459) (off := 0) (v := (.agg (List.toArray [(.int .u8 ((rd d5 x7).f_Type)), (.int .u8 ((rd d5 x7).Value))]))) rfl rm0 rfl rfl ?_)
            replace h := bsome h
            obtain ⟨d10, h10, h⟩ := h
            refine o1 rfl (o_call has77 rfl (c_vitrineref05_Right X (rd d5 x7) _ h10) (pc rm1 pn) ?_)
            refine o1 rfl (o_p (v := (.bool (!d10))) rfl ?_)
            refine o_end ?_
            refine e_seq ?_
            refine c_cond (b := (!d10)) rfl (fun hb2461 => ?_) (fun hb2461 => ?_)
            · replace h := cond_t hb2461 h
              refine c_seq ?_
              refine c_region ?_
              refine o1 rfl (o_p rfl ?_)
              refine o_end ?_
              refine e_seq ?_
              refine c_ret ?_
              refine e_blk_ret ?_
              refine e_then_ret ?_
              refine e_then_ret ?_
              refine e_blk_ret ?_
              refine ej_ret ?_
              replace h := esc_some h
              obtain ⟨z6, h, rfl⟩ := h
              obtain rfl := (hk6 : z6 = _)
              refine e_blk_ret ?_
              refine ej_ret ?_
              replace h := esc_some h
              obtain ⟨z4, h, rfl⟩ := h
              obtain rfl := (hk4 : z4 = _)
              refine e_then_ret ?_
              refine e_then_ret ?_
              refine e_blk_ret ?_
              refine ej_ret ?_
              replace h := esc_some h
              obtain ⟨z1, h, rfl⟩ := h
              obtain rfl := (hk1 : z1 = _)
              refine e_then_ret ?_
              refine e_ret ?_
              refine r_endt rfl rfl (kc rm0 (kc rm3 (kc rm2 (kd (kd kr))))) ?_
              have hr := Option.some.inj h
              subst hr
              exact hk
            · replace h := cond_f hb2461 h
              refine c_skip ?_
              refine e_blk ?_
              refine e_seq ?_
              refine c_region ?_
              refine o1 rfl (o_p (v := (.int .i64 (w64 (x7 + 1)))) rfl ?_)
              refine o1 rfl (o_p rfl ?_)
              refine o_end ?_
              exact e_loop (l_sub (sc rfl (sc rfl (sc rfl (sc rfl (sc rfl (sc rfl sn)))))) (l_keep (kc rm0 (kc rm1 (kc rm1 (kc rm1 (kd kr))))) (ih7 (w64 (x7 + 1)) () trivial h)))
          · replace h := cond_f hb2457 h
            refine c_exit ?_
            refine e_then_exit ?_
            refine e_then_exit ?_
            refine e_blk_exit ?_
            have hd := Option.some.inj h
            subst hd
            exact ej () () rfl (sc rfl (sc rfl (sc rfl sn))) (kc rm0 (kc rm1 (kc rm1 (kd kr))))
        · rintro d6 i6 rfl
          replace h := JK_inl hk6
          clear hk6
          refine e_blk ?_
          have hd := Option.some.inj h
          subst hd
          exact ej () () rfl (sc rfl (sc rfl (sc rfl sn))) (kc rm0 (kc rm0 (kc rm0 kr)))
      · rintro d4 i4 rfl
        replace h := JK_inl hk4
        clear hk4
        refine e_seq ?_
        refine c_region ?_
        refine o1 rfl (o_p (v := (.int .i64 (w64 (x2 + 1)))) rfl ?_)
        refine o1 rfl (o_p rfl ?_)
        refine o_end ?_
        exact e_loop (l_sub (sc rfl (sc rfl (sc rfl sn))) (l_keep (kc rm0 (kc rm0 (kc rm0 kr))) (ih2 (w64 (x2 + 1)) () trivial h)))
    · replace h := cond_f hb2442 h
      refine c_exit ?_
      refine e_then_exit ?_
      refine e_then_exit ?_
      refine e_blk_exit ?_
      have hd := Option.some.inj h
      subst hd
      exact ej () () rfl sn (kc rm0 (kc rm1 (kc rm0 kr)))
  · rintro d1 i1 rfl
    replace h := JK_inl hk1
    clear hk1
    refine e_seq ?_
    refine c_seq ?_
    refine c_region ?_
    refine o1 rfl (o_p rfl ?_)
    refine o_end ?_
    refine e_seq ?_
    refine c_ret ?_
    refine e_ret ?_
    refine r_endt rfl rfl (kc rm0 (kc rm0 (kc rm0 kr))) ?_
    have hr := Option.some.inj h
    subst hr
    exact hk

theorem c_vitrinelaw20_sent {g : Gw} (X : HP) (p0 : Int) (r : Int) (h : m_vitrinelaw20_sent p0 = some r) : Tri env g 43 (List.toArray [(.int .u8 p0)]) [X] (fun K R => K (.int .u8 r) (X :: R)) := by
  refine tri_of (fn := Try.f43) (N := 6) Try.func43 rfl rfl rfl ?_
  intro R K hk
  unfold m_vitrinelaw20_sent at h
  change GC _ none _ [] [(0, (.int .u8 p0))] (X :: R) g _ _
  refine c_seq ?_
  refine c_region ?_
  refine o1 rfl (o_p rfl ?_)
  refine o_end ?_
  refine e_seq ?_
  refine c_seq ?_
  refine c_seq ?_
  refine c_region ?_
  refine o1 rfl (o_p rfl ?_)
  replace h := bsome h
  obtain ⟨d1, h1, h⟩ := h
  refine o1 rfl (o_call has62 rfl (c_vitrineref16_Is X p0 _ h1) (pc rm0 pn) ?_)
  refine o_end ?_
  refine e_seq ?_
  refine c_cond (b := d1) rfl (fun hb2477 => ?_) (fun hb2477 => ?_)
  · replace h := cond_t hb2477 h
    refine c_seq ?_
    refine c_region ?_
    refine o1 rfl (o_p rfl ?_)
    refine o_end ?_
    refine e_seq ?_
    refine c_ret ?_
    refine e_then_ret ?_
    refine e_ret ?_
    refine r_endt rfl rfl (kc rm0 kr) ?_
    have hr := Option.some.inj h
    subst hr
    exact hk
  · replace h := cond_f hb2477 h
    refine c_skip ?_
    refine e_seq ?_
    refine c_seq ?_
    refine c_region ?_
    refine o1 rfl (o_p rfl ?_)
    refine o1 rfl (o_p rfl ?_)
    refine o_end ?_
    refine e_seq ?_
    refine c_ret ?_
    refine e_ret ?_
    refine r_endt rfl rfl (kc rm0 kr) ?_
    have hr := Option.some.inj h
    subst hr
    exact hk

theorem c_vitrinelaw20_EntryModified {g : Gw} (X : HP) (p0 : Int) (p1 : List Vvitrineref12_Act) (s0 : SV) (q0r : RdN X s0 94 en_Vvitrineref12_Act D_Vvitrineref12_Act p1) (p2 : Int) (p3 : Int) (r : Bool) (h : m_vitrinelaw20_EntryModified p0 p1 p2 p3 = some r) : Tri env g 9 (List.toArray [(.int .u8 p0), (SV.val s0), (.int .u8 p2), (.int .u8 p3)]) [X] (fun K R => ∀ (i0 : HP), (Ext X i0) → K (.bool r) (i0 :: R)) := by
  refine tri_of (fn := Try.f9) (N := 161) Try.func9 rfl rfl rfl ?_
  intro R K hk
  obtain ⟨L_q0, q0, n_q0⟩ := q0r
  unfold m_vitrinelaw20_EntryModified at h
  change GC _ none _ [] [(0, (.int .u8 p0)), (1, (SV.val s0)), (2, (.int .u8 p2)), (3, (.int .u8 p3))] (X :: R) g _ _
  refine c_seq ?_
  refine c_region ?_
  refine o1 rfl (o_p rfl ?_)
  refine o_end ?_
  refine e_seq ?_
  refine c_seq ?_
  refine c_seq ?_
  refine c_region ?_
  replace h := bsome h
  obtain ⟨d1, h1, h⟩ := h
  refine o1 rfl (o_call has23 rfl (c_vitrinelaw20_awake X _ h1) (pc rm0 pn) (fun i1 f1_0 => ?_))
  refine o1 rfl (o_p (v := (.bool (!d1))) rfl ?_)
  refine o_end ?_
  refine e_seq ?_
  refine c_cond (b := (!d1)) rfl (fun hb2295 => ?_) (fun hb2295 => ?_)
  · replace h := cond_t hb2295 h
    refine c_seq ?_
    refine c_region ?_
    refine o1 rfl (o_p rfl ?_)
    refine o_end ?_
    refine e_seq ?_
    refine c_ret ?_
    refine e_then_ret ?_
    refine e_ret ?_
    refine r_endt rfl rfl (kc rm0 kr) ?_
    have hr := Option.some.inj h
    subst hr
    exact hk i1 f1_0
  · replace h := cond_f hb2295 h
    refine c_skip ?_
    refine e_seq ?_
    refine c_seq ?_
    refine c_region ?_
    refine o1 rfl (o_p rfl ?_)
    refine o1 rfl (o_p rfl ?_)
    replace h := bsome h
    obtain ⟨d4, h4, h⟩ := h
    refine o1 rfl (o_call has40 rfl (c_vitrinelaw20_lay i1 p0 p1 s0 ⟨_, (Rd.ext q0 f1_0), (NL.mono n_q0 (D_Vvitrineref12_Act.ext f1_0))⟩ _ h4) (pc rm0 pn) (fun i4 => ?_))
    refine o1 rfl (o_p rfl ?_)
    refine o1 rfl (o_p rfl ?_)
    refine o1 rfl (o_p rfl ?_)
    refine o1 rfl (o_p rfl ?_)
    refine o1 rfl (o_p rfl ?_)
    refine o_end ?_
    refine e_seq ?_
    refine c_seq ?_
    refine c_region ?_
    refine o1 rfl (o_p rfl ?_)
    refine o1 rfl (o_p rfl ?_)
    refine o1 rfl (o_p rfl ?_)
    refine o1 rfl (o_rem (m := p3) (n := 3) rfl rfl (by decide) ?_)
    refine o1 rfl (o_p (v := (.int .i64 (w64 (Int.tmod p3 3)))) rfl ?_)
    replace h := bsome h
    obtain ⟨d5, h5, h⟩ := h
    refine o1 rfl (o_call has14 rfl (c_read_Modified i1 d4.1 i4.1 i4.2.1 p2 (w64 (Int.tmod p3 3)) _ h5) (pc rm0 (pc rm0 (pc rm0 pn))) (fun i5 f5_0 f5_1 => ?_))
    refine o1 rfl (o_p rfl ?_)
    refine o1 rfl (o_p rfl ?_)
    refine o1 rfl (o_p rfl ?_)
    refine o1 rfl (o_p rfl ?_)
    refine o1 rfl (o_p rfl ?_)
    refine o_end ?_
    refine e_seq ?_
    refine c_seq ?_
    refine c_region ?_
    refine o1 rfl (o_p rfl ?_)
    replace h := bsome h
    obtain ⟨d6, h6, h⟩ := h
    refine o1 rfl (o_call has28 rfl (c_entry_Parse i5.1 d5.2.1 i5.2 f5_0 _ h6) (pc rm0 pn) (fun i6 f6_0 f6_1 => ?_))
    refine o1 rfl (o_p rfl ?_)
    refine o1 rfl (o_p rfl ?_)
    refine o1 rfl (o_p rfl ?_)
    refine o1 rfl (o_alloc (cs := [(.int .u8 0), (.bool false), (.int .i64 0), (SV.val SV.nil)]) rfl rfl (fun b2374 => ?_))
    refine o0 (o_st (b := b2374) (off := 0) (vs := [(.int .u8 d6.1.AID), (.bool d6.1.Short), (.int .i64 d6.1.Cursor), (SV.val i6.2.1)]) (cs' := [(.int .u8 d6.1.AID), (.bool d6.1.Short), (.int .i64 d6.1.Cursor), (SV.val i6.2.1)]) rfl rfl rp0 rfl rfl rfl rfl rfl rfl ?_)
    refine o1 rfl (o_p rfl ?_)
    refine o_end ?_
    refine e_seq ?_
    refine c_seq ?_
    refine c_seq ?_
    refine c_region ?_
    refine o1 rfl (o_p rfl ?_)
    replace h := bsome h
    obtain ⟨d7, h7, h⟩ := h
    refine o1 rfl (o_call has41 rfl (c_vitrinelaw20_looks i6.1 d4.2 i4.2.2.1 i4.2.2.2 _ h7) (pc rm1 (pc rm4 (pc rm4 pn))) ?_)
    refine o1 rfl (o_p (v := (.bool (!d7))) rfl ?_)
    refine o_end ?_
    refine e_seq ?_
    refine c_cond (b := (!d7)) rfl (fun hb2462 => ?_) (fun hb2462 => ?_)
    · replace h := cond_t hb2462 h
      refine c_seq ?_
      refine c_region ?_
      refine o1 rfl (o_p rfl ?_)
      refine o1 rfl (o_p (v := (.bool (d5.2.2 == 0))) rfl ?_)
      refine o1 rfl (o_p rfl ?_)
      refine o_end ?_
      refine e_seq ?_
      refine c_ret ?_
      refine e_then_ret ?_
      refine e_ret ?_
      refine r_endt rfl rfl (kc rm0 (kd (kd (kd (kd (kd (kd kr))))))) ?_
      have hr := Option.some.inj h
      subst hr
      exact hk i6.1 (Ext.trans (Ext.trans f1_0 f5_1) f6_1)
    · replace h := cond_f hb2462 h
      refine c_skip ?_
      refine e_seq ?_
      refine c_seq ?_
      refine c_seq ?_
      replace h := bsome h
      obtain ⟨d9, h, hk9⟩ := h
      refine cj (D := Unit) (ι := Unit) (fun _ i9 => True) (fun _ i9 => [(62, (.bool d9)), (13, (.pointer (some ⟨b2374, 0, none⟩))), (10, (.pointer (some ⟨i4.2.2.1, 0, none⟩))), (2, (.int .u8 p2))]) (fun _ i9 => i6.1 :: blk b2374 (.cells (List.toArray [(.int .u8 d6.1.AID), (.bool d6.1.Short), (.int .i64 d6.1.Cursor), (SV.val i6.2.1)]) 65 (0, 0)) :: blk i4.2.2.1 (.cells (List.toArray [(.int .i64 d4.2.Model), (.bool d4.2.Alt), (.int .i64 d4.2.Size.Rows), (.int .i64 d4.2.Size.Cols), (SV.val i4.2.2.2), (.int .i64 d4.2.Cursor)]) 41 (0, 0)) :: slE 5 (enI .u8) (fun y : Ventry_Entry => y.Text) i6.2.1 109 en_Ventry_Entry i6.2.2 :: slO i4.2.2.2 48 en_Vapi_Cell d4.2.L :: R) ?_ ?_
      · refine c_region ?_
        refine o1 rfl (o_p rfl ?_)
        refine o1 rfl (o_p (v := (.bool (d5.2.2 != 0))) rfl ?_)
        refine o1 rfl (o_p rfl ?_)
        rcases bool_or ((d5.2.2 != 0)) with hb2463 | hb2463
        · replace h := cond_t hb2463 h
          refine on rfl rfl rfl hb2463 ?_
          refine on rfl rfl rfl hb2463 ?_
          refine o1 rfl (o_pick_t rfl hb2463 rfl ?_)
          refine o1 rfl (o_p rfl ?_)
          refine on rfl rfl rfl rfl ?_
          refine on rfl rfl rfl rfl ?_
          refine on rfl rfl rfl rfl ?_
          refine on rfl rfl rfl rfl ?_
          refine o1 rfl (o_pick_t rfl rfl rfl ?_)
          refine o_end ?_
          have hd := Option.some.inj h
          subst hd
          exact ej () () trivial (sc rfl (sc rfl (sc rfl (sc rfl sn)))) (kc rm0 (kc rm2 (kc rm0 (kc rm1 (kc rm0 (kd (kd kr)))))))
        · replace h := cond_f hb2463 h
          refine oy rfl rfl rfl hb2463 (o_p rfl ?_)
          refine oy rfl rfl rfl hb2463 (o_p (v := (.bool (d6.2 != 0))) rfl ?_)
          refine o1 rfl (o_pick_f rfl hb2463 rfl ?_)
          refine o1 rfl (o_p rfl ?_)
          rcases bool_or ((d6.2 != 0)) with hb2464 | hb2464
          · replace h := cond_t hb2464 h
            refine on rfl rfl rfl hb2464 ?_
            refine on rfl rfl rfl hb2464 ?_
            refine on rfl rfl rfl hb2464 ?_
            refine on rfl rfl rfl hb2464 ?_
            refine o1 rfl (o_pick_t rfl hb2464 rfl ?_)
            refine o_end ?_
            have hd := Option.some.inj h
            subst hd
            exact ej () () trivial (sc rfl (sc rfl (sc rfl (sc rfl sn)))) (kc rm0 (kc rm2 (kc rm0 (kc rm1 (kc rm0 (kd (kd kr)))))))
          · replace h := cond_f hb2464 h
            refine oy rfl rfl rfl hb2464 (o_fa (fd := ⟨ "AID", 5, 0, false, "", "", 0⟩) rfl rfl rfl rfl rfl ?_)
            refine oy rfl rfl rfl hb2464 (o_ld (b := b2374) (off := 0) (v := (.int .u8 d6.1.AID)) rfl rm3 rfl rfl ?_)
            refine oy rfl rfl rfl hb2464 (o_p rfl ?_)
            refine oy rfl rfl rfl hb2464 (o_p (v := (.bool (d6.1.AID != p2))) rfl ?_)
            refine o1 rfl (o_pick_f rfl hb2464 rfl ?_)
            refine o_end ?_
            have hd := Option.some.inj h
            subst hd
            exact ej () () trivial (sc rfl (sc rfl (sc rfl (sc rfl sn)))) (kc rm0 (kc rm2 (kc rm0 (kc rm1 (kc rm0 (kd (kd kr)))))))
      · rintro _ i9 _
        replace h := hk9
        clear hk9
        refine e_seq ?_
        refine c_cond (b := d9) rfl (fun hb2465 => ?_) (fun hb2465 => ?_)
        · replace h := cond_t hb2465 h
          refine c_seq ?_
          refine c_region ?_
          refine o1 rfl (o_p rfl ?_)
          refine o_end ?_
          refine e_seq ?_
          refine c_ret ?_
          refine e_then_ret ?_
          refine e_ret ?_
          refine r_endt rfl rfl (kc rm0 (kd (kd (kd (kd kr))))) ?_
          have hr := Option.some.inj h
          subst hr
          exact hk i6.1 (Ext.trans (Ext.trans f1_0 f5_1) f6_1)
        · replace h := cond_f hb2465 h
          refine c_skip ?_
          refine e_seq ?_
          refine c_seq ?_
          refine c_seq ?_
          refine c_region ?_
          refine o1 rfl (o_p rfl ?_)
          replace h := bsome h
          obtain ⟨d11, h11, h⟩ := h
          refine o1 rfl (o_call has13 rfl (c_vitrineref18_Short i6.1 p2 _ h11) (pc rm0 pn) ?_)
          refine o_end ?_
          refine e_seq ?_
          refine c_cond (b := d11) rfl (fun hb2466 => ?_) (fun hb2466 => ?_)
          · replace h := cond_t hb2466 h
            refine c_seq ?_
            replace h := bsome h
            obtain ⟨d13, h, hk13⟩ := h
            refine cj (D := Unit) (ι := Unit) (fun _ i13 => True) (fun _ i13 => [(8, (.bool d13))]) (fun _ i13 => i6.1 :: R) ?_ ?_
            · refine c_region ?_
              refine o1 rfl (o_fa (fd := ⟨ "Short", 4, 1, false, "", "", 1⟩) rfl rfl rfl rfl rfl ?_)
              refine o1 rfl (o_ld (b := b2374) (off := 1) (v := (.bool d6.1.Short)) rfl rm1 rfl rfl ?_)
              refine o1 rfl (o_p rfl ?_)
              rcases bool_or (d6.1.Short) with hb2467 | hb2467
              · replace h := cond_t hb2467 h
                refine oy rfl rfl rfl hb2467 (o_fa (fd := ⟨ "Entries", 63, 3, false, "", "", 16⟩) rfl rfl rfl rfl rfl ?_)
                refine oy rfl rfl rfl hb2467 (o_ld (b := b2374) (off := 3) (v := (SV.val i6.2.1)) rfl rm1 rfl rfl ?_)
                refine oy rfl rfl rfl hb2467 (o_lenN (s := i6.2.1) rfl rfl rfl rm3 rd_E f6_0 ?_)
                refine oy rfl rfl rfl hb2467 (o_p (v := (.bool ((d6.1.Entries.length : Int) == 0))) rfl ?_)
                refine o1 rfl (o_pick_t rfl hb2467 rfl ?_)
                refine o1 rfl (o_p rfl ?_)
                refine o_end ?_
                have hd := Option.some.inj h
                subst hd
                exact ej () () trivial (sc rfl sn) (kc rm0 (kd (kd (kd (kd kr)))))
              · replace h := cond_f hb2467 h
                refine on rfl rfl rfl hb2467 ?_
                refine on rfl rfl rfl hb2467 ?_
                refine on rfl rfl rfl hb2467 ?_
                refine on rfl rfl rfl hb2467 ?_
                refine o1 rfl (o_pick_f rfl hb2467 rfl ?_)
                refine o1 rfl (o_p rfl ?_)
                refine o_end ?_
                have hd := Option.some.inj h
                subst hd
                exact ej () () trivial (sc rfl sn) (kc rm0 (kd (kd (kd (kd kr)))))
            · rintro _ i13 _
              replace h := hk13
              clear hk13
              refine e_seq ?_
              refine c_ret ?_
              refine e_then_ret ?_
              refine e_ret ?_
              refine r_endt rfl rfl (kc rm0 kr) ?_
              have hr := Option.some.inj h
              subst hr
              exact hk i6.1 (Ext.trans (Ext.trans f1_0 f5_1) f6_1)
          · replace h := cond_f hb2466 h
            refine c_skip ?_
            refine e_seq ?_
            refine c_seq ?_
            refine c_region ?_
            refine o1 rfl (o_p rfl ?_)
            refine o_end ?_
            refine e_seq ?_
            refine c_seq ?_
            refine c_seq ?_
            refine c_region ?_
            refine o1 rfl (o_p rfl ?_)
            replace h := bsome h
            obtain ⟨d14, h14, h⟩ := h
            refine o1 rfl (o_call has12 rfl (c_vitrineref12_Attrs i6.1 d4.2 i4.2.2.1 i4.2.2.2 _ h14) (pc rm0 (pc rm1 (pc rm2 pn))) (fun i14 => ?_))
            refine o1 rfl (o_len (s := i14) rfl rfl rfl rm3 (rd_own _ _ _ _) ?_)
            refine o1 rfl (o_p rfl ?_)
            refine o_end ?_
            refine e_seq ?_
            replace h := bsome h
            obtain ⟨d15, h, hk15⟩ := h
            refine cj (D := Unit) (ι := HP × SV × (List (Vvitrineref20_Entry × SV)) × (List (Ventry_Entry × SV))) (fun _ i15 => (NL (D_Vvitrineref20_Entry i15.1) i15.2.2.1 d15) ∧ (NL DT i15.2.2.2 d6.1.Entries) ∧ (Ext X i15.1)) (fun _ i15 => [(15, (SV.val i15.2.1)), (13, (.pointer (some ⟨b2374, 0, none⟩))), (10, (.pointer (some ⟨i4.2.2.1, 0, none⟩))), (2, (.int .u8 p2))]) (fun _ i15 => i15.1 :: slO i15.2.1 60 en_Vvitrineref20_Entry i15.2.2.1 :: blk b2374 (.cells (List.toArray [(.int .u8 d6.1.AID), (.bool d6.1.Short), (.int .i64 d6.1.Cursor), (SV.val i6.2.1)]) 65 (0, 0)) :: blk i4.2.2.1 (.cells (List.toArray [(.int .i64 d4.2.Model), (.bool d4.2.Alt), (.int .i64 d4.2.Size.Rows), (.int .i64 d4.2.Size.Cols), (SV.val i4.2.2.2), (.int .i64 d4.2.Cursor)]) 41 (0, 0)) :: slE 5 (enI .u8) (fun y : Ventry_Entry => y.Text) i6.2.1 109 en_Ventry_Entry i15.2.2.2 :: slO i4.2.2.2 48 en_Vapi_Cell d4.2.L :: R) ?_ ?_
            · refine c_block ?_
              refine c_add (slO SV.nil 60 en_Vvitrineref20_Entry []) (slO_nil _ _ _) ?_
              refine c_loop (l_sub (sc rfl (sc rfl (sc rfl (sc rfl (sc rfl (sc rfl (sc rfl sn))))))) (l_keep (kc rm1 (kc rm3 (kc rm0 (kc rm2 (kc rm0 (kc rm1 (kc rm0 kr))))))) (lf (X := Int × (List Vvitrineref20_Entry)) (ι := HP × SV × (List (Vvitrineref20_Entry × SV)) × (List (Ventry_Entry × SV))) (fun k x => vitrinelaw20_EntryModified_l16 d4 d14 k x) _ (fun x16 i16 => (NL (D_Vvitrineref20_Entry i16.1) i16.2.2.1 x16.2) ∧ (NL DT i16.2.2.2 d6.1.Entries) ∧ (Ext X i16.1)) (fun x16 i16 => [(76, (.int .i64 x16.1)), (75, (.int .i64 (d14.length : Int))), (74, (SV.val i14)), (15, (SV.val i16.2.1)), (13, (.pointer (some ⟨b2374, 0, none⟩))), (10, (.pointer (some ⟨i4.2.2.1, 0, none⟩))), (2, (.int .u8 p2))]) (fun x16 i16 => i16.1 :: slO i14 3 (enI .i64) d14 :: slO i16.2.1 60 en_Vvitrineref20_Entry i16.2.2.1 :: blk b2374 (.cells (List.toArray [(.int .u8 d6.1.AID), (.bool d6.1.Short), (.int .i64 d6.1.Cursor), (SV.val i6.2.1)]) 65 (0, 0)) :: blk i4.2.2.1 (.cells (List.toArray [(.int .i64 d4.2.Model), (.bool d4.2.Alt), (.int .i64 d4.2.Size.Rows), (.int .i64 d4.2.Size.Cols), (SV.val i4.2.2.2), (.int .i64 d4.2.Cursor)]) 41 (0, 0)) :: slE 5 (enI .u8) (fun y : Ventry_Entry => y.Text) i6.2.1 109 en_Ventry_Entry i16.2.2.2 :: slO i4.2.2.2 48 en_Vapi_Cell d4.2.L :: R) (fun _ => rfl) ?_ fuel (0, ([] : List Vvitrineref20_Entry)) (i6.1, SV.nil, [], i6.2.2) ⟨NL.nil, f6_0, (Ext.trans (Ext.trans f1_0 f5_1) f6_1)⟩ h)))
              clear h
              rintro k16 ih16 x16 i16 ⟨f16_0, f16_1, f16_2⟩ h
              rw [vitrinelaw20_EntryModified_l16.eq_2] at h
              refine l_round ?_
              refine c_seq ?_
              refine c_region ?_
              refine o1 rfl (o_p (v := (.bool (decide (x16.1 < (d14.length : Int))))) rfl ?_)
              refine o_end ?_
              refine e_seq ?_
              refine c_seq ?_
              refine c_cond (b := (decide (x16.1 < (d14.length : Int)))) rfl (fun hb2574 => ?_) (fun hb2574 => ?_)
              · replace h := cond_t hb2574 h
                refine c_skip ?_
                refine e_seq ?_
                refine c_seq ?_
                replace h := bsome h
                obtain ⟨d18, h, hk18⟩ := h
                refine cj (D := Unit) (ι := HP × SV × (List (Vvitrineref20_Entry × SV)) × (List (Ventry_Entry × SV))) (fun _ i18 => (NL (D_Vvitrineref20_Entry i18.1) i18.2.2.1 d18) ∧ (NL DT i18.2.2.2 d6.1.Entries) ∧ (Ext X i18.1)) (fun _ i18 => [(76, (.int .i64 x16.1)), (75, (.int .i64 (d14.length : Int))), (74, (SV.val i14)), (15, (SV.val i18.2.1)), (13, (.pointer (some ⟨b2374, 0, none⟩))), (10, (.pointer (some ⟨i4.2.2.1, 0, none⟩))), (2, (.int .u8 p2))]) (fun _ i18 => i18.1 :: slO i14 3 (enI .i64) d14 :: slO i18.2.1 60 en_Vvitrineref20_Entry i18.2.2.1 :: blk b2374 (.cells (List.toArray [(.int .u8 d6.1.AID), (.bool d6.1.Short), (.int .i64 d6.1.Cursor), (SV.val i6.2.1)]) 65 (0, 0)) :: blk i4.2.2.1 (.cells (List.toArray [(.int .i64 d4.2.Model), (.bool d4.2.Alt), (.int .i64 d4.2.Size.Rows), (.int .i64 d4.2.Size.Cols), (SV.val i4.2.2.2), (.int .i64 d4.2.Cursor)]) 41 (0, 0)) :: slE 5 (enI .u8) (fun y : Ventry_Entry => y.Text) i6.2.1 109 en_Ventry_Entry i18.2.2.2 :: slO i4.2.2.2 48 en_Vapi_Cell d4.2.L :: R) ?_ ?_
                · refine c_block ?_
                  refine c_seq ?_
                  refine c_region ?_
                  replace h := gsome h
                  obtain ⟨hg2575, h⟩ := h
                  refine o1 rfl (o_ix (s := i14) (n := x16.1) (e := (enI .i64)) rfl rfl rfl rfl rfl rfl rm1 (rd_own _ _ _ _) hg2575 ?_)
                  refine o1 rfl (o_ldE (s := i14) (e := (enI .i64)) (n := x16.1) (f := 0) (v := (.int .i64 (rd d14 x16.1))) rfl rm1 (rd_own _ _ _ _) hg2575 rfl rfl ?_)
                  refine o1 rfl (o_p rfl ?_)
                  refine o_end ?_
                  refine e_seq ?_
                  refine c_seq ?_
                  refine c_seq ?_
                  refine c_region ?_
                  refine o1 rfl (o_p rfl ?_)
                  refine o1 rfl (o_p rfl ?_)
                  refine o1 rfl (o_fa (fd := ⟨ "L", 39, 4, false, "", "", 32⟩) rfl rfl rfl rfl rfl ?_)
                  refine o1 rfl (o_ld (b := i4.2.2.1) (off := 4) (v := (SV.val i4.2.2.2)) rfl rm4 rfl rfl ?_)
                  refine o1 rfl (o_p rfl ?_)
                  replace h := gsome h
                  obtain ⟨hg2576, h⟩ := h
                  refine o1 rfl (o_ix (s := i4.2.2.2) (n := (rd d14 x16.1)) (e := en_Vapi_Cell) rfl rfl rfl rfl rfl rfl rm6 (rd_own _ _ _ _) hg2576 ?_)
                  refine o1 rfl (o_fa (fd := ⟨ "FA", 5, 2, false, "", "", 2⟩) rfl rfl rfl rfl rfl ?_)
                  refine o1 rfl (o_ldE (s := i4.2.2.2) (e := en_Vapi_Cell) (n := (rd d14 x16.1)) (f := 2) (v := (.int .u8 ((rd d4.2.L (rd d14 x16.1)).FA))) rfl rm6 (rd_own _ _ _ _) hg2576 rfl rfl ?_)
                  refine o1 rfl (o_p (v := (.int .u8 (iband .u8 ((rd d4.2.L (rd d14 x16.1)).FA) 1))) rfl ?_)
                  refine o1 rfl (o_p (v := (.bool ((iband .u8 ((rd d4.2.L (rd d14 x16.1)).FA) 1) == 0))) rfl ?_)
                  refine o_end ?_
                  refine e_seq ?_
                  refine c_cond (b := ((iband .u8 ((rd d4.2.L (rd d14 x16.1)).FA) 1) == 0)) rfl (fun hb2577 => ?_) (fun hb2577 => ?_)
                  · replace h := cond_t hb2577 h
                    refine c_exit ?_
                    refine e_then_exit ?_
                    refine e_blk_exit ?_
                    have hd := Option.some.inj h
                    subst hd
                    exact ej () (i16.1, i16.2.1, i16.2.2.1, i16.2.2.2) ⟨f16_0, f16_1, f16_2⟩ (sc rfl (sc rfl (sc rfl (sc rfl (sc rfl (sc rfl (sc rfl sn))))))) (kc rm0 (kc rm0 (kc rm0 (kc rm0 (kc rm0 (kc rm0 (kc rm0 kr)))))))
                  · replace h := cond_f hb2577 h
                    refine c_skip ?_
                    refine e_seq ?_
                    refine c_seq ?_
                    refine c_region ?_
                    refine o1 rfl (o_p rfl ?_)
                    refine o1 rfl (o_p rfl ?_)
                    refine o1 rfl (o_p (v := (.int .i64 (w64 ((rd d14 x16.1) + 1)))) rfl ?_)
                    replace h := bsome h
                    obtain ⟨d20, h20, h⟩ := h
                    refine o1 rfl (o_call has17 rfl (c_vitrineref12_Wrap i16.1 d4.2 i4.2.2.1 i4.2.2.2 (w64 ((rd d14 x16.1) + 1)) _ h20) (pc rm0 (pc rm3 (pc rm4 pn))) ?_)
                    refine o1 rfl (o_build (fs := [⟨ "Addr", 3, 0, false, "", "", 0⟩, ⟨ "Text", 31, 1, false, "", "", 8⟩]) (ps := [(0, 1), (1, 1)]) (cs := [(.int .i64 d20), (SV.val SV.nil)]) rfl rfl rfl rfl rfl ?_)
                    refine o1 rfl (o_alloc (cs := [(.int .i64 0), (SV.val SV.nil)]) rfl rfl (fun b2578 => ?_))
                    refine o0 (o_st (b := b2578) (off := 0) (vs := [(.int .i64 d20), (SV.val SV.nil)]) (cs' := [(.int .i64 d20), (SV.val SV.nil)]) rfl rfl rp0 rfl rfl rfl rfl rfl rfl ?_)
                    refine o_end ?_
                    refine e_seq ?_
                    refine c_seq ?_
                    refine c_seq ?_
                    refine c_region ?_
                    refine o1 rfl (o_p rfl ?_)
                    refine o1 rfl (o_p (v := (.int .i64 (w64 ((rd d14 x16.1) + 1)))) rfl ?_)
                    refine o1 rfl (o_p rfl ?_)
                    refine o_end ?_
                    refine e_seq ?_
                    replace h := bsome h
                    obtain ⟨d21, h, hk21⟩ := h
                    refine cj (D := Unit) (ι := SV) (fun _ i21 => True) (fun _ i21 => [(18, (.pointer (some ⟨b2578, 0, none⟩))), (76, (.int .i64 x16.1)), (75, (.int .i64 (d14.length : Int))), (74, (SV.val i14)), (15, (SV.val i16.2.1)), (13, (.pointer (some ⟨b2374, 0, none⟩))), (10, (.pointer (some ⟨i4.2.2.1, 0, none⟩))), (2, (.int .u8 p2))]) (fun _ i21 => i16.1 :: blk b2578 (.cells (List.toArray [(.int .i64 d20), (SV.val i21)]) 60 (0, 0)) :: slO i14 3 (enI .i64) d14 :: slO i16.2.1 60 en_Vvitrineref20_Entry i16.2.2.1 :: blk b2374 (.cells (List.toArray [(.int .u8 d6.1.AID), (.bool d6.1.Short), (.int .i64 d6.1.Cursor), (SV.val i6.2.1)]) 65 (0, 0)) :: blk i4.2.2.1 (.cells (List.toArray [(.int .i64 d4.2.Model), (.bool d4.2.Alt), (.int .i64 d4.2.Size.Rows), (.int .i64 d4.2.Size.Cols), (SV.val i4.2.2.2), (.int .i64 d4.2.Cursor)]) 41 (0, 0)) :: slO i21 5 (enI .u8) d21 :: slE 5 (enI .u8) (fun y : Ventry_Entry => y.Text) i6.2.1 109 en_Ventry_Entry i16.2.2.2 :: slO i4.2.2.2 48 en_Vapi_Cell d4.2.L :: R) ?_ ?_
                    · refine c_block ?_
                      refine c_add (slO SV.nil 5 (enI .u8) []) (slO_nil _ _ _) ?_
                      refine c_loop (l_sub (sc rfl (sc rfl (sc rfl (sc rfl (sc rfl (sc rfl (sc rfl (sc rfl (sc rfl sn))))))))) (l_keep (kc rm2 (kc rm1 (kc rm3 (kc rm3 (kc rm3 (kc rm1 (kc rm0 (kc rm1 (kc rm0 kr))))))))) (lf (X := Int × (List Int)) (ι := SV) (fun k x => vitrinelaw20_EntryModified_l22 d4 k x) _ (fun x22 i22 => True) (fun x22 i22 => [(19, (.int .i64 x22.1)), (18, (.pointer (some ⟨b2578, 0, none⟩))), (76, (.int .i64 x16.1)), (75, (.int .i64 (d14.length : Int))), (74, (SV.val i14)), (15, (SV.val i16.2.1)), (13, (.pointer (some ⟨b2374, 0, none⟩))), (10, (.pointer (some ⟨i4.2.2.1, 0, none⟩))), (2, (.int .u8 p2))]) (fun x22 i22 => i16.1 :: blk b2578 (.cells (List.toArray [(.int .i64 d20), (SV.val i22)]) 60 (0, 0)) :: slO i14 3 (enI .i64) d14 :: slO i16.2.1 60 en_Vvitrineref20_Entry i16.2.2.1 :: blk b2374 (.cells (List.toArray [(.int .u8 d6.1.AID), (.bool d6.1.Short), (.int .i64 d6.1.Cursor), (SV.val i6.2.1)]) 65 (0, 0)) :: blk i4.2.2.1 (.cells (List.toArray [(.int .i64 d4.2.Model), (.bool d4.2.Alt), (.int .i64 d4.2.Size.Rows), (.int .i64 d4.2.Size.Cols), (SV.val i4.2.2.2), (.int .i64 d4.2.Cursor)]) 41 (0, 0)) :: slO i22 5 (enI .u8) x22.2 :: slE 5 (enI .u8) (fun y : Ventry_Entry => y.Text) i6.2.1 109 en_Ventry_Entry i16.2.2.2 :: slO i4.2.2.2 48 en_Vapi_Cell d4.2.L :: R) (fun _ => rfl) ?_ fuel (w64 ((rd d14 x16.1) + 1), ([] : List Int)) SV.nil trivial h)))
                      clear h
                      rintro k22 ih22 x22 i22 _ h
                      rw [vitrinelaw20_EntryModified_l22.eq_2] at h
                      refine l_round ?_
                      refine c_seq ?_
                      refine c_seq ?_
                      refine c_region ?_
                      refine o1 rfl (o_p rfl ?_)
                      refine o1 rfl (o_p rfl ?_)
                      replace h := bsome h
                      obtain ⟨d23, h23, h⟩ := h
                      refine o1 rfl (o_call has42 rfl (c_vitrineref12_At i16.1 d4.2 i4.2.2.1 i4.2.2.2 x22.1 _ h23) (pc rm0 (pc rm4 (pc rm6 pn))) ?_)
                      refine o1 rfl (o_field (v := (.bool d23.Attr)) rfl rfl rfl ?_)
                      refine o1 rfl (o_p (v := (.bool (!d23.Attr))) rfl ?_)
                      refine o_end ?_
                      refine e_seq ?_
                      refine c_cond (b := (!d23.Attr)) rfl (fun hb2602 => ?_) (fun hb2602 => ?_)
                      · replace h := cond_t hb2602 h
                        refine c_skip ?_
                        refine e_seq ?_
                        refine c_seq ?_
                        refine c_block ?_
                        refine c_seq ?_
                        refine c_region ?_
                        refine o1 rfl (o_p rfl ?_)
                        refine o1 rfl (o_p rfl ?_)
                        replace h := bsome h
                        obtain ⟨d26, h26, h⟩ := h
                        refine o1 rfl (o_call has42 rfl (c_vitrineref12_At i16.1 d4.2 i4.2.2.1 i4.2.2.2 x22.1 _ h26) (pc rm0 (pc rm0 (pc rm0 pn))) ?_)
                        refine o1 rfl (o_field (v := (.int .u8 d26.Char)) rfl rfl rfl ?_)
                        refine o1 rfl (o_p rfl ?_)
                        refine o_end ?_
                        refine e_seq ?_
                        refine c_seq ?_
                        refine c_region ?_
                        refine o1 rfl (o_p rfl ?_)
                        refine o1 rfl (o_p (v := (.bool (d26.Char != 0))) rfl ?_)
                        refine o_end ?_
                        refine e_seq ?_
                        replace h := bsome h
                        obtain ⟨d27, h, hk27⟩ := h
                        refine cj (D := Unit) (ι := SV) (fun _ i27 => True) (fun _ i27 => [(19, (.int .i64 x22.1)), (18, (.pointer (some ⟨b2578, 0, none⟩))), (76, (.int .i64 x16.1)), (75, (.int .i64 (d14.length : Int))), (74, (SV.val i14)), (15, (SV.val i16.2.1)), (13, (.pointer (some ⟨b2374, 0, none⟩))), (10, (.pointer (some ⟨i4.2.2.1, 0, none⟩))), (2, (.int .u8 p2))]) (fun _ i27 => i16.1 :: blk b2578 (.cells (List.toArray [(.int .i64 d20), (SV.val i27)]) 60 (0, 0)) :: slO i14 3 (enI .i64) d14 :: slO i16.2.1 60 en_Vvitrineref20_Entry i16.2.2.1 :: blk b2374 (.cells (List.toArray [(.int .u8 d6.1.AID), (.bool d6.1.Short), (.int .i64 d6.1.Cursor), (SV.val i6.2.1)]) 65 (0, 0)) :: blk i4.2.2.1 (.cells (List.toArray [(.int .i64 d4.2.Model), (.bool d4.2.Alt), (.int .i64 d4.2.Size.Rows), (.int .i64 d4.2.Size.Cols), (SV.val i4.2.2.2), (.int .i64 d4.2.Cursor)]) 41 (0, 0)) :: slO i27 5 (enI .u8) d27 :: slE 5 (enI .u8) (fun y : Ventry_Entry => y.Text) i6.2.1 109 en_Ventry_Entry i16.2.2.2 :: slO i4.2.2.2 48 en_Vapi_Cell d4.2.L :: R) ?_ ?_
                        · refine c_cond (b := (d26.Char != 0)) rfl (fun hb2603 => ?_) (fun hb2603 => ?_)
                          · replace h := cond_t hb2603 h
                            refine c_draw (n := 4) (q := [(0, 110, (.pointer (some ⟨b2578, 1, none⟩))), (1, 111, (SV.val i22)), (2, 112, (.int .u8 d26.Char))]) (pend := [0, 1, 2]) rfl rfl rfl ?_
                            replace h := bsome h
                            obtain ⟨d28, h28, h⟩ := h
                            refine ⟨⟨fun _ => ⟨rfl, rfl, rfl, .inl ⟨rfl, (o_fa (fd := ⟨ "Text", 31, 1, false, "", "", 8⟩) rfl rfl rfl rfl rfl ⟨rfl, rfl⟩)⟩⟩, fun _ => ⟨rfl, rfl, rfl, .inl ⟨rfl, (o_ld (b := b2578) (off := 1) (v := (SV.val i22)) rfl rm3 rfl rfl ⟨rfl, rfl⟩)⟩⟩, fun _ => ⟨rfl, rfl, rfl, .inl ⟨rfl, (o_p rfl ⟨rfl, rfl⟩)⟩⟩, trivial⟩, rfl, .inr ⟨[3], rfl, rfl, ⟨rfl, .inl rfl, ?_⟩, trivial⟩⟩
                            refine (o_call has43 rfl (c_vitrinelaw20_sent i16.1 d26.Char _ h28) (pc rm0 pn) ?_)
                            refine ⟨[], [0, 1], rfl, rfl, rfl, rfl, ?_⟩
                            refine ⟨⟨fun _ => ⟨rfl, rfl, rfl, .inl ⟨rfl, (o_fa (fd := ⟨ "Text", 31, 1, false, "", "", 8⟩) rfl rfl rfl rfl rfl ⟨rfl, rfl⟩)⟩⟩, fun _ => ⟨rfl, rfl, rfl, .inl ⟨rfl, (o_ld (b := b2578) (off := 1) (v := (SV.val i22)) rfl rm3 rfl rfl ⟨rfl, rfl⟩)⟩⟩, (fun h => nomatch h), trivial⟩, rfl, .inr ⟨[4], rfl, rfl, ⟨rfl, .inl rfl, ?_⟩, trivial⟩⟩
                            refine (o_bs (e := (enI .u8)) (l := [d28]) (zs := [(.int .u8 0)]) rfl rfl rfl rfl rfl rfl rfl rfl rfl rfl (fun s2604 => ?_))
                            refine ⟨[], [0, 1], rfl, rfl, rfl, rfl, ?_⟩
                            replace h := gsome h
                            obtain ⟨hg2606, h⟩ := h
                            refine ⟨⟨fun _ => ⟨rfl, rfl, rfl, .inl ⟨rfl, (o_fa (fd := ⟨ "Text", 31, 1, false, "", "", 8⟩) rfl rfl rfl rfl rfl ⟨rfl, rfl⟩)⟩⟩, fun _ => ⟨rfl, rfl, rfl, .inl ⟨rfl, (o_ld (b := b2578) (off := 1) (v := (SV.val i22)) rfl rm4 rfl rfl ⟨rfl, rfl⟩)⟩⟩, (fun h => nomatch h), trivial⟩, rfl, .inr ⟨[5], rfl, rfl, ⟨rfl, .inl rfl, ?_⟩, trivial⟩⟩
                            refine (o_app (s := i22) (r := s2604) (e := (enI .u8)) (l := x22.2) (l2 := [d28]) (zs := [(.int .u8 0)]) rfl rfl rfl rfl rfl rfl rfl rfl rfl rfl rfl rm8 rm0 (rd_own _ _ _ _) hg2606 (fun s2607 => ?_))
                            refine ⟨[(6, 116, (.pointer (some ⟨b2578, 1, none⟩)))], [6], rfl, rfl, rfl, rfl, ?_⟩
                            refine ⟨⟨fun _ => ⟨rfl, rfl, rfl, .inl ⟨rfl, (o_fa (fd := ⟨ "Text", 31, 1, false, "", "", 8⟩) rfl rfl rfl rfl rfl ⟨rfl, rfl⟩)⟩⟩, (fun h => nomatch h), (fun h => nomatch h), (fun h => nomatch h), trivial⟩, rfl, .inr ⟨[7], rfl, rfl, ⟨rfl, .inl rfl, ?_⟩, trivial⟩⟩
                            refine (o_st (b := b2578) (off := 1) (vs := [(SV.val s2607)]) (cs' := [(.int .i64 d20), (SV.val s2607)]) rfl rfl rp5 rfl rfl rfl rfl rfl rfl ?_)
                            refine ⟨[], [], rfl, rfl, ?_⟩
                            refine ⟨⟨(fun h => nomatch h), (fun h => nomatch h), (fun h => nomatch h), (fun h => nomatch h), trivial⟩, rfl, rfl, rfl, ?_⟩
                            have hd := Option.some.inj h
                            subst hd
                            exact ej () s2607 trivial (sc rfl (sc rfl (sc rfl (sc rfl (sc rfl (sc rfl (sc rfl (sc rfl (sc rfl sn))))))))) (kc rm2 (kc rm4 (kc rm4 (kc rm4 (kc rm4 (kc rm2 (kc rm0 (kc rm2 (kc rm1 (kd kr))))))))))
                          · replace h := cond_f hb2603 h
                            refine c_skip ?_
                            have hd := Option.some.inj h
                            subst hd
                            exact ej () i22 trivial (sc rfl (sc rfl (sc rfl (sc rfl (sc rfl (sc rfl (sc rfl (sc rfl (sc rfl sn))))))))) (kc rm0 (kc rm2 (kc rm2 (kc rm2 (kc rm2 (kc rm0 (kc rm1 (kc rm1 (kc rm0 kr)))))))))
                        · rintro _ i27 _
                          replace h := hk27
                          clear hk27
                          refine e_blk ?_
                          refine e_seq ?_
                          refine c_region ?_
                          refine o1 rfl (o_p rfl ?_)
                          refine o1 rfl (o_p (v := (.int .i64 (w64 (x22.1 + 1)))) rfl ?_)
                          refine o1 rfl (o_p rfl ?_)
                          refine o_end ?_
                          exact e_loop (l_sub (sc rfl (sc rfl (sc rfl (sc rfl (sc rfl (sc rfl (sc rfl (sc rfl (sc rfl sn))))))))) (l_keep (kc rm0 (kc rm0 (kc rm0 (kc rm0 (kc rm0 (kc rm0 (kc rm0 (kc rm0 (kc rm0 kr))))))))) (ih22 (w64 (x22.1 + 1), d27) i27 trivial h)))
                      · replace h := cond_f hb2602 h
                        refine c_exit ?_
                        refine e_then_exit ?_
                        refine e_then_exit ?_
                        refine e_blk_exit ?_
                        have hd := Option.some.inj h
                        subst hd
                        exact ej () i22 trivial (sc rfl (sc rfl (sc rfl (sc rfl (sc rfl (sc rfl (sc rfl (sc rfl sn)))))))) (kc rm0 (kc rm2 (kc rm2 (kc rm2 (kc rm2 (kc rm0 (kc rm1 (kc rm1 (kc rm0 kr)))))))))
                    · rintro _ i21 _
                      replace h := hk21
                      clear hk21
                      refine e_seq ?_
                      refine c_region ?_
                      refine o1 rfl (o_p rfl ?_)
                      refine o1 rfl (o_ld (b := b2578) (off := 0) (v := (.agg (List.toArray [(.int .i64 d20), (SV.val i21)]))) rfl rm1 rfl rfl ?_)
                      refine o_fz rm6 rm0 (fun X2613 hx2614 hs2615 => ?_)
                      refine o1 rfl (o_bs (e := en_Vvitrineref20_Entry) (l := [((⟨d20, d21⟩ : Vvitrineref20_Entry), i21)]) (zs := [(.int .i64 0), (SV.val SV.nil)]) rfl rfl rfl rfl rfl rfl rfl rfl rfl rfl (fun s2616 => ?_))
                      replace h := gsome h
                      obtain ⟨hg2618, h⟩ := h
                      refine o1 rfl (o_app (s := i16.2.1) (r := s2616) (e := en_Vvitrineref20_Entry) (l := i16.2.2.1) (l2 := [((⟨d20, d21⟩ : Vvitrineref20_Entry), i21)]) (zs := [(.int .i64 0), (SV.val SV.nil)]) rfl rfl rfl rfl rfl rfl rfl rfl rfl rfl rfl rm4 rm0 (rd_own _ _ _ _) (len2 (D := D_Vvitrineref20_Entry X2613) (D' := D_Vvitrineref20_Entry X2613) (NL.mono f16_0 (D_Vvitrineref20_Entry.ext hx2614)) (NL.cons (D := D_Vvitrineref20_Entry X2613) (x := (⟨d20, d21⟩ : Vvitrineref20_Entry)) (s := i21) hs2615 NL.nil) hg2618) (fun s2619 => ?_))
                      refine o1 rfl (o_p rfl ?_)
                      refine o_end ?_
                      refine e_blk ?_
                      have hd := Option.some.inj h
                      subst hd
                      exact ej () (X2613, s2619, (i16.2.2.1 ++ [((⟨d20, d21⟩ : Vvitrineref20_Entry), i21)]), i16.2.2.2) ⟨(NL.app (NL.mono f16_0 (D_Vvitrineref20_Entry.ext hx2614)) (NL.cons (D := D_Vvitrineref20_Entry X2613) (x := (⟨d20, d21⟩ : Vvitrineref20_Entry)) (s := i21) hs2615 NL.nil)), f16_1, (Ext.trans f16_2 hx2614)⟩ (sc rfl (sc rfl (sc rfl (sc rfl (sc rfl (sc rfl (sc rfl sn))))))) (kc rm2 (kc rm3 (kc rm0 (kc rm2 (kc rm2 (kc rm2 (kc rm2 (kd (kd kr)))))))))
                · rintro _ i18 ⟨f18_0, f18_1, f18_2⟩
                  replace h := hk18
                  clear hk18
                  refine e_seq ?_
                  refine c_region ?_
                  refine o1 rfl (o_p (v := (.int .i64 (w64 (x16.1 + 1)))) rfl ?_)
                  refine o1 rfl (o_p rfl ?_)
                  refine o_end ?_
                  exact e_loop (l_sub (sc rfl (sc rfl (sc rfl (sc rfl (sc rfl (sc rfl (sc rfl sn))))))) (l_keep (kc rm0 (kc rm0 (kc rm0 (kc rm0 (kc rm0 (kc rm0 (kc rm0 kr))))))) (ih16 (w64 (x16.1 + 1), d18) (i18.1, i18.2.1, i18.2.2.1, i18.2.2.2) ⟨f18_0, f18_1, f18_2⟩ h)))
              · replace h := cond_f hb2574 h
                refine c_exit ?_
                refine e_then_exit ?_
                refine e_then_exit ?_
                refine e_blk_exit ?_
                have hd := Option.some.inj h
                subst hd
                exact ej () (i16.1, i16.2.1, i16.2.2.1, i16.2.2.2) ⟨f16_0, f16_1, f16_2⟩ (sc rfl (sc rfl (sc rfl (sc rfl sn)))) (kc rm0 (kc rm1 (kc rm1 (kc rm1 (kc rm1 (kc rm1 (kd kr)))))))
            · rintro _ i15 ⟨f15_0, f15_1, f15_2⟩
              replace h := hk15
              clear hk15
              refine e_seq ?_
              refine c_seq ?_
              refine c_seq ?_
              refine c_region ?_
              refine o1 rfl (o_p rfl ?_)
              replace h := bsome h
              obtain ⟨d29, h29, h⟩ := h
              refine o1 rfl (o_call has12 rfl (c_vitrineref12_Attrs i15.1 d4.2 i4.2.2.1 i4.2.2.2 _ h29) (pc rm0 (pc rm2 (pc rm3 pn))) (fun i29 => ?_))
              refine o1 rfl (o_len (s := i29) rfl rfl rfl rm3 (rd_own _ _ _ _) ?_)
              refine o1 rfl (o_p (v := (.bool ((d29.length : Int) == 0))) rfl ?_)
              refine o_end ?_
              refine e_seq ?_
              replace h := bsome h
              obtain ⟨d30, h, hk30⟩ := h
              refine cj (D := Unit) (ι := HP × SV × (List (Vvitrineref20_Entry × SV)) × (List (Ventry_Entry × SV))) (fun _ i30 => (NL (D_Vvitrineref20_Entry i30.1) i30.2.2.1 d30) ∧ (NL DT i30.2.2.2 d6.1.Entries) ∧ (Ext X i30.1)) (fun _ i30 => [(15, (SV.val i30.2.1)), (13, (.pointer (some ⟨b2374, 0, none⟩))), (10, (.pointer (some ⟨i4.2.2.1, 0, none⟩))), (2, (.int .u8 p2))]) (fun _ i30 => i30.1 :: slO i30.2.1 60 en_Vvitrineref20_Entry i30.2.2.1 :: blk b2374 (.cells (List.toArray [(.int .u8 d6.1.AID), (.bool d6.1.Short), (.int .i64 d6.1.Cursor), (SV.val i6.2.1)]) 65 (0, 0)) :: blk i4.2.2.1 (.cells (List.toArray [(.int .i64 d4.2.Model), (.bool d4.2.Alt), (.int .i64 d4.2.Size.Rows), (.int .i64 d4.2.Size.Cols), (SV.val i4.2.2.2), (.int .i64 d4.2.Cursor)]) 41 (0, 0)) :: slE 5 (enI .u8) (fun y : Ventry_Entry => y.Text) i6.2.1 109 en_Ventry_Entry i30.2.2.2 :: slO i4.2.2.2 48 en_Vapi_Cell d4.2.L :: R) ?_ ?_
              · refine c_cond (b := ((d29.length : Int) == 0)) rfl (fun hb2629 => ?_) (fun hb2629 => ?_)
                · replace h := cond_t hb2629 h
                  refine c_seq ?_
                  refine c_region ?_
                  refine o1 rfl (o_p rfl ?_)
                  refine o_end ?_
                  refine e_seq ?_
                  refine c_seq ?_
                  refine c_seq ?_
                  refine c_region ?_
                  refine o1 rfl (o_p rfl ?_)
                  refine o1 rfl (o_p rfl ?_)
                  refine o1 rfl (o_fa (fd := ⟨ "L", 39, 4, false, "", "", 32⟩) rfl rfl rfl rfl rfl ?_)
                  refine o1 rfl (o_ld (b := i4.2.2.1) (off := 4) (v := (SV.val i4.2.2.2)) rfl rm1 rfl rfl ?_)
                  refine o1 rfl (o_len (s := i4.2.2.2) rfl rfl rfl rm2 (rd_own _ _ _ _) ?_)
                  refine o1 rfl (o_p rfl ?_)
                  refine o_end ?_
                  refine e_seq ?_
                  replace h := bsome h
                  obtain ⟨d31, h, hk31⟩ := h
                  refine cj (D := Unit) (ι := SV) (fun _ i31 => True) (fun _ i31 => [(21, (SV.val i31)), (15, (SV.val i15.2.1)), (13, (.pointer (some ⟨b2374, 0, none⟩))), (10, (.pointer (some ⟨i4.2.2.1, 0, none⟩))), (2, (.int .u8 p2))]) (fun _ i31 => i15.1 :: slO i31 5 (enI .u8) d31 :: slO i15.2.1 60 en_Vvitrineref20_Entry i15.2.2.1 :: blk b2374 (.cells (List.toArray [(.int .u8 d6.1.AID), (.bool d6.1.Short), (.int .i64 d6.1.Cursor), (SV.val i6.2.1)]) 65 (0, 0)) :: blk i4.2.2.1 (.cells (List.toArray [(.int .i64 d4.2.Model), (.bool d4.2.Alt), (.int .i64 d4.2.Size.Rows), (.int .i64 d4.2.Size.Cols), (SV.val i4.2.2.2), (.int .i64 d4.2.Cursor)]) 41 (0, 0)) :: slE 5 (enI .u8) (fun y : Ventry_Entry => y.Text) i6.2.1 109 en_Ventry_Entry i15.2.2.2 :: slO i4.2.2.2 48 en_Vapi_Cell d4.2.L :: R) ?_ ?_
                  · refine c_block ?_
                    refine c_add (slO SV.nil 5 (enI .u8) []) (slO_nil _ _ _) ?_
                    refine c_loop (l_sub (sc rfl (sc rfl (sc rfl (sc rfl (sc rfl (sc rfl (sc rfl (sc rfl sn)))))))) (l_keep (kc rm1 (kc rm2 (kc rm0 (kc rm2 (kc rm2 (kc rm0 (kc rm1 (kd kr)))))))) (lf (X := Int × (List Int)) (ι := SV) (fun k x => vitrinelaw20_EntryModified_l32 d4 k x) _ (fun x32 i32 => True) (fun x32 i32 => [(131, (.int .i64 x32.1)), (130, (.int .i64 (d4.2.L.length : Int))), (129, (SV.val i4.2.2.2)), (21, (SV.val i32)), (15, (SV.val i15.2.1)), (13, (.pointer (some ⟨b2374, 0, none⟩))), (10, (.pointer (some ⟨i4.2.2.1, 0, none⟩))), (2, (.int .u8 p2))]) (fun x32 i32 => i15.1 :: slO i4.2.2.2 48 en_Vapi_Cell d4.2.L :: slO i32 5 (enI .u8) x32.2 :: slO i15.2.1 60 en_Vvitrineref20_Entry i15.2.2.1 :: blk b2374 (.cells (List.toArray [(.int .u8 d6.1.AID), (.bool d6.1.Short), (.int .i64 d6.1.Cursor), (SV.val i6.2.1)]) 65 (0, 0)) :: blk i4.2.2.1 (.cells (List.toArray [(.int .i64 d4.2.Model), (.bool d4.2.Alt), (.int .i64 d4.2.Size.Rows), (.int .i64 d4.2.Size.Cols), (SV.val i4.2.2.2), (.int .i64 d4.2.Cursor)]) 41 (0, 0)) :: slE 5 (enI .u8) (fun y : Ventry_Entry => y.Text) i6.2.1 109 en_Ventry_Entry i15.2.2.2 :: R) (fun _ => rfl) ?_ fuel (0, ([] : List Int)) SV.nil trivial h)))
                    clear h
                    rintro k32 ih32 x32 i32 _ h
                    rw [vitrinelaw20_EntryModified_l32.eq_2] at h
                    refine l_round ?_
                    refine c_seq ?_
                    refine c_region ?_
                    refine o1 rfl (o_p (v := (.bool (decide (x32.1 < (d4.2.L.length : Int))))) rfl ?_)
                    refine o_end ?_
                    refine e_seq ?_
                    refine c_seq ?_
                    refine c_cond (b := (decide (x32.1 < (d4.2.L.length : Int)))) rfl (fun hb2656 => ?_) (fun hb2656 => ?_)
                    · replace h := cond_t hb2656 h
                      refine c_skip ?_
                      refine e_seq ?_
                      refine c_seq ?_
                      refine c_block ?_
                      refine c_seq ?_
                      refine c_region ?_
                      replace h := gsome h
                      obtain ⟨hg2657, h⟩ := h
                      refine o1 rfl (o_ix (s := i4.2.2.2) (n := x32.1) (e := en_Vapi_Cell) rfl rfl rfl rfl rfl rfl rm1 (rd_own _ _ _ _) hg2657 ?_)
                      refine o1 rfl (o_ldE (s := i4.2.2.2) (e := en_Vapi_Cell) (n := x32.1) (f := 0) (v := (.agg (List.toArray [(.int .u8 ((rd d4.2.L x32.1).Char)), (.bool ((rd d4.2.L x32.1).Attr)), (.int .u8 ((rd d4.2.L x32.1).FA)), (.int .u8 ((rd d4.2.L x32.1).High)), (.int .u8 ((rd d4.2.L x32.1).Color)), (.int .u8 ((rd d4.2.L x32.1).f_Set))]))) rfl rm1 (rd_own _ _ _ _) hg2657 rfl rfl ?_)
                      refine o1 rfl (o_alloc (cs := [(.int .u8 0), (.bool false), (.int .u8 0), (.int .u8 0), (.int .u8 0), (.int .u8 0)]) rfl rfl (fun b2658 => ?_))
                      refine o0 (o_st (b := b2658) (off := 0) (vs := [(.int .u8 ((rd d4.2.L x32.1).Char)), (.bool ((rd d4.2.L x32.1).Attr)), (.int .u8 ((rd d4.2.L x32.1).FA)), (.int .u8 ((rd d4.2.L x32.1).High)), (.int .u8 ((rd d4.2.L x32.1).Color)), (.int .u8 ((rd d4.2.L x32.1).f_Set))]) (cs' := [(.int .u8 ((rd d4.2.L x32.1).Char)), (.bool ((rd d4.2.L x32.1).Attr)), (.int .u8 ((rd d4.2.L x32.1).FA)), (.int .u8 ((rd d4.2.L x32.1).High)), (.int .u8 ((rd d4.2.L x32.1).Color)), (.int .u8 ((rd d4.2.L x32.1).f_Set))]) rfl rfl rp0 rfl rfl rfl rfl rfl rfl ?_)
                      refine o_end ?_
                      refine e_seq ?_
                      refine c_seq ?_
                      refine c_region ?_
                      refine o1 rfl (o_fa (fd := ⟨ "Char", 5, 0, false, "", "", 0⟩) rfl rfl rfl rfl rfl ?_)
                      refine o1 rfl (o_ld (b := b2658) (off := 0) (v := (.int .u8 ((rd d4.2.L x32.1).Char))) rfl rm0 rfl rfl ?_)
                      refine o1 rfl (o_p (v := (.bool (((rd d4.2.L x32.1).Char) != 0))) rfl ?_)
                      refine o_end ?_
                      refine e_seq ?_
                      replace h := bsome h
                      obtain ⟨d35, h, hk35⟩ := h
                      refine cj (D := Unit) (ι := SV) (fun _ i35 => True) (fun _ i35 => [(21, (SV.val i35)), (131, (.int .i64 x32.1)), (130, (.int .i64 (d4.2.L.length : Int))), (129, (SV.val i4.2.2.2)), (15, (SV.val i15.2.1)), (13, (.pointer (some ⟨b2374, 0, none⟩))), (10, (.pointer (some ⟨i4.2.2.1, 0, none⟩))), (2, (.int .u8 p2))]) (fun _ i35 => i15.1 :: slO i35 5 (enI .u8) d35 :: slO i4.2.2.2 48 en_Vapi_Cell d4.2.L :: slO i15.2.1 60 en_Vvitrineref20_Entry i15.2.2.1 :: blk b2374 (.cells (List.toArray [(.int .u8 d6.1.AID), (.bool d6.1.Short), (.int .i64 d6.1.Cursor), (SV.val i6.2.1)]) 65 (0, 0)) :: blk i4.2.2.1 (.cells (List.toArray [(.int .i64 d4.2.Model), (.bool d4.2.Alt), (.int .i64 d4.2.Size.Rows), (.int .i64 d4.2.Size.Cols), (SV.val i4.2.2.2), (.int .i64 d4.2.Cursor)]) 41 (0, 0)) :: slE 5 (enI .u8) (fun y : Ventry_Entry => y.Text) i6.2.1 109 en_Ventry_Entry i15.2.2.2 :: R) ?_ ?_
                      · refine c_cond (b := (((rd d4.2.L x32.1).Char) != 0)) rfl (fun hb2660 => ?_) (fun hb2660 => ?_)
                        · replace h := cond_t hb2660 h
                          refine c_region ?_
                          refine o1 rfl (o_p rfl ?_)
                          refine o1 rfl (o_fa (fd := ⟨ "Char", 5, 0, false, "", "", 0⟩) rfl rfl rfl rfl rfl ?_)
                          refine o1 rfl (o_ld (b := b2658) (off := 0) (v := (.int .u8 ((rd d4.2.L x32.1).Char))) rfl rm0 rfl rfl ?_)
                          replace h := bsome h
                          obtain ⟨d36, h36, h⟩ := h
                          refine o1 rfl (o_call has43 rfl (c_vitrinelaw20_sent i15.1 ((rd d4.2.L x32.1).Char) _ h36) (pc rm1 pn) ?_)
                          refine o1 rfl (o_bs (e := (enI .u8)) (l := [d36]) (zs := [(.int .u8 0)]) rfl rfl rfl rfl rfl rfl rfl rfl rfl rfl (fun s2661 => ?_))
                          replace h := gsome h
                          obtain ⟨hg2663, h⟩ := h
                          refine o1 rfl (o_app (s := i32) (r := s2661) (e := (enI .u8)) (l := x32.2) (l2 := [d36]) (zs := [(.int .u8 0)]) rfl rfl rfl rfl rfl rfl rfl rfl rfl rfl rfl rm4 rm0 (rd_own _ _ _ _) hg2663 (fun s2664 => ?_))
                          refine o1 rfl (o_p rfl ?_)
                          refine o_end ?_
                          have hd := Option.some.inj h
                          subst hd
                          exact ej () s2664 trivial (sc rfl (sc rfl (sc rfl (sc rfl (sc rfl (sc rfl (sc rfl (sc rfl sn)))))))) (kc rm2 (kc rm0 (kc rm2 (kc rm2 (kc rm2 (kc rm2 (kc rm2 (kd (kd kr)))))))))
                        · replace h := cond_f hb2660 h
                          refine c_skip ?_
                          have hd := Option.some.inj h
                          subst hd
                          exact ej () i32 trivial (sc rfl (sc rfl (sc rfl (sc rfl (sc rfl (sc rfl (sc rfl (sc rfl sn)))))))) (kc rm1 (kc rm2 (kc rm1 (kc rm1 (kc rm1 (kc rm1 (kc rm1 (kd kr))))))))
                      · rintro _ i35 _
                        replace h := hk35
                        clear hk35
                        refine e_blk ?_
                        refine e_seq ?_
                        refine c_region ?_
                        refine o1 rfl (o_p (v := (.int .i64 (w64 (x32.1 + 1)))) rfl ?_)
                        refine o1 rfl (o_p rfl ?_)
                        refine o_end ?_
                        exact e_loop (l_sub (sc rfl (sc rfl (sc rfl (sc rfl (sc rfl (sc rfl (sc rfl (sc rfl sn)))))))) (l_keep (kc rm0 (kc rm1 (kc rm0 (kc rm0 (kc rm0 (kc rm0 (kc rm0 kr))))))) (ih32 (w64 (x32.1 + 1), d35) i35 trivial h)))
                    · replace h := cond_f hb2656 h
                      refine c_exit ?_
                      refine e_then_exit ?_
                      refine e_then_exit ?_
                      refine e_blk_exit ?_
                      have hd := Option.some.inj h
                      subst hd
                      exact ej () i32 trivial (sc rfl (sc rfl (sc rfl (sc rfl (sc rfl sn))))) (kc rm0 (kc rm1 (kc rm1 (kc rm1 (kc rm1 (kc rm1 (kc rm0 kr)))))))
                  · rintro _ i31 _
                    replace h := hk31
                    clear hk31
                    refine e_seq ?_
                    refine c_seq ?_
                    refine c_region ?_
                    refine o1 rfl (o_p rfl ?_)
                    refine o1 rfl (o_len (s := i31) rfl rfl rfl rm1 (rd_own _ _ _ _) ?_)
                    refine o1 rfl (o_p (v := (.bool (decide ((d31.length : Int) > 0)))) rfl ?_)
                    refine o_end ?_
                    refine e_seq ?_
                    refine c_cond (b := (decide ((d31.length : Int) > 0))) rfl (fun hb2670 => ?_) (fun hb2670 => ?_)
                    · replace h := cond_t hb2670 h
                      refine c_region ?_
                      refine o1 rfl (o_p rfl ?_)
                      refine o1 rfl (o_build (fs := [⟨ "Addr", 3, 0, false, "", "", 0⟩, ⟨ "Text", 31, 1, false, "", "", 8⟩]) (ps := [(0, 1), (1, 1)]) (cs := [(.int .i64 0), (SV.val i31)]) rfl rfl rfl rfl rfl ?_)
                      refine o_fz rm1 rm0 (fun X2671 hx2672 hs2673 => ?_)
                      refine o1 rfl (o_bs (e := en_Vvitrineref20_Entry) (l := [((⟨0, d31⟩ : Vvitrineref20_Entry), i31)]) (zs := [(.int .i64 0), (SV.val SV.nil)]) rfl rfl rfl rfl rfl rfl rfl rfl rfl rfl (fun s2674 => ?_))
                      refine o1 rfl (o_p rfl ?_)
                      refine o_end ?_
                      have hd := Option.some.inj h
                      subst hd
                      exact ej () (X2671, s2674, [((⟨0, d31⟩ : Vvitrineref20_Entry), i31)], i15.2.2.2) ⟨(NL.cons (D := D_Vvitrineref20_Entry X2671) (x := (⟨0, d31⟩ : Vvitrineref20_Entry)) (s := i31) hs2673 NL.nil), f15_1, (Ext.trans f15_2 hx2672)⟩ (sc rfl (sc rfl (sc rfl (sc rfl sn)))) (kc rm1 (kc rm0 (kc rm1 (kc rm1 (kc rm1 (kc rm1 (kd kr)))))))
                    · replace h := cond_f hb2670 h
                      refine c_skip ?_
                      have hd := Option.some.inj h
                      subst hd
                      exact ej () (i15.1, i15.2.1, i15.2.2.1, i15.2.2.2) ⟨f15_0, f15_1, f15_2⟩ (sc rfl (sc rfl (sc rfl (sc rfl sn)))) (kc rm0 (kc rm1 (kc rm1 (kc rm1 (kc rm1 (kc rm1 (kd kr)))))))
                · replace h := cond_f hb2629 h
                  refine c_skip ?_
                  have hd := Option.some.inj h
                  subst hd
                  exact ej () (i15.1, i15.2.1, i15.2.2.1, i15.2.2.2) ⟨f15_0, f15_1, f15_2⟩ (sc rfl (sc rfl (sc rfl (sc rfl sn)))) (kc rm0 (kc rm3 (kc rm3 (kc rm0 (kc rm2 (kc rm0 (kd kr)))))))
              · rintro _ i30 ⟨f30_0, f30_1, f30_2⟩
                replace h := hk30
                clear hk30
                refine e_seq ?_
                refine c_seq ?_
                refine c_fzE rm4 rm0 (fun X2678 hx2679 hs2680 hs2680t => ?_)
                refine c_fz rm1 rm0 (fun X2682 hx2683 hs2684 => ?_)
                refine c_draw (n := 2) (q := [(0, 151, (.agg (List.toArray [(.int .u8 d6.1.AID), (.bool d6.1.Short), (.int .i64 d6.1.Cursor), (SV.val i6.2.1)]))), (2, 153, (.int .u8 p2)), (3, 154, (.pointer (some ⟨i4.2.2.1, 0, none⟩))), (4, 155, (.pointer (some ⟨i4.2.2.1, 0, none⟩))), (5, 156, (.pointer (some ⟨i4.2.2.1, 5, none⟩))), (6, 157, (.int .i64 d4.2.Cursor)), (7, 158, (SV.val i30.2.1)), (8, 159, (.agg (List.toArray [(.int .u8 p2), (.bool false), (.int .i64 d4.2.Cursor), (SV.val i30.2.1)])))]) (pend := [0, 2, 3, 4, 5, 6, 7, 8]) rfl rfl rfl ?_
                replace h := bsome h
                obtain ⟨d39, h39, h⟩ := h
                refine ⟨⟨fun _ => ⟨rfl, rfl, rfl, .inl ⟨rfl, (o_ld (b := b2374) (off := 0) (v := (.agg (List.toArray [(.int .u8 d6.1.AID), (.bool d6.1.Short), (.int .i64 d6.1.Cursor), (SV.val i6.2.1)]))) rfl rm1 rfl rfl ⟨rfl, rfl⟩)⟩⟩, fun _ => ⟨rfl, rfl, rfl, .inl ⟨rfl, (o_p rfl ⟨rfl, rfl⟩)⟩⟩, fun _ => ⟨rfl, rfl, rfl, .inl ⟨rfl, (o_p rfl ⟨rfl, rfl⟩)⟩⟩, fun _ => ⟨rfl, rfl, rfl, .inl ⟨rfl, (o_p rfl ⟨rfl, rfl⟩)⟩⟩, fun _ => ⟨rfl, rfl, rfl, .inl ⟨rfl, (o_fa (fd := ⟨ "Cursor", 3, 5, false, "", "", 56⟩) rfl rfl rfl rfl rfl ⟨rfl, rfl⟩)⟩⟩, fun _ => ⟨rfl, rfl, rfl, .inl ⟨rfl, (o_ld (b := i4.2.2.1) (off := 5) (v := (.int .i64 d4.2.Cursor)) rfl rm2 rfl rfl ⟨rfl, rfl⟩)⟩⟩, fun _ => ⟨rfl, rfl, rfl, .inl ⟨rfl, (o_p rfl ⟨rfl, rfl⟩)⟩⟩, fun _ => ⟨rfl, rfl, rfl, .inl ⟨rfl, (o_build (fs := [⟨ "AID", 5, 0, false, "", "", 0⟩, ⟨ "Short", 4, 1, false, "", "", 1⟩, ⟨ "Cursor", 3, 2, false, "", "", 8⟩, ⟨ "Entries", 56, 3, false, "", "", 16⟩]) (ps := [(0, 1), (1, 1), (2, 1), (3, 1)]) (cs := [(.int .u8 p2), (.bool false), (.int .i64 d4.2.Cursor), (SV.val i30.2.1)]) rfl rfl rfl rfl rfl ⟨rfl, rfl⟩)⟩⟩, trivial⟩, rfl, .inr ⟨[1], rfl, rfl, ⟨rfl, .inl rfl, ?_⟩, trivial⟩⟩
                refine (o_call has30 rfl (c_vitrinelaw20_back X2682 (⟨d6.1.AID, d6.1.Short, d6.1.Cursor, d6.1.Entries⟩ : Ventry_Report) i6.2.1 ⟨_, (Rd.ext hs2680 hx2683), (NL.mono (NL.ofE (D := D_Ventry_Entry X2678) f30_1 hs2680t) (D_Ventry_Entry.ext hx2683))⟩ _ h39) (pc rm0 pn) (fun i39 f39_0 => ?_))
                refine ⟨[], [2, 3, 4, 5, 6, 7, 8], rfl, rfl, rfl, rfl, ?_⟩
                replace h := bsome h
                obtain ⟨d40, h40, h⟩ := h
                refine ⟨⟨(fun h => nomatch h), fun _ => ⟨rfl, rfl, rfl, .inl ⟨rfl, (o_p rfl ⟨rfl, rfl⟩)⟩⟩, fun _ => ⟨rfl, rfl, rfl, .inl ⟨rfl, (o_p rfl ⟨rfl, rfl⟩)⟩⟩, fun _ => ⟨rfl, rfl, rfl, .inl ⟨rfl, (o_p rfl ⟨rfl, rfl⟩)⟩⟩, fun _ => ⟨rfl, rfl, rfl, .inl ⟨rfl, (o_fa (fd := ⟨ "Cursor", 3, 5, false, "", "", 56⟩) rfl rfl rfl rfl rfl ⟨rfl, rfl⟩)⟩⟩, fun _ => ⟨rfl, rfl, rfl, .inl ⟨rfl, (o_ld (b := i4.2.2.1) (off := 5) (v := (.int .i64 d4.2.Cursor)) rfl rm3 rfl rfl ⟨rfl, rfl⟩)⟩⟩, fun _ => ⟨rfl, rfl, rfl, .inl ⟨rfl, (o_p rfl ⟨rfl, rfl⟩)⟩⟩, fun _ => ⟨rfl, rfl, rfl, .inl ⟨rfl, (o_build (fs := [⟨ "AID", 5, 0, false, "", "", 0⟩, ⟨ "Short", 4, 1, false, "", "", 1⟩, ⟨ "Cursor", 3, 2, false, "", "", 8⟩, ⟨ "Entries", 56, 3, false, "", "", 16⟩]) (ps := [(0, 1), (1, 1), (2, 1), (3, 1)]) (cs := [(.int .u8 p2), (.bool false), (.int .i64 d4.2.Cursor), (SV.val i30.2.1)]) rfl rfl rfl rfl rfl ⟨rfl, rfl⟩)⟩⟩, trivial⟩, rfl, .inr ⟨[9], rfl, rfl, ⟨rfl, .inl rfl, ?_⟩, trivial⟩⟩
                refine (o_call has29 rfl (c_vitrineref20_Same_2 X2682 (⟨d39.AID, d39.Short, d39.Cursor, d39.Entries⟩ : Vvitrineref20_Report) i39.1 i39.2 f39_0 (⟨p2, false, d4.2.Cursor, d30⟩ : Vvitrineref20_Report) i30.2.1 ⟨_, hs2684, (NL.mono f30_0 (D_Vvitrineref20_Entry.ext (Ext.trans hx2679 hx2683)))⟩ _ h40) (pc rm0 (pc rm0 pn)) ?_)
                refine ⟨[(10, 8, (.bool d40))], [10], rfl, rfl, rfl, rfl, ?_⟩
                refine ⟨⟨fun _ => ⟨rfl, rfl, rfl, .inl ⟨rfl, (o_p rfl ⟨rfl, rfl⟩)⟩⟩, (fun h => nomatch h), (fun h => nomatch h), (fun h => nomatch h), (fun h => nomatch h), (fun h => nomatch h), (fun h => nomatch h), (fun h => nomatch h), (fun h => nomatch h), trivial⟩, rfl, rfl, rfl, ?_⟩
                refine e_seq ?_
                refine c_ret ?_
                refine e_ret ?_
                refine r_endt rfl rfl (kc rm0 (kd (kd (kd kr)))) ?_
                have hr := Option.some.inj h
                subst hr
                exact hk X2682 (Ext.trans (Ext.trans f30_2 hx2679) hx2683)

end Go.Vt
