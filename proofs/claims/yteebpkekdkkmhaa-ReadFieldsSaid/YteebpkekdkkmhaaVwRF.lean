/- The walks: each function does what its model says. No conditions. -/
import Derived.Test.YteebpkekdkkmhaaVwRFb
set_option linter.unusedVariables false
set_option maxRecDepth 100000
set_option maxHeartbeats 4000000
namespace Go.Vt
open Go.Proofs
theorem c_vitrineref19_character {g : Gw} (X : HP) (p0 : Vapi_Cell) (p1 : Vapi_Cell) (p2 : Int) (r : (List Int)) (h : m_vitrineref19_character p0 p1 p2 = some r) : Tri env g 57 (List.toArray [(.agg (List.toArray [(.int .u8 p0.Char), (.bool p0.Attr), (.int .u8 p0.FA), (.int .u8 p0.High), (.int .u8 p0.Color), (.int .u8 p0.f_Set)])), (.agg (List.toArray [(.int .u8 p1.Char), (.bool p1.Attr), (.int .u8 p1.FA), (.int .u8 p1.High), (.int .u8 p1.Color), (.int .u8 p1.f_Set)])), (.int .i64 p2)]) [X] (fun K R => ∀ (i0 : SV), K (SV.val i0) (X :: slO i0 5 (enI .u8) r :: R)) := by
  refine tri_of (fn := Try.f57) (N := 45) Try.func57 rfl rfl rfl ?_
  intro R K hk
  unfold m_vitrineref19_character at h
  change GC _ none _ [] [(0, (.agg (List.toArray [(.int .u8 p0.Char), (.bool p0.Attr), (.int .u8 p0.FA), (.int .u8 p0.High), (.int .u8 p0.Color), (.int .u8 p0.f_Set)]))), (1, (.agg (List.toArray [(.int .u8 p1.Char), (.bool p1.Attr), (.int .u8 p1.FA), (.int .u8 p1.High), (.int .u8 p1.Color), (.int .u8 p1.f_Set)]))), (2, (.int .i64 p2))] (X :: R) g _ _
  refine c_seq ?_
  refine c_region ?_
  refine o1 rfl (o_box (cs := [(.int .u8 p0.Char), (.bool p0.Attr), (.int .u8 p0.FA), (.int .u8 p0.High), (.int .u8 p0.Color), (.int .u8 p0.f_Set)]) rfl rfl (fun b1937 => ?_))
  refine o1 rfl (o_box (cs := [(.int .u8 p1.Char), (.bool p1.Attr), (.int .u8 p1.FA), (.int .u8 p1.High), (.int .u8 p1.Color), (.int .u8 p1.f_Set)]) rfl rfl (fun b1939 => ?_))
  refine o1 rfl (o_p rfl ?_)
  refine o_end ?_
  refine e_seq ?_
  refine c_seq ?_
  refine c_region ?_
  refine o1 rfl (o_p rfl ?_)
  refine o_end ?_
  refine e_seq ?_
  refine c_seq ?_
  refine c_seq ?_
  refine c_region ?_
  refine o1 rfl (o_p rfl ?_)
  refine o1 rfl (o_p (v := (.bool (p2 == 2))) rfl ?_)
  refine o_end ?_
  refine e_seq ?_
  replace h := bsome h
  obtain ⟨d1, h, hk1⟩ := h
  refine cj (D := Unit) (ι := SV) (fun _ i1 => True) (fun _ i1 => [(7, (SV.val i1)), (3, (.pointer (some ⟨b1937, 0, none⟩)))]) (fun _ i1 => X :: slO i1 5 (enI .u8) d1 :: blk b1937 (.cells (List.toArray [(.int .u8 p0.Char), (.bool p0.Attr), (.int .u8 p0.FA), (.int .u8 p0.High), (.int .u8 p0.Color), (.int .u8 p0.f_Set)]) 48 (0, 0)) :: R) ?_ ?_
  · refine c_cond (b := (p2 == 2)) rfl (fun hb1941 => ?_) (fun hb1941 => ?_)
    · replace h := cond_t hb1941 h
      refine c_seq ?_
      refine c_region ?_
      refine o1 rfl (o_ld (b := b1939) (off := 0) (v := (.agg (List.toArray [(.int .u8 p1.Char), (.bool p1.Attr), (.int .u8 p1.FA), (.int .u8 p1.High), (.int .u8 p1.Color), (.int .u8 p1.f_Set)]))) rfl rm0 rfl rfl ?_)
      refine o1 rfl (o_ld (b := b1937) (off := 0) (v := (.agg (List.toArray [(.int .u8 p0.Char), (.bool p0.Attr), (.int .u8 p0.FA), (.int .u8 p0.High), (.int .u8 p0.Color), (.int .u8 p0.f_Set)]))) rfl rm1 rfl rfl ?_)
      replace h := bsome h
      obtain ⟨d2, h2, h⟩ := h
      refine o1 rfl (o_call has76 rfl (c_vitrineref05_Diff X p1 p0 _ h2) (pc rm2 pn) (fun i2 => ?_))
      refine o1 rfl (o_len (s := i2) rfl rfl rfl rm1 (rd_own _ _ _ _) ?_)
      refine o1 rfl (o_p rfl ?_)
      refine o_end ?_
      refine e_seq ?_
      replace h := bsome h
      obtain ⟨d3, h, hk3⟩ := h
      refine cj (D := Unit) (ι := SV) (fun _ i3 => True) (fun _ i3 => [(7, (SV.val i3)), (3, (.pointer (some ⟨b1937, 0, none⟩)))]) (fun _ i3 => X :: slO i3 5 (enI .u8) d3 :: blk b1937 (.cells (List.toArray [(.int .u8 p0.Char), (.bool p0.Attr), (.int .u8 p0.FA), (.int .u8 p0.High), (.int .u8 p0.Color), (.int .u8 p0.f_Set)]) 48 (0, 0)) :: R) ?_ ?_
      · refine c_block ?_
        refine c_add (slO SV.nil 5 (enI .u8) []) (slO_nil _ _ _) ?_
        refine c_loop (l_sub (sc rfl (sc rfl (sc rfl (sc rfl (sc rfl sn))))) (l_keep (kc rm1 (kc rm1 (kc rm0 (kc rm1 (kd kr))))) (lf (X := Int × (List Int)) (ι := SV) (fun k x => vitrineref19_character_l4 d2 k x) _ (fun x4 i4 => True) (fun x4 i4 => [(16, (.int .i64 x4.1)), (15, (.int .i64 (d2.length : Int))), (14, (SV.val i2)), (7, (SV.val i4)), (3, (.pointer (some ⟨b1937, 0, none⟩)))]) (fun x4 i4 => X :: slO i2 160 en_Vvitrineref05_Pair d2 :: slO i4 5 (enI .u8) x4.2 :: blk b1937 (.cells (List.toArray [(.int .u8 p0.Char), (.bool p0.Attr), (.int .u8 p0.FA), (.int .u8 p0.High), (.int .u8 p0.Color), (.int .u8 p0.f_Set)]) 48 (0, 0)) :: R) (fun _ => rfl) ?_ fuel (0, ([] : List Int)) SV.nil trivial h)))
        clear h
        rintro k4 ih4 x4 i4 _ h
        rw [vitrineref19_character_l4.eq_2] at h
        refine l_round ?_
        refine c_seq ?_
        refine c_region ?_
        refine o1 rfl (o_p (v := (.bool (decide (x4.1 < (d2.length : Int))))) rfl ?_)
        refine o_end ?_
        refine e_seq ?_
        refine c_seq ?_
        refine c_cond (b := (decide (x4.1 < (d2.length : Int)))) rfl (fun hb1992 => ?_) (fun hb1992 => ?_)
        · replace h := cond_t hb1992 h
          refine c_skip ?_
          refine e_seq ?_
          refine c_seq ?_
          refine c_block ?_
          refine c_seq ?_
          refine c_region ?_
          replace h := gsome h
          obtain ⟨hg1993, h⟩ := h
          refine o1 rfl (o_ix (s := i2) (n := x4.1) (e := en_Vvitrineref05_Pair) rfl rfl rfl rfl rfl rfl rm1 (rd_own _ _ _ _) hg1993 ?_)
          refine o1 rfl (o_ldE (s := i2) (e := en_Vvitrineref05_Pair) (n := x4.1) (f := 0) (v := (.agg (List.toArray [(.int .u8 ((rd d2 x4.1).f_Type)), (.int .u8 ((rd d2 x4.1).Value))]))) rfl rm1 (rd_own _ _ _ _) hg1993 rfl rfl ?_)
          refine o1 rfl (o_alloc (cs := [(.int .u8 0), (.int .u8 0)]) rfl rfl (fun b1994 => ?_))
          refine o0 (o_st (b := b1994) (off := 0) (vs := [(.int .u8 ((rd d2 x4.1).f_Type)), (.int .u8 ((rd d2 x4.1).Value))]) (cs' := [(.int .u8 ((rd d2 x4.1).f_Type)), (.int .u8 ((rd d2 x4.1).Value))]) rfl rfl rp0 rfl rfl rfl rfl rfl rfl ?_)
          refine o_end ?_
          refine e_seq ?_
          refine c_region ?_
          refine o1 rfl (o_p rfl ?_)
          refine o1 rfl (o_fa (fd := ⟨ "Type", 5, 0, false, "", "", 0⟩) rfl rfl rfl rfl rfl ?_)
          refine o1 rfl (o_ld (b := b1994) (off := 0) (v := (.int .u8 ((rd d2 x4.1).f_Type))) rfl rm0 rfl rfl ?_)
          refine o1 rfl (o_fa (fd := ⟨ "Value", 5, 1, false, "", "", 1⟩) rfl rfl rfl rfl rfl ?_)
          refine o1 rfl (o_ld (b := b1994) (off := 1) (v := (.int .u8 ((rd d2 x4.1).Value))) rfl rm0 rfl rfl ?_)
          refine o1 rfl (o_bs (e := (enI .u8)) (l := [40, (rd d2 x4.1).f_Type, (rd d2 x4.1).Value]) (zs := [(.int .u8 0)]) rfl rfl rfl rfl rfl rfl rfl rfl rfl rfl (fun s1996 => ?_))
          replace h := gsome h
          obtain ⟨hg1998, h⟩ := h
          refine o1 rfl (o_app (s := i4) (r := s1996) (e := (enI .u8)) (l := x4.2) (l2 := [40, (rd d2 x4.1).f_Type, (rd d2 x4.1).Value]) (zs := [(.int .u8 0)]) rfl rfl rfl rfl rfl rfl rfl rfl rfl rfl rfl rm4 rm0 (rd_own _ _ _ _) hg1998 (fun s1999 => ?_))
          refine o1 rfl (o_p rfl ?_)
          refine o_end ?_
          refine e_blk ?_
          refine e_seq ?_
          refine c_region ?_
          refine o1 rfl (o_p (v := (.int .i64 (w64 (x4.1 + 1)))) rfl ?_)
          refine o1 rfl (o_p rfl ?_)
          refine o_end ?_
          exact e_loop (l_sub (sc rfl (sc rfl (sc rfl (sc rfl (sc rfl sn))))) (l_keep (kc rm3 (kc rm3 (kc rm0 (kc rm2 (kd (kd kr)))))) (ih4 (w64 (x4.1 + 1), (x4.2 ++ [40, (rd d2 x4.1).f_Type, (rd d2 x4.1).Value])) s1999 trivial h)))
        · replace h := cond_f hb1992 h
          refine c_exit ?_
          refine e_then_exit ?_
          refine e_then_exit ?_
          refine e_blk_exit ?_
          have hd := Option.some.inj h
          subst hd
          exact ej () i4 trivial (sc rfl (sc rfl sn)) (kc rm0 (kc rm1 (kc rm1 (kd kr))))
      · rintro _ i3 _
        replace h := hk3
        clear hk3
        have hd := Option.some.inj h
        subst hd
        exact ej () i3 trivial (sc rfl (sc rfl sn)) (kc rm0 (kc rm0 (kc rm0 kr)))
    · replace h := cond_f hb1941 h
      refine c_seq ?_
      refine c_region ?_
      refine o1 rfl (o_fa (fd := ⟨ "Set", 5, 5, false, "", "", 5⟩) rfl rfl rfl rfl rfl ?_)
      refine o1 rfl (o_ld (b := b1937) (off := 5) (v := (.int .u8 p0.f_Set)) rfl rm1 rfl rfl ?_)
      refine o1 rfl (o_p (v := (.bool (p0.f_Set == 241))) rfl ?_)
      refine o_end ?_
      refine e_seq ?_
      refine c_cond (b := (p0.f_Set == 241)) rfl (fun hb2004 => ?_) (fun hb2004 => ?_)
      · replace h := cond_t hb2004 h
        refine c_region ?_
        refine o1 rfl (o_p rfl ?_)
        refine o1 rfl (o_bs (e := (enI .u8)) (l := [8]) (zs := [(.int .u8 0)]) rfl rfl rfl rfl rfl rfl rfl rfl rfl rfl (fun s2005 => ?_))
        refine o_add (slO SV.nil 5 (enI .u8) []) (slO_nil _ _ _) ?_
        replace h := gsome h
        obtain ⟨hg2008, h⟩ := h
        refine o1 rfl (o_app (s := SV.nil) (r := s2005) (e := (enI .u8)) (l := ([] : List Int)) (l2 := [8]) (zs := [(.int .u8 0)]) rfl rfl rfl rfl rfl rfl rfl rfl rfl rfl rfl rm0 rm0 (rd_own _ _ _ _) hg2008 (fun s2009 => ?_))
        refine o1 rfl (o_p rfl ?_)
        refine o_end ?_
        have hd := Option.some.inj h
        subst hd
        exact ej () s2009 trivial (sc rfl (sc rfl sn)) (kc rm4 (kc rm0 (kc rm2 (kd (kd kr)))))
      · replace h := cond_f hb2004 h
        refine c_skip ?_
        refine e_add (slO SV.nil 5 (enI .u8) []) (slO_nil _ _ _) ?_
        have hd := Option.some.inj h
        subst hd
        exact ej () SV.nil trivial (sc rfl (sc rfl sn)) (kc rm3 (kc rm0 (kc rm1 (kd kr))))
  · rintro _ i1 _
    replace h := hk1
    clear hk1
    refine e_seq ?_
    refine c_seq ?_
    refine c_seq ?_
    refine c_region ?_
    refine o1 rfl (o_fa (fd := ⟨ "Char", 5, 0, false, "", "", 0⟩) rfl rfl rfl rfl rfl ?_)
    refine o1 rfl (o_ld (b := b1937) (off := 0) (v := (.int .u8 p0.Char)) rfl rm2 rfl rfl ?_)
    replace h := bsome h
    obtain ⟨d7, h7, h⟩ := h
    refine o1 rfl (o_call has62 rfl (c_vitrineref16_Is X p0.Char _ h7) (pc rm0 pn) ?_)
    refine o_end ?_
    refine e_seq ?_
    refine c_cond (b := d7) rfl (fun hb2012 => ?_) (fun hb2012 => ?_)
    · replace h := cond_t hb2012 h
      refine c_seq ?_
      refine c_region ?_
      refine o1 rfl (o_p rfl ?_)
      refine o1 rfl (o_bs (e := (enI .u8)) (l := [63]) (zs := [(.int .u8 0)]) rfl rfl rfl rfl rfl rfl rfl rfl rfl rfl (fun s2013 => ?_))
      replace h := gsome h
      obtain ⟨hg2015, h⟩ := h
      refine o1 rfl (o_app (s := i1) (r := s2013) (e := (enI .u8)) (l := d1) (l2 := [63]) (zs := [(.int .u8 0)]) rfl rfl rfl rfl rfl rfl rfl rfl rfl rfl rfl rm2 rm0 (rd_own _ _ _ _) hg2015 (fun s2016 => ?_))
      refine o1 rfl (o_p rfl ?_)
      refine o_end ?_
      refine e_seq ?_
      refine c_ret ?_
      refine e_then_ret ?_
      refine e_ret ?_
      refine r_endt rfl rfl (kc rm2 (kc rm0 (kd (kd kr)))) ?_
      have hr := Option.some.inj h
      subst hr
      exact hk s2016
    · replace h := cond_f hb2012 h
      refine c_skip ?_
      refine e_seq ?_
      refine c_seq ?_
      refine c_region ?_
      refine o1 rfl (o_p rfl ?_)
      refine o1 rfl (o_fa (fd := ⟨ "Char", 5, 0, false, "", "", 0⟩) rfl rfl rfl rfl rfl ?_)
      refine o1 rfl (o_ld (b := b1937) (off := 0) (v := (.int .u8 p0.Char)) rfl rm2 rfl rfl ?_)
      refine o1 rfl (o_bs (e := (enI .u8)) (l := [p0.Char]) (zs := [(.int .u8 0)]) rfl rfl rfl rfl rfl rfl rfl rfl rfl rfl (fun s2018 => ?_))
      replace h := gsome h
      obtain ⟨hg2020, h⟩ := h
      refine o1 rfl (o_app (s := i1) (r := s2018) (e := (enI .u8)) (l := d1) (l2 := [p0.Char]) (zs := [(.int .u8 0)]) rfl rfl rfl rfl rfl rfl rfl rfl rfl rfl rfl rm2 rm0 (rd_own _ _ _ _) hg2020 (fun s2021 => ?_))
      refine o1 rfl (o_p rfl ?_)
      refine o_end ?_
      refine e_seq ?_
      refine c_ret ?_
      refine e_ret ?_
      refine r_endt rfl rfl (kc rm2 (kc rm0 (kd (kd kr)))) ?_
      have hr := Option.some.inj h
      subst hr
      exact hk s2021

theorem c_vitrineref19_Characters {g : Gw} (X : HP) (p0 : List Vapi_Cell) (s0 : SV) (q0 : Rd X s0 48 en_Vapi_Cell p0) (p1 : Vapi_Cell) (p2 : Int) (r : (List Int) × Vapi_Cell) (h : m_vitrineref19_Characters p0 p1 p2 = some r) : Tri env g 19 (List.toArray [(SV.val s0), (.agg (List.toArray [(.int .u8 p1.Char), (.bool p1.Attr), (.int .u8 p1.FA), (.int .u8 p1.High), (.int .u8 p1.Color), (.int .u8 p1.f_Set)])), (.int .i64 p2)]) [X] (fun K R => ∀ (i0 : SV), K (.tuple (List.toArray [(SV.val i0), (.agg (List.toArray [(.int .u8 r.2.Char), (.bool r.2.Attr), (.int .u8 r.2.FA), (.int .u8 r.2.High), (.int .u8 r.2.Color), (.int .u8 r.2.f_Set)]))])) (X :: slO i0 5 (enI .u8) r.1 :: R)) := by
  refine tri_of (fn := Try.f19) (N := 27) Try.func19 rfl rfl rfl ?_
  intro R K hk
  unfold m_vitrineref19_Characters at h
  change GC _ none _ [] [(0, (SV.val s0)), (1, (.agg (List.toArray [(.int .u8 p1.Char), (.bool p1.Attr), (.int .u8 p1.FA), (.int .u8 p1.High), (.int .u8 p1.Color), (.int .u8 p1.f_Set)]))), (2, (.int .i64 p2))] (X :: R) g _ _
  refine c_seq ?_
  refine c_region ?_
  refine o1 rfl (o_box (cs := [(.int .u8 p1.Char), (.bool p1.Attr), (.int .u8 p1.FA), (.int .u8 p1.High), (.int .u8 p1.Color), (.int .u8 p1.f_Set)]) rfl rfl (fun b1929 => ?_))
  refine o1 rfl (o_p rfl ?_)
  refine o1 rfl (o_alloc (cs := [(.int .u8 0), (.bool false), (.int .u8 0), (.int .u8 0), (.int .u8 0), (.int .u8 0)]) rfl rfl (fun b1931 => ?_))
  refine o_end ?_
  refine e_seq ?_
  refine c_seq ?_
  refine c_region ?_
  refine o1 rfl (o_p rfl ?_)
  refine o_end ?_
  refine e_seq ?_
  refine c_seq ?_
  refine c_seq ?_
  refine c_region ?_
  refine o1 rfl (o_p rfl ?_)
  refine o1 rfl (o_len (s := s0) rfl rfl rfl rm2 q0 ?_)
  refine o1 rfl (o_p rfl ?_)
  refine o_end ?_
  refine e_seq ?_
  replace h := bsome h
  obtain ⟨d1, h, hk1⟩ := h
  refine cj (D := Unit) (ι := SV) (fun _ i1 => True) (fun _ i1 => [(8, (SV.val i1)), (7, (.pointer (some ⟨b1931, 0, none⟩))), (4, (.pointer (some ⟨b1929, 0, none⟩)))]) (fun _ i1 => X :: slO i1 5 (enI .u8) d1.1 :: blk b1931 (.cells (List.toArray [(.int .u8 0), (.bool false), (.int .u8 0), (.int .u8 0), (.int .u8 0), (.int .u8 0)]) 48 (0, 0)) :: blk b1929 (.cells (List.toArray [(.int .u8 d1.2.1), (.bool d1.2.2.1), (.int .u8 d1.2.2.2.1), (.int .u8 d1.2.2.2.2.1), (.int .u8 d1.2.2.2.2.2.1), (.int .u8 d1.2.2.2.2.2.2)]) 48 (0, 0)) :: R) ?_ ?_
  · refine c_block ?_
    refine c_add (slO SV.nil 5 (enI .u8) []) (slO_nil _ _ _) ?_
    refine c_loop (l_sub (sc rfl (sc rfl (sc rfl (sc rfl (sc rfl (sc rfl (sc rfl sn))))))) (l_keep (kc rm3 (kc rm0 (kc rm0 (kc rm0 kr)))) (lf (X := Int × (List Int) × Int × Bool × Int × Int × Int × Int) (ι := SV) (fun k x => vitrineref19_Characters_l2 p0 p2 k x) _ (fun x2 i2 => True) (fun x2 i2 => [(13, (.int .i64 x2.1)), (12, (.int .i64 (p0.length : Int))), (11, (SV.val s0)), (8, (SV.val i2)), (7, (.pointer (some ⟨b1931, 0, none⟩))), (4, (.pointer (some ⟨b1929, 0, none⟩))), (2, (.int .i64 p2))]) (fun x2 i2 => X :: slO i2 5 (enI .u8) x2.2.1 :: blk b1931 (.cells (List.toArray [(.int .u8 0), (.bool false), (.int .u8 0), (.int .u8 0), (.int .u8 0), (.int .u8 0)]) 48 (0, 0)) :: blk b1929 (.cells (List.toArray [(.int .u8 x2.2.2.1), (.bool x2.2.2.2.1), (.int .u8 x2.2.2.2.2.1), (.int .u8 x2.2.2.2.2.2.1), (.int .u8 x2.2.2.2.2.2.2.1), (.int .u8 x2.2.2.2.2.2.2.2)]) 48 (0, 0)) :: R) (fun _ => rfl) ?_ fuel (0, ([] : List Int), p1.Char, p1.Attr, p1.FA, p1.High, p1.Color, p1.f_Set) SV.nil trivial h)))
    clear h
    rintro k2 ih2 x2 i2 _ h
    rw [vitrineref19_Characters_l2.eq_2] at h
    refine l_round ?_
    refine c_seq ?_
    refine c_region ?_
    refine o1 rfl (o_p (v := (.bool (decide (x2.1 < (p0.length : Int))))) rfl ?_)
    refine o_end ?_
    refine e_seq ?_
    refine c_seq ?_
    refine c_cond (b := (decide (x2.1 < (p0.length : Int)))) rfl (fun hb2040 => ?_) (fun hb2040 => ?_)
    · replace h := cond_t hb2040 h
      refine c_skip ?_
      refine e_seq ?_
      refine c_seq ?_
      refine c_block ?_
      refine c_seq ?_
      refine c_region ?_
      replace h := gsome h
      obtain ⟨hg2041, h⟩ := h
      refine o1 rfl (o_ix (s := s0) (n := x2.1) (e := en_Vapi_Cell) rfl rfl rfl rfl rfl rfl rm0 q0 hg2041 ?_)
      refine o1 rfl (o_ldE (s := s0) (e := en_Vapi_Cell) (n := x2.1) (f := 0) (v := (.agg (List.toArray [(.int .u8 ((rd p0 x2.1).Char)), (.bool ((rd p0 x2.1).Attr)), (.int .u8 ((rd p0 x2.1).FA)), (.int .u8 ((rd p0 x2.1).High)), (.int .u8 ((rd p0 x2.1).Color)), (.int .u8 ((rd p0 x2.1).f_Set))]))) rfl rm0 q0 hg2041 rfl rfl ?_)
      refine o1 rfl (o_alloc (cs := [(.int .u8 0), (.bool false), (.int .u8 0), (.int .u8 0), (.int .u8 0), (.int .u8 0)]) rfl rfl (fun b2042 => ?_))
      refine o0 (o_st (b := b2042) (off := 0) (vs := [(.int .u8 ((rd p0 x2.1).Char)), (.bool ((rd p0 x2.1).Attr)), (.int .u8 ((rd p0 x2.1).FA)), (.int .u8 ((rd p0 x2.1).High)), (.int .u8 ((rd p0 x2.1).Color)), (.int .u8 ((rd p0 x2.1).f_Set))]) (cs' := [(.int .u8 ((rd p0 x2.1).Char)), (.bool ((rd p0 x2.1).Attr)), (.int .u8 ((rd p0 x2.1).FA)), (.int .u8 ((rd p0 x2.1).High)), (.int .u8 ((rd p0 x2.1).Color)), (.int .u8 ((rd p0 x2.1).f_Set))]) rfl rfl rp0 rfl rfl rfl rfl rfl rfl ?_)
      refine o_end ?_
      refine e_seq ?_
      refine c_seq ?_
      refine c_region ?_
      refine o1 rfl (o_p rfl ?_)
      refine o1 rfl (o_ld (b := b2042) (off := 0) (v := (.agg (List.toArray [(.int .u8 ((rd p0 x2.1).Char)), (.bool ((rd p0 x2.1).Attr)), (.int .u8 ((rd p0 x2.1).FA)), (.int .u8 ((rd p0 x2.1).High)), (.int .u8 ((rd p0 x2.1).Color)), (.int .u8 ((rd p0 x2.1).f_Set))]))) rfl rm0 rfl rfl ?_)
      refine o1 rfl (o_ld (b := b1929) (off := 0) (v := (.agg (List.toArray [(.int .u8 x2.2.2.1), (.bool x2.2.2.2.1), (.int .u8 x2.2.2.2.2.1), (.int .u8 x2.2.2.2.2.2.1), (.int .u8 x2.2.2.2.2.2.2.1), (.int .u8 x2.2.2.2.2.2.2.2)]))) rfl rm4 rfl rfl ?_)
      refine o1 rfl (o_p rfl ?_)
      replace h := bsome h
      obtain ⟨d5, h5, h⟩ := h
      refine o1 rfl (o_call has57 rfl (c_vitrineref19_character X (rd p0 x2.1) (⟨x2.2.2.1, x2.2.2.2.1, x2.2.2.2.2.1, x2.2.2.2.2.2.1, x2.2.2.2.2.2.2.1, x2.2.2.2.2.2.2.2⟩ : Vapi_Cell) p2 _ h5) (pc rm1 pn) (fun i5 => ?_))
      replace h := gsome h
      obtain ⟨hg2045, h⟩ := h
      refine o1 rfl (o_app (s := i2) (r := i5) (e := (enI .u8)) (l := x2.2.1) (l2 := d5) (zs := [(.int .u8 0)]) rfl rfl rfl rfl rfl rfl rfl rfl rfl rfl rfl rm3 rm1 (rd_own _ _ _ _) hg2045 (fun s2046 => ?_))
      refine o1 rfl (o_p rfl ?_)
      refine o_end ?_
      refine e_seq ?_
      refine c_region ?_
      refine o1 rfl (o_ld (b := b2042) (off := 0) (v := (.agg (List.toArray [(.int .u8 ((rd p0 x2.1).Char)), (.bool ((rd p0 x2.1).Attr)), (.int .u8 ((rd p0 x2.1).FA)), (.int .u8 ((rd p0 x2.1).High)), (.int .u8 ((rd p0 x2.1).Color)), (.int .u8 ((rd p0 x2.1).f_Set))]))) rfl rm3 rfl rfl ?_)
      refine o0 (o_st (b := b1929) (off := 0) (vs := [(.int .u8 ((rd p0 x2.1).Char)), (.bool ((rd p0 x2.1).Attr)), (.int .u8 ((rd p0 x2.1).FA)), (.int .u8 ((rd p0 x2.1).High)), (.int .u8 ((rd p0 x2.1).Color)), (.int .u8 ((rd p0 x2.1).f_Set))]) (cs' := [(.int .u8 ((rd p0 x2.1).Char)), (.bool ((rd p0 x2.1).Attr)), (.int .u8 ((rd p0 x2.1).FA)), (.int .u8 ((rd p0 x2.1).High)), (.int .u8 ((rd p0 x2.1).Color)), (.int .u8 ((rd p0 x2.1).f_Set))]) rfl rfl rp5 rfl rfl rfl rfl rfl rfl ?_)
      refine o_end ?_
      refine e_blk ?_
      refine e_seq ?_
      refine c_region ?_
      refine o1 rfl (o_p (v := (.int .i64 (w64 (x2.1 + 1)))) rfl ?_)
      refine o1 rfl (o_p rfl ?_)
      refine o_end ?_
      exact e_loop (l_sub (sc rfl (sc rfl (sc rfl (sc rfl (sc rfl (sc rfl (sc rfl sn))))))) (l_keep (kc rm1 (kc rm0 (kc rm2 (kc rm2 (kd (kd kr)))))) (ih2 (w64 (x2.1 + 1), (x2.2.1 ++ d5), (rd p0 x2.1).Char, (rd p0 x2.1).Attr, (rd p0 x2.1).FA, (rd p0 x2.1).High, (rd p0 x2.1).Color, (rd p0 x2.1).f_Set) s2046 trivial h)))
    · replace h := cond_f hb2040 h
      refine c_exit ?_
      refine e_then_exit ?_
      refine e_then_exit ?_
      refine e_blk_exit ?_
      have hd := Option.some.inj h
      subst hd
      exact ej () i2 trivial (sc rfl (sc rfl (sc rfl sn))) (kc rm0 (kc rm0 (kc rm0 (kc rm0 kr))))
  · rintro _ i1 _
    replace h := hk1
    clear hk1
    refine e_seq ?_
    refine c_seq ?_
    refine c_draw (n := 1) (q := [(0, 25, (SV.val i1)), (1, 26, (.agg (List.toArray [(.int .u8 d1.2.1), (.bool d1.2.2.1), (.int .u8 d1.2.2.2.1), (.int .u8 d1.2.2.2.2.1), (.int .u8 d1.2.2.2.2.2.1), (.int .u8 d1.2.2.2.2.2.2)]))), (2, 6, (SV.val i1))]) (pend := [0, 1, 2]) rfl rfl rfl ?_
    refine ⟨⟨fun _ => ⟨rfl, rfl, rfl, .inl ⟨rfl, (o_p rfl ⟨rfl, rfl⟩)⟩⟩, fun _ => ⟨rfl, rfl, rfl, .inl ⟨rfl, (o_ld (b := b1929) (off := 0) (v := (.agg (List.toArray [(.int .u8 d1.2.1), (.bool d1.2.2.1), (.int .u8 d1.2.2.2.1), (.int .u8 d1.2.2.2.2.1), (.int .u8 d1.2.2.2.2.2.1), (.int .u8 d1.2.2.2.2.2.2)]))) rfl rm3 rfl rfl ⟨rfl, rfl⟩)⟩⟩, fun _ => ⟨rfl, rfl, rfl, .inl ⟨rfl, (o_p rfl ⟨rfl, rfl⟩)⟩⟩, trivial⟩, rfl, .inr ⟨[3], rfl, rfl, ⟨rfl, .inl rfl, ?_⟩, trivial⟩⟩
    refine (o_st (b := b1931) (off := 0) (vs := [(.int .u8 d1.2.1), (.bool d1.2.2.1), (.int .u8 d1.2.2.2.1), (.int .u8 d1.2.2.2.2.1), (.int .u8 d1.2.2.2.2.2.1), (.int .u8 d1.2.2.2.2.2.2)]) (cs' := [(.int .u8 d1.2.1), (.bool d1.2.2.1), (.int .u8 d1.2.2.2.1), (.int .u8 d1.2.2.2.2.1), (.int .u8 d1.2.2.2.2.2.1), (.int .u8 d1.2.2.2.2.2.2)]) rfl rfl rp2 rfl rfl rfl rfl rfl rfl ?_)
    refine ⟨[], [], rfl, rfl, ?_⟩
    refine ⟨⟨(fun h => nomatch h), (fun h => nomatch h), (fun h => nomatch h), trivial⟩, rfl, rfl, rfl, ?_⟩
    refine e_seq ?_
    refine c_ret ?_
    refine e_ret ?_
    refine r_endc (B := [[(.int .u8 d1.2.1), (.bool d1.2.2.1), (.int .u8 d1.2.2.2.1), (.int .u8 d1.2.2.2.2.1), (.int .u8 d1.2.2.2.2.2.1), (.int .u8 d1.2.2.2.2.2.2)]]) rfl ⟨⟨_, _, _, _, rfl, rm2⟩, trivial⟩ rfl (kc rm0 (kc rm0 (kd (kd kr)))) ?_
    have hr := Option.some.inj h
    subst hr
    exact hk i1

theorem c_vitrinelaw19_ReadFields {g : Gw} (X : HP) (p0 : Int) (p1 : List Vvitrineref12_Act) (s0 : SV) (q0r : RdN X s0 94 en_Vvitrineref12_Act D_Vvitrineref12_Act p1) (p2 : Int) (r : Bool) (h : m_vitrinelaw19_ReadFields p0 p1 p2 = some r) : Tri env g 3 (List.toArray [(.int .u8 p0), (SV.val s0), (.int .u8 p2)]) [X] (fun K R => ∀ (i0 : HP), (Ext X i0) → K (.bool r) (i0 :: R)) := by
  refine tri_of (fn := Try.f3) (N := 117) Try.func3 rfl rfl rfl ?_
  intro R K hk
  obtain ⟨L_q0, q0, n_q0⟩ := q0r
  unfold m_vitrinelaw19_ReadFields at h
  change GC _ none _ [] [(0, (.int .u8 p0)), (1, (SV.val s0)), (2, (.int .u8 p2))] (X :: R) g _ _
  refine c_seq ?_
  refine c_region ?_
  refine o1 rfl (o_p rfl ?_)
  refine o_end ?_
  refine e_seq ?_
  refine c_seq ?_
  refine c_seq ?_
  refine c_region ?_
  replace h := bsome h
  obtain ⟨d1, h1, h⟩ := h
  refine o1 rfl (o_call has10 rfl (c_vitrinelaw19_awake X _ h1) (pc rm0 pn) (fun i1 f1_0 => ?_))
  refine o1 rfl (o_p (v := (.bool (!d1))) rfl ?_)
  refine o_end ?_
  refine e_seq ?_
  refine c_cond (b := (!d1)) rfl (fun hb1778 => ?_) (fun hb1778 => ?_)
  · replace h := cond_t hb1778 h
    refine c_seq ?_
    refine c_region ?_
    refine o1 rfl (o_p rfl ?_)
    refine o_end ?_
    refine e_seq ?_
    refine c_ret ?_
    refine e_then_ret ?_
    refine e_ret ?_
    refine r_endt rfl rfl (kc rm0 kr) ?_
    have hr := Option.some.inj h
    subst hr
    exact hk i1 f1_0
  · replace h := cond_f hb1778 h
    refine c_skip ?_
    refine e_seq ?_
    refine c_seq ?_
    refine c_region ?_
    refine o1 rfl (o_p rfl ?_)
    refine o1 rfl (o_p rfl ?_)
    replace h := bsome h
    obtain ⟨d4, h4, h⟩ := h
    refine o1 rfl (o_call has11 rfl (c_vitrinelaw19_lay i1 p0 p1 s0 ⟨_, (Rd.ext q0 f1_0), (NL.mono n_q0 (D_Vvitrineref12_Act.ext f1_0))⟩ _ h4) (pc rm0 pn) (fun i4 => ?_))
    refine o1 rfl (o_p rfl ?_)
    refine o1 rfl (o_p rfl ?_)
    refine o1 rfl (o_p rfl ?_)
    refine o1 rfl (o_p rfl ?_)
    refine o1 rfl (o_p rfl ?_)
    refine o_end ?_
    refine e_seq ?_
    refine c_seq ?_
    refine c_seq ?_
    replace h := bsome h
    obtain ⟨d5, h, hk5⟩ := h
    refine cj (D := Unit) (ι := Unit) (fun _ i5 => True) (fun _ i5 => [(36, (.bool d5)), (8, (.pointer (some ⟨i4.2.2.1, 0, none⟩))), (7, (.pointer (some ⟨i4.1, 0, none⟩))), (2, (.int .u8 p2))]) (fun _ i5 => i1 :: blk i4.2.2.1 (.cells (List.toArray [(.int .i64 d4.2.Model), (.bool d4.2.Alt), (.int .i64 d4.2.Size.Rows), (.int .i64 d4.2.Size.Cols), (SV.val i4.2.2.2), (.int .i64 d4.2.Cursor)]) 41 (0, 0)) :: blk i4.1 (.cells (List.toArray [(.int .i64 d4.1.model), (.bool d4.1.alternate), (.int .i64 d4.1.size.Rows), (.int .i64 d4.1.size.Cols), (SV.val i4.2.1), (.int .i64 d4.1.cursor), (.int .i64 d4.1.attrs)]) 165 (0, 0)) :: slO i4.2.2.2 48 en_Vapi_Cell d4.2.L :: slO i4.2.1 48 en_Vapi_Cell d4.1.cells :: R) ?_ ?_
    · refine c_region ?_
      refine o1 rfl (o_p rfl ?_)
      replace h := bsome h
      obtain ⟨d6, h6, h⟩ := h
      refine o1 rfl (o_call has12 rfl (c_vitrineref12_Attrs i1 d4.2 i4.2.2.1 i4.2.2.2 _ h6) (pc rm0 (pc rm2 (pc rm2 pn))) (fun i6 => ?_))
      refine o1 rfl (o_len (s := i6) rfl rfl rfl rm3 (rd_own _ _ _ _) ?_)
      refine o1 rfl (o_p (v := (.bool ((d6.length : Int) == 0))) rfl ?_)
      refine o1 rfl (o_p rfl ?_)
      rcases bool_or (((d6.length : Int) == 0)) with hb1825 | hb1825
      · replace h := cond_t hb1825 h
        refine on rfl rfl rfl hb1825 ?_
        refine on rfl rfl rfl hb1825 ?_
        refine o1 rfl (o_pick_t rfl hb1825 rfl ?_)
        refine o_end ?_
        have hd := Option.some.inj h
        subst hd
        exact ej () () trivial (sc rfl (sc rfl (sc rfl (sc rfl sn)))) (kc rm0 (kc rm0 (kc rm2 (kc rm0 (kc rm1 (kd kr))))))
      · replace h := cond_f hb1825 h
        refine oy rfl rfl rfl hb1825 (o_p rfl ?_)
        replace h := bsome h
        obtain ⟨d7, h7, h⟩ := h
        refine oy rfl rfl rfl hb1825 (o_call has13 rfl (c_vitrineref18_Short i1 p2 _ h7) (pc rm0 pn) ?_)
        refine o1 rfl (o_pick_f rfl hb1825 rfl ?_)
        refine o_end ?_
        have hd := Option.some.inj h
        subst hd
        exact ej () () trivial (sc rfl (sc rfl (sc rfl (sc rfl sn)))) (kc rm0 (kc rm0 (kc rm2 (kc rm0 (kc rm1 (kd kr))))))
    · rintro _ i5 _
      replace h := hk5
      clear hk5
      refine e_seq ?_
      refine c_cond (b := d5) rfl (fun hb1829 => ?_) (fun hb1829 => ?_)
      · replace h := cond_t hb1829 h
        refine c_seq ?_
        refine c_region ?_
        refine o1 rfl (o_p rfl ?_)
        refine o_end ?_
        refine e_seq ?_
        refine c_ret ?_
        refine e_then_ret ?_
        refine e_ret ?_
        refine r_endt rfl rfl (kc rm0 (kd (kd (kd (kd kr))))) ?_
        have hr := Option.some.inj h
        subst hr
        exact hk i1 f1_0
      · replace h := cond_f hb1829 h
        refine c_skip ?_
        refine e_seq ?_
        refine c_seq ?_
        refine c_region ?_
        refine o1 rfl (o_p rfl ?_)
        refine o1 rfl (o_p rfl ?_)
        replace h := bsome h
        obtain ⟨d9, h9, h⟩ := h
        refine o1 rfl (o_call has14 rfl (c_read_Modified i1 d4.1 i4.1 i4.2.1 p2 0 _ h9) (pc rm0 (pc rm1 (pc rm2 pn))) (fun i9 f9_0 f9_1 => ?_))
        refine o1 rfl (o_p rfl ?_)
        refine o1 rfl (o_p rfl ?_)
        refine o1 rfl (o_p rfl ?_)
        refine o1 rfl (o_p rfl ?_)
        refine o1 rfl (o_p rfl ?_)
        refine o_end ?_
        refine e_seq ?_
        refine c_seq ?_
        refine c_region ?_
        refine o1 rfl (o_p rfl ?_)
        refine o1 rfl (o_p rfl ?_)
        refine o1 rfl (o_fa (fd := ⟨ "Cursor", 3, 5, false, "", "", 56⟩) rfl rfl rfl rfl rfl ?_)
        refine o1 rfl (o_ld (b := i4.2.2.1) (off := 5) (v := (.int .i64 d4.2.Cursor)) rfl rm3 rfl rfl ?_)
        replace h := bsome h
        obtain ⟨d10, h10, h⟩ := h
        refine o1 rfl (o_call has15 rfl (c_vitrineref04_Encode i9.1 12 d4.2.Cursor _ h10) (pc rm0 pn) (fun i10 => ?_))
        refine o1 rfl (o_p rfl ?_)
        refine o1 rfl (o_p rfl ?_)
        refine o1 rfl (o_p rfl ?_)
        refine o1 rfl (o_p rfl ?_)
        refine o1 rfl (o_p rfl ?_)
        refine o_end ?_
        refine e_seq ?_
        refine c_seq ?_
        refine c_region ?_
        refine o1 rfl (o_p rfl ?_)
        refine o1 rfl (o_bs (e := (enI .u8)) (l := [p2]) (zs := [(.int .u8 0)]) rfl rfl rfl rfl rfl rfl rfl rfl rfl rfl (fun s1832 => ?_))
        refine o1 rfl (o_p rfl ?_)
        replace h := gsome h
        obtain ⟨hg1834, h⟩ := h
        refine o1 rfl (o_app (s := s1832) (r := i10) (e := (enI .u8)) (l := [p2]) (l2 := d10.1) (zs := [(.int .u8 0)]) rfl rfl rfl rfl rfl rfl rfl rfl rfl rfl rfl rm0 rm1 (rd_own _ _ _ _) hg1834 (fun s1835 => ?_))
        refine o1 rfl (o_p rfl ?_)
        refine o_end ?_
        refine e_seq ?_
        refine c_seq ?_
        refine c_seq ?_
        refine c_region ?_
        refine o1 rfl (o_p rfl ?_)
        replace h := bsome h
        obtain ⟨d11, h11, h⟩ := h
        refine o1 rfl (o_call has12 rfl (c_vitrineref12_Attrs i9.1 d4.2 i4.2.2.1 i4.2.2.2 _ h11) (pc rm1 (pc rm4 (pc rm4 pn))) (fun i11 => ?_))
        refine o1 rfl (o_len (s := i11) rfl rfl rfl rm3 (rd_own _ _ _ _) ?_)
        refine o1 rfl (o_p rfl ?_)
        refine o_end ?_
        refine e_seq ?_
        replace h := bsome h
        obtain ⟨d12, h, hk12⟩ := h
        refine cj (D := Unit) (ι := HP × SV) (fun _ i12 => (Rd i12.1 i9.2 5 (enI .u8) d9.2.1) ∧ (Ext X i12.1)) (fun _ i12 => [(13, (SV.val i12.2)), (10, (.int .i64 d9.2.2)), (9, (SV.val i9.2))]) (fun _ i12 => i12.1 :: slO i12.2 5 (enI .u8) d12 :: R) ?_ ?_
        · refine c_block ?_
          refine c_loop (l_sub (sc rfl (sc rfl (sc rfl (sc rfl (sc rfl (sc rfl (sc rfl sn))))))) (l_keep (kc rm0 (kc rm2 (kc rm2 (kc rm0 (kc rm0 (kd (kd (kd kr)))))))) (lf (X := Int × (List Int)) (ι := HP × SV) (fun k x => vitrinelaw19_ReadFields_l13 d4 d11 k x) _ (fun x13 i13 => (Rd i13.1 i9.2 5 (enI .u8) d9.2.1) ∧ (Ext X i13.1)) (fun x13 i13 => [(58, (.int .i64 x13.1)), (57, (.int .i64 (d11.length : Int))), (56, (SV.val i11)), (13, (SV.val i13.2)), (10, (.int .i64 d9.2.2)), (9, (SV.val i9.2)), (8, (.pointer (some ⟨i4.2.2.1, 0, none⟩)))]) (fun x13 i13 => i13.1 :: slO i11 3 (enI .i64) d11 :: slO i13.2 5 (enI .u8) x13.2 :: blk i4.2.2.1 (.cells (List.toArray [(.int .i64 d4.2.Model), (.bool d4.2.Alt), (.int .i64 d4.2.Size.Rows), (.int .i64 d4.2.Size.Cols), (SV.val i4.2.2.2), (.int .i64 d4.2.Cursor)]) 41 (0, 0)) :: slO i4.2.2.2 48 en_Vapi_Cell d4.2.L :: R) (fun _ => rfl) ?_ fuel (0, ([p2] ++ d10.1)) (i9.1, s1835) ⟨f9_0, (Ext.trans f1_0 f9_1)⟩ h)))
          clear h
          rintro k13 ih13 x13 i13 ⟨f13_0, f13_1⟩ h
          rw [vitrinelaw19_ReadFields_l13.eq_2] at h
          refine l_round ?_
          refine c_seq ?_
          refine c_region ?_
          refine o1 rfl (o_p (v := (.bool (decide (x13.1 < (d11.length : Int))))) rfl ?_)
          refine o_end ?_
          refine e_seq ?_
          refine c_seq ?_
          refine c_cond (b := (decide (x13.1 < (d11.length : Int)))) rfl (fun hb2174 => ?_) (fun hb2174 => ?_)
          · replace h := cond_t hb2174 h
            refine c_skip ?_
            refine e_seq ?_
            refine c_seq ?_
            replace h := bsome h
            obtain ⟨d15, h, hk15⟩ := h
            refine cj (D := Unit) (ι := HP × SV) (fun _ i15 => (Rd i15.1 i9.2 5 (enI .u8) d9.2.1) ∧ (Ext X i15.1)) (fun _ i15 => [(58, (.int .i64 x13.1)), (57, (.int .i64 (d11.length : Int))), (56, (SV.val i11)), (13, (SV.val i15.2)), (10, (.int .i64 d9.2.2)), (9, (SV.val i9.2)), (8, (.pointer (some ⟨i4.2.2.1, 0, none⟩)))]) (fun _ i15 => i15.1 :: slO i11 3 (enI .i64) d11 :: slO i15.2 5 (enI .u8) d15 :: blk i4.2.2.1 (.cells (List.toArray [(.int .i64 d4.2.Model), (.bool d4.2.Alt), (.int .i64 d4.2.Size.Rows), (.int .i64 d4.2.Size.Cols), (SV.val i4.2.2.2), (.int .i64 d4.2.Cursor)]) 41 (0, 0)) :: slO i4.2.2.2 48 en_Vapi_Cell d4.2.L :: R) ?_ ?_
            · refine c_block ?_
              refine c_seq ?_
              refine c_region ?_
              replace h := gsome h
              obtain ⟨hg2175, h⟩ := h
              refine o1 rfl (o_ix (s := i11) (n := x13.1) (e := (enI .i64)) rfl rfl rfl rfl rfl rfl rm1 (rd_own _ _ _ _) hg2175 ?_)
              refine o1 rfl (o_ldE (s := i11) (e := (enI .i64)) (n := x13.1) (f := 0) (v := (.int .i64 (rd d11 x13.1))) rfl rm1 (rd_own _ _ _ _) hg2175 rfl rfl ?_)
              refine o1 rfl (o_p rfl ?_)
              refine o_end ?_
              refine e_seq ?_
              refine c_seq ?_
              refine c_seq ?_
              refine c_region ?_
              refine o1 rfl (o_p rfl ?_)
              refine o1 rfl (o_p rfl ?_)
              replace h := bsome h
              obtain ⟨d16, h16, h⟩ := h
              refine o1 rfl (o_call has16 rfl (c_vitrineref13_Field i13.1 d4.2 i4.2.2.1 i4.2.2.2 (rd d11 x13.1) _ h16) (pc rm0 (pc rm2 (pc rm2 pn))) ?_)
              refine o1 rfl (o_field (v := (.bool d16.Modified)) rfl rfl rfl ?_)
              refine o1 rfl (o_p (v := (.bool (!d16.Modified))) rfl ?_)
              refine o_end ?_
              refine e_seq ?_
              refine c_cond (b := (!d16.Modified)) rfl (fun hb2176 => ?_) (fun hb2176 => ?_)
              · replace h := cond_t hb2176 h
                refine c_exit ?_
                refine e_then_exit ?_
                refine e_blk_exit ?_
                have hd := Option.some.inj h
                subst hd
                exact ej () (i13.1, i13.2) ⟨f13_0, f13_1⟩ (sc rfl (sc rfl (sc rfl (sc rfl (sc rfl (sc rfl (sc rfl sn))))))) (kc rm0 (kc rm2 (kc rm2 (kc rm0 (kc rm0 kr)))))
              · replace h := cond_f hb2176 h
                refine c_skip ?_
                refine e_seq ?_
                refine c_seq ?_
                refine c_region ?_
                refine o1 rfl (o_p rfl ?_)
                refine o1 rfl (o_p rfl ?_)
                refine o1 rfl (o_p (v := (.int .i64 (w64 ((rd d11 x13.1) + 1)))) rfl ?_)
                replace h := bsome h
                obtain ⟨d18, h18, h⟩ := h
                refine o1 rfl (o_call has17 rfl (c_vitrineref12_Wrap i13.1 d4.2 i4.2.2.1 i4.2.2.2 (w64 ((rd d11 x13.1) + 1)) _ h18) (pc rm0 (pc rm0 (pc rm0 pn))) ?_)
                replace h := bsome h
                obtain ⟨d19, h19, h⟩ := h
                refine o1 rfl (o_call has15 rfl (c_vitrineref04_Encode i13.1 12 d18 _ h19) (pc rm0 pn) (fun i19 => ?_))
                refine o1 rfl (o_p rfl ?_)
                refine o1 rfl (o_p rfl ?_)
                refine o1 rfl (o_p rfl ?_)
                refine o1 rfl (o_p rfl ?_)
                refine o_end ?_
                refine e_seq ?_
                refine c_seq ?_
                refine c_region ?_
                refine o1 rfl (o_p rfl ?_)
                refine o1 rfl (o_bs (e := (enI .u8)) (l := [17]) (zs := [(.int .u8 0)]) rfl rfl rfl rfl rfl rfl rfl rfl rfl rfl (fun s2178 => ?_))
                replace h := gsome h
                obtain ⟨hg2180, h⟩ := h
                refine o1 rfl (o_app (s := i13.2) (r := s2178) (e := (enI .u8)) (l := x13.2) (l2 := [17]) (zs := [(.int .u8 0)]) rfl rfl rfl rfl rfl rfl rfl rfl rfl rfl rfl rm6 rm0 (rd_own _ _ _ _) hg2180 (fun s2181 => ?_))
                refine o1 rfl (o_p rfl ?_)
                replace h := gsome h
                obtain ⟨hg2183, h⟩ := h
                refine o1 rfl (o_app (s := s2181) (r := i19) (e := (enI .u8)) (l := (x13.2 ++ [17])) (l2 := d19.1) (zs := [(.int .u8 0)]) rfl rfl rfl rfl rfl rfl rfl rfl rfl rfl rfl rm0 rm2 (rd_own _ _ _ _) hg2183 (fun s2184 => ?_))
                refine o1 rfl (o_p rfl ?_)
                refine o_end ?_
                refine e_seq ?_
                refine c_seq ?_
                refine c_region ?_
                refine o1 rfl (o_p rfl ?_)
                refine o1 rfl (o_p rfl ?_)
                replace h := bsome h
                obtain ⟨d20, h20, h⟩ := h
                refine o1 rfl (o_call has18 rfl (c_vitrineref13_Places i13.1 d4.2 i4.2.2.1 i4.2.2.2 (rd d11 x13.1) _ h20) (pc rm2 (pc rm3 (pc rm3 pn))) (fun i20 => ?_))
                refine o1 rfl (o_len (s := i20) rfl rfl rfl rm3 (rd_own _ _ _ _) ?_)
                refine o1 rfl (o_p rfl ?_)
                refine o_end ?_
                refine e_seq ?_
                replace h := bsome h
                obtain ⟨d21, h, hk21⟩ := h
                refine cj (D := Unit) (ι := HP × SV) (fun _ i21 => (Rd i21.1 i9.2 5 (enI .u8) d9.2.1) ∧ (Ext X i21.1)) (fun _ i21 => [(13, (SV.val i21.2)), (58, (.int .i64 x13.1)), (57, (.int .i64 (d11.length : Int))), (56, (SV.val i11)), (10, (.int .i64 d9.2.2)), (9, (SV.val i9.2)), (8, (.pointer (some ⟨i4.2.2.1, 0, none⟩)))]) (fun _ i21 => i21.1 :: slO i21.2 5 (enI .u8) d21 :: slO i11 3 (enI .i64) d11 :: blk i4.2.2.1 (.cells (List.toArray [(.int .i64 d4.2.Model), (.bool d4.2.Alt), (.int .i64 d4.2.Size.Rows), (.int .i64 d4.2.Size.Cols), (SV.val i4.2.2.2), (.int .i64 d4.2.Cursor)]) 41 (0, 0)) :: slO i4.2.2.2 48 en_Vapi_Cell d4.2.L :: R) ?_ ?_
                · refine c_block ?_
                  refine c_loop (l_sub (sc rfl (sc rfl (sc rfl (sc rfl (sc rfl (sc rfl (sc rfl (sc rfl (sc rfl (sc rfl sn)))))))))) (l_keep (kc rm0 (kc rm2 (kc rm2 (kc rm4 (kc rm0 (kc rm0 (kd (kd kr)))))))) (lf (X := Int × (List Int)) (ι := HP × SV) (fun k x => vitrinelaw19_ReadFields_l22 d4 d20 k x) _ (fun x22 i22 => (Rd i22.1 i9.2 5 (enI .u8) d9.2.1) ∧ (Ext X i22.1)) (fun x22 i22 => [(84, (.int .i64 x22.1)), (83, (.int .i64 (d20.length : Int))), (82, (SV.val i20)), (13, (SV.val i22.2)), (58, (.int .i64 x13.1)), (57, (.int .i64 (d11.length : Int))), (56, (SV.val i11)), (10, (.int .i64 d9.2.2)), (9, (SV.val i9.2)), (8, (.pointer (some ⟨i4.2.2.1, 0, none⟩)))]) (fun x22 i22 => i22.1 :: slO i20 3 (enI .i64) d20 :: slO i22.2 5 (enI .u8) x22.2 :: slO i11 3 (enI .i64) d11 :: blk i4.2.2.1 (.cells (List.toArray [(.int .i64 d4.2.Model), (.bool d4.2.Alt), (.int .i64 d4.2.Size.Rows), (.int .i64 d4.2.Size.Cols), (SV.val i4.2.2.2), (.int .i64 d4.2.Cursor)]) 41 (0, 0)) :: slO i4.2.2.2 48 en_Vapi_Cell d4.2.L :: R) (fun _ => rfl) ?_ fuel (0, ((x13.2 ++ [17]) ++ d19.1)) (i13.1, s2184) ⟨f13_0, f13_1⟩ h)))
                  clear h
                  rintro k22 ih22 x22 i22 ⟨f22_0, f22_1⟩ h
                  rw [vitrinelaw19_ReadFields_l22.eq_2] at h
                  refine l_round ?_
                  refine c_seq ?_
                  refine c_region ?_
                  refine o1 rfl (o_p (v := (.bool (decide (x22.1 < (d20.length : Int))))) rfl ?_)
                  refine o_end ?_
                  refine e_seq ?_
                  refine c_seq ?_
                  refine c_cond (b := (decide (x22.1 < (d20.length : Int)))) rfl (fun hb2225 => ?_) (fun hb2225 => ?_)
                  · replace h := cond_t hb2225 h
                    refine c_skip ?_
                    refine e_seq ?_
                    refine c_seq ?_
                    replace h := bsome h
                    obtain ⟨d24, h, hk24⟩ := h
                    refine cj (D := Unit) (ι := HP × SV) (fun _ i24 => (Rd i24.1 i9.2 5 (enI .u8) d9.2.1) ∧ (Ext X i24.1)) (fun _ i24 => [(84, (.int .i64 x22.1)), (83, (.int .i64 (d20.length : Int))), (82, (SV.val i20)), (13, (SV.val i24.2)), (58, (.int .i64 x13.1)), (57, (.int .i64 (d11.length : Int))), (56, (SV.val i11)), (10, (.int .i64 d9.2.2)), (9, (SV.val i9.2)), (8, (.pointer (some ⟨i4.2.2.1, 0, none⟩)))]) (fun _ i24 => i24.1 :: slO i20 3 (enI .i64) d20 :: slO i24.2 5 (enI .u8) d24 :: slO i11 3 (enI .i64) d11 :: blk i4.2.2.1 (.cells (List.toArray [(.int .i64 d4.2.Model), (.bool d4.2.Alt), (.int .i64 d4.2.Size.Rows), (.int .i64 d4.2.Size.Cols), (SV.val i4.2.2.2), (.int .i64 d4.2.Cursor)]) 41 (0, 0)) :: slO i4.2.2.2 48 en_Vapi_Cell d4.2.L :: R) ?_ ?_
                    · refine c_block ?_
                      refine c_seq ?_
                      refine c_region ?_
                      replace h := gsome h
                      obtain ⟨hg2226, h⟩ := h
                      refine o1 rfl (o_ix (s := i20) (n := x22.1) (e := (enI .i64)) rfl rfl rfl rfl rfl rfl rm1 (rd_own _ _ _ _) hg2226 ?_)
                      refine o1 rfl (o_ldE (s := i20) (e := (enI .i64)) (n := x22.1) (f := 0) (v := (.int .i64 (rd d20 x22.1))) rfl rm1 (rd_own _ _ _ _) hg2226 rfl rfl ?_)
                      refine o1 rfl (o_p rfl ?_)
                      refine o_end ?_
                      refine e_seq ?_
                      refine c_seq ?_
                      refine c_region ?_
                      refine o1 rfl (o_p rfl ?_)
                      refine o1 rfl (o_p rfl ?_)
                      refine o1 rfl (o_fa (fd := ⟨ "L", 39, 4, false, "", "", 32⟩) rfl rfl rfl rfl rfl ?_)
                      refine o1 rfl (o_ld (b := i4.2.2.1) (off := 4) (v := (SV.val i4.2.2.2)) rfl rm4 rfl rfl ?_)
                      refine o1 rfl (o_p rfl ?_)
                      replace h := gsome h
                      obtain ⟨hg2227, h⟩ := h
                      refine o1 rfl (o_ix (s := i4.2.2.2) (n := (rd d20 x22.1)) (e := en_Vapi_Cell) rfl rfl rfl rfl rfl rfl rm5 (rd_own _ _ _ _) hg2227 ?_)
                      refine o1 rfl (o_ldE (s := i4.2.2.2) (e := en_Vapi_Cell) (n := (rd d20 x22.1)) (f := 0) (v := (.agg (List.toArray [(.int .u8 ((rd d4.2.L (rd d20 x22.1)).Char)), (.bool ((rd d4.2.L (rd d20 x22.1)).Attr)), (.int .u8 ((rd d4.2.L (rd d20 x22.1)).FA)), (.int .u8 ((rd d4.2.L (rd d20 x22.1)).High)), (.int .u8 ((rd d4.2.L (rd d20 x22.1)).Color)), (.int .u8 ((rd d4.2.L (rd d20 x22.1)).f_Set))]))) rfl rm5 (rd_own _ _ _ _) hg2227 rfl rfl ?_)
                      refine o1 rfl (o_alloc (cs := [(.int .u8 0), (.bool false), (.int .u8 0), (.int .u8 0), (.int .u8 0), (.int .u8 0)]) rfl rfl (fun b2228 => ?_))
                      refine o0 (o_st (b := b2228) (off := 0) (vs := [(.int .u8 ((rd d4.2.L (rd d20 x22.1)).Char)), (.bool ((rd d4.2.L (rd d20 x22.1)).Attr)), (.int .u8 ((rd d4.2.L (rd d20 x22.1)).FA)), (.int .u8 ((rd d4.2.L (rd d20 x22.1)).High)), (.int .u8 ((rd d4.2.L (rd d20 x22.1)).Color)), (.int .u8 ((rd d4.2.L (rd d20 x22.1)).f_Set))]) (cs' := [(.int .u8 ((rd d4.2.L (rd d20 x22.1)).Char)), (.bool ((rd d4.2.L (rd d20 x22.1)).Attr)), (.int .u8 ((rd d4.2.L (rd d20 x22.1)).FA)), (.int .u8 ((rd d4.2.L (rd d20 x22.1)).High)), (.int .u8 ((rd d4.2.L (rd d20 x22.1)).Color)), (.int .u8 ((rd d4.2.L (rd d20 x22.1)).f_Set))]) rfl rfl rp0 rfl rfl rfl rfl rfl rfl ?_)
                      refine o_end ?_
                      refine e_seq ?_
                      refine c_seq ?_
                      refine c_seq ?_
                      refine c_region ?_
                      refine o1 rfl (o_fa (fd := ⟨ "Char", 5, 0, false, "", "", 0⟩) rfl rfl rfl rfl rfl ?_)
                      refine o1 rfl (o_ld (b := b2228) (off := 0) (v := (.int .u8 ((rd d4.2.L (rd d20 x22.1)).Char))) rfl rm0 rfl rfl ?_)
                      refine o1 rfl (o_p (v := (.bool (((rd d4.2.L (rd d20 x22.1)).Char) == 0))) rfl ?_)
                      refine o_end ?_
                      refine e_seq ?_
                      refine c_cond (b := (((rd d4.2.L (rd d20 x22.1)).Char) == 0)) rfl (fun hb2230 => ?_) (fun hb2230 => ?_)
                      · replace h := cond_t hb2230 h
                        refine c_exit ?_
                        refine e_then_exit ?_
                        refine e_blk_exit ?_
                        have hd := Option.some.inj h
                        subst hd
                        exact ej () (i22.1, i22.2) ⟨f22_0, f22_1⟩ (sc rfl (sc rfl (sc rfl (sc rfl (sc rfl (sc rfl (sc rfl (sc rfl (sc rfl (sc rfl sn)))))))))) (kc rm1 (kc rm1 (kc rm1 (kc rm1 (kc rm1 (kc rm1 (kd kr)))))))
                      · replace h := cond_f hb2230 h
                        refine c_skip ?_
                        refine e_seq ?_
                        refine c_seq ?_
                        refine c_region ?_
                        refine o1 rfl (o_ld (b := b2228) (off := 0) (v := (.agg (List.toArray [(.int .u8 ((rd d4.2.L (rd d20 x22.1)).Char)), (.bool ((rd d4.2.L (rd d20 x22.1)).Attr)), (.int .u8 ((rd d4.2.L (rd d20 x22.1)).FA)), (.int .u8 ((rd d4.2.L (rd d20 x22.1)).High)), (.int .u8 ((rd d4.2.L (rd d20 x22.1)).Color)), (.int .u8 ((rd d4.2.L (rd d20 x22.1)).f_Set))]))) rfl rm0 rfl rfl ?_)
                        refine o1 rfl (o_bs (e := en_Vapi_Cell) (l := [(rd d4.2.L (rd d20 x22.1))]) (zs := [(.int .u8 0), (.bool false), (.int .u8 0), (.int .u8 0), (.int .u8 0), (.int .u8 0)]) rfl rfl rfl rfl rfl rfl rfl rfl rfl rfl (fun s2231 => ?_))
                        refine o1 rfl (o_build (fs := [⟨ "Char", 5, 0, false, "", "", 0⟩, ⟨ "Attr", 4, 1, false, "", "", 1⟩, ⟨ "FA", 5, 2, false, "", "", 2⟩, ⟨ "High", 5, 3, false, "", "", 3⟩, ⟨ "Color", 5, 4, false, "", "", 4⟩, ⟨ "Set", 5, 5, false, "", "", 5⟩]) (ps := [(0, 1), (1, 1), (2, 1), (3, 1), (4, 1), (5, 1)]) (cs := [(.int .u8 0), (.bool false), (.int .u8 0), (.int .u8 0), (.int .u8 0), (.int .u8 0)]) rfl rfl rfl rfl rfl ?_)
                        refine o_fz rm0 rm1 (fun X2233 hx2234 hs2235 => ?_)
                        replace h := bsome h
                        obtain ⟨d26, h26, h⟩ := h
                        refine o1 rfl (o_call has19 rfl (c_vitrineref19_Characters X2233 [(rd d4.2.L (rd d20 x22.1))] s2231 hs2235 (⟨0, false, 0, 0, 0, 0⟩ : Vapi_Cell) 0 _ h26) (pc rm0 pn) (fun i26 => ?_))
                        refine o1 rfl (o_p rfl ?_)
                        refine o1 rfl (o_p rfl ?_)
                        refine o1 rfl (o_p rfl ?_)
                        refine o1 rfl (o_alloc (cs := [(.int .u8 0), (.bool false), (.int .u8 0), (.int .u8 0), (.int .u8 0), (.int .u8 0)]) rfl rfl (fun b2237 => ?_))
                        refine o1 rfl (o_p rfl ?_)
                        refine o0 (o_st (b := b2237) (off := 0) (vs := [(.int .u8 d26.2.Char), (.bool d26.2.Attr), (.int .u8 d26.2.FA), (.int .u8 d26.2.High), (.int .u8 d26.2.Color), (.int .u8 d26.2.f_Set)]) (cs' := [(.int .u8 d26.2.Char), (.bool d26.2.Attr), (.int .u8 d26.2.FA), (.int .u8 d26.2.High), (.int .u8 d26.2.Color), (.int .u8 d26.2.f_Set)]) rfl rfl rp0 rfl rfl rfl rfl rfl rfl ?_)
                        refine o_end ?_
                        refine e_seq ?_
                        refine c_region ?_
                        refine o1 rfl (o_p rfl ?_)
                        refine o1 rfl (o_p rfl ?_)
                        replace h := gsome h
                        obtain ⟨hg2239, h⟩ := h
                        refine o1 rfl (o_app (s := i22.2) (r := i26) (e := (enI .u8)) (l := x22.2) (l2 := d26.1) (zs := [(.int .u8 0)]) rfl rfl rfl rfl rfl rfl rfl rfl rfl rfl rfl rm5 rm2 (rd_own _ _ _ _) hg2239 (fun s2240 => ?_))
                        refine o1 rfl (o_p rfl ?_)
                        refine o_end ?_
                        refine e_blk ?_
                        have hd := Option.some.inj h
                        subst hd
                        exact ej () (X2233, s2240) ⟨(Rd.ext f22_0 hx2234), (Ext.trans f22_1 hx2234)⟩ (sc rfl (sc rfl (sc rfl (sc rfl (sc rfl (sc rfl (sc rfl (sc rfl (sc rfl (sc rfl sn)))))))))) (kc rm2 (kc rm4 (kc rm0 (kc rm3 (kc rm3 (kc rm3 (kd (kd (kd kr)))))))))
                    · rintro _ i24 ⟨f24_0, f24_1⟩
                      replace h := hk24
                      clear hk24
                      refine e_seq ?_
                      refine c_region ?_
                      refine o1 rfl (o_p (v := (.int .i64 (w64 (x22.1 + 1)))) rfl ?_)
                      refine o1 rfl (o_p rfl ?_)
                      refine o_end ?_
                      exact e_loop (l_sub (sc rfl (sc rfl (sc rfl (sc rfl (sc rfl (sc rfl (sc rfl (sc rfl (sc rfl (sc rfl sn)))))))))) (l_keep (kc rm0 (kc rm0 (kc rm0 (kc rm0 (kc rm0 (kc rm0 kr)))))) (ih22 (w64 (x22.1 + 1), d24) (i24.1, i24.2) ⟨f24_0, f24_1⟩ h)))
                  · replace h := cond_f hb2225 h
                    refine c_exit ?_
                    refine e_then_exit ?_
                    refine e_then_exit ?_
                    refine e_blk_exit ?_
                    have hd := Option.some.inj h
                    subst hd
                    exact ej () (i22.1, i22.2) ⟨f22_0, f22_1⟩ (sc rfl (sc rfl (sc rfl (sc rfl (sc rfl (sc rfl (sc rfl sn))))))) (kc rm0 (kc rm1 (kc rm1 (kc rm1 (kc rm1 (kd kr))))))
                · rintro _ i21 ⟨f21_0, f21_1⟩
                  replace h := hk21
                  clear hk21
                  refine e_blk ?_
                  have hd := Option.some.inj h
                  subst hd
                  exact ej () (i21.1, i21.2) ⟨f21_0, f21_1⟩ (sc rfl (sc rfl (sc rfl (sc rfl (sc rfl (sc rfl (sc rfl sn))))))) (kc rm0 (kc rm1 (kc rm0 (kc rm0 (kc rm0 kr)))))
            · rintro _ i15 ⟨f15_0, f15_1⟩
              replace h := hk15
              clear hk15
              refine e_seq ?_
              refine c_region ?_
              refine o1 rfl (o_p (v := (.int .i64 (w64 (x13.1 + 1)))) rfl ?_)
              refine o1 rfl (o_p rfl ?_)
              refine o_end ?_
              exact e_loop (l_sub (sc rfl (sc rfl (sc rfl (sc rfl (sc rfl (sc rfl (sc rfl sn))))))) (l_keep (kc rm0 (kc rm0 (kc rm0 (kc rm0 (kc rm0 kr))))) (ih13 (w64 (x13.1 + 1), d15) (i15.1, i15.2) ⟨f15_0, f15_1⟩ h)))
          · replace h := cond_f hb2174 h
            refine c_exit ?_
            refine e_then_exit ?_
            refine e_then_exit ?_
            refine e_blk_exit ?_
            have hd := Option.some.inj h
            subst hd
            exact ej () (i13.1, i13.2) ⟨f13_0, f13_1⟩ (sc rfl (sc rfl (sc rfl sn))) (kc rm0 (kc rm1 (kd (kd (kd kr)))))
        · rintro _ i12 ⟨f12_0, f12_1⟩
          replace h := hk12
          clear hk12
          refine e_seq ?_
          refine c_seq ?_
          replace h := bsome h
          obtain ⟨d27, h, hk27⟩ := h
          refine cj (D := Unit) (ι := HP) (fun _ i27 => Ext X i27) (fun _ i27 => [(6, (.bool d27))]) (fun _ i27 => i27 :: R) ?_ ?_
          · refine c_region ?_
            refine o1 rfl (o_p rfl ?_)
            refine o1 rfl (o_p (v := (.bool (d9.2.2 == 0))) rfl ?_)
            refine o1 rfl (o_p rfl ?_)
            rcases bool_or ((d9.2.2 == 0)) with hb2248 | hb2248
            · replace h := cond_t hb2248 h
              refine oy rfl rfl rfl hb2248 (o_p rfl ?_)
              refine oy rfl rfl rfl hb2248 (o_p rfl ?_)
              refine o_fz rm1 rm0 (fun X2249 hx2250 hs2251 => ?_)
              replace h := bsome h
              obtain ⟨d28, h28, h⟩ := h
              refine oy rfl rfl rfl hb2248 (o_call has20 rfl (c_vitrineref01_Same X2249 d9.2.1 i9.2 (Rd.ext f12_0 hx2250) d12 i12.2 hs2251 _ h28) (pc rm0 pn) ?_)
              refine o1 rfl (o_pick_t rfl hb2248 rfl ?_)
              refine o1 rfl (o_p rfl ?_)
              refine o_end ?_
              have hd := Option.some.inj h
              subst hd
              exact ej () X2249 (Ext.trans f12_1 hx2250) (sc rfl sn) (kc rm0 kr)
            · replace h := cond_f hb2248 h
              refine on rfl rfl rfl hb2248 ?_
              refine on rfl rfl rfl hb2248 ?_
              refine on rfl rfl rfl hb2248 ?_
              refine o1 rfl (o_pick_f rfl hb2248 rfl ?_)
              refine o1 rfl (o_p rfl ?_)
              refine o_end ?_
              have hd := Option.some.inj h
              subst hd
              exact ej () i12.1 f12_1 (sc rfl sn) (kc rm0 (kd kr))
          · rintro _ i27 f27_0
            replace h := hk27
            clear hk27
            refine e_seq ?_
            refine c_ret ?_
            refine e_ret ?_
            refine r_endt rfl rfl (kc rm0 kr) ?_
            have hr := Option.some.inj h
            subst hr
            exact hk i27 f27_0

end Go.Vt
