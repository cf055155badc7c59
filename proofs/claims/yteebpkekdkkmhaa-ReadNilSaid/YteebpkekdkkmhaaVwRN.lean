/- The walks: each function does what its model says. No conditions. -/
import Derived.Test.YteebpkekdkkmhaaVwRNb
set_option linter.unusedVariables false
set_option maxRecDepth 100000
set_option maxHeartbeats 4000000
namespace Go.Vt
open Go.Proofs
theorem c_read_For {g : Gw} (X : HP) (p0 : Int) (p1 : Int) (p2 : Int) (r : Int) (h : m_read_For p0 p1 p2 = some r) : Tri env g 32 (List.toArray [(.pointer none), (.int .i64 p0), (.int .u8 p1), (.int .i64 p2)]) [X] (fun K R => K (.tuple (List.toArray [(SV.val SV.nil), (.int .i64 r)])) (X :: R)) := by
  refine tri_of (fn := Try.f32) (N := 35) Try.func32 rfl rfl rfl ?_
  intro R K hk
  unfold m_read_For at h
  change GC _ none _ [] [(0, (.pointer none)), (1, (.int .i64 p0)), (2, (.int .u8 p1)), (3, (.int .i64 p2))] (X :: R) g _ _
  refine c_seq ?_
  refine c_region ?_
  refine o1 rfl (o_p rfl ?_)
  refine o1 rfl (o_p rfl ?_)
  refine o_end ?_
  refine e_seq ?_
  refine c_seq ?_
  refine c_seq ?_
  refine c_region ?_
  refine o1 rfl (o_p rfl ?_)
  refine o_end ?_
  refine e_seq ?_
  refine c_block ?_
  refine c_seq ?_
  refine c_region ?_
  refine o1 rfl (o_p (v := (.bool (p0 == 5))) rfl ?_)
  refine o1 rfl (o_p rfl ?_)
  refine o_end ?_
  refine e_seq ?_
  refine c_cond (b := (p0 == 5)) rfl (fun hb2766 => ?_) (fun hb2766 => ?_)
  · replace h := cond_t hb2766 h
    refine c_seq ?_
    refine c_region ?_
    refine o1 rfl (o_p rfl ?_)
    refine o1 rfl (o_p rfl ?_)
    refine o1 rfl (o_p rfl ?_)
    replace h := bsome h
    obtain ⟨d3, h3, h⟩ := h
    refine o1 rfl (o_call has31 rfl (c_read_Buffer X p1 p2 _ h3) (pc rm0 pn) ?_)
    refine o1 rfl (o_p rfl ?_)
    refine o1 rfl (o_p rfl ?_)
    refine o1 rfl (o_p rfl ?_)
    refine o1 rfl (o_p rfl ?_)
    refine o_end ?_
    refine e_seq ?_
    refine c_ret ?_
    refine e_blk_ret ?_
    refine e_then_ret ?_
    refine e_ret ?_
    refine r_endt rfl rfl (kc rm0 kr) ?_
    have hr := Option.some.inj h
    subst hr
    exact hk
  · replace h := cond_f hb2766 h
    refine c_seq ?_
    refine c_region ?_
    refine o1 rfl (o_p (v := (.bool (p0 == 6))) rfl ?_)
    refine o1 rfl (o_p rfl ?_)
    refine o_end ?_
    refine e_seq ?_
    refine c_cond (b := (p0 == 6)) rfl (fun hb2767 => ?_) (fun hb2767 => ?_)
    · replace h := cond_t hb2767 h
      refine c_seq ?_
      refine c_region ?_
      refine o1 rfl (o_p rfl ?_)
      refine o1 rfl (o_p rfl ?_)
      refine o1 rfl (o_p rfl ?_)
      replace h := bsome h
      obtain ⟨d4, h4, h⟩ := h
      refine o1 rfl (o_call has14 rfl (c_read_Modified_2 X p1 p2 _ h4) (pc rm0 pn) ?_)
      refine o1 rfl (o_p rfl ?_)
      refine o1 rfl (o_p rfl ?_)
      refine o1 rfl (o_p rfl ?_)
      refine o1 rfl (o_p rfl ?_)
      refine o_end ?_
      refine e_seq ?_
      refine c_ret ?_
      refine e_blk_ret ?_
      refine e_then_ret ?_
      refine e_ret ?_
      refine r_endt rfl rfl (kc rm0 kr) ?_
      have hr := Option.some.inj h
      subst hr
      exact hk
    · replace h := cond_f hb2767 h
      refine c_seq ?_
      refine c_region ?_
      refine o1 rfl (o_p (v := (.bool (p0 == 7))) rfl ?_)
      refine o1 rfl (o_p rfl ?_)
      refine o_end ?_
      refine e_seq ?_
      refine c_cond (b := (p0 == 7)) rfl (fun hb2768 => ?_) (fun hb2768 => ?_)
      · replace h := cond_t hb2768 h
        refine c_seq ?_
        refine c_region ?_
        refine o1 rfl (o_p rfl ?_)
        refine o1 rfl (o_p rfl ?_)
        refine o1 rfl (o_p rfl ?_)
        replace h := bsome h
        obtain ⟨d5, h5, h⟩ := h
        refine o1 rfl (o_call has21 rfl (c_read_All_2 X p1 p2 _ h5) (pc rm0 pn) ?_)
        refine o1 rfl (o_p rfl ?_)
        refine o1 rfl (o_p rfl ?_)
        refine o1 rfl (o_p rfl ?_)
        refine o1 rfl (o_p rfl ?_)
        refine o_end ?_
        refine e_seq ?_
        refine c_ret ?_
        refine e_blk_ret ?_
        refine e_then_ret ?_
        refine e_ret ?_
        refine r_endt rfl rfl (kc rm0 kr) ?_
        have hr := Option.some.inj h
        subst hr
        exact hk
      · replace h := cond_f hb2768 h
        refine c_skip ?_
        refine e_blk ?_
        refine e_seq ?_
        refine c_seq ?_
        refine c_region ?_
        refine o1 rfl (o_p rfl ?_)
        refine o1 rfl (o_p rfl ?_)
        refine o_end ?_
        refine e_seq ?_
        refine c_ret ?_
        refine e_ret ?_
        refine r_endt rfl rfl (kc rm0 kr) ?_
        have hr := Option.some.inj h
        subst hr
        exact hk

theorem c_read_Length {g : Gw} (X : HP) (p0 : Int) (r : Int) (h : m_read_Length p0 = some r) : Tri env g 33 (List.toArray [(.pointer none), (.int .i64 p0)]) [X] (fun K R => K (.int .i64 r) (X :: R)) := by
  refine tri_of (fn := Try.f33) (N := 15) Try.func33 rfl rfl rfl ?_
  intro R K hk
  unfold m_read_Length at h
  change GC _ none _ [] [(0, (.pointer none)), (1, (.int .i64 p0))] (X :: R) g _ _
  refine c_seq ?_
  refine c_region ?_
  refine o1 rfl (o_p rfl ?_)
  refine o_end ?_
  refine e_seq ?_
  refine c_seq ?_
  refine c_region ?_
  refine o1 rfl (o_p rfl ?_)
  refine o1 rfl (o_p rfl ?_)
  replace h := bsome h
  obtain ⟨d1, h1, h⟩ := h
  refine o1 rfl (o_call has31 rfl (c_read_Buffer X 0 p0 _ h1) (pc rm0 pn) ?_)
  refine o1 rfl (o_p rfl ?_)
  refine o1 rfl (o_p rfl ?_)
  refine o1 rfl (o_p rfl ?_)
  refine o1 rfl (o_p rfl ?_)
  refine o1 rfl (o_p rfl ?_)
  refine o_end ?_
  refine e_seq ?_
  refine c_seq ?_
  refine c_region ?_
  refine o1 rfl (o_p rfl ?_)
  refine o1 rfl (o_len (s := SV.nil) rfl rfl rfl rm0 (rd_nil _ 5 (enI .u8)) ?_)
  refine o1 rfl (o_p rfl ?_)
  refine o_end ?_
  refine e_seq ?_
  refine c_ret ?_
  refine e_ret ?_
  refine r_endt rfl rfl (kc rm0 kr) ?_
  have hr := Option.some.inj h
  subst hr
  exact hk

theorem c_read_Most {g : Gw} (X : HP) (r : Int) (h : m_read_Most = some r) : Tri env g 34 (List.toArray [(.pointer none)]) [X] (fun K R => K (.int .i64 r) (X :: R)) := by
  refine tri_of (fn := Try.f34) (N := 8) Try.func34 rfl rfl rfl ?_
  intro R K hk
  unfold m_read_Most at h
  change GC _ none _ [] [(0, (.pointer none))] (X :: R) g _ _
  refine c_seq ?_
  refine c_region ?_
  refine o1 rfl (o_p rfl ?_)
  refine o_end ?_
  refine e_seq ?_
  refine c_seq ?_
  refine c_region ?_
  refine o1 rfl (o_p rfl ?_)
  replace h := bsome h
  obtain ⟨d1, h1, h⟩ := h
  refine o1 rfl (o_call has70 rfl (c_space_Space_Size_2 X _ h1) (pc rm0 pn) ?_)
  replace h := bsome h
  obtain ⟨d2, h2, h⟩ := h
  refine o1 rfl (o_call has71 rfl (c_addr_Size_Cells X (⟨d1.Rows, d1.Cols⟩ : Vaddr_Size) _ h2) (pc rm0 pn) ?_)
  refine o1 rfl (o_p (v := (.int .i64 (w64 (11 * d2)))) rfl ?_)
  refine o1 rfl (o_p (v := (.int .i64 (w64 (3 + (w64 (11 * d2)))))) rfl ?_)
  refine o1 rfl (o_p rfl ?_)
  refine o_end ?_
  refine e_seq ?_
  refine c_ret ?_
  refine e_ret ?_
  refine r_endt rfl rfl (kc rm0 kr) ?_
  have hr := Option.some.inj h
  subst hr
  exact hk

theorem c_vitrinelaw19_ReadNil {g : Gw} (X : HP) (p0 : Int) (p1 : Int) (p2 : Int) (r : Bool) (h : m_vitrinelaw19_ReadNil p0 p1 p2 = some r) : Tri env g 7 (List.toArray [(.int .i64 p0), (.int .u8 p1), (.int .i64 p2)]) [X] (fun K R => ∀ (i0 : HP), (Ext X i0) → K (.bool r) (i0 :: R)) := by
  refine tri_of (fn := Try.f7) (N := 73) Try.func7 rfl rfl rfl ?_
  intro R K hk
  unfold m_vitrinelaw19_ReadNil at h
  change GC _ none _ [] [(0, (.int .i64 p0)), (1, (.int .u8 p1)), (2, (.int .i64 p2))] (X :: R) g _ _
  refine c_seq ?_
  refine c_region ?_
  refine o1 rfl (o_p rfl ?_)
  refine o_end ?_
  refine e_seq ?_
  refine c_seq ?_
  refine c_seq ?_
  refine c_region ?_
  replace h := bsome h
  obtain ⟨d1, h1, h⟩ := h
  refine o1 rfl (o_call has10 rfl (c_vitrinelaw19_awake X _ h1) (pc rm0 pn) (fun i1 f1_0 => ?_))
  refine o1 rfl (o_p (v := (.bool (!d1))) rfl ?_)
  refine o_end ?_
  refine e_seq ?_
  refine c_cond (b := (!d1)) rfl (fun hb2686 => ?_) (fun hb2686 => ?_)
  · replace h := cond_t hb2686 h
    refine c_seq ?_
    refine c_region ?_
    refine o1 rfl (o_p rfl ?_)
    refine o_end ?_
    refine e_seq ?_
    refine c_ret ?_
    refine e_then_ret ?_
    refine e_ret ?_
    refine r_endt rfl rfl (kc rm0 kr) ?_
    have hr := Option.some.inj h
    subst hr
    exact hk i1 f1_0
  · replace h := cond_f hb2686 h
    refine c_skip ?_
    refine e_seq ?_
    refine c_seq ?_
    refine c_region ?_
    refine o1 rfl (o_p rfl ?_)
    refine o1 rfl (o_p rfl ?_)
    replace h := bsome h
    obtain ⟨d3, h3, h⟩ := h
    refine o1 rfl (o_call has31 rfl (c_read_Buffer i1 p1 p2 _ h3) (pc rm0 pn) ?_)
    refine o1 rfl (o_p rfl ?_)
    refine o1 rfl (o_p rfl ?_)
    refine o1 rfl (o_p rfl ?_)
    refine o1 rfl (o_p rfl ?_)
    refine o1 rfl (o_p rfl ?_)
    refine o_end ?_
    refine e_seq ?_
    refine c_seq ?_
    refine c_region ?_
    refine o1 rfl (o_p rfl ?_)
    refine o1 rfl (o_p rfl ?_)
    replace h := bsome h
    obtain ⟨d4, h4, h⟩ := h
    refine o1 rfl (o_call has14 rfl (c_read_Modified_2 i1 p1 p2 _ h4) (pc rm0 pn) ?_)
    refine o1 rfl (o_p rfl ?_)
    refine o1 rfl (o_p rfl ?_)
    refine o1 rfl (o_p rfl ?_)
    refine o1 rfl (o_p rfl ?_)
    refine o1 rfl (o_p rfl ?_)
    refine o_end ?_
    refine e_seq ?_
    refine c_seq ?_
    refine c_region ?_
    refine o1 rfl (o_p rfl ?_)
    refine o1 rfl (o_p rfl ?_)
    replace h := bsome h
    obtain ⟨d5, h5, h⟩ := h
    refine o1 rfl (o_call has21 rfl (c_read_All_2 i1 p1 p2 _ h5) (pc rm0 pn) ?_)
    refine o1 rfl (o_p rfl ?_)
    refine o1 rfl (o_p rfl ?_)
    refine o1 rfl (o_p rfl ?_)
    refine o1 rfl (o_p rfl ?_)
    refine o1 rfl (o_p rfl ?_)
    refine o_end ?_
    refine e_seq ?_
    refine c_seq ?_
    refine c_region ?_
    refine o1 rfl (o_p rfl ?_)
    refine o1 rfl (o_p rfl ?_)
    refine o1 rfl (o_p rfl ?_)
    replace h := bsome h
    obtain ⟨d6, h6, h⟩ := h
    refine o1 rfl (o_call has32 rfl (c_read_For i1 p0 p1 p2 _ h6) (pc rm0 pn) ?_)
    refine o1 rfl (o_p rfl ?_)
    refine o1 rfl (o_p rfl ?_)
    refine o1 rfl (o_p rfl ?_)
    refine o1 rfl (o_p rfl ?_)
    refine o1 rfl (o_p rfl ?_)
    refine o_end ?_
    refine e_seq ?_
    refine c_seq ?_
    refine c_region ?_
    refine o1 rfl (o_p rfl ?_)
    refine o_end ?_
    refine e_seq ?_
    refine c_seq ?_
    refine c_seq ?_
    replace h := bsome h
    obtain ⟨d7, h, hk7⟩ := h
    refine cj (D := Unit) (ι := Unit) (fun _ i7 => True) (fun _ i7 => [(48, (.bool d7)), (15, (.int .i64 5)), (14, (.int .i64 d6)), (12, (.int .i64 d5)), (10, (.int .i64 d4)), (8, (.int .i64 d3)), (2, (.int .i64 p2))]) (fun _ i7 => i1 :: R) ?_ ?_
    · refine c_region ?_
      refine o1 rfl (o_p rfl ?_)
      refine o1 rfl (o_p (v := (.bool (decide (p0 < 5)))) rfl ?_)
      refine o1 rfl (o_p rfl ?_)
      rcases bool_or ((decide (p0 < 5))) with hb2769 | hb2769
      · replace h := cond_t hb2769 h
        refine on rfl rfl rfl hb2769 ?_
        refine on rfl rfl rfl hb2769 ?_
        refine o1 rfl (o_pick_t rfl hb2769 rfl ?_)
        refine o_end ?_
        have hd := Option.some.inj h
        subst hd
        exact ej () () trivial (sc rfl (sc rfl (sc rfl (sc rfl (sc rfl (sc rfl (sc rfl sn))))))) (kc rm0 kr)
      · replace h := cond_f hb2769 h
        refine oy rfl rfl rfl hb2769 (o_p rfl ?_)
        refine oy rfl rfl rfl hb2769 (o_p (v := (.bool (decide (p0 > 7)))) rfl ?_)
        refine o1 rfl (o_pick_f rfl hb2769 rfl ?_)
        refine o_end ?_
        have hd := Option.some.inj h
        subst hd
        exact ej () () trivial (sc rfl (sc rfl (sc rfl (sc rfl (sc rfl (sc rfl (sc rfl sn))))))) (kc rm0 kr)
    · rintro _ i7 _
      replace h := hk7
      clear hk7
      refine e_seq ?_
      replace h := bsome h
      obtain ⟨d8, h, hk8⟩ := h
      refine cj (D := Unit) (ι := Unit) (fun _ i8 => True) (fun _ i8 => [(15, (.int .i64 d8)), (14, (.int .i64 d6)), (12, (.int .i64 d5)), (10, (.int .i64 d4)), (8, (.int .i64 d3)), (2, (.int .i64 p2))]) (fun _ i8 => i1 :: R) ?_ ?_
      · refine c_cond (b := d7) rfl (fun hb2770 => ?_) (fun hb2770 => ?_)
        · replace h := cond_t hb2770 h
          refine c_region ?_
          refine o1 rfl (o_p rfl ?_)
          refine o_end ?_
          have hd := Option.some.inj h
          subst hd
          exact ej () () trivial (sc rfl (sc rfl (sc rfl (sc rfl (sc rfl (sc rfl sn)))))) (kc rm0 kr)
        · replace h := cond_f hb2770 h
          refine c_skip ?_
          have hd := Option.some.inj h
          subst hd
          exact ej () () trivial (sc rfl (sc rfl (sc rfl (sc rfl (sc rfl (sc rfl sn)))))) (kc rm0 kr)
      · rintro _ i8 _
        replace h := hk8
        clear hk8
        refine e_seq ?_
        refine c_seq ?_
        replace h := bsome h
        obtain ⟨d9, h, hk9⟩ := h
        refine cj (D := Unit) (ι := Unit) (fun _ i9 => True) (fun _ i9 => [(6, (.bool d9))]) (fun _ i9 => i1 :: R) ?_ ?_
        · refine c_region ?_
          refine o1 rfl (o_p rfl ?_)
          refine o1 rfl (o_p (v := (.bool (d3 == 5))) rfl ?_)
          refine o1 rfl (o_p rfl ?_)
          rcases bool_or ((d3 == 5)) with hb2771 | hb2771
          · replace h := cond_t hb2771 h
            refine oy rfl rfl rfl hb2771 (o_p rfl ?_)
            refine oy rfl rfl rfl hb2771 (o_p (v := (.bool (d4 == 5))) rfl ?_)
            refine o1 rfl (o_pick_t rfl hb2771 rfl ?_)
            refine o1 rfl (o_p rfl ?_)
            rcases bool_or ((d4 == 5)) with hb2772 | hb2772
            · replace h := cond_t hb2772 h
              refine oy rfl rfl rfl hb2772 (o_p rfl ?_)
              refine oy rfl rfl rfl hb2772 (o_p (v := (.bool (d5 == 5))) rfl ?_)
              refine o1 rfl (o_pick_t rfl hb2772 rfl ?_)
              refine o1 rfl (o_p rfl ?_)
              rcases bool_or ((d5 == 5)) with hb2773 | hb2773
              · replace h := cond_t hb2773 h
                refine oy rfl rfl rfl hb2773 (o_p rfl ?_)
                refine oy rfl rfl rfl hb2773 (o_p rfl ?_)
                refine oy rfl rfl rfl hb2773 (o_p (v := (.bool (d6 == d8))) rfl ?_)
                refine o1 rfl (o_pick_t rfl hb2773 rfl ?_)
                refine o1 rfl (o_p rfl ?_)
                rcases bool_or ((d6 == d8)) with hb2774 | hb2774
                · replace h := cond_t hb2774 h
                  refine oy rfl rfl rfl hb2774 (o_p rfl ?_)
                  replace h := bsome h
                  obtain ⟨d10, h10, h⟩ := h
                  refine oy rfl rfl rfl hb2774 (o_call has33 rfl (c_read_Length i1 p2 _ h10) (pc rm0 pn) ?_)
                  refine oy rfl rfl rfl hb2774 (o_p (v := (.bool (d10 == 0))) rfl ?_)
                  refine o1 rfl (o_pick_t rfl hb2774 rfl ?_)
                  refine o1 rfl (o_p rfl ?_)
                  rcases bool_or ((d10 == 0)) with hb2775 | hb2775
                  · replace h := cond_t hb2775 h
                    replace h := bsome h
                    obtain ⟨d11, h11, h⟩ := h
                    refine oy rfl rfl rfl hb2775 (o_call has34 rfl (c_read_Most i1 _ h11) (pc rm0 pn) ?_)
                    refine oy rfl rfl rfl hb2775 (o_p (v := (.bool (d11 == 3))) rfl ?_)
                    refine o1 rfl (o_pick_t rfl hb2775 rfl ?_)
                    refine o1 rfl (o_p rfl ?_)
                    refine o_end ?_
                    have hd := Option.some.inj h
                    subst hd
                    exact ej () () trivial (sc rfl sn) (kc rm0 kr)
                  · replace h := cond_f hb2775 h
                    refine on rfl rfl rfl hb2775 ?_
                    refine on rfl rfl rfl hb2775 ?_
                    refine o1 rfl (o_pick_f rfl hb2775 rfl ?_)
                    refine o1 rfl (o_p rfl ?_)
                    refine o_end ?_
                    have hd := Option.some.inj h
                    subst hd
                    exact ej () () trivial (sc rfl sn) (kc rm0 kr)
                · replace h := cond_f hb2774 h
                  refine on rfl rfl rfl hb2774 ?_
                  refine on rfl rfl rfl hb2774 ?_
                  refine on rfl rfl rfl hb2774 ?_
                  refine o1 rfl (o_pick_f rfl hb2774 rfl ?_)
                  refine o1 rfl (o_p rfl ?_)
                  refine on rfl rfl rfl rfl ?_
                  refine on rfl rfl rfl rfl ?_
                  refine o1 rfl (o_pick_f rfl rfl rfl ?_)
                  refine o1 rfl (o_p rfl ?_)
                  refine o_end ?_
                  have hd := Option.some.inj h
                  subst hd
                  exact ej () () trivial (sc rfl sn) (kc rm0 kr)
              · replace h := cond_f hb2773 h
                refine on rfl rfl rfl hb2773 ?_
                refine on rfl rfl rfl hb2773 ?_
                refine on rfl rfl rfl hb2773 ?_
                refine o1 rfl (o_pick_f rfl hb2773 rfl ?_)
                refine o1 rfl (o_p rfl ?_)
                refine on rfl rfl rfl rfl ?_
                refine on rfl rfl rfl rfl ?_
                refine on rfl rfl rfl rfl ?_
                refine o1 rfl (o_pick_f rfl rfl rfl ?_)
                refine o1 rfl (o_p rfl ?_)
                refine on rfl rfl rfl rfl ?_
                refine on rfl rfl rfl rfl ?_
                refine o1 rfl (o_pick_f rfl rfl rfl ?_)
                refine o1 rfl (o_p rfl ?_)
                refine o_end ?_
                have hd := Option.some.inj h
                subst hd
                exact ej () () trivial (sc rfl sn) (kc rm0 kr)
            · replace h := cond_f hb2772 h
              refine on rfl rfl rfl hb2772 ?_
              refine on rfl rfl rfl hb2772 ?_
              refine o1 rfl (o_pick_f rfl hb2772 rfl ?_)
              refine o1 rfl (o_p rfl ?_)
              refine on rfl rfl rfl rfl ?_
              refine on rfl rfl rfl rfl ?_
              refine on rfl rfl rfl rfl ?_
              refine o1 rfl (o_pick_f rfl rfl rfl ?_)
              refine o1 rfl (o_p rfl ?_)
              refine on rfl rfl rfl rfl ?_
              refine on rfl rfl rfl rfl ?_
              refine on rfl rfl rfl rfl ?_
              refine o1 rfl (o_pick_f rfl rfl rfl ?_)
              refine o1 rfl (o_p rfl ?_)
              refine on rfl rfl rfl rfl ?_
              refine on rfl rfl rfl rfl ?_
              refine o1 rfl (o_pick_f rfl rfl rfl ?_)
              refine o1 rfl (o_p rfl ?_)
              refine o_end ?_
              have hd := Option.some.inj h
              subst hd
              exact ej () () trivial (sc rfl sn) (kc rm0 kr)
          · replace h := cond_f hb2771 h
            refine on rfl rfl rfl hb2771 ?_
            refine on rfl rfl rfl hb2771 ?_
            refine o1 rfl (o_pick_f rfl hb2771 rfl ?_)
            refine o1 rfl (o_p rfl ?_)
            refine on rfl rfl rfl rfl ?_
            refine on rfl rfl rfl rfl ?_
            refine o1 rfl (o_pick_f rfl rfl rfl ?_)
            refine o1 rfl (o_p rfl ?_)
            refine on rfl rfl rfl rfl ?_
            refine on rfl rfl rfl rfl ?_
            refine on rfl rfl rfl rfl ?_
            refine o1 rfl (o_pick_f rfl rfl rfl ?_)
            refine o1 rfl (o_p rfl ?_)
            refine on rfl rfl rfl rfl ?_
            refine on rfl rfl rfl rfl ?_
            refine on rfl rfl rfl rfl ?_
            refine o1 rfl (o_pick_f rfl rfl rfl ?_)
            refine o1 rfl (o_p rfl ?_)
            refine on rfl rfl rfl rfl ?_
            refine on rfl rfl rfl rfl ?_
            refine o1 rfl (o_pick_f rfl rfl rfl ?_)
            refine o1 rfl (o_p rfl ?_)
            refine o_end ?_
            have hd := Option.some.inj h
            subst hd
            exact ej () () trivial (sc rfl sn) (kc rm0 kr)
        · rintro _ i9 _
          replace h := hk9
          clear hk9
          refine e_seq ?_
          refine c_ret ?_
          refine e_ret ?_
          refine r_endt rfl rfl (kc rm0 kr) ?_
          have hr := Option.some.inj h
          subst hr
          exact hk i1 f1_0

end Go.Vt
