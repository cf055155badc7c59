/- The walks: each function does what its model says. No conditions. -/
import Derived.Test.YtmemmonmlbfopaaGreatDoorVwWJa
set_option linter.unusedVariables false
set_option maxRecDepth 100000
set_option maxHeartbeats 4000000
namespace Go.Vt
open Go.Proofs
theorem c_order_scanner_op {g : Gw} (hg : GK g) (X : HP) (p0 : Vorder_scanner) (b0 : Nat) (s0 : SV) (q0 : Rd X s0 5 (enI .u8) p0.p) (r : Vorder_scanner × Vorder_Op) (h : m_order_scanner_op p0 = some r) : Tri env g 112 (List.toArray [(.pointer (some ⟨b0, 0, none⟩))]) [X, blk b0 (.cells (List.toArray [(SV.val s0), (.int .i64 p0.code)]) 213 (0, 0))] (fun K R => ∀ (i0 : HP × SV × SV × SV), (Rd i0.1 i0.2.1 5 (enI .u8) r.1.p) → (Ext X i0.1) → K (.agg (List.toArray [(.int .i64 r.2.Kind), (.int .i64 r.2.Addr), (.int .u8 r.2.Code), (.bool r.2.Graph), (.int .u8 r.2.FA), (SV.val i0.2.2.1), (SV.val i0.2.2.2)])) (i0.1 :: blk b0 (.cells (List.toArray [(SV.val i0.2.1), (.int .i64 r.1.code)]) 213 (0, 0)) :: slO i0.2.2.1 254 en_Vattr_Pair r.2.Pairs :: slO i0.2.2.2 5 (enI .u8) r.2.Text :: R)) := by
 refine tri_of (fn := Tryz.f112) (N := 79) Tryz.func112 rfl rfl rfl ?_
 intro R K hk
 unfold m_order_scanner_op at h
 change GC _ none _ [] [(0, (.pointer (some ⟨b0, 0, none⟩)))] (X :: blk b0 (.cells (List.toArray [(SV.val s0), (.int .i64 p0.code)]) 213 (0, 0)) :: R) g _ _
 refine c_seq (c_region ?_)
 refine o1 rfl (o_alloc (cs := [(.int .i64 0), (.int .i64 0), (.int .u8 0), (.bool false), (.int .u8 0), (SV.val SV.nil), (SV.val SV.nil)]) rfl rfl (fun b162 => ?_))
 refine o_end (e_seq (c_seq (c_seq (c_region (o1 rfl (o_p rfl ?_))))))
 refine o1 rfl (o_p rfl ?_)
 refine o1 rfl (o_fa (fd := ⟨ "p", 46, 0, false, "", "vitrine/order", 0⟩) rfl rfl rfl rfl rfl ?_)
 refine o1 rfl (o_ld (b := b0) (off := 0) (v := (SV.val s0)) rfl rm2 rfl rfl ?_)
 replace h := gsome h
 obtain ⟨hg164, h⟩ := h
 refine o1 rfl (o_ix (s := s0) (n := 0) (e := (enI .u8)) rfl rfl rfl rfl rfl rfl rm1 q0 hg164 ?_)
 refine o1 rfl (o_ldE (s := s0) (e := (enI .u8)) (n := 0) (f := 0) (v := (.int .u8 (rd p0.p 0))) rfl rm1 q0 hg164 rfl rfl ?_)
 replace h := bsome h
 obtain ⟨d1, h1, h⟩ := h
 refine o1 rfl (o_call has148 rfl (c_order_Is hg X (rd p0.p 0) _ h1) (pc rm1 pn) ?_)
 refine o1 rfl (o_p (v := (.bool (!d1))) rfl ?_)
 refine o_end (e_seq ?_)
 refine c_cond (b := (!d1)) rfl (fun hb177 => ?_) (fun hb177 => ?_)
 ·replace h := cond_t hb177 h
  refine c_seq (c_region (o1 rfl (o_p rfl ?_)))
  replace h := bsome h
  obtain ⟨d3, h3, h⟩ := h
  refine o1 rfl (o_call has149 rfl (c_order_scanner_text hg X p0 b0 s0 q0 _ h3) (pc rm0 (pc rm1 pn)) (fun i3 f3_0 f3_1 => ?_))
  refine o1 rfl (o_build (fs := [⟨ "Kind", 3, 0, false, "", "", 0⟩, ⟨ "Addr", 3, 1, false, "", "", 8⟩, ⟨ "Code", 5, 2, false, "", "", 16⟩, ⟨ "Graph", 4, 3, false, "", "", 17⟩, ⟨ "FA", 5, 4, false, "", "", 18⟩, ⟨ "Pairs", 127, 5, false, "", "", 24⟩, ⟨ "Text", 46, 6, false, "", "", 48⟩]) (ps := [(0, 1), (1, 1), (2, 1), (3, 1), (4, 1), (5, 1), (6, 1)]) (cs := [(.int .i64 0), (.int .i64 0), (.int .u8 0), (.bool false), (.int .u8 0), (SV.val SV.nil), (SV.val i3.2.2)]) rfl rfl rfl rfl rfl ?_)
  refine o0 (o_st (b := b162) (off := 0) (vs := [(.int .i64 0), (.int .i64 0), (.int .u8 0), (.bool false), (.int .u8 0), (SV.val SV.nil), (SV.val i3.2.2)]) (cs' := [(.int .i64 0), (.int .i64 0), (.int .u8 0), (.bool false), (.int .u8 0), (SV.val SV.nil), (SV.val i3.2.2)]) rfl rfl rp3 rfl rfl rfl rfl rfl rfl ?_)
  refine o_end (e_seq (c_ret (e_then_ret (e_ret ?_))))
  refine r_add (slO SV.nil 254 en_Vattr_Pair []) (slO_nil _ _ _) ?_
  refine r_endc (B := [[(.int .i64 0), (.int .i64 0), (.int .u8 0), (.bool false), (.int .u8 0), (SV.val SV.nil), (SV.val i3.2.2)]]) rfl ⟨⟨_, _, _, _, rfl, rm4⟩, trivial⟩ rfl (kc rm1 (kc rm1 (kc rm0 (kc rm0 (kd kr))))) ?_
  obtain rfl := Option.some.inj h
  exact hk (i3.1, i3.2.1, SV.nil, i3.2.2) f3_0 f3_1
 ·replace h := cond_f hb177 h
  refine c_skip (e_seq (c_seq (c_region (o1 rfl (o_p rfl ?_)))))
  replace h := bsome h
  obtain ⟨d4, h4, h⟩ := h
  refine o1 rfl (o_call has150 rfl (c_order_scanner_take hg X p0 b0 s0 q0 1 _ h4) (pc rm0 (pc rm1 pn)) (fun i4 f4_0 f4_1 f4_2 => ?_))
  replace h := gsome h
  obtain ⟨hg211, h⟩ := h
  refine o1 rfl (o_ix (s := i4.2.2) (n := 0) (e := (enI .u8)) rfl rfl rfl rfl rfl rfl rm0 f4_1 hg211 ?_)
  refine o1 rfl (o_ldE (s := i4.2.2) (e := (enI .u8)) (n := 0) (f := 0) (v := (.int .u8 (rd d4.2 0))) rfl rm0 f4_1 hg211 rfl rfl ?_)
  refine o1 rfl (o_p (v := (.int .i64 (w64 ((rd d4.2 0))))) rfl ?_)
  refine o1 rfl (o_build (fs := [⟨ "Kind", 3, 0, false, "", "", 0⟩, ⟨ "Addr", 3, 1, false, "", "", 8⟩, ⟨ "Code", 5, 2, false, "", "", 16⟩, ⟨ "Graph", 4, 3, false, "", "", 17⟩, ⟨ "FA", 5, 4, false, "", "", 18⟩, ⟨ "Pairs", 127, 5, false, "", "", 24⟩, ⟨ "Text", 46, 6, false, "", "", 48⟩]) (ps := [(0, 1), (1, 1), (2, 1), (3, 1), (4, 1), (5, 1), (6, 1)]) (cs := [(.int .i64 (w64 ((rd d4.2 0)))), (.int .i64 0), (.int .u8 0), (.bool false), (.int .u8 0), (SV.val SV.nil), (SV.val SV.nil)]) rfl rfl rfl rfl rfl ?_)
  refine o1 rfl (o_alloc (cs := [(.int .i64 0), (.int .i64 0), (.int .u8 0), (.bool false), (.int .u8 0), (SV.val SV.nil), (SV.val SV.nil)]) rfl rfl (fun b212 => ?_))
  refine o0 (o_st (b := b212) (off := 0) (vs := [(.int .i64 (w64 ((rd d4.2 0)))), (.int .i64 0), (.int .u8 0), (.bool false), (.int .u8 0), (SV.val SV.nil), (SV.val SV.nil)]) (cs' := [(.int .i64 (w64 ((rd d4.2 0)))), (.int .i64 0), (.int .u8 0), (.bool false), (.int .u8 0), (SV.val SV.nil), (SV.val SV.nil)]) rfl rfl rp0 rfl rfl rfl rfl rfl rfl ?_)
  refine o_end (e_seq (c_seq (c_seq (c_region ?_))))
  refine o1 rfl (o_fa (fd := ⟨ "Kind", 3, 0, false, "", "", 0⟩) rfl rfl rfl rfl rfl ?_)
  refine o1 rfl (o_ld (b := b212) (off := 0) (v := (.int .i64 (w64 ((rd d4.2 0))))) rfl rm0 rfl rfl ?_)
  refine o_end (e_seq (c_block (c_seq (c_seq (c_region ?_)))))
  refine o1 rfl (o_p (v := (.bool ((w64 ((rd d4.2 0))) == 17))) rfl ?_)
  refine o1 rfl (o_p rfl (o_end (e_seq ?_)))
  replace h := bsome h
  obtain ⟨d6, h, hk6⟩ := h
  refine cj (D := Unit) (ι := Unit) (fun _ i6 => True) (fun _ i6 => [(23, (.bool d6)), (22, (.int .i64 (w64 ((rd d4.2 0))))), (3, (.pointer (some ⟨b212, 0, none⟩))), (2, (.pointer (some ⟨b162, 0, none⟩))), (0, (.pointer (some ⟨b0, 0, none⟩)))]) (fun _ i6 => i4.1 :: blk b212 (.cells (List.toArray [(.int .i64 (w64 ((rd d4.2 0)))), (.int .i64 0), (.int .u8 0), (.bool false), (.int .u8 0), (SV.val SV.nil), (SV.val SV.nil)]) 129 (0, 0)) :: blk b162 (.cells (List.toArray [(.int .i64 0), (.int .i64 0), (.int .u8 0), (.bool false), (.int .u8 0), (SV.val SV.nil), (SV.val SV.nil)]) 129 (0, 0)) :: blk b0 (.cells (List.toArray [(SV.val i4.2.1), (.int .i64 d4.1.code)]) 213 (0, 0)) :: R) ?_ ?_
  ·refine c_cond (b := ((w64 ((rd d4.2 0))) == 17)) rfl (fun hb214 => ?_) (fun hb214 => ?_)
   ·replace h := cond_t hb214 h
    refine c_skip ?_
    obtain rfl := Option.some.inj h
    exact ej () () trivial (sc rfl (sc rfl (sc rfl (sc rfl (sc rfl sn))))) (kc rm1 (kc rm0 (kc rm1 (kc rm0 kr))))
   ·replace h := cond_f hb214 h
    refine c_region ?_
    refine o1 rfl (o_p (v := (.bool ((w64 ((rd d4.2 0))) == 18))) rfl ?_)
    refine o1 rfl (o_p rfl (o_end ?_))
    obtain rfl := Option.some.inj h
    exact ej () () trivial (sc rfl (sc rfl (sc rfl (sc rfl (sc rfl sn))))) (kc rm1 (kc rm0 (kc rm1 (kc rm0 kr))))
  ·rintro _ i6 _
   replace h := hk6
   clear hk6
   refine e_seq ?_
   replace h := bsome h
   obtain ⟨d7, h, hk7⟩ := h
   refine cj (D := Unit) (ι := HP × SV × SV) (fun _ i7 => (Rd i7.1 i7.2.2 5 (enI .u8) d7.2.2.2.2.2.1) ∧ (Ext X i7.1)) (fun _ i7 => [(3, (.pointer (some ⟨b212, 0, none⟩))), (2, (.pointer (some ⟨b162, 0, none⟩)))]) (fun _ i7 => i7.1 :: blk b212 (.cells (List.toArray [(.int .i64 (w64 ((rd d4.2 0)))), (.int .i64 d7.1), (.int .u8 d7.2.1), (.bool d7.2.2.1), (.int .u8 d7.2.2.2.1), (SV.val i7.2.1), (SV.val SV.nil)]) 129 (0, 0)) :: blk b162 (.cells (List.toArray [(.int .i64 0), (.int .i64 0), (.int .u8 0), (.bool false), (.int .u8 0), (SV.val SV.nil), (SV.val SV.nil)]) 129 (0, 0)) :: blk b0 (.cells (List.toArray [(SV.val i7.2.2), (.int .i64 d7.2.2.2.2.2.2)]) 213 (0, 0)) :: slO i7.2.1 254 en_Vattr_Pair d7.2.2.2.2.1 :: R) ?_ ?_
   ·refine c_cond (b := d6) rfl (fun hb215 => ?_) (fun hb215 => ?_)
    ·replace h := cond_t hb215 h
     refine c_region (o1 rfl (o_p rfl ?_))
     replace h := bsome h
     obtain ⟨d8, h8, h⟩ := h
     refine o1 rfl (o_call has151 rfl (c_order_scanner_addr hg i4.1 d4.1 b0 i4.2.1 f4_0 _ h8) (pc rm0 (pc rm2 pn)) (fun i8 f8_0 f8_1 => ?_))
     refine o1 rfl (o_fa (fd := ⟨ "Addr", 3, 1, false, "", "", 8⟩) rfl rfl rfl rfl rfl ?_)
     refine o0 (o_st (b := b212) (off := 1) (vs := [(.int .i64 d8.2)]) (cs' := [(.int .i64 (w64 ((rd d4.2 0)))), (.int .i64 d8.2), (.int .u8 0), (.bool false), (.int .u8 0), (SV.val SV.nil), (SV.val SV.nil)]) rfl rfl rp2 rfl rfl rfl rfl rfl rfl ?_)
     refine o_end ?_
     refine e_add (slO SV.nil 254 en_Vattr_Pair []) (slO_nil _ _ _) ?_
     obtain rfl := Option.some.inj h
     exact ej () (i8.1, SV.nil, i8.2) ⟨f8_0, (Ext.trans f4_2 f8_1)⟩ (sc rfl (sc rfl sn)) (kc rm1 (kc rm2 (kc rm2 (kc rm1 (kc rm0 kr)))))
    ·replace h := cond_f hb215 h
     refine c_seq (c_region ?_)
     refine o1 rfl (o_p (v := (.bool ((w64 ((rd d4.2 0))) == 60))) rfl ?_)
     refine o1 rfl (o_p rfl (o_end (e_seq ?_)))
     refine c_cond (b := ((w64 ((rd d4.2 0))) == 60)) rfl (fun hb241 => ?_) (fun hb241 => ?_)
     ·replace h := cond_t hb241 h
      refine c_seq (c_region (o1 rfl (o_p rfl ?_)))
      replace h := bsome h
      obtain ⟨d9, h9, h⟩ := h
      refine o1 rfl (o_call has151 rfl (c_order_scanner_addr hg i4.1 d4.1 b0 i4.2.1 f4_0 _ h9) (pc rm0 (pc rm2 pn)) (fun i9 f9_0 f9_1 => ?_))
      refine o1 rfl (o_fa (fd := ⟨ "Addr", 3, 1, false, "", "", 8⟩) rfl rfl rfl rfl rfl ?_)
      refine o0 (o_st (b := b212) (off := 1) (vs := [(.int .i64 d9.2)]) (cs' := [(.int .i64 (w64 ((rd d4.2 0)))), (.int .i64 d9.2), (.int .u8 0), (.bool false), (.int .u8 0), (SV.val SV.nil), (SV.val SV.nil)]) rfl rfl rp2 rfl rfl rfl rfl rfl rfl ?_)
      refine o_end (e_seq (c_seq (c_seq ?_)))
      replace h := bsome h
      obtain ⟨d10, h, hk10⟩ := h
      refine cj (D := Unit) (ι := Unit) (fun _ i10 => True) (fun _ i10 => [(48, (.bool d10)), (3, (.pointer (some ⟨b212, 0, none⟩))), (2, (.pointer (some ⟨b162, 0, none⟩))), (0, (.pointer (some ⟨b0, 0, none⟩)))]) (fun _ i10 => i9.1 :: blk b212 (.cells (List.toArray [(.int .i64 (w64 ((rd d4.2 0)))), (.int .i64 d9.2), (.int .u8 0), (.bool false), (.int .u8 0), (SV.val SV.nil), (SV.val SV.nil)]) 129 (0, 0)) :: blk b162 (.cells (List.toArray [(.int .i64 0), (.int .i64 0), (.int .u8 0), (.bool false), (.int .u8 0), (SV.val SV.nil), (SV.val SV.nil)]) 129 (0, 0)) :: blk b0 (.cells (List.toArray [(SV.val i9.2), (.int .i64 d9.1.code)]) 213 (0, 0)) :: R) ?_ ?_
      ·refine c_region (o1 rfl (o_p rfl (o1 rfl (o_p rfl ?_))))
       refine o1 rfl (o_fa (fd := ⟨ "p", 46, 0, false, "", "vitrine/order", 0⟩) rfl rfl rfl rfl rfl ?_)
       refine o1 rfl (o_ld (b := b0) (off := 0) (v := (SV.val i9.2)) rfl rm1 rfl rfl ?_)
       refine o1 rfl (o_len (s := i9.2) rfl rfl rfl rm0 f9_0 ?_)
       refine o1 rfl (o_p (v := (.bool (decide ((d9.1.p.length : Int) > 0)))) rfl ?_)
       refine o1 rfl (o_p rfl ?_)
       rcases bool_or ((decide ((d9.1.p.length : Int) > 0))) with hb242 | hb242
       ·replace h := cond_t hb242 h
        refine oy rfl rfl rfl hb242 (o_p rfl ?_)
        refine oy rfl rfl rfl hb242 (o_p rfl ?_)
        refine oy rfl rfl rfl hb242 (o_fa (fd := ⟨ "p", 46, 0, false, "", "vitrine/order", 0⟩) rfl rfl rfl rfl rfl ?_)
        refine oy rfl rfl rfl hb242 (o_ld (b := b0) (off := 0) (v := (SV.val i9.2)) rfl rm1 rfl rfl ?_)
        replace h := gsome h
        obtain ⟨hg243, h⟩ := h
        refine oy rfl rfl rfl hb242 (o_ix (s := i9.2) (n := 0) (e := (enI .u8)) rfl rfl rfl rfl rfl rfl rm0 f9_0 hg243 ?_)
        refine oy rfl rfl rfl hb242 (o_ldE (s := i9.2) (e := (enI .u8)) (n := 0) (f := 0) (v := (.int .u8 (rd d9.1.p 0))) rfl rm0 f9_0 hg243 rfl rfl ?_)
        refine oy rfl rfl rfl hb242 (o_p (v := (.bool ((rd d9.1.p 0) == 8))) rfl ?_)
        refine o1 rfl (o_pick_t rfl hb242 rfl ?_)
        refine o_end ?_
        obtain rfl := Option.some.inj h
        exact ej () () trivial (sc rfl (sc rfl (sc rfl (sc rfl sn)))) (kc rm0 (kc rm1 (kc rm1 (kc rm0 kr))))
       ·replace h := cond_f hb242 h
        refine on rfl rfl rfl hb242 ?_
        refine on rfl rfl rfl hb242 ?_
        refine on rfl rfl rfl hb242 ?_
        refine on rfl rfl rfl hb242 ?_
        refine on rfl rfl rfl hb242 ?_
        refine on rfl rfl rfl hb242 ?_
        refine on rfl rfl rfl hb242 ?_
        refine o1 rfl (o_pick_f rfl hb242 rfl ?_)
        refine o_end ?_
        obtain rfl := Option.some.inj h
        exact ej () () trivial (sc rfl (sc rfl (sc rfl (sc rfl sn)))) (kc rm0 (kc rm1 (kc rm1 (kc rm0 kr))))
      ·rintro _ i10 _
       replace h := hk10
       clear hk10
       refine e_seq ?_
       replace h := bsome h
       obtain ⟨d11, h, hk11⟩ := h
       refine cj (D := Unit) (ι := HP × SV) (fun _ i11 => (Rd i11.1 i11.2 5 (enI .u8) d11.2.1) ∧ (Ext X i11.1)) (fun _ i11 => [(3, (.pointer (some ⟨b212, 0, none⟩))), (2, (.pointer (some ⟨b162, 0, none⟩))), (0, (.pointer (some ⟨b0, 0, none⟩)))]) (fun _ i11 => i11.1 :: blk b212 (.cells (List.toArray [(.int .i64 (w64 ((rd d4.2 0)))), (.int .i64 d9.2), (.int .u8 0), (.bool d11.1), (.int .u8 0), (SV.val SV.nil), (SV.val SV.nil)]) 129 (0, 0)) :: blk b162 (.cells (List.toArray [(.int .i64 0), (.int .i64 0), (.int .u8 0), (.bool false), (.int .u8 0), (SV.val SV.nil), (SV.val SV.nil)]) 129 (0, 0)) :: blk b0 (.cells (List.toArray [(SV.val i11.2), (.int .i64 d11.2.2)]) 213 (0, 0)) :: R) ?_ ?_
       ·refine c_cond (b := d10) rfl (fun hb244 => ?_) (fun hb244 => ?_)
        ·replace h := cond_t hb244 h
         refine c_seq (c_region (o1 rfl (o_p rfl ?_)))
         replace h := bsome h
         obtain ⟨d12, h12, h⟩ := h
         refine o1 rfl (o_call has150 rfl (c_order_scanner_take hg i9.1 d9.1 b0 i9.2 f9_0 1 _ h12) (pc rm0 (pc rm2 pn)) (fun i12 f12_0 f12_1 f12_2 => ?_))
         refine o_end (e_seq (c_region ?_))
         refine o1 rfl (o_fa (fd := ⟨ "Graph", 4, 3, false, "", "", 17⟩) rfl rfl rfl rfl rfl ?_)
         refine o0 (o_st (b := b212) (off := 3) (vs := [(.bool true)]) (cs' := [(.int .i64 (w64 ((rd d4.2 0)))), (.int .i64 d9.2), (.int .u8 0), (.bool true), (.int .u8 0), (SV.val SV.nil), (SV.val SV.nil)]) rfl rfl rp2 rfl rfl rfl rfl rfl rfl ?_)
         refine o_end ?_
         obtain rfl := Option.some.inj h
         exact ej () (i12.1, i12.2.1) ⟨f12_0, (Ext.trans (Ext.trans f4_2 f9_1) f12_2)⟩ (sc rfl (sc rfl (sc rfl sn))) (kc rm0 (kc rm1 (kc rm1 (kc rm0 kr))))
        ·replace h := cond_f hb244 h
         refine c_skip ?_
         obtain rfl := Option.some.inj h
         exact ej () (i9.1, i9.2) ⟨f9_0, (Ext.trans f4_2 f9_1)⟩ (sc rfl (sc rfl (sc rfl sn))) (kc rm0 (kc rm0 (kc rm0 (kc rm0 kr))))
       ·rintro _ i11 ⟨f11_0, f11_1⟩
        replace h := hk11
        clear hk11
        refine e_seq (c_region (o1 rfl (o_p rfl ?_)))
        replace h := bsome h
        obtain ⟨d13, h13, h⟩ := h
        refine o1 rfl (o_call has152 rfl (c_order_scanner_character hg i11.1 (⟨d11.2.1, d11.2.2⟩ : Vorder_scanner) b0 i11.2 f11_0 _ h13) (pc rm0 (pc rm2 pn)) (fun i13 f13_0 f13_1 => ?_))
        refine o1 rfl (o_fa (fd := ⟨ "Code", 5, 2, false, "", "", 16⟩) rfl rfl rfl rfl rfl ?_)
        refine o0 (o_st (b := b212) (off := 2) (vs := [(.int .u8 d13.2)]) (cs' := [(.int .i64 (w64 ((rd d4.2 0)))), (.int .i64 d9.2), (.int .u8 d13.2), (.bool d11.1), (.int .u8 0), (SV.val SV.nil), (SV.val SV.nil)]) rfl rfl rp2 rfl rfl rfl rfl rfl rfl ?_)
        refine o_end ?_
        refine e_add (slO SV.nil 254 en_Vattr_Pair []) (slO_nil _ _ _) ?_
        obtain rfl := Option.some.inj h
        exact ej () (i13.1, SV.nil, i13.2) ⟨f13_0, (Ext.trans f11_1 f13_1)⟩ (sc rfl (sc rfl sn)) (kc rm1 (kc rm2 (kc rm2 (kc rm1 (kc rm0 kr)))))
     ·replace h := cond_f hb241 h
      refine c_seq (c_region ?_)
      refine o1 rfl (o_p (v := (.bool ((w64 ((rd d4.2 0))) == 29))) rfl ?_)
      refine o1 rfl (o_p rfl (o_end (e_seq ?_)))
      refine c_cond (b := ((w64 ((rd d4.2 0))) == 29)) rfl (fun hb247 => ?_) (fun hb247 => ?_)
      ·replace h := cond_t hb247 h
       refine c_region (o1 rfl (o_p rfl ?_))
       replace h := bsome h
       obtain ⟨d14, h14, h⟩ := h
       refine o1 rfl (o_call has150 rfl (c_order_scanner_take hg i4.1 d4.1 b0 i4.2.1 f4_0 1 _ h14) (pc rm0 (pc rm2 pn)) (fun i14 f14_0 f14_1 f14_2 => ?_))
       replace h := gsome h
       obtain ⟨hg248, h⟩ := h
       refine o1 rfl (o_ix (s := i14.2.2) (n := 0) (e := (enI .u8)) rfl rfl rfl rfl rfl rfl rm0 f14_1 hg248 ?_)
       refine o1 rfl (o_ldE (s := i14.2.2) (e := (enI .u8)) (n := 0) (f := 0) (v := (.int .u8 (rd d14.2 0))) rfl rm0 f14_1 hg248 rfl rfl ?_)
       refine o1 rfl (o_fa (fd := ⟨ "FA", 5, 4, false, "", "", 18⟩) rfl rfl rfl rfl rfl ?_)
       refine o0 (o_st (b := b212) (off := 4) (vs := [(.int .u8 (rd d14.2 0))]) (cs' := [(.int .i64 (w64 ((rd d4.2 0)))), (.int .i64 0), (.int .u8 0), (.bool false), (.int .u8 (rd d14.2 0)), (SV.val SV.nil), (SV.val SV.nil)]) rfl rfl rp2 rfl rfl rfl rfl rfl rfl ?_)
       refine o_end ?_
       refine e_add (slO SV.nil 254 en_Vattr_Pair []) (slO_nil _ _ _) ?_
       obtain rfl := Option.some.inj h
       exact ej () (i14.1, SV.nil, i14.2.1) ⟨f14_0, (Ext.trans f4_2 f14_2)⟩ (sc rfl (sc rfl sn)) (kc rm1 (kc rm2 (kc rm2 (kc rm1 (kc rm0 kr)))))
      ·replace h := cond_f hb247 h
       refine c_seq (c_region ?_)
       refine o1 rfl (o_p (v := (.bool ((w64 ((rd d4.2 0))) == 40))) rfl ?_)
       refine o1 rfl (o_p rfl (o_end (e_seq ?_)))
       refine c_cond (b := ((w64 ((rd d4.2 0))) == 40)) rfl (fun hb249 => ?_) (fun hb249 => ?_)
       ·replace h := cond_t hb249 h
        refine c_region (o1 rfl (o_p rfl ?_))
        replace h := bsome h
        obtain ⟨d15, h15, h⟩ := h
        refine o1 rfl (o_call has153 rfl (c_order_scanner_pair hg i4.1 d4.1 b0 i4.2.1 f4_0 _ h15) (pc rm0 (pc rm2 pn)) (fun i15 f15_0 f15_1 => ?_))
        refine o1 rfl (o_fa (fd := ⟨ "Pairs", 127, 5, false, "", "", 24⟩) rfl rfl rfl rfl rfl ?_)
        refine o0 (o_st (b := b212) (off := 5) (vs := [(SV.val i15.2.2)]) (cs' := [(.int .i64 (w64 ((rd d4.2 0)))), (.int .i64 0), (.int .u8 0), (.bool false), (.int .u8 0), (SV.val i15.2.2), (SV.val SV.nil)]) rfl rfl rp3 rfl rfl rfl rfl rfl rfl ?_)
        refine o_end ?_
        obtain rfl := Option.some.inj h
        exact ej () (i15.1, i15.2.2, i15.2.1) ⟨f15_0, (Ext.trans f4_2 f15_1)⟩ (sc rfl (sc rfl sn)) (kc rm0 (kc rm2 (kc rm2 (kc rm0 (kc rm0 kr)))))
       ·replace h := cond_f hb249 h
        refine c_seq (c_seq (c_region ?_))
        refine o1 rfl (o_p (v := (.bool ((w64 ((rd d4.2 0))) == 41))) rfl ?_)
        refine o1 rfl (o_p rfl (o_end (e_seq ?_)))
        replace h := bsome h
        obtain ⟨d16, h, hk16⟩ := h
        refine cj (D := Unit) (ι := Unit) (fun _ i16 => True) (fun _ i16 => [(67, (.bool d16)), (22, (.int .i64 (w64 ((rd d4.2 0))))), (3, (.pointer (some ⟨b212, 0, none⟩))), (2, (.pointer (some ⟨b162, 0, none⟩))), (0, (.pointer (some ⟨b0, 0, none⟩)))]) (fun _ i16 => i4.1 :: blk b212 (.cells (List.toArray [(.int .i64 (w64 ((rd d4.2 0)))), (.int .i64 0), (.int .u8 0), (.bool false), (.int .u8 0), (SV.val SV.nil), (SV.val SV.nil)]) 129 (0, 0)) :: blk b162 (.cells (List.toArray [(.int .i64 0), (.int .i64 0), (.int .u8 0), (.bool false), (.int .u8 0), (SV.val SV.nil), (SV.val SV.nil)]) 129 (0, 0)) :: blk b0 (.cells (List.toArray [(SV.val i4.2.1), (.int .i64 d4.1.code)]) 213 (0, 0)) :: R) ?_ ?_
        ·refine c_cond (b := ((w64 ((rd d4.2 0))) == 41)) rfl (fun hb275 => ?_) (fun hb275 => ?_)
         ·replace h := cond_t hb275 h
          refine c_skip ?_
          obtain rfl := Option.some.inj h
          exact ej () () trivial (sc rfl (sc rfl (sc rfl (sc rfl (sc rfl sn))))) (kc rm0 (kc rm0 (kc rm0 (kc rm0 kr))))
         ·replace h := cond_f hb275 h
          refine c_region ?_
          refine o1 rfl (o_p (v := (.bool ((w64 ((rd d4.2 0))) == 44))) rfl ?_)
          refine o1 rfl (o_p rfl (o_end ?_))
          obtain rfl := Option.some.inj h
          exact ej () () trivial (sc rfl (sc rfl (sc rfl (sc rfl (sc rfl sn))))) (kc rm0 (kc rm0 (kc rm0 (kc rm0 kr))))
        ·rintro _ i16 _
         replace h := hk16
         clear hk16
         refine e_seq ?_
         refine c_cond (b := d16) rfl (fun hb276 => ?_) (fun hb276 => ?_)
         ·replace h := cond_t hb276 h
          refine c_region (o1 rfl (o_p rfl ?_))
          replace h := bsome h
          obtain ⟨d17, h17, h⟩ := h
          refine o1 rfl (o_call has154 rfl (c_order_scanner_pairs hg i4.1 d4.1 b0 i4.2.1 f4_0 _ h17) (pc rm0 (pc rm2 pn)) (fun i17 f17_0 f17_1 => ?_))
          refine o1 rfl (o_fa (fd := ⟨ "Pairs", 127, 5, false, "", "", 24⟩) rfl rfl rfl rfl rfl ?_)
          refine o0 (o_st (b := b212) (off := 5) (vs := [(SV.val i17.2.2)]) (cs' := [(.int .i64 (w64 ((rd d4.2 0)))), (.int .i64 0), (.int .u8 0), (.bool false), (.int .u8 0), (SV.val i17.2.2), (SV.val SV.nil)]) rfl rfl rp3 rfl rfl rfl rfl rfl rfl ?_)
          refine o_end ?_
          obtain rfl := Option.some.inj h
          exact ej () (i17.1, i17.2.2, i17.2.1) ⟨f17_0, (Ext.trans f4_2 f17_1)⟩ (sc rfl (sc rfl sn)) (kc rm0 (kc rm2 (kc rm2 (kc rm0 (kc rm0 kr)))))
         ·replace h := cond_f hb276 h
          refine c_seq (c_region ?_)
          refine o1 rfl (o_p (v := (.bool ((w64 ((rd d4.2 0))) == 8))) rfl ?_)
          refine o1 rfl (o_p rfl (o_end (e_seq ?_)))
          refine c_cond (b := ((w64 ((rd d4.2 0))) == 8)) rfl (fun hb328 => ?_) (fun hb328 => ?_)
          ·replace h := cond_t hb328 h
           refine c_region (o1 rfl (o_p rfl ?_))
           replace h := bsome h
           obtain ⟨d18, h18, h⟩ := h
           refine o1 rfl (o_call has152 rfl (c_order_scanner_character hg i4.1 d4.1 b0 i4.2.1 f4_0 _ h18) (pc rm0 (pc rm2 pn)) (fun i18 f18_0 f18_1 => ?_))
           refine o1 rfl (o_fa (fd := ⟨ "Code", 5, 2, false, "", "", 16⟩) rfl rfl rfl rfl rfl ?_)
           refine o0 (o_st (b := b212) (off := 2) (vs := [(.int .u8 d18.2)]) (cs' := [(.int .i64 (w64 ((rd d4.2 0)))), (.int .i64 0), (.int .u8 d18.2), (.bool false), (.int .u8 0), (SV.val SV.nil), (SV.val SV.nil)]) rfl rfl rp2 rfl rfl rfl rfl rfl rfl ?_)
           refine o_end ?_
           refine e_add (slO SV.nil 254 en_Vattr_Pair []) (slO_nil _ _ _) ?_
           obtain rfl := Option.some.inj h
           exact ej () (i18.1, SV.nil, i18.2) ⟨f18_0, (Ext.trans f4_2 f18_1)⟩ (sc rfl (sc rfl sn)) (kc rm1 (kc rm2 (kc rm2 (kc rm1 (kc rm0 kr)))))
          ·replace h := cond_f hb328 h
           refine c_skip ?_
           refine e_add (slO SV.nil 254 en_Vattr_Pair []) (slO_nil _ _ _) ?_
           obtain rfl := Option.some.inj h
           exact ej () (i4.1, SV.nil, i4.2.1) ⟨f4_0, f4_2⟩ (sc rfl (sc rfl sn)) (kc rm1 (kc rm1 (kc rm1 (kc rm1 (kc rm0 kr)))))
   ·rintro _ i7 ⟨f7_0, f7_1⟩
    replace h := hk7
    clear hk7
    refine e_blk (e_seq (c_seq (c_region ?_)))
    refine o1 rfl (o_ld (b := b212) (off := 0) (v := (.agg (List.toArray [(.int .i64 (w64 ((rd d4.2 0)))), (.int .i64 d7.1), (.int .u8 d7.2.1), (.bool d7.2.2.1), (.int .u8 d7.2.2.2.1), (SV.val i7.2.1), (SV.val SV.nil)]))) rfl rm1 rfl rfl ?_)
    refine o0 (o_st (b := b162) (off := 0) (vs := [(.int .i64 (w64 ((rd d4.2 0)))), (.int .i64 d7.1), (.int .u8 d7.2.1), (.bool d7.2.2.1), (.int .u8 d7.2.2.2.1), (SV.val i7.2.1), (SV.val SV.nil)]) (cs' := [(.int .i64 (w64 ((rd d4.2 0)))), (.int .i64 d7.1), (.int .u8 d7.2.1), (.bool d7.2.2.1), (.int .u8 d7.2.2.2.1), (SV.val i7.2.1), (SV.val SV.nil)]) rfl rfl rp2 rfl rfl rfl rfl rfl rfl ?_)
    refine o_end (e_seq (c_ret (e_ret ?_)))
    refine r_add (slO SV.nil 5 (enI .u8) []) (slO_nil _ _ _) ?_
    refine r_endc (B := [[(.int .i64 (w64 ((rd d4.2 0)))), (.int .i64 d7.1), (.int .u8 d7.2.1), (.bool d7.2.2.1), (.int .u8 d7.2.2.2.1), (SV.val i7.2.1), (SV.val SV.nil)]]) rfl ⟨⟨_, _, _, _, rfl, rm3⟩, trivial⟩ rfl (kc rm1 (kc rm3 (kc rm3 (kc rm0 (kd (kd kr)))))) ?_
    obtain rfl := Option.some.inj h
    exact hk (i7.1, i7.2.2, i7.2.1, SV.nil) f7_0 f7_1

theorem c_write_pen_cell {g : Gw} (hg : GK g) (X : HP) (p0 : Vwrite_pen) (b0 : Nat) (p1 : Vspace_Space) (b1 : Nat) (s0 : SV) (p2 : Int) (p3 : Bool) (r : Vapi_Cell) (h : m_write_pen_cell p0 p1 p2 p3 = some r) : Tri env g 155 (List.toArray [(.pointer (some ⟨b0, 0, none⟩)), (.int .u8 p2), (.bool p3)]) [X, blk b0 (.cells (List.toArray [(.pointer (some ⟨b1, 0, none⟩)), (.int .i64 p0.n), (.int .u8 p0.look.Char), (.bool p0.look.Attr), (.int .u8 p0.look.FA), (.int .u8 p0.look.High), (.int .u8 p0.look.Color), (.int .u8 p0.look.f_Set), (.bool p0.texts)]) 123 (0, 0)), blk b1 (.cells (List.toArray [(.int .i64 p1.model), (.bool p1.alternate), (.int .i64 p1.size.Rows), (.int .i64 p1.size.Cols), (SV.val s0), (.int .i64 p1.cursor), (.int .i64 p1.attrs)]) 116 (0, 0)), slO s0 80 en_Vapi_Cell p1.cells] (fun K R => K (.agg (List.toArray [(.int .u8 r.Char), (.bool r.Attr), (.int .u8 r.FA), (.int .u8 r.High), (.int .u8 r.Color), (.int .u8 r.f_Set)])) (X :: blk b1 (.cells (List.toArray [(.int .i64 p1.model), (.bool p1.alternate), (.int .i64 p1.size.Rows), (.int .i64 p1.size.Cols), (SV.val s0), (.int .i64 p1.cursor), (.int .i64 p1.attrs)]) 116 (0, 0)) :: slO s0 80 en_Vapi_Cell p1.cells :: blk b0 (.cells (List.toArray [(.pointer (some ⟨b1, 0, none⟩)), (.int .i64 p0.n), (.int .u8 p0.look.Char), (.bool p0.look.Attr), (.int .u8 p0.look.FA), (.int .u8 p0.look.High), (.int .u8 p0.look.Color), (.int .u8 p0.look.f_Set), (.bool p0.texts)]) 123 (0, 0)) :: R)) := by
 refine tri_of (fn := Tryz.f155) (N := 17) Tryz.func155 rfl rfl rfl ?_
 intro R K hk
 unfold m_write_pen_cell at h
 change GC _ none _ [] [(0, (.pointer (some ⟨b0, 0, none⟩))), (1, (.int .u8 p2)), (2, (.bool p3))] (X :: blk b0 (.cells (List.toArray [(.pointer (some ⟨b1, 0, none⟩)), (.int .i64 p0.n), (.int .u8 p0.look.Char), (.bool p0.look.Attr), (.int .u8 p0.look.FA), (.int .u8 p0.look.High), (.int .u8 p0.look.Color), (.int .u8 p0.look.f_Set), (.bool p0.texts)]) 123 (0, 0)) :: blk b1 (.cells (List.toArray [(.int .i64 p1.model), (.bool p1.alternate), (.int .i64 p1.size.Rows), (.int .i64 p1.size.Cols), (SV.val s0), (.int .i64 p1.cursor), (.int .i64 p1.attrs)]) 116 (0, 0)) :: slO s0 80 en_Vapi_Cell p1.cells :: R) g _ _
 refine c_seq (c_region ?_)
 refine o1 rfl (o_alloc (cs := [(.int .u8 0), (.bool false), (.int .u8 0), (.int .u8 0), (.int .u8 0), (.int .u8 0)]) rfl rfl (fun b352 => ?_))
 refine o_end (e_seq (c_seq (c_region (o1 rfl (o_p rfl (o1 rfl (o_p rfl ?_)))))))
 refine o1 rfl (o_fa (fd := ⟨ "look", 80, 2, false, "", "vitrine/write", 16⟩) rfl rfl rfl rfl rfl ?_)
 refine o1 rfl (o_ld (b := b0) (off := 2) (v := (.agg (List.toArray [(.int .u8 p0.look.Char), (.bool p0.look.Attr), (.int .u8 p0.look.FA), (.int .u8 p0.look.High), (.int .u8 p0.look.Color), (.int .u8 p0.look.f_Set)]))) rfl rm2 rfl rfl ?_)
 refine o1 rfl (o_alloc (cs := [(.int .u8 0), (.bool false), (.int .u8 0), (.int .u8 0), (.int .u8 0), (.int .u8 0)]) rfl rfl (fun b354 => ?_))
 refine o0 (o_st (b := b354) (off := 0) (vs := [(.int .u8 p0.look.Char), (.bool p0.look.Attr), (.int .u8 p0.look.FA), (.int .u8 p0.look.High), (.int .u8 p0.look.Color), (.int .u8 p0.look.f_Set)]) (cs' := [(.int .u8 p0.look.Char), (.bool p0.look.Attr), (.int .u8 p0.look.FA), (.int .u8 p0.look.High), (.int .u8 p0.look.Color), (.int .u8 p0.look.f_Set)]) rfl rfl rp0 rfl rfl rfl rfl rfl rfl ?_)
 refine o_end (e_seq (c_seq (c_region (o1 rfl (o_p rfl ?_)))))
 refine o1 rfl (o_fa (fd := ⟨ "Char", 5, 0, false, "", "", 0⟩) rfl rfl rfl rfl rfl ?_)
 refine o0 (o_st (b := b354) (off := 0) (vs := [(.int .u8 p2)]) (cs' := [(.int .u8 p2), (.bool p0.look.Attr), (.int .u8 p0.look.FA), (.int .u8 p0.look.High), (.int .u8 p0.look.Color), (.int .u8 p0.look.f_Set)]) rfl rfl rp0 rfl rfl rfl rfl rfl rfl ?_)
 refine o_end (e_seq (c_seq (c_seq (c_region (o1 rfl (o_p rfl ?_))))))
 refine o_end (e_seq ?_)
 replace h := bsome h
 obtain ⟨d1, h, hk1⟩ := h
 refine cj (D := Unit) (ι := Unit) (fun _ i1 => True) (fun _ i1 => [(7, (.pointer (some ⟨b354, 0, none⟩))), (6, (.pointer (some ⟨b352, 0, none⟩)))]) (fun _ i1 => X :: blk b354 (.cells (List.toArray [(.int .u8 p2), (.bool p0.look.Attr), (.int .u8 p0.look.FA), (.int .u8 p0.look.High), (.int .u8 p0.look.Color), (.int .u8 d1)]) 80 (0, 0)) :: blk b352 (.cells (List.toArray [(.int .u8 0), (.bool false), (.int .u8 0), (.int .u8 0), (.int .u8 0), (.int .u8 0)]) 80 (0, 0)) :: blk b1 (.cells (List.toArray [(.int .i64 p1.model), (.bool p1.alternate), (.int .i64 p1.size.Rows), (.int .i64 p1.size.Cols), (SV.val s0), (.int .i64 p1.cursor), (.int .i64 p1.attrs)]) 116 (0, 0)) :: blk b0 (.cells (List.toArray [(.pointer (some ⟨b1, 0, none⟩)), (.int .i64 p0.n), (.int .u8 p0.look.Char), (.bool p0.look.Attr), (.int .u8 p0.look.FA), (.int .u8 p0.look.High), (.int .u8 p0.look.Color), (.int .u8 p0.look.f_Set), (.bool p0.texts)]) 123 (0, 0)) :: slO s0 80 en_Vapi_Cell p1.cells :: R) ?_ ?_
 ·refine c_cond (b := p3) rfl (fun hb356 => ?_) (fun hb356 => ?_)
  ·replace h := cond_t hb356 h
   refine c_region ?_
   refine o1 rfl (o_fa (fd := ⟨ "Set", 5, 5, false, "", "", 5⟩) rfl rfl rfl rfl rfl ?_)
   refine o0 (o_st (b := b354) (off := 5) (vs := [(.int .u8 241)]) (cs' := [(.int .u8 p2), (.bool p0.look.Attr), (.int .u8 p0.look.FA), (.int .u8 p0.look.High), (.int .u8 p0.look.Color), (.int .u8 241)]) rfl rfl rp0 rfl rfl rfl rfl rfl rfl ?_)
   refine o_end ?_
   obtain rfl := Option.some.inj h
   exact ej () () trivial (sc rfl (sc rfl sn)) (kc rm2 (kc rm0 (kc rm0 (kc rm1 (kc rm0 (kc rm0 kr))))))
  ·replace h := cond_f hb356 h
   refine c_skip ?_
   obtain rfl := Option.some.inj h
   exact ej () () trivial (sc rfl (sc rfl sn)) (kc rm2 (kc rm0 (kc rm0 (kc rm1 (kc rm0 (kc rm0 kr))))))
 ·rintro _ i1 _
  replace h := hk1
  clear hk1
  refine e_seq (c_seq (c_region ?_))
  refine o1 rfl (o_ld (b := b354) (off := 0) (v := (.agg (List.toArray [(.int .u8 p2), (.bool p0.look.Attr), (.int .u8 p0.look.FA), (.int .u8 p0.look.High), (.int .u8 p0.look.Color), (.int .u8 d1)]))) rfl rm1 rfl rfl ?_)
  refine o0 (o_st (b := b352) (off := 0) (vs := [(.int .u8 p2), (.bool p0.look.Attr), (.int .u8 p0.look.FA), (.int .u8 p0.look.High), (.int .u8 p0.look.Color), (.int .u8 d1)]) (cs' := [(.int .u8 p2), (.bool p0.look.Attr), (.int .u8 p0.look.FA), (.int .u8 p0.look.High), (.int .u8 p0.look.Color), (.int .u8 d1)]) rfl rfl rp2 rfl rfl rfl rfl rfl rfl ?_)
  refine o_end (e_seq (c_ret (e_ret ?_)))
  refine r_endc (B := [[(.int .u8 p2), (.bool p0.look.Attr), (.int .u8 p0.look.FA), (.int .u8 p0.look.High), (.int .u8 p0.look.Color), (.int .u8 d1)]]) rfl ⟨⟨_, _, _, _, rfl, rm2⟩, trivial⟩ rfl (kc rm0 (kc rm2 (kc rm3 (kc rm2 (kd (kd kr)))))) ?_
  obtain rfl := Option.some.inj h
  exact hk

theorem c_write_pen_next {g : Gw} (hg : GK g) (X : HP) (p0 : Vwrite_pen) (b0 : Nat) (p1 : Vspace_Space) (b1 : Nat) (s0 : SV) (r : Vwrite_pen) (h : m_write_pen_next p0 p1 = some r) : Tri env g 156 (List.toArray [(.pointer (some ⟨b0, 0, none⟩))]) [X, blk b0 (.cells (List.toArray [(.pointer (some ⟨b1, 0, none⟩)), (.int .i64 p0.n), (.int .u8 p0.look.Char), (.bool p0.look.Attr), (.int .u8 p0.look.FA), (.int .u8 p0.look.High), (.int .u8 p0.look.Color), (.int .u8 p0.look.f_Set), (.bool p0.texts)]) 123 (0, 0)), blk b1 (.cells (List.toArray [(.int .i64 p1.model), (.bool p1.alternate), (.int .i64 p1.size.Rows), (.int .i64 p1.size.Cols), (SV.val s0), (.int .i64 p1.cursor), (.int .i64 p1.attrs)]) 116 (0, 0)), slO s0 80 en_Vapi_Cell p1.cells] (fun K R => K (.tuple (List.toArray [])) (X :: blk b1 (.cells (List.toArray [(.int .i64 p1.model), (.bool p1.alternate), (.int .i64 p1.size.Rows), (.int .i64 p1.size.Cols), (SV.val s0), (.int .i64 p1.cursor), (.int .i64 p1.attrs)]) 116 (0, 0)) :: slO s0 80 en_Vapi_Cell p1.cells :: blk b0 (.cells (List.toArray [(.pointer (some ⟨b1, 0, none⟩)), (.int .i64 r.n), (.int .u8 r.look.Char), (.bool r.look.Attr), (.int .u8 r.look.FA), (.int .u8 r.look.High), (.int .u8 r.look.Color), (.int .u8 r.look.f_Set), (.bool r.texts)]) 123 (0, 0)) :: R)) := by
 refine tri_of (fn := Tryz.f156) (N := 16) Tryz.func156 rfl rfl rfl ?_
 intro R K hk
 unfold m_write_pen_next at h
 change GC _ none _ [] [(0, (.pointer (some ⟨b0, 0, none⟩)))] (X :: blk b0 (.cells (List.toArray [(.pointer (some ⟨b1, 0, none⟩)), (.int .i64 p0.n), (.int .u8 p0.look.Char), (.bool p0.look.Attr), (.int .u8 p0.look.FA), (.int .u8 p0.look.High), (.int .u8 p0.look.Color), (.int .u8 p0.look.f_Set), (.bool p0.texts)]) 123 (0, 0)) :: blk b1 (.cells (List.toArray [(.int .i64 p1.model), (.bool p1.alternate), (.int .i64 p1.size.Rows), (.int .i64 p1.size.Cols), (SV.val s0), (.int .i64 p1.cursor), (.int .i64 p1.attrs)]) 116 (0, 0)) :: slO s0 80 en_Vapi_Cell p1.cells :: R) g _ _
 refine c_draw (n := 3) (q := [(0, 2, (.pointer (some ⟨b0, 0, none⟩))), (1, 3, (.pointer (some ⟨b0, 0, none⟩))), (2, 4, (.pointer (some ⟨b0, 0, none⟩))), (3, 5, (.pointer (some ⟨b0, 0, none⟩))), (4, 6, (.pointer (some ⟨b1, 0, none⟩))), (6, 8, (.pointer (some ⟨b0, 0, none⟩))), (7, 9, (.pointer (some ⟨b0, 0, none⟩))), (8, 10, (.pointer (some ⟨b0, 1, none⟩))), (9, 11, (.int .i64 p0.n)), (10, 12, (.int .i64 (w64 (p0.n + 1))))]) (pend := [0, 1, 2, 3, 4, 6, 7, 8, 9, 10]) rfl rfl rfl ?_
 replace h := bsome h
 obtain ⟨d1, h1, h⟩ := h
 refine ⟨⟨fun _ => ⟨rfl, rfl, rfl, .inl ⟨rfl, (o_p rfl ⟨rfl, rfl⟩)⟩⟩, fun _ => ⟨rfl, rfl, rfl, .inl ⟨rfl, (o_p rfl ⟨rfl, rfl⟩)⟩⟩, fun _ => ⟨rfl, rfl, rfl, .inl ⟨rfl, (o_p rfl ⟨rfl, rfl⟩)⟩⟩, fun _ => ⟨rfl, rfl, rfl, .inl ⟨rfl, (o_fa (fd := ⟨ "s", 24, 0, false, "", "vitrine/write", 0⟩) rfl rfl rfl rfl rfl ⟨rfl, rfl⟩)⟩⟩, fun _ => ⟨rfl, rfl, rfl, .inl ⟨rfl, (o_ld (b := b0) (off := 0) (v := (.pointer (some ⟨b1, 0, none⟩))) rfl rm1 rfl rfl ⟨rfl, rfl⟩)⟩⟩, fun _ => ⟨rfl, rfl, rfl, .inl ⟨rfl, (o_p rfl ⟨rfl, rfl⟩)⟩⟩, fun _ => ⟨rfl, rfl, rfl, .inl ⟨rfl, (o_p rfl ⟨rfl, rfl⟩)⟩⟩, fun _ => ⟨rfl, rfl, rfl, .inl ⟨rfl, (o_fa (fd := ⟨ "n", 3, 1, false, "", "vitrine/write", 8⟩) rfl rfl rfl rfl rfl ⟨rfl, rfl⟩)⟩⟩, fun _ => ⟨rfl, rfl, rfl, .inl ⟨rfl, (o_ld (b := b0) (off := 1) (v := (.int .i64 p0.n)) rfl rm1 rfl rfl ⟨rfl, rfl⟩)⟩⟩, fun _ => ⟨rfl, rfl, rfl, .inl ⟨rfl, (o_p (v := (.int .i64 (w64 (p0.n + 1)))) rfl ⟨rfl, rfl⟩)⟩⟩, trivial⟩, rfl, .inr ⟨[5], rfl, rfl, ⟨rfl, .inl rfl, ?_⟩, trivial⟩⟩
 refine (o_call has51 rfl (c_space_Space_Size hg X p1 b1 s0 _ h1) (pc rm0 (pc rm1 (pc rm1 pn))) ?_)
 refine ⟨[], [0, 6, 7, 8, 9, 10], rfl, rfl, rfl, rfl, ?_⟩
 replace h := bsome h
 obtain ⟨d2, h2, h⟩ := h
 refine ⟨⟨fun _ => ⟨rfl, rfl, rfl, .inl ⟨rfl, (o_p rfl ⟨rfl, rfl⟩)⟩⟩, (fun h => nomatch h), (fun h => nomatch h), (fun h => nomatch h), (fun h => nomatch h), fun _ => ⟨rfl, rfl, rfl, .inl ⟨rfl, (o_p rfl ⟨rfl, rfl⟩)⟩⟩, fun _ => ⟨rfl, rfl, rfl, .inl ⟨rfl, (o_p rfl ⟨rfl, rfl⟩)⟩⟩, fun _ => ⟨rfl, rfl, rfl, .inl ⟨rfl, (o_fa (fd := ⟨ "n", 3, 1, false, "", "vitrine/write", 8⟩) rfl rfl rfl rfl rfl ⟨rfl, rfl⟩)⟩⟩, fun _ => ⟨rfl, rfl, rfl, .inl ⟨rfl, (o_ld (b := b0) (off := 1) (v := (.int .i64 p0.n)) rfl rm3 rfl rfl ⟨rfl, rfl⟩)⟩⟩, fun _ => ⟨rfl, rfl, rfl, .inl ⟨rfl, (o_p (v := (.int .i64 (w64 (p0.n + 1)))) rfl ⟨rfl, rfl⟩)⟩⟩, trivial⟩, rfl, .inr ⟨[11], rfl, rfl, ⟨rfl, .inl rfl, ?_⟩, trivial⟩⟩
 refine (o_call has61 rfl (c_addr_Size_Wrap hg X (⟨d1.Rows, d1.Cols⟩ : Vaddr_Size) (w64 (p0.n + 1)) _ h2) (pc rm0 pn) ?_)
 refine ⟨[(12, 14, (.pointer (some ⟨b0, 0, none⟩))), (13, 15, (.pointer (some ⟨b0, 1, none⟩)))], [0, 12, 13], rfl, rfl, rfl, rfl, ?_⟩
 refine ⟨⟨fun _ => ⟨rfl, rfl, rfl, .inl ⟨rfl, (o_p rfl ⟨rfl, rfl⟩)⟩⟩, fun _ => ⟨rfl, rfl, rfl, .inl ⟨rfl, (o_fa (fd := ⟨ "n", 3, 1, false, "", "vitrine/write", 8⟩) rfl rfl rfl rfl rfl ⟨rfl, rfl⟩)⟩⟩, fun _ => ⟨rfl, rfl, rfl, .inl ⟨rfl, (o_p rfl ⟨rfl, rfl⟩)⟩⟩, (fun h => nomatch h), (fun h => nomatch h), (fun h => nomatch h), (fun h => nomatch h), (fun h => nomatch h), (fun h => nomatch h), (fun h => nomatch h), (fun h => nomatch h), (fun h => nomatch h), trivial⟩, rfl, .inr ⟨[14], rfl, rfl, ⟨rfl, .inl rfl, ?_⟩, trivial⟩⟩
 refine (o_st (b := b0) (off := 1) (vs := [(.int .i64 d2)]) (cs' := [(.pointer (some ⟨b1, 0, none⟩)), (.int .i64 d2), (.int .u8 p0.look.Char), (.bool p0.look.Attr), (.int .u8 p0.look.FA), (.int .u8 p0.look.High), (.int .u8 p0.look.Color), (.int .u8 p0.look.f_Set), (.bool p0.texts)]) rfl rfl rp3 rfl rfl rfl rfl rfl rfl ?_)
 refine ⟨[], [], rfl, rfl, ?_⟩
 refine ⟨⟨(fun h => nomatch h), (fun h => nomatch h), (fun h => nomatch h), (fun h => nomatch h), (fun h => nomatch h), (fun h => nomatch h), (fun h => nomatch h), (fun h => nomatch h), (fun h => nomatch h), (fun h => nomatch h), (fun h => nomatch h), (fun h => nomatch h), trivial⟩, rfl, rfl, rfl, ?_⟩
 refine e_fall ?_
 refine r_endt rfl rfl (kc rm0 (kc rm0 (kc rm0 (kc rm0 kr)))) ?_
 obtain rfl := Option.some.inj h
 exact hk

theorem c_write_pen_put {g : Gw} (hg : GK g) (X : HP) (p0 : Vwrite_pen) (b0 : Nat) (p1 : Vspace_Space) (b1 : Nat) (s0 : SV) (p2 : Int) (p3 : Bool) (r : Vspace_Space × Vwrite_pen) (h : m_write_pen_put p0 p1 p2 p3 = some r) : Tri env g 113 (List.toArray [(.pointer (some ⟨b0, 0, none⟩)), (.int .u8 p2), (.bool p3)]) [X, blk b0 (.cells (List.toArray [(.pointer (some ⟨b1, 0, none⟩)), (.int .i64 p0.n), (.int .u8 p0.look.Char), (.bool p0.look.Attr), (.int .u8 p0.look.FA), (.int .u8 p0.look.High), (.int .u8 p0.look.Color), (.int .u8 p0.look.f_Set), (.bool p0.texts)]) 123 (0, 0)), blk b1 (.cells (List.toArray [(.int .i64 p1.model), (.bool p1.alternate), (.int .i64 p1.size.Rows), (.int .i64 p1.size.Cols), (SV.val s0), (.int .i64 p1.cursor), (.int .i64 p1.attrs)]) 116 (0, 0)), slO s0 80 en_Vapi_Cell p1.cells] (fun K R => K (.tuple (List.toArray [])) (X :: blk b1 (.cells (List.toArray [(.int .i64 r.1.model), (.bool r.1.alternate), (.int .i64 r.1.size.Rows), (.int .i64 r.1.size.Cols), (SV.val s0), (.int .i64 r.1.cursor), (.int .i64 r.1.attrs)]) 116 (0, 0)) :: slO s0 80 en_Vapi_Cell r.1.cells :: blk b0 (.cells (List.toArray [(.pointer (some ⟨b1, 0, none⟩)), (.int .i64 r.2.n), (.int .u8 r.2.look.Char), (.bool r.2.look.Attr), (.int .u8 r.2.look.FA), (.int .u8 r.2.look.High), (.int .u8 r.2.look.Color), (.int .u8 r.2.look.f_Set), (.bool r.2.texts)]) 123 (0, 0)) :: R)) := by
 refine tri_of (fn := Tryz.f113) (N := 21) Tryz.func113 rfl rfl rfl ?_
 intro R K hk
 unfold m_write_pen_put at h
 change GC _ none _ [] [(0, (.pointer (some ⟨b0, 0, none⟩))), (1, (.int .u8 p2)), (2, (.bool p3))] (X :: blk b0 (.cells (List.toArray [(.pointer (some ⟨b1, 0, none⟩)), (.int .i64 p0.n), (.int .u8 p0.look.Char), (.bool p0.look.Attr), (.int .u8 p0.look.FA), (.int .u8 p0.look.High), (.int .u8 p0.look.Color), (.int .u8 p0.look.f_Set), (.bool p0.texts)]) 123 (0, 0)) :: blk b1 (.cells (List.toArray [(.int .i64 p1.model), (.bool p1.alternate), (.int .i64 p1.size.Rows), (.int .i64 p1.size.Cols), (SV.val s0), (.int .i64 p1.cursor), (.int .i64 p1.attrs)]) 116 (0, 0)) :: slO s0 80 en_Vapi_Cell p1.cells :: R) g _ _
 refine c_seq ?_
 refine c_draw (n := 2) (q := [(0, 6, (.pointer (some ⟨b0, 0, none⟩))), (1, 7, (.pointer (some ⟨b0, 0, none⟩))), (2, 8, (.pointer (some ⟨b0, 0, none⟩))), (3, 9, (.pointer (some ⟨b1, 0, none⟩))), (4, 10, (.pointer (some ⟨b0, 0, none⟩))), (5, 11, (.pointer (some ⟨b0, 0, none⟩))), (6, 12, (.pointer (some ⟨b0, 1, none⟩))), (7, 13, (.int .i64 p0.n)), (8, 14, (.pointer (some ⟨b0, 0, none⟩))), (9, 15, (.int .u8 p2)), (10, 16, (.bool p3))]) (pend := [0, 1, 2, 3, 4, 5, 6, 7, 8, 9, 10]) rfl rfl rfl ?_
 replace h := bsome h
 obtain ⟨d2, h2, h⟩ := h
 refine ⟨⟨fun _ => ⟨rfl, rfl, rfl, .inl ⟨rfl, (o_p rfl ⟨rfl, rfl⟩)⟩⟩, fun _ => ⟨rfl, rfl, rfl, .inl ⟨rfl, (o_p rfl ⟨rfl, rfl⟩)⟩⟩, fun _ => ⟨rfl, rfl, rfl, .inl ⟨rfl, (o_fa (fd := ⟨ "s", 24, 0, false, "", "vitrine/write", 0⟩) rfl rfl rfl rfl rfl ⟨rfl, rfl⟩)⟩⟩, fun _ => ⟨rfl, rfl, rfl, .inl ⟨rfl, (o_ld (b := b0) (off := 0) (v := (.pointer (some ⟨b1, 0, none⟩))) rfl rm1 rfl rfl ⟨rfl, rfl⟩)⟩⟩, fun _ => ⟨rfl, rfl, rfl, .inl ⟨rfl, (o_p rfl ⟨rfl, rfl⟩)⟩⟩, fun _ => ⟨rfl, rfl, rfl, .inl ⟨rfl, (o_p rfl ⟨rfl, rfl⟩)⟩⟩, fun _ => ⟨rfl, rfl, rfl, .inl ⟨rfl, (o_fa (fd := ⟨ "n", 3, 1, false, "", "vitrine/write", 8⟩) rfl rfl rfl rfl rfl ⟨rfl, rfl⟩)⟩⟩, fun _ => ⟨rfl, rfl, rfl, .inl ⟨rfl, (o_ld (b := b0) (off := 1) (v := (.int .i64 p0.n)) rfl rm1 rfl rfl ⟨rfl, rfl⟩)⟩⟩, fun _ => ⟨rfl, rfl, rfl, .inl ⟨rfl, (o_p rfl ⟨rfl, rfl⟩)⟩⟩, fun _ => ⟨rfl, rfl, rfl, .inl ⟨rfl, (o_p rfl ⟨rfl, rfl⟩)⟩⟩, fun _ => ⟨rfl, rfl, rfl, .inl ⟨rfl, (o_p rfl ⟨rfl, rfl⟩)⟩⟩, trivial⟩, rfl, .inr ⟨[11], rfl, rfl, ⟨rfl, .inl rfl, ?_⟩, trivial⟩⟩
 refine (o_call has155 rfl (c_write_pen_cell hg X p0 b0 p1 b1 s0 p2 p3 _ h2) (pc rm0 (pc rm0 (pc rm0 (pc rm0 pn)))) ?_)
 refine ⟨[], [0, 1, 2, 3, 4, 5, 6, 7], rfl, rfl, rfl, rfl, ?_⟩
 replace h := bsome h
 obtain ⟨d3, h3, h⟩ := h
 refine ⟨⟨fun _ => ⟨rfl, rfl, rfl, .inl ⟨rfl, (o_p rfl ⟨rfl, rfl⟩)⟩⟩, fun _ => ⟨rfl, rfl, rfl, .inl ⟨rfl, (o_p rfl ⟨rfl, rfl⟩)⟩⟩, fun _ => ⟨rfl, rfl, rfl, .inl ⟨rfl, (o_fa (fd := ⟨ "s", 24, 0, false, "", "vitrine/write", 0⟩) rfl rfl rfl rfl rfl ⟨rfl, rfl⟩)⟩⟩, fun _ => ⟨rfl, rfl, rfl, .inl ⟨rfl, (o_ld (b := b0) (off := 0) (v := (.pointer (some ⟨b1, 0, none⟩))) rfl rm3 rfl rfl ⟨rfl, rfl⟩)⟩⟩, fun _ => ⟨rfl, rfl, rfl, .inl ⟨rfl, (o_p rfl ⟨rfl, rfl⟩)⟩⟩, fun _ => ⟨rfl, rfl, rfl, .inl ⟨rfl, (o_p rfl ⟨rfl, rfl⟩)⟩⟩, fun _ => ⟨rfl, rfl, rfl, .inl ⟨rfl, (o_fa (fd := ⟨ "n", 3, 1, false, "", "vitrine/write", 8⟩) rfl rfl rfl rfl rfl ⟨rfl, rfl⟩)⟩⟩, fun _ => ⟨rfl, rfl, rfl, .inl ⟨rfl, (o_ld (b := b0) (off := 1) (v := (.int .i64 p0.n)) rfl rm3 rfl rfl ⟨rfl, rfl⟩)⟩⟩, (fun h => nomatch h), (fun h => nomatch h), (fun h => nomatch h), trivial⟩, rfl, .inr ⟨[12], rfl, rfl, ⟨rfl, .inl rfl, ?_⟩, trivial⟩⟩
 refine (o_call has48 rfl (c_space_Space_Set hg X p1 b1 s0 p0.n d2 _ h3) (pc rm0 (pc rm0 (pc rm0 pn))) ?_)
 refine ⟨[], [], rfl, rfl, rfl, rfl, ?_⟩
 refine ⟨⟨(fun h => nomatch h), (fun h => nomatch h), (fun h => nomatch h), (fun h => nomatch h), (fun h => nomatch h), (fun h => nomatch h), (fun h => nomatch h), (fun h => nomatch h), (fun h => nomatch h), (fun h => nomatch h), (fun h => nomatch h), trivial⟩, rfl, rfl, rfl, ?_⟩
 refine e_seq (c_region (o1 rfl (o_p rfl ?_)))
 replace h := bsome h
 obtain ⟨d4, h4, h⟩ := h
 refine o1 rfl (o_call has156 rfl (c_write_pen_next hg X p0 b0 (⟨d3.model, d3.alternate, d3.size, d3.cells, d3.cursor, d3.attrs⟩ : Vspace_Space) b1 s0 _ h4) (pc rm0 (pc rm2 (pc rm0 (pc rm0 pn)))) ?_)
 refine o_end (e_fall ?_)
 refine r_endt rfl rfl (kc rm0 (kc rm0 (kc rm0 (kc rm0 kr)))) ?_
 obtain rfl := Option.some.inj h
 exact hk

theorem c_write_pen_to {g : Gw} (hg : GK g) (X : HP) (p0 : Vwrite_pen) (b0 : Nat) (p1 : Vspace_Space) (b1 : Nat) (s0 : SV) (p2 : Int) (r : Vwrite_pen × Int) (h : m_write_pen_to p0 p1 p2 = some r) : Tri env g 114 (List.toArray [(.pointer (some ⟨b0, 0, none⟩)), (.int .i64 p2)]) [X, blk b0 (.cells (List.toArray [(.pointer (some ⟨b1, 0, none⟩)), (.int .i64 p0.n), (.int .u8 p0.look.Char), (.bool p0.look.Attr), (.int .u8 p0.look.FA), (.int .u8 p0.look.High), (.int .u8 p0.look.Color), (.int .u8 p0.look.f_Set), (.bool p0.texts)]) 123 (0, 0)), blk b1 (.cells (List.toArray [(.int .i64 p1.model), (.bool p1.alternate), (.int .i64 p1.size.Rows), (.int .i64 p1.size.Cols), (SV.val s0), (.int .i64 p1.cursor), (.int .i64 p1.attrs)]) 116 (0, 0)), slO s0 80 en_Vapi_Cell p1.cells] (fun K R => K (.int .i64 r.2) (X :: blk b1 (.cells (List.toArray [(.int .i64 p1.model), (.bool p1.alternate), (.int .i64 p1.size.Rows), (.int .i64 p1.size.Cols), (SV.val s0), (.int .i64 p1.cursor), (.int .i64 p1.attrs)]) 116 (0, 0)) :: slO s0 80 en_Vapi_Cell p1.cells :: blk b0 (.cells (List.toArray [(.pointer (some ⟨b1, 0, none⟩)), (.int .i64 r.1.n), (.int .u8 r.1.look.Char), (.bool r.1.look.Attr), (.int .u8 r.1.look.FA), (.int .u8 r.1.look.High), (.int .u8 r.1.look.Color), (.int .u8 r.1.look.f_Set), (.bool r.1.texts)]) 123 (0, 0)) :: R)) := by
 refine tri_of (fn := Tryz.f114) (N := 17) Tryz.func114 rfl rfl rfl ?_
 intro R K hk
 unfold m_write_pen_to at h
 change GC _ none _ [] [(0, (.pointer (some ⟨b0, 0, none⟩))), (1, (.int .i64 p2))] (X :: blk b0 (.cells (List.toArray [(.pointer (some ⟨b1, 0, none⟩)), (.int .i64 p0.n), (.int .u8 p0.look.Char), (.bool p0.look.Attr), (.int .u8 p0.look.FA), (.int .u8 p0.look.High), (.int .u8 p0.look.Color), (.int .u8 p0.look.f_Set), (.bool p0.texts)]) 123 (0, 0)) :: blk b1 (.cells (List.toArray [(.int .i64 p1.model), (.bool p1.alternate), (.int .i64 p1.size.Rows), (.int .i64 p1.size.Cols), (SV.val s0), (.int .i64 p1.cursor), (.int .i64 p1.attrs)]) 116 (0, 0)) :: slO s0 80 en_Vapi_Cell p1.cells :: R) g _ _
 refine c_seq (c_region (o1 rfl (o_p rfl (o_end (e_seq (c_seq ?_))))))
 refine c_seq (c_region (o1 rfl (o_p rfl (o1 rfl (o_p rfl (o1 rfl (o_p rfl ?_)))))))
 refine o1 rfl (o_fa (fd := ⟨ "s", 24, 0, false, "", "vitrine/write", 0⟩) rfl rfl rfl rfl rfl ?_)
 refine o1 rfl (o_ld (b := b0) (off := 0) (v := (.pointer (some ⟨b1, 0, none⟩))) rfl rm1 rfl rfl ?_)
 replace h := bsome h
 obtain ⟨d1, h1, h⟩ := h
 refine o1 rfl (o_call has51 rfl (c_space_Space_Size hg X p1 b1 s0 _ h1) (pc rm0 (pc rm1 (pc rm1 pn))) ?_)
 replace h := bsome h
 obtain ⟨d2, h2, h⟩ := h
 refine o1 rfl (o_call has52 rfl (c_addr_Size_Cells hg X (⟨d1.Rows, d1.Cols⟩ : Vaddr_Size) _ h2) (pc rm0 pn) ?_)
 refine o1 rfl (o_p (v := (.bool (decide (p2 ≥ d2)))) rfl ?_)
 refine o_end (e_seq ?_)
 refine c_cond (b := (decide (p2 ≥ d2))) rfl (fun hb373 => ?_) (fun hb373 => ?_)
 ·replace h := cond_t hb373 h
  refine c_seq (c_region (o1 rfl (o_p rfl (o_end (e_seq (c_ret ?_))))))
  refine e_then_ret (e_ret ?_)
  refine r_endt rfl rfl (kc rm0 (kc rm0 (kc rm0 (kc rm0 kr)))) ?_
  obtain rfl := Option.some.inj h
  exact hk
 ·replace h := cond_f hb373 h
  refine c_skip (e_seq (c_seq (c_region (o1 rfl (o_p rfl (o1 rfl (o_p rfl ?_)))))))
  refine o1 rfl (o_p rfl ?_)
  refine o1 rfl (o_fa (fd := ⟨ "n", 3, 1, false, "", "vitrine/write", 8⟩) rfl rfl rfl rfl rfl ?_)
  refine o0 (o_st (b := b0) (off := 1) (vs := [(.int .i64 p2)]) (cs' := [(.pointer (some ⟨b1, 0, none⟩)), (.int .i64 p2), (.int .u8 p0.look.Char), (.bool p0.look.Attr), (.int .u8 p0.look.FA), (.int .u8 p0.look.High), (.int .u8 p0.look.Color), (.int .u8 p0.look.f_Set), (.bool p0.texts)]) rfl rfl rp3 rfl rfl rfl rfl rfl rfl ?_)
  refine o_end (e_seq (c_seq (c_region (o1 rfl (o_p rfl (o_end ?_))))))
  refine e_seq (c_ret (e_ret ?_))
  refine r_endt rfl rfl (kc rm0 (kc rm0 (kc rm0 (kc rm0 kr)))) ?_
  obtain rfl := Option.some.inj h
  exact hk

theorem c_addr_Size_Span {g : Gw} (hg : GK g) (X : HP) (p0 : Vaddr_Size) (p1 : Int) (p2 : Int) (r : Unit) (h : m_addr_Size_Span p0 p1 p2 = some r) : Tri env g 182 (List.toArray [(.agg (List.toArray [(.int .i64 p0.Rows), (.int .i64 p0.Cols)])), (.int .i64 p1), (.int .i64 p2)]) [X] (fun K R => ∀ (i0 : Nat × Nat × Nat), K (.func (.func 196) #[] (List.toArray [(.pointer (some ⟨i0.1, 0, none⟩)), (.pointer (some ⟨i0.2.1, 0, none⟩)), (.pointer (some ⟨i0.2.2, 0, none⟩))])) (X :: blk i0.1 (.cells (List.toArray [(.int .i64 p0.Rows), (.int .i64 p0.Cols)]) 102 (0, 0)) :: blk i0.2.1 (.cells (List.toArray [(.int .i64 p1)]) 3 (0, 0)) :: blk i0.2.2 (.cells (List.toArray [(.int .i64 p2)]) 3 (0, 0)) :: R)) := by
 refine tri_of (fn := Tryz.f182) (N := 8) Tryz.func182 rfl rfl rfl ?_
 intro R K hk
 unfold m_addr_Size_Span at h
 change GC _ none _ [] [(0, (.agg (List.toArray [(.int .i64 p0.Rows), (.int .i64 p0.Cols)]))), (1, (.int .i64 p1)), (2, (.int .i64 p2))] (X :: R) g _ _
 refine c_seq (c_region ?_)
 refine o1 rfl (o_box (cs := [(.int .i64 p0.Rows), (.int .i64 p0.Cols)]) rfl rfl (fun b382 => ?_))
 refine o1 rfl (o_box (cs := [(.int .i64 p1)]) rfl rfl (fun b384 => ?_))
 refine o1 rfl (o_box (cs := [(.int .i64 p2)]) rfl rfl (fun b386 => ?_))
 refine o1 rfl (o_p rfl (o_end (e_seq (c_seq (c_region (o1 rfl (o_p rfl ?_)))))))
 refine o1 rfl (o_p rfl (o_end (e_seq (c_ret (e_ret ?_)))))
 refine r_endt rfl rfl (kc rm3 (kc rm2 (kc rm1 (kc rm0 kr)))) ?_
 obtain rfl := Option.some.inj h
 exact hk (b382, b384, b386)

theorem c_addr_Size_Length {g : Gw} (hg : GK g) (X : HP) (p0 : Vaddr_Size) (p1 : Int) (p2 : Int) (r : Int) (h : m_addr_Size_Length p0 p1 p2 = some r) : Tri env g 197 (List.toArray [(.agg (List.toArray [(.int .i64 p0.Rows), (.int .i64 p0.Cols)])), (.int .i64 p1), (.int .i64 p2)]) [X] (fun K R => K (.int .i64 r) (X :: R)) := by
 refine tri_of (fn := Tryz.f197) (N := 22) Tryz.func197 rfl rfl rfl ?_
 intro R K hk
 unfold m_addr_Size_Length at h
 change GC _ none _ [] [(0, (.agg (List.toArray [(.int .i64 p0.Rows), (.int .i64 p0.Cols)]))), (1, (.int .i64 p1)), (2, (.int .i64 p2))] (X :: R) g _ _
 refine c_seq (c_region ?_)
 refine o1 rfl (o_box (cs := [(.int .i64 p0.Rows), (.int .i64 p0.Cols)]) rfl rfl (fun b391 => ?_))
 refine o1 rfl (o_p rfl (o_end (e_seq (c_seq (c_seq ?_)))))
 refine c_draw (n := 3) (q := [(0, 8, (.agg (List.toArray [(.int .i64 p0.Rows), (.int .i64 p0.Cols)]))), (1, 9, (.agg (List.toArray [(.int .i64 p0.Rows), (.int .i64 p0.Cols)]))), (2, 10, (.int .i64 p2)), (4, 12, (.agg (List.toArray [(.int .i64 p0.Rows), (.int .i64 p0.Cols)]))), (5, 13, (.int .i64 p1))]) (pend := [0, 1, 2, 4, 5]) rfl rfl rfl ?_
 replace h := bsome h
 obtain ⟨d2, h2, h⟩ := h
 refine ⟨⟨fun _ => ⟨rfl, rfl, rfl, .inl ⟨rfl, (o_ld (b := b391) (off := 0) (v := (.agg (List.toArray [(.int .i64 p0.Rows), (.int .i64 p0.Cols)]))) rfl rm0 rfl rfl ⟨rfl, rfl⟩)⟩⟩, fun _ => ⟨rfl, rfl, rfl, .inl ⟨rfl, (o_ld (b := b391) (off := 0) (v := (.agg (List.toArray [(.int .i64 p0.Rows), (.int .i64 p0.Cols)]))) rfl rm0 rfl rfl ⟨rfl, rfl⟩)⟩⟩, fun _ => ⟨rfl, rfl, rfl, .inl ⟨rfl, (o_p rfl ⟨rfl, rfl⟩)⟩⟩, fun _ => ⟨rfl, rfl, rfl, .inl ⟨rfl, (o_ld (b := b391) (off := 0) (v := (.agg (List.toArray [(.int .i64 p0.Rows), (.int .i64 p0.Cols)]))) rfl rm0 rfl rfl ⟨rfl, rfl⟩)⟩⟩, fun _ => ⟨rfl, rfl, rfl, .inl ⟨rfl, (o_p rfl ⟨rfl, rfl⟩)⟩⟩, trivial⟩, rfl, .inr ⟨[3], rfl, rfl, ⟨rfl, .inl rfl, ?_⟩, trivial⟩⟩
 refine (o_call has61 rfl (c_addr_Size_Wrap hg X p0 p2 _ h2) (pc rm1 pn) ?_)
 refine ⟨[], [0, 4, 5], rfl, rfl, rfl, rfl, ?_⟩
 replace h := bsome h
 obtain ⟨d3, h3, h⟩ := h
 refine ⟨⟨fun _ => ⟨rfl, rfl, rfl, .inl ⟨rfl, (o_ld (b := b391) (off := 0) (v := (.agg (List.toArray [(.int .i64 p0.Rows), (.int .i64 p0.Cols)]))) rfl rm1 rfl rfl ⟨rfl, rfl⟩)⟩⟩, (fun h => nomatch h), (fun h => nomatch h), fun _ => ⟨rfl, rfl, rfl, .inl ⟨rfl, (o_ld (b := b391) (off := 0) (v := (.agg (List.toArray [(.int .i64 p0.Rows), (.int .i64 p0.Cols)]))) rfl rm1 rfl rfl ⟨rfl, rfl⟩)⟩⟩, fun _ => ⟨rfl, rfl, rfl, .inl ⟨rfl, (o_p rfl ⟨rfl, rfl⟩)⟩⟩, trivial⟩, rfl, .inr ⟨[6], rfl, rfl, ⟨rfl, .inl rfl, ?_⟩, trivial⟩⟩
 refine (o_call has61 rfl (c_addr_Size_Wrap hg X p0 p1 _ h3) (pc rm0 pn) ?_)
 refine ⟨[(7, 15, (.int .i64 (w64 (d2 - d3))))], [0, 7], rfl, rfl, rfl, rfl, ?_⟩
 replace h := bsome h
 obtain ⟨d4, h4, h⟩ := h
 refine ⟨⟨fun _ => ⟨rfl, rfl, rfl, .inl ⟨rfl, (o_p (v := (.int .i64 (w64 (d2 - d3)))) rfl ⟨rfl, rfl⟩)⟩⟩, fun _ => ⟨rfl, rfl, rfl, .inl ⟨rfl, (o_ld (b := b391) (off := 0) (v := (.agg (List.toArray [(.int .i64 p0.Rows), (.int .i64 p0.Cols)]))) rfl rm1 rfl rfl ⟨rfl, rfl⟩)⟩⟩, (fun h => nomatch h), (fun h => nomatch h), (fun h => nomatch h), (fun h => nomatch h), trivial⟩, rfl, .inr ⟨[8], rfl, rfl, ⟨rfl, .inl rfl, ?_⟩, trivial⟩⟩
 refine (o_call has61 rfl (c_addr_Size_Wrap hg X p0 (w64 (d2 - d3)) _ h4) (pc rm0 pn) ?_)
 refine ⟨[(9, 7, (.int .i64 d4))], [9], rfl, rfl, rfl, rfl, ?_⟩
 refine ⟨⟨fun _ => ⟨rfl, rfl, rfl, .inl ⟨rfl, (o_p rfl ⟨rfl, rfl⟩)⟩⟩, (fun h => nomatch h), (fun h => nomatch h), (fun h => nomatch h), (fun h => nomatch h), (fun h => nomatch h), (fun h => nomatch h), trivial⟩, rfl, rfl, rfl, ?_⟩
 refine e_seq (c_seq (c_region (o1 rfl (o_p rfl ?_))))
 refine o1 rfl (o_p (v := (.bool (decide (d4 > 0)))) rfl ?_)
 refine o_end (e_seq ?_)
 refine c_cond (b := (decide (d4 > 0))) rfl (fun hb393 => ?_) (fun hb393 => ?_)
 ·replace h := cond_t hb393 h
  refine c_seq (c_region (o1 rfl (o_p rfl (o1 rfl (o_p rfl (o_end (e_seq ?_)))))))
  refine c_ret (e_then_ret (e_ret ?_))
  refine r_endt rfl rfl (kc rm0 (kd kr)) ?_
  obtain rfl := Option.some.inj h
  exact hk
 ·replace h := cond_f hb393 h
  refine c_skip (e_seq (c_seq (c_region ?_)))
  refine o1 rfl (o_ld (b := b391) (off := 0) (v := (.agg (List.toArray [(.int .i64 p0.Rows), (.int .i64 p0.Cols)]))) rfl rm1 rfl rfl ?_)
  replace h := bsome h
  obtain ⟨d6, h6, h⟩ := h
  refine o1 rfl (o_call has52 rfl (c_addr_Size_Cells hg X p0 _ h6) (pc rm0 pn) ?_)
  refine o1 rfl (o_p rfl (o_end (e_seq (c_ret (e_ret ?_)))))
  refine r_endt rfl rfl (kc rm0 (kd kr)) ?_
  obtain rfl := Option.some.inj h
  exact hk

theorem c_space_Space_Formatted {g : Gw} (hg : GK g) (X : HP) (p0 : Vspace_Space) (b0 : Nat) (s0 : SV) (r : Bool) (h : m_space_Space_Formatted p0 = some r) : Tri env g 143 (List.toArray [(.pointer (some ⟨b0, 0, none⟩))]) [X, blk b0 (.cells (List.toArray [(.int .i64 p0.model), (.bool p0.alternate), (.int .i64 p0.size.Rows), (.int .i64 p0.size.Cols), (SV.val s0), (.int .i64 p0.cursor), (.int .i64 p0.attrs)]) 116 (0, 0)), slO s0 80 en_Vapi_Cell p0.cells] (fun K R => K (.bool r) (X :: blk b0 (.cells (List.toArray [(.int .i64 p0.model), (.bool p0.alternate), (.int .i64 p0.size.Rows), (.int .i64 p0.size.Cols), (SV.val s0), (.int .i64 p0.cursor), (.int .i64 p0.attrs)]) 116 (0, 0)) :: slO s0 80 en_Vapi_Cell p0.cells :: R)) := by
 refine tri_of (fn := Tryz.f143) (N := 12) Tryz.func143 rfl rfl rfl ?_
 intro R K hk
 unfold m_space_Space_Formatted at h
 change GC _ none _ [] [(0, (.pointer (some ⟨b0, 0, none⟩)))] (X :: blk b0 (.cells (List.toArray [(.int .i64 p0.model), (.bool p0.alternate), (.int .i64 p0.size.Rows), (.int .i64 p0.size.Cols), (SV.val s0), (.int .i64 p0.cursor), (.int .i64 p0.attrs)]) 116 (0, 0)) :: slO s0 80 en_Vapi_Cell p0.cells :: R) g _ _
 refine c_seq (c_region (o1 rfl (o_p rfl (o_end (e_seq (c_seq ?_))))))
 refine c_region (o1 rfl (o_p rfl ?_))
 refine o1 rfl (o_p (v := (.bool true)) rfl ?_)
 refine o1 rfl (o_p rfl ?_)
 refine oy rfl rfl rfl rfl (o_p rfl ?_)
 refine oy rfl rfl rfl rfl (o_p rfl ?_)
 refine oy rfl rfl rfl rfl (o_fa (fd := ⟨ "attrs", 3, 6, false, "", "vitrine/space", 64⟩) rfl rfl rfl rfl rfl ?_)
 refine oy rfl rfl rfl rfl (o_ld (b := b0) (off := 6) (v := (.int .i64 p0.attrs)) rfl rm1 rfl rfl ?_)
 refine oy rfl rfl rfl rfl (o_p (v := (.bool (decide (p0.attrs > 0)))) rfl ?_)
 refine o1 rfl (o_pick_t rfl rfl rfl ?_)
 refine o1 rfl (o_p rfl (o_end (e_seq (c_ret (e_ret ?_)))))
 refine r_endt rfl rfl (kc rm0 (kc rm0 (kc rm0 kr))) ?_
 obtain rfl := Option.some.inj h
 exact hk

theorem c_field_Start {g : Gw} (hg : GK g) (X : HP) (p0 : Vspace_Space) (b0 : Nat) (s0 : SV) (p1 : Int) (r : Int) (h : m_field_Start p0 p1 = some r) : Tri env g 120 (List.toArray [(.pointer (some ⟨b0, 0, none⟩)), (.int .i64 p1)]) [X, blk b0 (.cells (List.toArray [(.int .i64 p0.model), (.bool p0.alternate), (.int .i64 p0.size.Rows), (.int .i64 p0.size.Cols), (SV.val s0), (.int .i64 p0.cursor), (.int .i64 p0.attrs)]) 116 (0, 0)), slO s0 80 en_Vapi_Cell p0.cells] (fun K R => K (.int .i64 r) (X :: blk b0 (.cells (List.toArray [(.int .i64 p0.model), (.bool p0.alternate), (.int .i64 p0.size.Rows), (.int .i64 p0.size.Cols), (SV.val s0), (.int .i64 p0.cursor), (.int .i64 p0.attrs)]) 116 (0, 0)) :: slO s0 80 en_Vapi_Cell p0.cells :: R)) := by
 refine tri_of (fn := Tryz.f120) (N := 24) Tryz.func120 rfl rfl rfl ?_
 intro R K hk
 unfold m_field_Start at h
 change GC _ none _ [] [(0, (.pointer (some ⟨b0, 0, none⟩))), (1, (.int .i64 p1))] (X :: blk b0 (.cells (List.toArray [(.int .i64 p0.model), (.bool p0.alternate), (.int .i64 p0.size.Rows), (.int .i64 p0.size.Cols), (SV.val s0), (.int .i64 p0.cursor), (.int .i64 p0.attrs)]) 116 (0, 0)) :: slO s0 80 en_Vapi_Cell p0.cells :: R) g _ _
 refine c_seq (c_region (o1 rfl (o_p rfl (o_end (e_seq (c_seq ?_))))))
 refine c_seq (c_region (o1 rfl (o_p rfl ?_)))
 replace h := bsome h
 obtain ⟨d1, h1, h⟩ := h
 refine o1 rfl (o_call has143 rfl (c_space_Space_Formatted hg X p0 b0 s0 _ h1) (pc rm0 (pc rm0 (pc rm0 pn))) ?_)
 refine o1 rfl (o_p (v := (.bool (!d1))) rfl ?_)
 refine o_end (e_seq ?_)
 refine c_cond (b := (!d1)) rfl (fun hb397 => ?_) (fun hb397 => ?_)
 ·replace h := cond_t hb397 h
  refine c_seq (c_region (o1 rfl (o_p rfl (o_end (e_seq (c_ret ?_))))))
  refine e_then_ret (e_ret ?_)
  refine r_endt rfl rfl (kc rm0 (kc rm0 (kc rm0 kr))) ?_
  obtain rfl := Option.some.inj h
  exact hk
 ·replace h := cond_f hb397 h
  refine c_skip (e_seq (c_seq (c_region (o1 rfl (o_p rfl ?_)))))
  replace h := bsome h
  obtain ⟨d3, h3, h⟩ := h
  refine o1 rfl (o_call has51 rfl (c_space_Space_Size hg X p0 b0 s0 _ h3) (pc rm0 (pc rm0 (pc rm0 pn))) ?_)
  refine o1 rfl (o_alloc (cs := [(.int .i64 0), (.int .i64 0)]) rfl rfl (fun b398 => ?_))
  refine o0 (o_st (b := b398) (off := 0) (vs := [(.int .i64 d3.Rows), (.int .i64 d3.Cols)]) (cs' := [(.int .i64 d3.Rows), (.int .i64 d3.Cols)]) rfl rfl rp0 rfl rfl rfl rfl rfl rfl ?_)
  refine o_end (e_seq (c_seq (c_region ?_)))
  refine o1 rfl (o_ld (b := b398) (off := 0) (v := (.agg (List.toArray [(.int .i64 d3.Rows), (.int .i64 d3.Cols)]))) rfl rm0 rfl rfl ?_)
  refine o1 rfl (o_p rfl ?_)
  replace h := bsome h
  obtain ⟨d4, h4, h⟩ := h
  refine o1 rfl (o_call has61 rfl (c_addr_Size_Wrap hg X (⟨d3.Rows, d3.Cols⟩ : Vaddr_Size) p1 _ h4) (pc rm1 pn) ?_)
  refine o1 rfl (o_p rfl (o_end (e_seq (c_seq ?_))))
  replace h := bsome h
  obtain ⟨d5, h, hk5⟩ := h
  refine cj (D := Unit) (ι := Unit) (fun _ i5 => True) (fun _ i5 => [(1, (.int .i64 d5))]) (fun _ i5 => X :: blk b0 (.cells (List.toArray [(.int .i64 p0.model), (.bool p0.alternate), (.int .i64 p0.size.Rows), (.int .i64 p0.size.Cols), (SV.val s0), (.int .i64 p0.cursor), (.int .i64 p0.attrs)]) 116 (0, 0)) :: slO s0 80 en_Vapi_Cell p0.cells :: R) ?_ ?_
  ·refine c_block ?_
   refine c_loop (l_sub (sc rfl (sc rfl (sc rfl sn))) (l_keep (kc rm0 (kc rm0 (kc rm0 (kc rm0 kr)))) (lf (X := Int) (ι := Unit) (fun k x => field_Start_l6 p0 d3 k x) _ (fun x6 i6 => True) (fun x6 i6 => [(1, (.int .i64 x6)), (5, (.pointer (some ⟨b398, 0, none⟩))), (0, (.pointer (some ⟨b0, 0, none⟩)))]) (fun x6 i6 => X :: blk b398 (.cells (List.toArray [(.int .i64 d3.Rows), (.int .i64 d3.Cols)]) 102 (0, 0)) :: blk b0 (.cells (List.toArray [(.int .i64 p0.model), (.bool p0.alternate), (.int .i64 p0.size.Rows), (.int .i64 p0.size.Cols), (SV.val s0), (.int .i64 p0.cursor), (.int .i64 p0.attrs)]) 116 (0, 0)) :: slO s0 80 en_Vapi_Cell p0.cells :: R) (fun _ => rfl) ?_ fuel d4 () trivial h)))
   clear h
   rintro k6 ih6 x6 i6 _ h
   rw [field_Start_l6.eq_2] at h
   refine l_round (c_seq (c_seq (c_region (o1 rfl (o_p rfl (o1 rfl (o_p rfl ?_)))))))
   replace h := bsome h
   obtain ⟨d7, h7, h⟩ := h
   refine o1 rfl (o_call has57 rfl (c_space_Space_At hg X p0 b0 s0 x6 _ h7) (pc rm0 (pc rm1 (pc rm1 pn))) ?_)
   refine o1 rfl (o_field (v := (.bool d7.Attr)) rfl rfl rfl ?_)
   refine o1 rfl (o_p (v := (.bool (!d7.Attr))) rfl ?_)
   refine o_end (e_seq ?_)
   refine c_cond (b := (!d7.Attr)) rfl (fun hb402 => ?_) (fun hb402 => ?_)
   ·replace h := cond_t hb402 h
    refine c_skip (e_seq (c_block (c_region ?_)))
    refine o1 rfl (o_ld (b := b398) (off := 0) (v := (.agg (List.toArray [(.int .i64 d3.Rows), (.int .i64 d3.Cols)]))) rfl rm3 rfl rfl ?_)
    refine o1 rfl (o_p rfl ?_)
    refine o1 rfl (o_p (v := (.int .i64 (w64 (x6 - 1)))) rfl ?_)
    replace h := bsome h
    obtain ⟨d9, h9, h⟩ := h
    refine o1 rfl (o_call has61 rfl (c_addr_Size_Wrap hg X (⟨d3.Rows, d3.Cols⟩ : Vaddr_Size) (w64 (x6 - 1)) _ h9) (pc rm0 pn) ?_)
    refine o1 rfl (o_p rfl (o_end (e_blk ?_)))
    exact e_loop (l_sub (sc rfl (sc rfl (sc rfl sn))) (l_keep (kc rm0 (kc rm2 (kc rm0 (kc rm0 kr)))) (ih6 d9 () trivial h)))
   ·replace h := cond_f hb402 h
    refine c_exit (e_then_exit (e_then_exit (e_blk_exit ?_)))
    obtain rfl := Option.some.inj h
    exact ej () () trivial (sc rfl sn) (kc rm0 (kc rm0 (kc rm0 (kd kr))))
  ·rintro _ i5 _
   replace h := hk5
   clear hk5
   refine e_seq (c_seq (c_region (o1 rfl (o_p rfl (o1 rfl (o_p rfl (o_end ?_)))))))
   refine e_seq (c_ret (e_ret ?_))
   refine r_endt rfl rfl (kc rm0 (kc rm0 (kc rm0 kr))) ?_
   obtain rfl := Option.some.inj h
   exact hk

theorem c_attr_Of {g : Gw} (hg : GK g) (X : HP) (p0 : Int) (r : Vattr_Field) (h : m_attr_Of p0 = some r) : Tri env g 121 (List.toArray [(.int .u8 p0)]) [X] (fun K R => K (.agg (List.toArray [(.bool r.Protected), (.bool r.Numeric), (.int .i64 r.Display), (.bool r.Modified)])) (X :: R)) := by
 refine tri_of (fn := Tryz.f121) (N := 17) Tryz.func121 rfl rfl rfl ?_
 intro R K hk
 unfold m_attr_Of at h
 change GC _ none _ [] [(0, (.int .u8 p0))] (X :: R) g _ _
 refine c_seq (c_region ?_)
 refine o1 rfl (o_alloc (cs := [(.bool false), (.bool false), (.int .i64 0), (.bool false)]) rfl rfl (fun b404 => ?_))
 refine o_end (e_seq (c_seq (c_region (o1 rfl (o_p rfl ?_)))))
 refine o1 rfl (o_p (v := (.int .u8 (iband .u8 p0 32))) rfl ?_)
 refine o1 rfl (o_p (v := (.bool ((iband .u8 p0 32) != 0))) rfl ?_)
 refine o1 rfl (o_p rfl ?_)
 refine o1 rfl (o_p (v := (.int .u8 (iband .u8 p0 16))) rfl ?_)
 refine o1 rfl (o_p (v := (.bool ((iband .u8 p0 16) != 0))) rfl ?_)
 refine o1 rfl (o_p rfl ?_)
 refine o1 rfl (o_p (v := (.int .u8 (iband .u8 p0 12))) rfl ?_)
 refine o1 rfl (o_p (v := (.int .i64 (w64 (iband .u8 p0 12)))) rfl ?_)
 refine o1 rfl (o_shr (m := w64 (iband .u8 p0 12)) (n := 2) rfl rfl (by decide) ?_)
 refine o1 rfl (o_p rfl ?_)
 refine o1 rfl (o_p (v := (.int .u8 (iband .u8 p0 1))) rfl ?_)
 refine o1 rfl (o_p (v := (.bool ((iband .u8 p0 1) != 0))) rfl ?_)
 refine o1 rfl (o_build (fs := [⟨ "Protected", 4, 0, false, "", "", 0⟩, ⟨ "Numeric", 4, 1, false, "", "", 1⟩, ⟨ "Display", 3, 2, false, "", "", 8⟩, ⟨ "Modified", 4, 3, false, "", "", 16⟩]) (ps := [(0, 1), (1, 1), (2, 1), (3, 1)]) (cs := [(.bool ((iband .u8 p0 32) != 0)), (.bool ((iband .u8 p0 16) != 0)), (.int .i64 (ishr .i64 (w64 (iband .u8 p0 12)) 2)), (.bool ((iband .u8 p0 1) != 0))]) rfl rfl rfl rfl rfl ?_)
 refine o0 (o_st (b := b404) (off := 0) (vs := [(.bool ((iband .u8 p0 32) != 0)), (.bool ((iband .u8 p0 16) != 0)), (.int .i64 (ishr .i64 (w64 (iband .u8 p0 12)) 2)), (.bool ((iband .u8 p0 1) != 0))]) (cs' := [(.bool ((iband .u8 p0 32) != 0)), (.bool ((iband .u8 p0 16) != 0)), (.int .i64 (ishr .i64 (w64 (iband .u8 p0 12)) 2)), (.bool ((iband .u8 p0 1) != 0))]) rfl rfl rp0 rfl rfl rfl rfl rfl rfl ?_)
 refine o_end (e_seq (c_ret (e_ret ?_)))
 refine r_endc (B := [[(.bool ((iband .u8 p0 32) != 0)), (.bool ((iband .u8 p0 16) != 0)), (.int .i64 (ishr .i64 (w64 (iband .u8 p0 12)) 2)), (.bool ((iband .u8 p0 1) != 0))]]) rfl ⟨⟨_, _, _, _, rfl, rm0⟩, trivial⟩ rfl (kc rm1 (kd kr)) ?_
 obtain rfl := Option.some.inj h
 exact hk

theorem c_field_Of {g : Gw} (hg : GK g) (X : HP) (p0 : Vspace_Space) (b0 : Nat) (s0 : SV) (p1 : Int) (r : Vattr_Field × Bool) (h : m_field_Of p0 p1 = some r) : Tri env g 69 (List.toArray [(.pointer (some ⟨b0, 0, none⟩)), (.int .i64 p1)]) [X, blk b0 (.cells (List.toArray [(.int .i64 p0.model), (.bool p0.alternate), (.int .i64 p0.size.Rows), (.int .i64 p0.size.Cols), (SV.val s0), (.int .i64 p0.cursor), (.int .i64 p0.attrs)]) 116 (0, 0)), slO s0 80 en_Vapi_Cell p0.cells] (fun K R => K (.tuple (List.toArray [(.agg (List.toArray [(.bool r.1.Protected), (.bool r.1.Numeric), (.int .i64 r.1.Display), (.bool r.1.Modified)])), (.bool r.2)])) (X :: blk b0 (.cells (List.toArray [(.int .i64 p0.model), (.bool p0.alternate), (.int .i64 p0.size.Rows), (.int .i64 p0.size.Cols), (SV.val s0), (.int .i64 p0.cursor), (.int .i64 p0.attrs)]) 116 (0, 0)) :: slO s0 80 en_Vapi_Cell p0.cells :: R)) := by
 refine tri_of (fn := Tryz.f69) (N := 18) Tryz.func69 rfl rfl rfl ?_
 intro R K hk
 unfold m_field_Of at h
 change GC _ none _ [] [(0, (.pointer (some ⟨b0, 0, none⟩))), (1, (.int .i64 p1))] (X :: blk b0 (.cells (List.toArray [(.int .i64 p0.model), (.bool p0.alternate), (.int .i64 p0.size.Rows), (.int .i64 p0.size.Cols), (SV.val s0), (.int .i64 p0.cursor), (.int .i64 p0.attrs)]) 116 (0, 0)) :: slO s0 80 en_Vapi_Cell p0.cells :: R) g _ _
 refine c_seq (c_region ?_)
 refine o1 rfl (o_alloc (cs := [(.bool false), (.bool false), (.int .i64 0), (.bool false)]) rfl rfl (fun b395 => ?_))
 refine o1 rfl (o_p rfl (o_end (e_seq (c_seq (c_region (o1 rfl (o_p rfl ?_)))))))
 refine o1 rfl (o_p rfl ?_)
 replace h := bsome h
 obtain ⟨d1, h1, h⟩ := h
 refine o1 rfl (o_call has120 rfl (c_field_Start hg X p0 b0 s0 p1 _ h1) (pc rm1 (pc rm1 (pc rm1 pn))) ?_)
 refine o1 rfl (o_p rfl (o_end (e_seq (c_seq (c_seq (c_region ?_))))))
 refine o1 rfl (o_p rfl ?_)
 refine o1 rfl (o_p (v := (.bool (d1 == (-1)))) rfl ?_)
 refine o_end (e_seq ?_)
 refine c_cond (b := (d1 == (-1))) rfl (fun hb403 => ?_) (fun hb403 => ?_)
 ·replace h := cond_t hb403 h
  refine c_seq (c_region ?_)
  refine o1 rfl (o_build (fs := [⟨ "Protected", 4, 0, false, "", "", 0⟩, ⟨ "Numeric", 4, 1, false, "", "", 1⟩, ⟨ "Display", 3, 2, false, "", "", 8⟩, ⟨ "Modified", 4, 3, false, "", "", 16⟩]) (ps := [(0, 1), (1, 1), (2, 1), (3, 1)]) (cs := [(.bool false), (.bool false), (.int .i64 0), (.bool false)]) rfl rfl rfl rfl rfl ?_)
  refine o0 (o_st (b := b395) (off := 0) (vs := [(.bool false), (.bool false), (.int .i64 0), (.bool false)]) (cs' := [(.bool false), (.bool false), (.int .i64 0), (.bool false)]) rfl rfl rp3 rfl rfl rfl rfl rfl rfl ?_)
  refine o1 rfl (o_p rfl (o_end (e_seq (c_ret (e_then_ret (e_ret ?_))))))
  refine r_endc (B := [[(.bool false), (.bool false), (.int .i64 0), (.bool false)]]) rfl ⟨⟨_, _, _, _, rfl, rm3⟩, trivial⟩ rfl (kc rm0 (kc rm0 (kc rm0 (kd kr)))) ?_
  obtain rfl := Option.some.inj h
  exact hk
 ·replace h := cond_f hb403 h
  refine c_skip (e_seq (c_seq (c_region (o1 rfl (o_p rfl (o1 rfl (o_p rfl ?_)))))))
  replace h := bsome h
  obtain ⟨d3, h3, h⟩ := h
  refine o1 rfl (o_call has57 rfl (c_space_Space_At hg X p0 b0 s0 d1 _ h3) (pc rm0 (pc rm0 (pc rm0 pn))) ?_)
  refine o1 rfl (o_field (v := (.int .u8 d3.FA)) rfl rfl rfl ?_)
  replace h := bsome h
  obtain ⟨d4, h4, h⟩ := h
  refine o1 rfl (o_call has121 rfl (c_attr_Of hg X d3.FA _ h4) (pc rm0 pn) ?_)
  refine o0 (o_st (b := b395) (off := 0) (vs := [(.bool d4.Protected), (.bool d4.Numeric), (.int .i64 d4.Display), (.bool d4.Modified)]) (cs' := [(.bool d4.Protected), (.bool d4.Numeric), (.int .i64 d4.Display), (.bool d4.Modified)]) rfl rfl rp3 rfl rfl rfl rfl rfl rfl ?_)
  refine o1 rfl (o_p rfl (o_end (e_seq (c_ret (e_ret ?_)))))
  refine r_endc (B := [[(.bool d4.Protected), (.bool d4.Numeric), (.int .i64 d4.Display), (.bool d4.Modified)]]) rfl ⟨⟨_, _, _, _, rfl, rm3⟩, trivial⟩ rfl (kc rm0 (kc rm0 (kc rm0 (kd kr)))) ?_
  obtain rfl := Option.some.inj h
  exact hk

theorem c_field_Open {g : Gw} (hg : GK g) (X : HP) (p0 : Vspace_Space) (b0 : Nat) (s0 : SV) (p1 : Int) (r : Bool) (h : m_field_Open p0 p1 = some r) : Tri env g 183 (List.toArray [(.pointer (some ⟨b0, 0, none⟩)), (.int .i64 p1)]) [X, blk b0 (.cells (List.toArray [(.int .i64 p0.model), (.bool p0.alternate), (.int .i64 p0.size.Rows), (.int .i64 p0.size.Cols), (SV.val s0), (.int .i64 p0.cursor), (.int .i64 p0.attrs)]) 116 (0, 0)), slO s0 80 en_Vapi_Cell p0.cells] (fun K R => K (.bool r) (X :: blk b0 (.cells (List.toArray [(.int .i64 p0.model), (.bool p0.alternate), (.int .i64 p0.size.Rows), (.int .i64 p0.size.Cols), (SV.val s0), (.int .i64 p0.cursor), (.int .i64 p0.attrs)]) 116 (0, 0)) :: slO s0 80 en_Vapi_Cell p0.cells :: R)) := by
 refine tri_of (fn := Tryz.f183) (N := 30) Tryz.func183 rfl rfl rfl ?_
 intro R K hk
 unfold m_field_Open at h
 change GC _ none _ [] [(0, (.pointer (some ⟨b0, 0, none⟩))), (1, (.int .i64 p1))] (X :: blk b0 (.cells (List.toArray [(.int .i64 p0.model), (.bool p0.alternate), (.int .i64 p0.size.Rows), (.int .i64 p0.size.Cols), (SV.val s0), (.int .i64 p0.cursor), (.int .i64 p0.attrs)]) 116 (0, 0)) :: slO s0 80 en_Vapi_Cell p0.cells :: R) g _ _
 refine c_seq (c_region (o1 rfl (o_p rfl (o_end (e_seq (c_seq ?_))))))
 refine c_region (o1 rfl (o_p rfl (o1 rfl (o_p rfl ?_))))
 replace h := bsome h
 obtain ⟨d1, h1, h⟩ := h
 refine o1 rfl (o_call has69 rfl (c_field_Of hg X p0 b0 s0 p1 _ h1) (pc rm0 (pc rm0 (pc rm0 pn))) ?_)
 refine o1 rfl (o_p rfl (o1 rfl (o_p rfl (o1 rfl (o_p rfl ?_)))))
 refine o1 rfl (o_alloc (cs := [(.bool false), (.bool false), (.int .i64 0), (.bool false)]) rfl rfl (fun b406 => ?_))
 refine o0 (o_st (b := b406) (off := 0) (vs := [(.bool d1.1.Protected), (.bool d1.1.Numeric), (.int .i64 d1.1.Display), (.bool d1.1.Modified)]) (cs' := [(.bool d1.1.Protected), (.bool d1.1.Numeric), (.int .i64 d1.1.Display), (.bool d1.1.Modified)]) rfl rfl rp0 rfl rfl rfl rfl rfl rfl ?_)
 refine o1 rfl (o_p rfl (o_end (e_seq (c_seq ?_))))
 replace h := bsome h
 obtain ⟨d2, h, hk2⟩ := h
 refine cj (D := Unit) (ι := Unit) (fun _ i2 => True) (fun _ i2 => [(4, (.bool d2))]) (fun _ i2 => X :: blk b0 (.cells (List.toArray [(.int .i64 p0.model), (.bool p0.alternate), (.int .i64 p0.size.Rows), (.int .i64 p0.size.Cols), (SV.val s0), (.int .i64 p0.cursor), (.int .i64 p0.attrs)]) 116 (0, 0)) :: slO s0 80 en_Vapi_Cell p0.cells :: R) ?_ ?_
 ·refine c_region (o1 rfl (o_p rfl ?_))
  refine o1 rfl (o_p (v := (.bool true)) rfl ?_)
  refine o1 rfl (o_p rfl ?_)
  refine oy rfl rfl rfl rfl (o_p rfl ?_)
  refine oy rfl rfl rfl rfl (o_p rfl ?_)
  replace h := bsome h
  obtain ⟨d3, h3, h⟩ := h
  refine oy rfl rfl rfl rfl (o_call has57 rfl (c_space_Space_At hg X p0 b0 s0 p1 _ h3) (pc rm1 (pc rm1 (pc rm1 pn))) ?_)
  refine oy rfl rfl rfl rfl (o_field (v := (.bool d3.Attr)) rfl rfl rfl ?_)
  refine oy rfl rfl rfl rfl (o_p (v := (.bool (!d3.Attr))) rfl ?_)
  refine o1 rfl (o_pick_t rfl rfl rfl ?_)
  refine o1 rfl (o_p rfl ?_)
  rcases bool_or ((!d3.Attr)) with hb408 | hb408
  ·replace h := cond_t hb408 h
   refine oy rfl rfl rfl hb408 (o_p rfl ?_)
   refine oy rfl rfl rfl hb408 (o_p rfl ?_)
   rcases bool_or (d1.2) with hb409 | hb409
   ·replace h := cond_t hb409 h
    refine oy rfl rfl rfl hb409 (o_fa (fd := ⟨ "Protected", 4, 0, false, "", "", 0⟩) rfl rfl rfl rfl rfl ?_)
    refine oy rfl rfl rfl hb409 (o_ld (b := b406) (off := 0) (v := (.bool d1.1.Protected)) rfl rm3 rfl rfl ?_)
    refine oy rfl rfl rfl hb408 (o_pick_t rfl hb409 rfl ?_)
    refine oy rfl rfl rfl hb408 (o_p (v := (.bool (!d1.1.Protected))) rfl ?_)
    refine o1 rfl (o_pick_t rfl hb408 rfl ?_)
    refine o1 rfl (o_p rfl (o_end ?_))
    obtain rfl := Option.some.inj h
    exact ej () () trivial (sc rfl sn) (kc rm0 (kc rm0 (kc rm0 (kd kr))))
   ·replace h := cond_f hb409 h
    refine on rfl rfl rfl hb409 ?_
    refine on rfl rfl rfl hb409 ?_
    refine oy rfl rfl rfl hb408 (o_pick_f rfl hb409 rfl ?_)
    refine oy rfl rfl rfl hb408 (o_p (v := (.bool true)) rfl ?_)
    refine o1 rfl (o_pick_t rfl hb408 rfl ?_)
    refine o1 rfl (o_p rfl (o_end ?_))
    obtain rfl := Option.some.inj h
    exact ej () () trivial (sc rfl sn) (kc rm0 (kc rm0 (kc rm0 (kd kr))))
  ·replace h := cond_f hb408 h
   refine on rfl rfl rfl hb408 ?_
   refine on rfl rfl rfl hb408 ?_
   refine ou rfl rfl rfl ?_
   refine ou rfl rfl rfl ?_
   refine on rfl rfl rfl hb408 ?_
   refine on rfl rfl rfl hb408 ?_
   refine o1 rfl (o_pick_f rfl hb408 rfl ?_)
   refine o1 rfl (o_p rfl (o_end ?_))
   obtain rfl := Option.some.inj h
   exact ej () () trivial (sc rfl sn) (kc rm0 (kc rm0 (kc rm0 (kd kr))))
 ·rintro _ i2 _
  replace h := hk2
  clear hk2
  refine e_seq (c_ret (e_ret ?_))
  refine r_endt rfl rfl (kc rm0 (kc rm0 (kc rm0 kr))) ?_
  obtain rfl := Option.some.inj h
  exact hk

theorem c_space_Space_Put {g : Gw} (hg : GK g) (X : HP) (p0 : Vspace_Space) (b0 : Nat) (s0 : SV) (p1 : Int) (p2 : Int) (r : Vspace_Space) (h : m_space_Space_Put p0 p1 p2 = some r) : Tri env g 40 (List.toArray [(.pointer (some ⟨b0, 0, none⟩)), (.int .i64 p1), (.int .u8 p2)]) [X, blk b0 (.cells (List.toArray [(.int .i64 p0.model), (.bool p0.alternate), (.int .i64 p0.size.Rows), (.int .i64 p0.size.Cols), (SV.val s0), (.int .i64 p0.cursor), (.int .i64 p0.attrs)]) 116 (0, 0)), slO s0 80 en_Vapi_Cell p0.cells] (fun K R => K (.tuple (List.toArray [])) (X :: blk b0 (.cells (List.toArray [(.int .i64 r.model), (.bool r.alternate), (.int .i64 r.size.Rows), (.int .i64 r.size.Cols), (SV.val s0), (.int .i64 r.cursor), (.int .i64 r.attrs)]) 116 (0, 0)) :: slO s0 80 en_Vapi_Cell r.cells :: R)) := by
 refine tri_of (fn := Tryz.f40) (N := 29) Tryz.func40 rfl rfl rfl ?_
 intro R K hk
 unfold m_space_Space_Put at h
 change GC _ none _ [] [(0, (.pointer (some ⟨b0, 0, none⟩))), (1, (.int .i64 p1)), (2, (.int .u8 p2))] (X :: blk b0 (.cells (List.toArray [(.int .i64 p0.model), (.bool p0.alternate), (.int .i64 p0.size.Rows), (.int .i64 p0.size.Cols), (SV.val s0), (.int .i64 p0.cursor), (.int .i64 p0.attrs)]) 116 (0, 0)) :: slO s0 80 en_Vapi_Cell p0.cells :: R) g _ _
 refine c_seq (c_seq (c_region (o1 rfl (o_p rfl ?_))))
 refine o1 rfl (o_p (v := (.bool false)) rfl ?_)
 refine o_end (e_seq ?_)
 refine c_cond_f rfl rfl ?_
 refine c_skip (e_seq (c_seq ?_))
 refine c_draw (n := 1) (q := [(0, 9, (.pointer (some ⟨b0, 0, none⟩))), (1, 10, (.pointer (some ⟨b0, 0, none⟩))), (2, 11, (.pointer (some ⟨b0, 4, none⟩))), (3, 12, (SV.val s0)), (4, 13, (.pointer (some ⟨b0, 0, none⟩))), (5, 14, (.pointer (some ⟨b0, 0, none⟩))), (6, 15, (.pointer (some ⟨b0, 2, none⟩))), (7, 16, (.agg (List.toArray [(.int .i64 p0.size.Rows), (.int .i64 p0.size.Cols)]))), (8, 17, (.int .i64 p1))]) (pend := [0, 1, 2, 3, 4, 5, 6, 7, 8]) rfl rfl rfl ?_
 replace h := bsome h
 obtain ⟨d2, h2, h⟩ := h
 refine ⟨⟨fun _ => ⟨rfl, rfl, rfl, .inl ⟨rfl, (o_p rfl ⟨rfl, rfl⟩)⟩⟩, fun _ => ⟨rfl, rfl, rfl, .inl ⟨rfl, (o_p rfl ⟨rfl, rfl⟩)⟩⟩, fun _ => ⟨rfl, rfl, rfl, .inl ⟨rfl, (o_fa (fd := ⟨ "cells", 38, 4, false, "", "vitrine/space", 32⟩) rfl rfl rfl rfl rfl ⟨rfl, rfl⟩)⟩⟩, fun _ => ⟨rfl, rfl, rfl, .inl ⟨rfl, (o_ld (b := b0) (off := 4) (v := (SV.val s0)) rfl rm1 rfl rfl ⟨rfl, rfl⟩)⟩⟩, fun _ => ⟨rfl, rfl, rfl, .inl ⟨rfl, (o_p rfl ⟨rfl, rfl⟩)⟩⟩, fun _ => ⟨rfl, rfl, rfl, .inl ⟨rfl, (o_p rfl ⟨rfl, rfl⟩)⟩⟩, fun _ => ⟨rfl, rfl, rfl, .inl ⟨rfl, (o_fa (fd := ⟨ "size", 102, 2, false, "", "vitrine/space", 16⟩) rfl rfl rfl rfl rfl ⟨rfl, rfl⟩)⟩⟩, fun _ => ⟨rfl, rfl, rfl, .inl ⟨rfl, (o_ld (b := b0) (off := 2) (v := (.agg (List.toArray [(.int .i64 p0.size.Rows), (.int .i64 p0.size.Cols)]))) rfl rm1 rfl rfl ⟨rfl, rfl⟩)⟩⟩, fun _ => ⟨rfl, rfl, rfl, .inl ⟨rfl, (o_p rfl ⟨rfl, rfl⟩)⟩⟩, trivial⟩, rfl, .inr ⟨[9], rfl, rfl, ⟨rfl, .inl rfl, ?_⟩, trivial⟩⟩
 refine (o_call has61 rfl (c_addr_Size_Wrap hg X p0.size p1 _ h2) (pc rm0 pn) ?_)
 replace h := gsome h
 obtain ⟨hg411, h⟩ := h
 refine ⟨[(10, 19, (.pointer (some ⟨SV.blk s0, SV.off s0 + Int.toNat d2 * 6, none⟩))), (11, 6, (.pointer (some ⟨SV.blk s0, SV.off s0 + Int.toNat d2 * 6, none⟩)))], [0, 1, 2, 3, 10, 11], rfl, rfl, rfl, rfl, ?_⟩
 refine ⟨⟨fun _ => ⟨rfl, rfl, rfl, .inl ⟨rfl, (o_ix (s := s0) (n := d2) (e := en_Vapi_Cell) rfl rfl rfl rfl rfl rfl rm2 (rd_own _ _ _ _) hg411 ⟨rfl, rfl⟩)⟩⟩, fun _ => ⟨rfl, rfl, rfl, .inl ⟨rfl, (o_p rfl ⟨rfl, rfl⟩)⟩⟩, fun _ => ⟨rfl, rfl, rfl, .inl ⟨rfl, (o_p rfl ⟨rfl, rfl⟩)⟩⟩, fun _ => ⟨rfl, rfl, rfl, .inl ⟨rfl, (o_p rfl ⟨rfl, rfl⟩)⟩⟩, fun _ => ⟨rfl, rfl, rfl, .inl ⟨rfl, (o_fa (fd := ⟨ "cells", 38, 4, false, "", "vitrine/space", 32⟩) rfl rfl rfl rfl rfl ⟨rfl, rfl⟩)⟩⟩, fun _ => ⟨rfl, rfl, rfl, .inl ⟨rfl, (o_ld (b := b0) (off := 4) (v := (SV.val s0)) rfl rm1 rfl rfl ⟨rfl, rfl⟩)⟩⟩, (fun h => nomatch h), (fun h => nomatch h), (fun h => nomatch h), (fun h => nomatch h), (fun h => nomatch h), trivial⟩, rfl, rfl, rfl, ?_⟩
 refine e_seq (c_seq (c_region (o1 rfl (o_p rfl (o1 rfl (o_p rfl ?_))))))
 refine o1 rfl (o_fa (fd := ⟨ "Attr", 4, 1, false, "", "", 1⟩) rfl rfl rfl rfl rfl ?_)
 refine o1 rfl (o_ldE (s := s0) (e := en_Vapi_Cell) (n := d2) (f := 1) (v := (.bool ((rd p0.cells d2).Attr))) rfl rm2 (rd_own _ _ _ _) hg411 rfl rfl ?_)
 refine o1 rfl (o_p (v := (.bool (!((rd p0.cells d2).Attr)))) rfl ?_)
 refine o_end (e_seq ?_)
 refine c_cond (b := (!((rd p0.cells d2).Attr))) rfl (fun hb412 => ?_) (fun hb412 => ?_)
 ·replace h := cond_t hb412 h
  refine c_region (o1 rfl (o_p rfl (o1 rfl (o_p rfl (o1 rfl (o_p rfl ?_))))))
  refine o1 rfl (o_fa (fd := ⟨ "Char", 5, 0, false, "", "", 0⟩) rfl rfl rfl rfl rfl ?_)
  refine o0 (o_stE (s := s0) (e := en_Vapi_Cell) (n := d2) (f := 0) (vs := [(.int .u8 p2)]) (u := { (rd p0.cells d2) with Char := p2 }) rfl rfl rp2 hg411 rfl rfl rfl rfl rfl rfl ?_)
  refine o_end (e_fall ?_)
  refine r_endt rfl rfl (kc rm0 (kc rm0 (kc rm0 kr))) ?_
  obtain rfl := Option.some.inj h
  exact hk
 ·replace h := cond_f hb412 h
  refine c_skip (e_fall ?_)
  refine r_endt rfl rfl (kc rm0 (kc rm0 (kc rm0 kr))) ?_
  obtain rfl := Option.some.inj h
  exact hk

theorem c_erase_Range {g : Gw} (hg : GK g) (X : HP) (p0 : Vspace_Space) (b0 : Nat) (s0 : SV) (p1 : Int) (p2 : Int) (r : Vspace_Space) (h : m_erase_Range p0 p1 p2 = some r) : Tri env g 157 (List.toArray [(.pointer (some ⟨b0, 0, none⟩)), (.int .i64 p1), (.int .i64 p2)]) [X, blk b0 (.cells (List.toArray [(.int .i64 p0.model), (.bool p0.alternate), (.int .i64 p0.size.Rows), (.int .i64 p0.size.Cols), (SV.val s0), (.int .i64 p0.cursor), (.int .i64 p0.attrs)]) 116 (0, 0)), slO s0 80 en_Vapi_Cell p0.cells] (fun K R => K (.tuple (List.toArray [])) (X :: blk b0 (.cells (List.toArray [(.int .i64 r.model), (.bool r.alternate), (.int .i64 r.size.Rows), (.int .i64 r.size.Cols), (SV.val s0), (.int .i64 r.cursor), (.int .i64 r.attrs)]) 116 (0, 0)) :: slO s0 80 en_Vapi_Cell r.cells :: R)) := by
 refine tri_of (fn := Tryz.f157) (N := 19) Tryz.func157 rfl rfl rfl ?_
 intro R K hk
 unfold m_erase_Range at h
 change GC _ none _ [] [(0, (.pointer (some ⟨b0, 0, none⟩))), (1, (.int .i64 p1)), (2, (.int .i64 p2))] (X :: blk b0 (.cells (List.toArray [(.int .i64 p0.model), (.bool p0.alternate), (.int .i64 p0.size.Rows), (.int .i64 p0.size.Cols), (SV.val s0), (.int .i64 p0.cursor), (.int .i64 p0.attrs)]) 116 (0, 0)) :: slO s0 80 en_Vapi_Cell p0.cells :: R) g _ _
 refine c_seq (c_region ?_)
 refine o1 rfl (o_box (cs := [(.pointer (some ⟨b0, 0, none⟩))]) rfl rfl (fun b380 => ?_))
 refine o_end (e_seq (c_seq (c_region ?_)))
 refine o1 rfl (o_ld (b := b380) (off := 0) (v := (.pointer (some ⟨b0, 0, none⟩))) rfl rm0 rfl rfl ?_)
 replace h := bsome h
 obtain ⟨d1, h1, h⟩ := h
 refine o1 rfl (o_call has51 rfl (c_space_Space_Size hg X p0 b0 s0 _ h1) (pc rm1 (pc rm1 (pc rm1 pn))) ?_)
 refine o1 rfl (o_p rfl (o1 rfl (o_p rfl ?_)))
 replace h := bsome h
 obtain ⟨d2, h2, h⟩ := h
 refine o1 rfl (o_call has182 rfl (c_addr_Size_Span hg X (⟨d1.Rows, d1.Cols⟩ : Vaddr_Size) p1 p2 _ h2) (pc rm0 pn) (fun i2 => ?_))
 refine o_end (e_seq ?_)
 replace h := bsome h
 obtain ⟨d3, h, hk3⟩ := h
 refine cjd (D := Unit) (ι := Nat) (fun _ i3 => [mk i3]) (fun _ i3 => True) (fun _ i3 => []) (fun _ i3 => X :: blk b0 (.cells (List.toArray [(.int .i64 d3.1), (.bool d3.2.1), (.int .i64 d3.2.2.1), (.int .i64 d3.2.2.2.1), (SV.val s0), (.int .i64 d3.2.2.2.2.2.1), (.int .i64 d3.2.2.2.2.2.2)]) 116 (0, 0)) :: slO s0 80 en_Vapi_Cell d3.2.2.2.2.1 :: blk i3 (.deferred (some [])) :: R) ?_ ?_
 ·refine c_block ?_
  replace h := bsome h
  obtain ⟨d4, h, hk4⟩ := h
  refine cjd (D := Unit) (ι := Nat) (fun _ i4 => [mk i4]) (fun _ i4 => True) (fun _ i4 => []) (fun _ i4 => X :: blk b0 (.cells (List.toArray [(.int .i64 d4.1), (.bool d4.2.1), (.int .i64 d4.2.2.1), (.int .i64 d4.2.2.2.1), (SV.val s0), (.int .i64 d4.2.2.2.2.2.1), (.int .i64 d4.2.2.2.2.2.2)]) 116 (0, 0)) :: slO s0 80 en_Vapi_Cell d4.2.2.2.2.1 :: blk i4 (.deferred (some [])) :: R) ?_ ?_
  ·refine c_range' (fn := Tryz.f196) (M := 24) rfl has196 Tryz.func196 rfl rfl rfl (fun l5 D5 a5 fc5 rc5 hrc5 ht5 => ?_)
   change GC _ none _ [] [(0, (.func (.yield l5) #[] #[])), (1, (.pointer (some ⟨i2.1, 0, none⟩))), (2, (.pointer (some ⟨i2.2.1, 0, none⟩))), (3, (.pointer (some ⟨i2.2.2, 0, none⟩)))] (blk l5 (.loop (rc5 .ready none)) :: blk D5 (.deferred (some [])) :: X :: blk i2.1 (.cells (List.toArray [(.int .i64 ((⟨d1.Rows, d1.Cols⟩ : Vaddr_Size).Rows)), (.int .i64 ((⟨d1.Rows, d1.Cols⟩ : Vaddr_Size).Cols))]) 102 (0, 0)) :: blk i2.2.1 (.cells (List.toArray [(.int .i64 p1)]) 3 (0, 0)) :: blk i2.2.2 (.cells (List.toArray [(.int .i64 p2)]) 3 (0, 0)) :: blk b0 (.cells (List.toArray [(.int .i64 p0.model), (.bool p0.alternate), (.int .i64 p0.size.Rows), (.int .i64 p0.size.Cols), (SV.val s0), (.int .i64 p0.cursor), (.int .i64 p0.attrs)]) 116 (0, 0)) :: slO s0 80 en_Vapi_Cell p0.cells :: blk b380 (.cells (List.toArray [(.pointer (some ⟨b0, 0, none⟩))]) 24 (0, 0)) :: R) g _ _
   refine c_seq (c_region ?_)
   refine o1 rfl (o_ld (b := i2.1) (off := 0) (v := (.agg (List.toArray [(.int .i64 ((⟨d1.Rows, d1.Cols⟩ : Vaddr_Size).Rows)), (.int .i64 ((⟨d1.Rows, d1.Cols⟩ : Vaddr_Size).Cols))]))) rfl rm3 rfl rfl ?_)
   refine o1 rfl (o_ld (b := i2.2.1) (off := 0) (v := (.int .i64 p1)) rfl rm4 rfl rfl ?_)
   refine o1 rfl (o_ld (b := i2.2.2) (off := 0) (v := (.int .i64 p2)) rfl rm5 rfl rfl ?_)
   replace h := bsome h
   obtain ⟨d6, h6, h⟩ := h
   refine o1 rfl (o_call has197 rfl (c_addr_Size_Length hg X (⟨(⟨d1.Rows, d1.Cols⟩ : Vaddr_Size).Rows, (⟨d1.Rows, d1.Cols⟩ : Vaddr_Size).Cols⟩ : Vaddr_Size) p1 p2 _ h6) (pc rm2 pn) ?_)
   refine o1 rfl (o_p rfl (o_end (e_seq ?_)))
   replace h := bsome h
   obtain ⟨d7, h, hk7⟩ := h
   refine cj (D := Unit) (ι := Unit) (fun _ i7 => True) (fun _ i7 => []) (fun _ i7 => X :: blk b0 (.cells (List.toArray [(.int .i64 d7.1), (.bool d7.2.1), (.int .i64 d7.2.2.1), (.int .i64 d7.2.2.2.1), (SV.val s0), (.int .i64 d7.2.2.2.2.2.1), (.int .i64 d7.2.2.2.2.2.2)]) 116 (0, 0)) :: blk i2.1 (.cells (List.toArray [(.int .i64 ((⟨d1.Rows, d1.Cols⟩ : Vaddr_Size).Rows)), (.int .i64 ((⟨d1.Rows, d1.Cols⟩ : Vaddr_Size).Cols))]) 102 (0, 0)) :: blk i2.2.1 (.cells (List.toArray [(.int .i64 p1)]) 3 (0, 0)) :: blk i2.2.2 (.cells (List.toArray [(.int .i64 p2)]) 3 (0, 0)) :: blk b380 (.cells (List.toArray [(.pointer (some ⟨b0, 0, none⟩))]) 24 (0, 0)) :: slO s0 80 en_Vapi_Cell d7.2.2.2.2.1 :: blk l5 (.loop (rc5 .ready none)) :: blk D5 (.deferred (some [])) :: R) ?_ ?_
   ·refine c_block ?_
    refine c_loop (l_sub (sc rfl (sc rfl (sc rfl (sc rfl (sc rfl sn))))) (l_keep (kc rm0 (kc rm2 (kc rm2 (kc rm3 (kc rm2 (kc rm3 (kc rm2 (kc rm0 (kc rm0 kr))))))))) (lf (X := Int × Int × Bool × Int × Int × (List Vapi_Cell) × Int × Int) (ι := Unit) (fun k x => erase_Range_l8 p1 d1 d6 k x) _ (fun x8 i8 => True) (fun x8 i8 => [(10, (.int .i64 x8.1)), (9, (.int .i64 d6)), (0, (.func (.yield l5) #[] #[])), (1, (.pointer (some ⟨i2.1, 0, none⟩))), (2, (.pointer (some ⟨i2.2.1, 0, none⟩)))]) (fun x8 i8 => X :: blk i2.1 (.cells (List.toArray [(.int .i64 ((⟨d1.Rows, d1.Cols⟩ : Vaddr_Size).Rows)), (.int .i64 ((⟨d1.Rows, d1.Cols⟩ : Vaddr_Size).Cols))]) 102 (0, 0)) :: blk i2.2.1 (.cells (List.toArray [(.int .i64 p1)]) 3 (0, 0)) :: blk b0 (.cells (List.toArray [(.int .i64 x8.2.1), (.bool x8.2.2.1), (.int .i64 x8.2.2.2.1), (.int .i64 x8.2.2.2.2.1), (SV.val s0), (.int .i64 x8.2.2.2.2.2.2.1), (.int .i64 x8.2.2.2.2.2.2.2)]) 116 (0, 0)) :: blk i2.2.2 (.cells (List.toArray [(.int .i64 p2)]) 3 (0, 0)) :: blk b380 (.cells (List.toArray [(.pointer (some ⟨b0, 0, none⟩))]) 24 (0, 0)) :: slO s0 80 en_Vapi_Cell x8.2.2.2.2.2.1 :: blk l5 (.loop (rc5 .ready none)) :: blk D5 (.deferred (some [])) :: R) (fun _ => rfl) ?_ fuel (0, p0.model, p0.alternate, p0.size.Rows, p0.size.Cols, p0.cells, p0.cursor, p0.attrs) () trivial h)))
    clear h
    rintro k8 ih8 x8 i8 _ h
    rw [erase_Range_l8.eq_2] at h
    refine l_round (c_seq (c_region ?_))
    refine o1 rfl (o_p (v := (.bool (decide (x8.1 < d6)))) rfl ?_)
    refine o_end (e_seq (c_seq ?_))
    refine c_cond (b := (decide (x8.1 < d6))) rfl (fun hb422 => ?_) (fun hb422 => ?_)
    ·replace h := cond_t hb422 h
     refine c_skip (e_seq (c_seq (c_block (c_seq (c_region ?_)))))
     refine o1 rfl (o_p rfl (o1 rfl (o_p rfl (o_end (e_seq (c_seq ?_))))))
     refine c_draw (n := 3) (q := [(0, 13, (.func (.yield l5) #[] #[])), (1, 14, (.agg (List.toArray [(.int .i64 ((⟨d1.Rows, d1.Cols⟩ : Vaddr_Size).Rows)), (.int .i64 ((⟨d1.Rows, d1.Cols⟩ : Vaddr_Size).Cols))]))), (2, 15, (.agg (List.toArray [(.int .i64 ((⟨d1.Rows, d1.Cols⟩ : Vaddr_Size).Rows)), (.int .i64 ((⟨d1.Rows, d1.Cols⟩ : Vaddr_Size).Cols))]))), (3, 16, (.int .i64 p1)), (5, 18, (.int .i64 x8.1))]) (pend := [0, 1, 2, 3, 5]) rfl rfl rfl ?_
     replace h := bsome h
     obtain ⟨d12, h12, h⟩ := h
     refine ⟨⟨fun _ => ⟨rfl, rfl, rfl, .inl ⟨rfl, (o_p rfl ⟨rfl, rfl⟩)⟩⟩, fun _ => ⟨rfl, rfl, rfl, .inl ⟨rfl, (o_ld (b := i2.1) (off := 0) (v := (.agg (List.toArray [(.int .i64 ((⟨d1.Rows, d1.Cols⟩ : Vaddr_Size).Rows)), (.int .i64 ((⟨d1.Rows, d1.Cols⟩ : Vaddr_Size).Cols))]))) rfl rm1 rfl rfl ⟨rfl, rfl⟩)⟩⟩, fun _ => ⟨rfl, rfl, rfl, .inl ⟨rfl, (o_ld (b := i2.1) (off := 0) (v := (.agg (List.toArray [(.int .i64 ((⟨d1.Rows, d1.Cols⟩ : Vaddr_Size).Rows)), (.int .i64 ((⟨d1.Rows, d1.Cols⟩ : Vaddr_Size).Cols))]))) rfl rm1 rfl rfl ⟨rfl, rfl⟩)⟩⟩, fun _ => ⟨rfl, rfl, rfl, .inl ⟨rfl, (o_ld (b := i2.2.1) (off := 0) (v := (.int .i64 p1)) rfl rm2 rfl rfl ⟨rfl, rfl⟩)⟩⟩, fun _ => ⟨rfl, rfl, rfl, .inl ⟨rfl, (o_p rfl ⟨rfl, rfl⟩)⟩⟩, trivial⟩, rfl, .inr ⟨[4], rfl, rfl, ⟨rfl, .inl rfl, ?_⟩, trivial⟩⟩
     refine (o_call has61 rfl (c_addr_Size_Wrap hg X (⟨(⟨d1.Rows, d1.Cols⟩ : Vaddr_Size).Rows, (⟨d1.Rows, d1.Cols⟩ : Vaddr_Size).Cols⟩ : Vaddr_Size) p1 _ h12) (pc rm0 pn) ?_)
     refine ⟨[(6, 19, (.int .i64 (w64 (d12 + x8.1))))], [0, 1, 5, 6], rfl, rfl, rfl, rfl, ?_⟩
     replace h := bsome h
     obtain ⟨d13, h13, h⟩ := h
     refine ⟨⟨fun _ => ⟨rfl, rfl, rfl, .inl ⟨rfl, (o_p (v := (.int .i64 (w64 (d12 + x8.1)))) rfl ⟨rfl, rfl⟩)⟩⟩, fun _ => ⟨rfl, rfl, rfl, .inl ⟨rfl, (o_p rfl ⟨rfl, rfl⟩)⟩⟩, fun _ => ⟨rfl, rfl, rfl, .inl ⟨rfl, (o_ld (b := i2.1) (off := 0) (v := (.agg (List.toArray [(.int .i64 ((⟨d1.Rows, d1.Cols⟩ : Vaddr_Size).Rows)), (.int .i64 ((⟨d1.Rows, d1.Cols⟩ : Vaddr_Size).Cols))]))) rfl rm1 rfl rfl ⟨rfl, rfl⟩)⟩⟩, (fun h => nomatch h), (fun h => nomatch h), fun _ => ⟨rfl, rfl, rfl, .inl ⟨rfl, (o_p rfl ⟨rfl, rfl⟩)⟩⟩, trivial⟩, rfl, .inr ⟨[7], rfl, rfl, ⟨rfl, .inl rfl, ?_⟩, trivial⟩⟩
     refine (o_call has61 rfl (c_addr_Size_Wrap hg X (⟨(⟨d1.Rows, d1.Cols⟩ : Vaddr_Size).Rows, (⟨d1.Rows, d1.Cols⟩ : Vaddr_Size).Cols⟩ : Vaddr_Size) (w64 (d12 + x8.1)) _ h13) (pc rm0 pn) ?_)
     refine ⟨[], [0], rfl, rfl, rfl, rfl, ?_⟩
     refine ⟨⟨(fun h => nomatch h), fun _ => ⟨rfl, rfl, rfl, .inl ⟨rfl, (o_p rfl ⟨rfl, rfl⟩)⟩⟩, (fun h => nomatch h), (fun h => nomatch h), (fun h => nomatch h), (fun h => nomatch h), trivial⟩, rfl, .inr ⟨[8], rfl, rfl, ⟨rfl, .inl rfl, ?_⟩, trivial⟩⟩
     refine (o_yield' hrc5 ht5 rfl rfl rfl rfl rm7 ?_)
     refine c_region (o1 rfl (o_p rfl (o_end ?_)))
     refine e_begin' hrc5 rm0 ?_
     refine c_block (c_seq (c_region ?_))
     refine o1 rfl (o_ld (b := b380) (off := 0) (v := (.pointer (some ⟨b0, 0, none⟩))) rfl rm6 rfl rfl ?_)
     refine o1 rfl (o_p rfl ?_)
     replace h := bsome h
     obtain ⟨d15, h15, h⟩ := h
     refine o1 rfl (o_call has183 rfl (c_field_Open hg X (⟨x8.2.1, x8.2.2.1, (⟨x8.2.2.2.1, x8.2.2.2.2.1⟩ : Vaddr_Size), x8.2.2.2.2.2.1, x8.2.2.2.2.2.2.1, x8.2.2.2.2.2.2.2⟩ : Vspace_Space) b0 s0 d13 _ h15) (pc rm1 (pc rm3 (pc rm5 pn))) ?_)
     refine o_end (e_seq ?_)
     replace h := bsome h
     obtain ⟨d16, h, hk16⟩ := h
     refine cj (D := Unit) (ι := Unit) (fun _ i16 => True) (fun _ i16 => []) (fun _ i16 => X :: blk b0 (.cells (List.toArray [(.int .i64 d16.1), (.bool d16.2.1), (.int .i64 d16.2.2.1), (.int .i64 d16.2.2.2.1), (SV.val s0), (.int .i64 d16.2.2.2.2.2.1), (.int .i64 d16.2.2.2.2.2.2)]) 116 (0, 0)) :: blk i2.1 (.cells (List.toArray [(.int .i64 ((⟨d1.Rows, d1.Cols⟩ : Vaddr_Size).Rows)), (.int .i64 ((⟨d1.Rows, d1.Cols⟩ : Vaddr_Size).Cols))]) 102 (0, 0)) :: blk i2.2.1 (.cells (List.toArray [(.int .i64 p1)]) 3 (0, 0)) :: blk i2.2.2 (.cells (List.toArray [(.int .i64 p2)]) 3 (0, 0)) :: blk b380 (.cells (List.toArray [(.pointer (some ⟨b0, 0, none⟩))]) 24 (0, 0)) :: slO s0 80 en_Vapi_Cell d16.2.2.2.2.1 :: blk l5 (.loop (rc5 .busy none)) :: blk D5 (.deferred (some [])) :: R) ?_ ?_
     ·refine c_cond (b := d15) rfl (fun hb423 => ?_) (fun hb423 => ?_)
      ·replace h := cond_t hb423 h
       refine c_region ?_
       refine o1 rfl (o_ld (b := b380) (off := 0) (v := (.pointer (some ⟨b0, 0, none⟩))) rfl rm7 rfl rfl ?_)
       refine o1 rfl (o_p rfl ?_)
       replace h := bsome h
       obtain ⟨d17, h17, h⟩ := h
       refine o1 rfl (o_call has40 rfl (c_space_Space_Put hg X (⟨x8.2.1, x8.2.2.1, (⟨x8.2.2.2.1, x8.2.2.2.2.1⟩ : Vaddr_Size), x8.2.2.2.2.2.1, x8.2.2.2.2.2.2.1, x8.2.2.2.2.2.2.2⟩ : Vspace_Space) b0 s0 d13 0 _ h17) (pc rm0 (pc rm0 (pc rm0 pn))) ?_)
       refine o_end ?_
       obtain rfl := Option.some.inj h
       exact ej () () trivial sn (kc rm0 (kc rm0 (kc rm2 (kc rm2 (kc rm2 (kc rm2 (kc rm0 (kc rm0 (kc rm0 kr)))))))))
      ·replace h := cond_f hb423 h
       refine c_skip ?_
       obtain rfl := Option.some.inj h
       exact ej () () trivial sn (kc rm0 (kc rm0 (kc rm2 (kc rm2 (kc rm2 (kc rm2 (kc rm0 (kc rm0 (kc rm0 kr)))))))))
     ·rintro _ i16 _
      replace h := hk16
      clear hk16
      refine e_blk ?_
      refine e_on' hrc5 rm7 ?_
      refine ⟨[(9, 22, (.bool false))], [9], rfl, rfl, rfl, rfl, ?_⟩
      refine ⟨⟨fun _ => ⟨rfl, rfl, rfl, .inl ⟨rfl, (o_p (v := (.bool false)) rfl ⟨rfl, rfl⟩)⟩⟩, (fun h => nomatch h), (fun h => nomatch h), (fun h => nomatch h), (fun h => nomatch h), (fun h => nomatch h), (fun h => nomatch h), trivial⟩, rfl, rfl, rfl, ?_⟩
      refine e_seq ?_
      refine c_cond_f rfl rfl ?_
      refine c_skip (e_blk (e_seq (c_region ?_)))
      refine o1 rfl (o_p (v := (.int .i64 (w64 (x8.1 + 1)))) rfl ?_)
      refine o1 rfl (o_p rfl (o_end ?_))
      exact e_loop (l_sub (sc rfl (sc rfl (sc rfl (sc rfl (sc rfl sn))))) (l_keep (kc rm1 (kc rm2 (kc rm2 (kc rm1 (kc rm1 (kc rm1 (kc rm1 (kc rm0 (kc rm0 kr))))))))) (ih8 (w64 (x8.1 + 1), d16.1, d16.2.1, d16.2.2.1, d16.2.2.2.1, d16.2.2.2.2.1, d16.2.2.2.2.2.1, d16.2.2.2.2.2.2) () trivial h)))
    ·replace h := cond_f hb422 h
     refine c_exit (e_then_exit (e_then_exit (e_blk_exit ?_)))
     obtain rfl := Option.some.inj h
     exact ej () () trivial sn (kc rm0 (kc rm2 (kc rm0 (kc rm0 (kc rm0 (kc rm0 (kc rm0 (kc rm0 (kc rm0 kr)))))))))
   ·rintro _ i7 _
    replace h := hk7
    clear hk7
    refine e_fall ?_
    refine r_end (rs := []) (vs := []) rfl rfl ?_
    refine ke' hrc5 rm7 (by simp) ?_
    obtain rfl := Option.some.inj h
    exact ejd () D5 trivial rfl sn (kc rm0 (kc rm0 (kc rm4 (kc rm4 (kd (kd (kd (kd kr))))))))
  ·rintro _ i4 _
   replace h := hk4
   clear hk4
   refine e_blk ?_
   obtain rfl := Option.some.inj h
   exact ejd () i4 trivial rfl sn (kc rm0 (kc rm0 (kc rm0 (kc rm0 kr))))
 ·rintro _ i3 _
  replace h := hk3
  clear hk3
  refine e_fall ?_
  refine r_mark rm3 ?_
  refine r_endt rfl rfl (kc rm0 (kc rm0 (kc rm0 kr))) ?_
  obtain rfl := Option.some.inj h
  exact hk

theorem c_erase_Repeat {g : Gw} (hg : GK g) (X : HP) (p0 : Vspace_Space) (b0 : Nat) (s0 : SV) (p1 : Int) (p2 : Int) (p3 : Vapi_Cell) (r : Vspace_Space × Int) (h : m_erase_Repeat p0 p1 p2 p3 = some r) : Tri env g 158 (List.toArray [(.pointer (some ⟨b0, 0, none⟩)), (.int .i64 p1), (.int .i64 p2), (.agg (List.toArray [(.int .u8 p3.Char), (.bool p3.Attr), (.int .u8 p3.FA), (.int .u8 p3.High), (.int .u8 p3.Color), (.int .u8 p3.f_Set)]))]) [X, blk b0 (.cells (List.toArray [(.int .i64 p0.model), (.bool p0.alternate), (.int .i64 p0.size.Rows), (.int .i64 p0.size.Cols), (SV.val s0), (.int .i64 p0.cursor), (.int .i64 p0.attrs)]) 116 (0, 0)), slO s0 80 en_Vapi_Cell p0.cells] (fun K R => K (.int .i64 r.2) (X :: blk b0 (.cells (List.toArray [(.int .i64 r.1.model), (.bool r.1.alternate), (.int .i64 r.1.size.Rows), (.int .i64 r.1.size.Cols), (SV.val s0), (.int .i64 r.1.cursor), (.int .i64 r.1.attrs)]) 116 (0, 0)) :: slO s0 80 en_Vapi_Cell r.1.cells :: R)) := by
 refine tri_of (fn := Tryz.f158) (N := 24) Tryz.func158 rfl rfl rfl ?_
 intro R K hk
 unfold m_erase_Repeat at h
 change GC _ none _ [] [(0, (.pointer (some ⟨b0, 0, none⟩))), (1, (.int .i64 p1)), (2, (.int .i64 p2)), (3, (.agg (List.toArray [(.int .u8 p3.Char), (.bool p3.Attr), (.int .u8 p3.FA), (.int .u8 p3.High), (.int .u8 p3.Color), (.int .u8 p3.f_Set)])))] (X :: blk b0 (.cells (List.toArray [(.int .i64 p0.model), (.bool p0.alternate), (.int .i64 p0.size.Rows), (.int .i64 p0.size.Cols), (SV.val s0), (.int .i64 p0.cursor), (.int .i64 p0.attrs)]) 116 (0, 0)) :: slO s0 80 en_Vapi_Cell p0.cells :: R) g _ _
 refine c_seq (c_region ?_)
 refine o1 rfl (o_box (cs := [(.pointer (some ⟨b0, 0, none⟩))]) rfl rfl (fun b432 => ?_))
 refine o1 rfl (o_box (cs := [(.int .u8 p3.Char), (.bool p3.Attr), (.int .u8 p3.FA), (.int .u8 p3.High), (.int .u8 p3.Color), (.int .u8 p3.f_Set)]) rfl rfl (fun b434 => ?_))
 refine o1 rfl (o_p rfl (o_end (e_seq (c_seq (c_region ?_)))))
 refine o1 rfl (o_alloc (cs := [(.int .i64 0)]) rfl rfl (fun b436 => ?_))
 refine o0 (o_st (b := b436) (off := 0) (vs := [(.int .i64 0)]) (cs' := [(.int .i64 0)]) rfl rfl rp0 rfl rfl rfl rfl rfl rfl ?_)
 refine o_end (e_seq (c_seq (c_seq (c_region ?_))))
 refine o1 rfl (o_ld (b := b432) (off := 0) (v := (.pointer (some ⟨b0, 0, none⟩))) rfl rm2 rfl rfl ?_)
 replace h := bsome h
 obtain ⟨d1, h1, h⟩ := h
 refine o1 rfl (o_call has51 rfl (c_space_Space_Size hg X p0 b0 s0 _ h1) (pc rm3 (pc rm3 (pc rm3 pn))) ?_)
 refine o1 rfl (o_p rfl (o1 rfl (o_p rfl ?_)))
 replace h := bsome h
 obtain ⟨d2, h2, h⟩ := h
 refine o1 rfl (o_call has182 rfl (c_addr_Size_Span hg X (⟨d1.Rows, d1.Cols⟩ : Vaddr_Size) p1 p2 _ h2) (pc rm0 pn) (fun i2 => ?_))
 refine o_end (e_seq ?_)
 replace h := bsome h
 obtain ⟨d3, h, hk3⟩ := h
 refine cjd (D := Unit) (ι := Nat) (fun _ i3 => [mk i3]) (fun _ i3 => True) (fun _ i3 => [(9, (.pointer (some ⟨b436, 0, none⟩)))]) (fun _ i3 => X :: blk b436 (.cells (List.toArray [(.int .i64 d3.1)]) 3 (0, 0)) :: blk b0 (.cells (List.toArray [(.int .i64 d3.2.1), (.bool d3.2.2.1), (.int .i64 d3.2.2.2.1), (.int .i64 d3.2.2.2.2.1), (SV.val s0), (.int .i64 d3.2.2.2.2.2.2.1), (.int .i64 d3.2.2.2.2.2.2.2)]) 116 (0, 0)) :: slO s0 80 en_Vapi_Cell d3.2.2.2.2.2.1 :: blk i3 (.deferred (some [])) :: R) ?_ ?_
 ·refine c_block ?_
  replace h := bsome h
  obtain ⟨d4, h, hk4⟩ := h
  refine cjd (D := Unit) (ι := Nat) (fun _ i4 => [mk i4]) (fun _ i4 => True) (fun _ i4 => [(9, (.pointer (some ⟨b436, 0, none⟩)))]) (fun _ i4 => X :: blk b436 (.cells (List.toArray [(.int .i64 d4.1)]) 3 (0, 0)) :: blk b0 (.cells (List.toArray [(.int .i64 d4.2.1), (.bool d4.2.2.1), (.int .i64 d4.2.2.2.1), (.int .i64 d4.2.2.2.2.1), (SV.val s0), (.int .i64 d4.2.2.2.2.2.2.1), (.int .i64 d4.2.2.2.2.2.2.2)]) 116 (0, 0)) :: slO s0 80 en_Vapi_Cell d4.2.2.2.2.2.1 :: blk i4 (.deferred (some [])) :: R) ?_ ?_
  ·refine c_range' (fn := Tryz.f196) (M := 24) rfl has196 Tryz.func196 rfl rfl rfl (fun l5 D5 a5 fc5 rc5 hrc5 ht5 => ?_)
   change GC _ none _ [] [(0, (.func (.yield l5) #[] #[])), (1, (.pointer (some ⟨i2.1, 0, none⟩))), (2, (.pointer (some ⟨i2.2.1, 0, none⟩))), (3, (.pointer (some ⟨i2.2.2, 0, none⟩)))] (blk l5 (.loop (rc5 .ready none)) :: blk D5 (.deferred (some [])) :: X :: blk i2.1 (.cells (List.toArray [(.int .i64 ((⟨d1.Rows, d1.Cols⟩ : Vaddr_Size).Rows)), (.int .i64 ((⟨d1.Rows, d1.Cols⟩ : Vaddr_Size).Cols))]) 102 (0, 0)) :: blk i2.2.1 (.cells (List.toArray [(.int .i64 p1)]) 3 (0, 0)) :: blk i2.2.2 (.cells (List.toArray [(.int .i64 p2)]) 3 (0, 0)) :: blk b0 (.cells (List.toArray [(.int .i64 p0.model), (.bool p0.alternate), (.int .i64 p0.size.Rows), (.int .i64 p0.size.Cols), (SV.val s0), (.int .i64 p0.cursor), (.int .i64 p0.attrs)]) 116 (0, 0)) :: slO s0 80 en_Vapi_Cell p0.cells :: blk b436 (.cells (List.toArray [(.int .i64 0)]) 3 (0, 0)) :: blk b434 (.cells (List.toArray [(.int .u8 p3.Char), (.bool p3.Attr), (.int .u8 p3.FA), (.int .u8 p3.High), (.int .u8 p3.Color), (.int .u8 p3.f_Set)]) 80 (0, 0)) :: blk b432 (.cells (List.toArray [(.pointer (some ⟨b0, 0, none⟩))]) 24 (0, 0)) :: R) g _ _
   refine c_seq (c_region ?_)
   refine o1 rfl (o_ld (b := i2.1) (off := 0) (v := (.agg (List.toArray [(.int .i64 ((⟨d1.Rows, d1.Cols⟩ : Vaddr_Size).Rows)), (.int .i64 ((⟨d1.Rows, d1.Cols⟩ : Vaddr_Size).Cols))]))) rfl rm3 rfl rfl ?_)
   refine o1 rfl (o_ld (b := i2.2.1) (off := 0) (v := (.int .i64 p1)) rfl rm4 rfl rfl ?_)
   refine o1 rfl (o_ld (b := i2.2.2) (off := 0) (v := (.int .i64 p2)) rfl rm5 rfl rfl ?_)
   replace h := bsome h
   obtain ⟨d6, h6, h⟩ := h
   refine o1 rfl (o_call has197 rfl (c_addr_Size_Length hg X (⟨(⟨d1.Rows, d1.Cols⟩ : Vaddr_Size).Rows, (⟨d1.Rows, d1.Cols⟩ : Vaddr_Size).Cols⟩ : Vaddr_Size) p1 p2 _ h6) (pc rm2 pn) ?_)
   refine o1 rfl (o_p rfl (o_end (e_seq ?_)))
   replace h := bsome h
   obtain ⟨d7, h, hk7⟩ := h
   refine cj (D := Unit) (ι := Unit) (fun _ i7 => True) (fun _ i7 => []) (fun _ i7 => X :: blk b0 (.cells (List.toArray [(.int .i64 d7.1), (.bool d7.2.1), (.int .i64 d7.2.2.1), (.int .i64 d7.2.2.2.1), (SV.val s0), (.int .i64 d7.2.2.2.2.2.1), (.int .i64 d7.2.2.2.2.2.2.1)]) 116 (0, 0)) :: blk i2.1 (.cells (List.toArray [(.int .i64 ((⟨d1.Rows, d1.Cols⟩ : Vaddr_Size).Rows)), (.int .i64 ((⟨d1.Rows, d1.Cols⟩ : Vaddr_Size).Cols))]) 102 (0, 0)) :: blk i2.2.1 (.cells (List.toArray [(.int .i64 p1)]) 3 (0, 0)) :: blk i2.2.2 (.cells (List.toArray [(.int .i64 p2)]) 3 (0, 0)) :: blk b436 (.cells (List.toArray [(.int .i64 d7.2.2.2.2.2.2.2)]) 3 (0, 0)) :: blk b434 (.cells (List.toArray [(.int .u8 p3.Char), (.bool p3.Attr), (.int .u8 p3.FA), (.int .u8 p3.High), (.int .u8 p3.Color), (.int .u8 p3.f_Set)]) 80 (0, 0)) :: blk b432 (.cells (List.toArray [(.pointer (some ⟨b0, 0, none⟩))]) 24 (0, 0)) :: slO s0 80 en_Vapi_Cell d7.2.2.2.2.1 :: blk l5 (.loop (rc5 .ready none)) :: blk D5 (.deferred (some [])) :: R) ?_ ?_
   ·refine c_block ?_
    refine c_loop (l_sub (sc rfl (sc rfl (sc rfl (sc rfl (sc rfl sn))))) (l_keep (kc rm0 (kc rm2 (kc rm2 (kc rm3 (kc rm2 (kc rm3 (kc rm3 (kc rm3 (kc rm2 (kc rm0 (kc rm0 kr))))))))))) (lf (X := Int × Int × Bool × Int × Int × (List Vapi_Cell) × Int × Int × Int) (ι := Unit) (fun k x => erase_Repeat_l8 p1 p3 d1 d6 k x) _ (fun x8 i8 => True) (fun x8 i8 => [(10, (.int .i64 x8.1)), (9, (.int .i64 d6)), (0, (.func (.yield l5) #[] #[])), (1, (.pointer (some ⟨i2.1, 0, none⟩))), (2, (.pointer (some ⟨i2.2.1, 0, none⟩)))]) (fun x8 i8 => X :: blk i2.1 (.cells (List.toArray [(.int .i64 ((⟨d1.Rows, d1.Cols⟩ : Vaddr_Size).Rows)), (.int .i64 ((⟨d1.Rows, d1.Cols⟩ : Vaddr_Size).Cols))]) 102 (0, 0)) :: blk i2.2.1 (.cells (List.toArray [(.int .i64 p1)]) 3 (0, 0)) :: blk b0 (.cells (List.toArray [(.int .i64 x8.2.1), (.bool x8.2.2.1), (.int .i64 x8.2.2.2.1), (.int .i64 x8.2.2.2.2.1), (SV.val s0), (.int .i64 x8.2.2.2.2.2.2.1), (.int .i64 x8.2.2.2.2.2.2.2.1)]) 116 (0, 0)) :: blk i2.2.2 (.cells (List.toArray [(.int .i64 p2)]) 3 (0, 0)) :: blk b436 (.cells (List.toArray [(.int .i64 x8.2.2.2.2.2.2.2.2)]) 3 (0, 0)) :: blk b434 (.cells (List.toArray [(.int .u8 p3.Char), (.bool p3.Attr), (.int .u8 p3.FA), (.int .u8 p3.High), (.int .u8 p3.Color), (.int .u8 p3.f_Set)]) 80 (0, 0)) :: blk b432 (.cells (List.toArray [(.pointer (some ⟨b0, 0, none⟩))]) 24 (0, 0)) :: slO s0 80 en_Vapi_Cell x8.2.2.2.2.2.1 :: blk l5 (.loop (rc5 .ready none)) :: blk D5 (.deferred (some [])) :: R) (fun _ => rfl) ?_ fuel (0, p0.model, p0.alternate, p0.size.Rows, p0.size.Cols, p0.cells, p0.cursor, p0.attrs, 0) () trivial h)))
    clear h
    rintro k8 ih8 x8 i8 _ h
    rw [erase_Repeat_l8.eq_2] at h
    refine l_round (c_seq (c_region ?_))
    refine o1 rfl (o_p (v := (.bool (decide (x8.1 < d6)))) rfl ?_)
    refine o_end (e_seq (c_seq ?_))
    refine c_cond (b := (decide (x8.1 < d6))) rfl (fun hb447 => ?_) (fun hb447 => ?_)
    ·replace h := cond_t hb447 h
     refine c_skip (e_seq (c_seq (c_block (c_seq (c_region ?_)))))
     refine o1 rfl (o_p rfl (o1 rfl (o_p rfl (o_end (e_seq (c_seq ?_))))))
     refine c_draw (n := 3) (q := [(0, 13, (.func (.yield l5) #[] #[])), (1, 14, (.agg (List.toArray [(.int .i64 ((⟨d1.Rows, d1.Cols⟩ : Vaddr_Size).Rows)), (.int .i64 ((⟨d1.Rows, d1.Cols⟩ : Vaddr_Size).Cols))]))), (2, 15, (.agg (List.toArray [(.int .i64 ((⟨d1.Rows, d1.Cols⟩ : Vaddr_Size).Rows)), (.int .i64 ((⟨d1.Rows, d1.Cols⟩ : Vaddr_Size).Cols))]))), (3, 16, (.int .i64 p1)), (5, 18, (.int .i64 x8.1))]) (pend := [0, 1, 2, 3, 5]) rfl rfl rfl ?_
     replace h := bsome h
     obtain ⟨d12, h12, h⟩ := h
     refine ⟨⟨fun _ => ⟨rfl, rfl, rfl, .inl ⟨rfl, (o_p rfl ⟨rfl, rfl⟩)⟩⟩, fun _ => ⟨rfl, rfl, rfl, .inl ⟨rfl, (o_ld (b := i2.1) (off := 0) (v := (.agg (List.toArray [(.int .i64 ((⟨d1.Rows, d1.Cols⟩ : Vaddr_Size).Rows)), (.int .i64 ((⟨d1.Rows, d1.Cols⟩ : Vaddr_Size).Cols))]))) rfl rm1 rfl rfl ⟨rfl, rfl⟩)⟩⟩, fun _ => ⟨rfl, rfl, rfl, .inl ⟨rfl, (o_ld (b := i2.1) (off := 0) (v := (.agg (List.toArray [(.int .i64 ((⟨d1.Rows, d1.Cols⟩ : Vaddr_Size).Rows)), (.int .i64 ((⟨d1.Rows, d1.Cols⟩ : Vaddr_Size).Cols))]))) rfl rm1 rfl rfl ⟨rfl, rfl⟩)⟩⟩, fun _ => ⟨rfl, rfl, rfl, .inl ⟨rfl, (o_ld (b := i2.2.1) (off := 0) (v := (.int .i64 p1)) rfl rm2 rfl rfl ⟨rfl, rfl⟩)⟩⟩, fun _ => ⟨rfl, rfl, rfl, .inl ⟨rfl, (o_p rfl ⟨rfl, rfl⟩)⟩⟩, trivial⟩, rfl, .inr ⟨[4], rfl, rfl, ⟨rfl, .inl rfl, ?_⟩, trivial⟩⟩
     refine (o_call has61 rfl (c_addr_Size_Wrap hg X (⟨(⟨d1.Rows, d1.Cols⟩ : Vaddr_Size).Rows, (⟨d1.Rows, d1.Cols⟩ : Vaddr_Size).Cols⟩ : Vaddr_Size) p1 _ h12) (pc rm0 pn) ?_)
     refine ⟨[(6, 19, (.int .i64 (w64 (d12 + x8.1))))], [0, 1, 5, 6], rfl, rfl, rfl, rfl, ?_⟩
     replace h := bsome h
     obtain ⟨d13, h13, h⟩ := h
     refine ⟨⟨fun _ => ⟨rfl, rfl, rfl, .inl ⟨rfl, (o_p (v := (.int .i64 (w64 (d12 + x8.1)))) rfl ⟨rfl, rfl⟩)⟩⟩, fun _ => ⟨rfl, rfl, rfl, .inl ⟨rfl, (o_p rfl ⟨rfl, rfl⟩)⟩⟩, fun _ => ⟨rfl, rfl, rfl, .inl ⟨rfl, (o_ld (b := i2.1) (off := 0) (v := (.agg (List.toArray [(.int .i64 ((⟨d1.Rows, d1.Cols⟩ : Vaddr_Size).Rows)), (.int .i64 ((⟨d1.Rows, d1.Cols⟩ : Vaddr_Size).Cols))]))) rfl rm1 rfl rfl ⟨rfl, rfl⟩)⟩⟩, (fun h => nomatch h), (fun h => nomatch h), fun _ => ⟨rfl, rfl, rfl, .inl ⟨rfl, (o_p rfl ⟨rfl, rfl⟩)⟩⟩, trivial⟩, rfl, .inr ⟨[7], rfl, rfl, ⟨rfl, .inl rfl, ?_⟩, trivial⟩⟩
     refine (o_call has61 rfl (c_addr_Size_Wrap hg X (⟨(⟨d1.Rows, d1.Cols⟩ : Vaddr_Size).Rows, (⟨d1.Rows, d1.Cols⟩ : Vaddr_Size).Cols⟩ : Vaddr_Size) (w64 (d12 + x8.1)) _ h13) (pc rm0 pn) ?_)
     refine ⟨[], [0], rfl, rfl, rfl, rfl, ?_⟩
     refine ⟨⟨(fun h => nomatch h), fun _ => ⟨rfl, rfl, rfl, .inl ⟨rfl, (o_p rfl ⟨rfl, rfl⟩)⟩⟩, (fun h => nomatch h), (fun h => nomatch h), (fun h => nomatch h), (fun h => nomatch h), trivial⟩, rfl, .inr ⟨[8], rfl, rfl, ⟨rfl, .inl rfl, ?_⟩, trivial⟩⟩
     refine (o_yield' hrc5 ht5 rfl rfl rfl rfl rm9 ?_)
     refine c_region (o1 rfl (o_p rfl (o_end ?_)))
     refine e_begin' hrc5 rm0 ?_
     refine c_block (c_seq (c_region ?_))
     refine o1 rfl (o_ld (b := b432) (off := 0) (v := (.pointer (some ⟨b0, 0, none⟩))) rfl rm8 rfl rfl ?_)
     refine o1 rfl (o_p rfl ?_)
     refine o1 rfl (o_ld (b := b434) (off := 0) (v := (.agg (List.toArray [(.int .u8 p3.Char), (.bool p3.Attr), (.int .u8 p3.FA), (.int .u8 p3.High), (.int .u8 p3.Color), (.int .u8 p3.f_Set)]))) rfl rm7 rfl rfl ?_)
     replace h := bsome h
     obtain ⟨d15, h15, h⟩ := h
     refine o1 rfl (o_call has48 rfl (c_space_Space_Set hg X (⟨x8.2.1, x8.2.2.1, (⟨x8.2.2.2.1, x8.2.2.2.2.1⟩ : Vaddr_Size), x8.2.2.2.2.2.1, x8.2.2.2.2.2.2.1, x8.2.2.2.2.2.2.2.1⟩ : Vspace_Space) b0 s0 d13 p3 _ h15) (pc rm1 (pc rm3 (pc rm7 pn))) ?_)
     refine o_end (e_seq (c_region ?_))
     refine o1 rfl (o_ld (b := b436) (off := 0) (v := (.int .i64 x8.2.2.2.2.2.2.2.2)) rfl rm7 rfl rfl ?_)
     refine o1 rfl (o_p (v := (.int .i64 (w64 (x8.2.2.2.2.2.2.2.2 + 1)))) rfl ?_)
     refine o0 (o_st (b := b436) (off := 0) (vs := [(.int .i64 (w64 (x8.2.2.2.2.2.2.2.2 + 1)))]) (cs' := [(.int .i64 (w64 (x8.2.2.2.2.2.2.2.2 + 1)))]) rfl rfl rp7 rfl rfl rfl rfl rfl rfl ?_)
     refine o_end (e_blk ?_)
     refine e_on' hrc5 rm3 ?_
     refine ⟨[(9, 22, (.bool false))], [9], rfl, rfl, rfl, rfl, ?_⟩
     refine ⟨⟨fun _ => ⟨rfl, rfl, rfl, .inl ⟨rfl, (o_p (v := (.bool false)) rfl ⟨rfl, rfl⟩)⟩⟩, (fun h => nomatch h), (fun h => nomatch h), (fun h => nomatch h), (fun h => nomatch h), (fun h => nomatch h), (fun h => nomatch h), trivial⟩, rfl, rfl, rfl, ?_⟩
     refine e_seq ?_
     refine c_cond_f rfl rfl ?_
     refine c_skip (e_blk (e_seq (c_region ?_)))
     refine o1 rfl (o_p (v := (.int .i64 (w64 (x8.1 + 1)))) rfl ?_)
     refine o1 rfl (o_p rfl (o_end ?_))
     exact e_loop (l_sub (sc rfl (sc rfl (sc rfl (sc rfl (sc rfl sn))))) (l_keep (kc rm1 (kc rm3 (kc rm3 (kc rm1 (kc rm2 (kc rm2 (kc rm2 (kc rm2 (kc rm1 (kc rm0 (kc rm0 kr))))))))))) (ih8 (w64 (x8.1 + 1), d15.model, d15.alternate, d15.size.Rows, d15.size.Cols, d15.cells, d15.cursor, d15.attrs, w64 (x8.2.2.2.2.2.2.2.2 + 1)) () trivial h)))
    ·replace h := cond_f hb447 h
     refine c_exit (e_then_exit (e_then_exit (e_blk_exit ?_)))
     obtain rfl := Option.some.inj h
     exact ej () () trivial sn (kc rm0 (kc rm2 (kc rm0 (kc rm0 (kc rm0 (kc rm0 (kc rm0 (kc rm0 (kc rm0 (kc rm0 (kc rm0 kr)))))))))))
   ·rintro _ i7 _
    replace h := hk7
    clear hk7
    refine e_fall ?_
    refine r_end (rs := []) (vs := []) rfl rfl ?_
    refine ke' hrc5 rm9 (by simp) ?_
    obtain rfl := Option.some.inj h
    exact ejd () D5 trivial rfl (sc rfl sn) (kc rm0 (kc rm4 (kc rm0 (kc rm5 (kc rm5 (kd (kd (kd (kd (kd kr))))))))))
  ·rintro _ i4 _
   replace h := hk4
   clear hk4
   refine e_blk ?_
   obtain rfl := Option.some.inj h
   exact ejd () i4 trivial rfl (sc rfl sn) (kc rm0 (kc rm0 (kc rm0 (kc rm0 (kc rm0 kr)))))
 ·rintro _ i3 _
  replace h := hk3
  clear hk3
  refine e_seq (c_seq (c_region ?_))
  refine o1 rfl (o_ld (b := b436) (off := 0) (v := (.int .i64 d3.1)) rfl rm1 rfl rfl ?_)
  refine o1 rfl (o_p rfl (o_end (e_seq (c_ret (e_ret ?_)))))
  refine r_mark rm4 ?_
  refine r_endt rfl rfl (kc rm0 (kc rm1 (kc rm1 (kd kr)))) ?_
  obtain rfl := Option.some.inj h
  exact hk

theorem c_write_pen_span {g : Gw} (hg : GK g) (X : HP) (p0 : Vwrite_pen) (b0 : Nat) (p1 : Vspace_Space) (b1 : Nat) (s0 : SV) (p2 : Vorder_Op) (s1 : SV) (q0 : Rd X s1 254 en_Vattr_Pair p2.Pairs) (s2 : SV) (q1 : Rd X s2 5 (enI .u8) p2.Text) (r : Vspace_Space × Vwrite_pen × Int) (h : m_write_pen_span p0 p1 p2 = some r) : Tri env g 115 (List.toArray [(.pointer (some ⟨b0, 0, none⟩)), (.agg (List.toArray [(.int .i64 p2.Kind), (.int .i64 p2.Addr), (.int .u8 p2.Code), (.bool p2.Graph), (.int .u8 p2.FA), (SV.val s1), (SV.val s2)]))]) [X, blk b0 (.cells (List.toArray [(.pointer (some ⟨b1, 0, none⟩)), (.int .i64 p0.n), (.int .u8 p0.look.Char), (.bool p0.look.Attr), (.int .u8 p0.look.FA), (.int .u8 p0.look.High), (.int .u8 p0.look.Color), (.int .u8 p0.look.f_Set), (.bool p0.texts)]) 123 (0, 0)), blk b1 (.cells (List.toArray [(.int .i64 p1.model), (.bool p1.alternate), (.int .i64 p1.size.Rows), (.int .i64 p1.size.Cols), (SV.val s0), (.int .i64 p1.cursor), (.int .i64 p1.attrs)]) 116 (0, 0)), slO s0 80 en_Vapi_Cell p1.cells] (fun K R => K (.int .i64 r.2.2) (X :: blk b1 (.cells (List.toArray [(.int .i64 r.1.model), (.bool r.1.alternate), (.int .i64 r.1.size.Rows), (.int .i64 r.1.size.Cols), (SV.val s0), (.int .i64 r.1.cursor), (.int .i64 r.1.attrs)]) 116 (0, 0)) :: slO s0 80 en_Vapi_Cell r.1.cells :: blk b0 (.cells (List.toArray [(.pointer (some ⟨b1, 0, none⟩)), (.int .i64 r.2.1.n), (.int .u8 r.2.1.look.Char), (.bool r.2.1.look.Attr), (.int .u8 r.2.1.look.FA), (.int .u8 r.2.1.look.High), (.int .u8 r.2.1.look.Color), (.int .u8 r.2.1.look.f_Set), (.bool r.2.1.texts)]) 123 (0, 0)) :: R)) := by
 refine tri_of (fn := Tryz.f115) (N := 43) Tryz.func115 rfl rfl rfl ?_
 intro R K hk
 unfold m_write_pen_span at h
 change GC _ none _ [] [(0, (.pointer (some ⟨b0, 0, none⟩))), (1, (.agg (List.toArray [(.int .i64 p2.Kind), (.int .i64 p2.Addr), (.int .u8 p2.Code), (.bool p2.Graph), (.int .u8 p2.FA), (SV.val s1), (SV.val s2)])))] (X :: blk b0 (.cells (List.toArray [(.pointer (some ⟨b1, 0, none⟩)), (.int .i64 p0.n), (.int .u8 p0.look.Char), (.bool p0.look.Attr), (.int .u8 p0.look.FA), (.int .u8 p0.look.High), (.int .u8 p0.look.Color), (.int .u8 p0.look.f_Set), (.bool p0.texts)]) 123 (0, 0)) :: blk b1 (.cells (List.toArray [(.int .i64 p1.model), (.bool p1.alternate), (.int .i64 p1.size.Rows), (.int .i64 p1.size.Cols), (SV.val s0), (.int .i64 p1.cursor), (.int .i64 p1.attrs)]) 116 (0, 0)) :: slO s0 80 en_Vapi_Cell p1.cells :: R) g _ _
 refine c_seq (c_region ?_)
 refine o1 rfl (o_box (cs := [(.int .i64 p2.Kind), (.int .i64 p2.Addr), (.int .u8 p2.Code), (.bool p2.Graph), (.int .u8 p2.FA), (SV.val s1), (SV.val s2)]) rfl rfl (fun b376 => ?_))
 refine o1 rfl (o_p rfl (o_end (e_seq (c_seq (c_region (o1 rfl (o_p rfl ?_)))))))
 refine o1 rfl (o_p rfl ?_)
 refine o1 rfl (o_fa (fd := ⟨ "n", 3, 1, false, "", "vitrine/write", 8⟩) rfl rfl rfl rfl rfl ?_)
 refine o1 rfl (o_ld (b := b0) (off := 1) (v := (.int .i64 p0.n)) rfl rm2 rfl rfl ?_)
 refine o1 rfl (o_p rfl (o_end (e_seq (c_seq (c_seq (c_region ?_))))))
 refine o1 rfl (o_p rfl ?_)
 refine o1 rfl (o_fa (fd := ⟨ "Addr", 3, 1, false, "", "", 8⟩) rfl rfl rfl rfl rfl ?_)
 refine o1 rfl (o_ld (b := b376) (off := 1) (v := (.int .i64 p2.Addr)) rfl rm0 rfl rfl ?_)
 replace h := bsome h
 obtain ⟨d1, h1, h⟩ := h
 refine o1 rfl (o_call has114 rfl (c_write_pen_to hg X p0 b0 p1 b1 s0 p2.Addr _ h1) (pc rm1 (pc rm1 (pc rm1 (pc rm1 pn)))) ?_)
 refine o1 rfl (o_p rfl (o_end (e_seq (c_seq (c_region (o1 rfl (o_p rfl ?_)))))))
 refine o1 rfl (o_p (v := (.bool (d1.2 != 0))) rfl ?_)
 refine o_end (e_seq ?_)
 refine c_cond (b := (d1.2 != 0)) rfl (fun hb378 => ?_) (fun hb378 => ?_)
 ·replace h := cond_t hb378 h
  refine c_seq (c_region (o1 rfl (o_p rfl (o1 rfl (o_p rfl (o_end (e_seq ?_)))))))
  refine c_ret (e_then_ret (e_ret ?_))
  refine r_endt rfl rfl (kc rm0 (kc rm0 (kc rm0 (kc rm0 (kd kr))))) ?_
  obtain rfl := Option.some.inj h
  exact hk
 ·replace h := cond_f hb378 h
  refine c_skip (e_seq (c_seq (c_seq (c_region ?_))))
  refine o1 rfl (o_fa (fd := ⟨ "Kind", 3, 0, false, "", "", 0⟩) rfl rfl rfl rfl rfl ?_)
  refine o1 rfl (o_ld (b := b376) (off := 0) (v := (.int .i64 p2.Kind)) rfl rm4 rfl rfl ?_)
  refine o1 rfl (o_p (v := (.bool (p2.Kind == 18))) rfl ?_)
  refine o_end (e_seq ?_)
  replace h := bsome h
  obtain ⟨d3, h, hk3⟩ := h
  refine cj (D := Unit) (ι := Unit) (fun _ i3 => True) (fun _ i3 => []) (fun _ i3 => X :: blk b1 (.cells (List.toArray [(.int .i64 d3.1), (.bool d3.2.1), (.int .i64 d3.2.2.1), (.int .i64 d3.2.2.2.1), (SV.val s0), (.int .i64 d3.2.2.2.2.2.1), (.int .i64 d3.2.2.2.2.2.2)]) 116 (0, 0)) :: blk b0 (.cells (List.toArray [(.pointer (some ⟨b1, 0, none⟩)), (.int .i64 d1.1.n), (.int .u8 d1.1.look.Char), (.bool d1.1.look.Attr), (.int .u8 d1.1.look.FA), (.int .u8 d1.1.look.High), (.int .u8 d1.1.look.Color), (.int .u8 d1.1.look.f_Set), (.bool d1.1.texts)]) 123 (0, 0)) :: slO s0 80 en_Vapi_Cell d3.2.2.2.2.1 :: R) ?_ ?_
  ·refine c_cond (b := (p2.Kind == 18)) rfl (fun hb379 => ?_) (fun hb379 => ?_)
   ·replace h := cond_t hb379 h
    refine c_draw (n := 1) (q := [(0, 21, (.pointer (some ⟨b0, 0, none⟩))), (1, 22, (.pointer (some ⟨b0, 0, none⟩))), (2, 23, (.pointer (some ⟨b0, 0, none⟩))), (3, 24, (.pointer (some ⟨b1, 0, none⟩))), (4, 25, (.int .i64 p0.n)), (5, 26, (.pointer (some ⟨b376, 1, none⟩))), (6, 27, (.int .i64 p2.Addr))]) (pend := [0, 1, 2, 3, 4, 5, 6]) rfl rfl rfl ?_
    replace h := bsome h
    obtain ⟨d4, h4, h⟩ := h
    refine ⟨⟨fun _ => ⟨rfl, rfl, rfl, .inl ⟨rfl, (o_p rfl ⟨rfl, rfl⟩)⟩⟩, fun _ => ⟨rfl, rfl, rfl, .inl ⟨rfl, (o_p rfl ⟨rfl, rfl⟩)⟩⟩, fun _ => ⟨rfl, rfl, rfl, .inl ⟨rfl, (o_fa (fd := ⟨ "s", 24, 0, false, "", "vitrine/write", 0⟩) rfl rfl rfl rfl rfl ⟨rfl, rfl⟩)⟩⟩, fun _ => ⟨rfl, rfl, rfl, .inl ⟨rfl, (o_ld (b := b0) (off := 0) (v := (.pointer (some ⟨b1, 0, none⟩))) rfl rm3 rfl rfl ⟨rfl, rfl⟩)⟩⟩, fun _ => ⟨rfl, rfl, rfl, .inl ⟨rfl, (o_p rfl ⟨rfl, rfl⟩)⟩⟩, fun _ => ⟨rfl, rfl, rfl, .inl ⟨rfl, (o_fa (fd := ⟨ "Addr", 3, 1, false, "", "", 8⟩) rfl rfl rfl rfl rfl ⟨rfl, rfl⟩)⟩⟩, fun _ => ⟨rfl, rfl, rfl, .inl ⟨rfl, (o_ld (b := b376) (off := 1) (v := (.int .i64 p2.Addr)) rfl rm4 rfl rfl ⟨rfl, rfl⟩)⟩⟩, trivial⟩, rfl, .inr ⟨[7], rfl, rfl, ⟨rfl, .inl rfl, ?_⟩, trivial⟩⟩
    refine (o_call has157 rfl (c_erase_Range hg X p1 b1 s0 p0.n p2.Addr _ h4) (pc rm0 (pc rm0 (pc rm0 pn))) ?_)
    refine ⟨[], [], rfl, rfl, rfl, rfl, ?_⟩
    refine ⟨⟨(fun h => nomatch h), (fun h => nomatch h), (fun h => nomatch h), (fun h => nomatch h), (fun h => nomatch h), (fun h => nomatch h), (fun h => nomatch h), trivial⟩, rfl, rfl, rfl, ?_⟩
    obtain rfl := Option.some.inj h
    exact ej () () trivial sn (kc rm0 (kc rm0 (kc rm1 (kc rm0 (kd kr)))))
   ·replace h := cond_f hb379 h
    refine c_draw (n := 2) (q := [(0, 29, (.pointer (some ⟨b0, 0, none⟩))), (1, 30, (.pointer (some ⟨b0, 0, none⟩))), (2, 31, (.pointer (some ⟨b0, 0, none⟩))), (3, 32, (.pointer (some ⟨b1, 0, none⟩))), (4, 33, (.int .i64 p0.n)), (5, 34, (.pointer (some ⟨b376, 1, none⟩))), (6, 35, (.int .i64 p2.Addr)), (7, 36, (.pointer (some ⟨b0, 0, none⟩))), (8, 37, (.pointer (some ⟨b376, 2, none⟩))), (9, 38, (.int .u8 p2.Code)), (10, 39, (.pointer (some ⟨b376, 3, none⟩))), (11, 40, (.bool p2.Graph))]) (pend := [0, 1, 2, 3, 4, 5, 6, 7, 8, 9, 10, 11]) rfl rfl rfl ?_
    replace h := bsome h
    obtain ⟨d5, h5, h⟩ := h
    refine ⟨⟨fun _ => ⟨rfl, rfl, rfl, .inl ⟨rfl, (o_p rfl ⟨rfl, rfl⟩)⟩⟩, fun _ => ⟨rfl, rfl, rfl, .inl ⟨rfl, (o_p rfl ⟨rfl, rfl⟩)⟩⟩, fun _ => ⟨rfl, rfl, rfl, .inl ⟨rfl, (o_fa (fd := ⟨ "s", 24, 0, false, "", "vitrine/write", 0⟩) rfl rfl rfl rfl rfl ⟨rfl, rfl⟩)⟩⟩, fun _ => ⟨rfl, rfl, rfl, .inl ⟨rfl, (o_ld (b := b0) (off := 0) (v := (.pointer (some ⟨b1, 0, none⟩))) rfl rm3 rfl rfl ⟨rfl, rfl⟩)⟩⟩, fun _ => ⟨rfl, rfl, rfl, .inl ⟨rfl, (o_p rfl ⟨rfl, rfl⟩)⟩⟩, fun _ => ⟨rfl, rfl, rfl, .inl ⟨rfl, (o_fa (fd := ⟨ "Addr", 3, 1, false, "", "", 8⟩) rfl rfl rfl rfl rfl ⟨rfl, rfl⟩)⟩⟩, fun _ => ⟨rfl, rfl, rfl, .inl ⟨rfl, (o_ld (b := b376) (off := 1) (v := (.int .i64 p2.Addr)) rfl rm4 rfl rfl ⟨rfl, rfl⟩)⟩⟩, fun _ => ⟨rfl, rfl, rfl, .inl ⟨rfl, (o_p rfl ⟨rfl, rfl⟩)⟩⟩, fun _ => ⟨rfl, rfl, rfl, .inl ⟨rfl, (o_fa (fd := ⟨ "Code", 5, 2, false, "", "", 16⟩) rfl rfl rfl rfl rfl ⟨rfl, rfl⟩)⟩⟩, fun _ => ⟨rfl, rfl, rfl, .inl ⟨rfl, (o_ld (b := b376) (off := 2) (v := (.int .u8 p2.Code)) rfl rm4 rfl rfl ⟨rfl, rfl⟩)⟩⟩, fun _ => ⟨rfl, rfl, rfl, .inl ⟨rfl, (o_fa (fd := ⟨ "Graph", 4, 3, false, "", "", 17⟩) rfl rfl rfl rfl rfl ⟨rfl, rfl⟩)⟩⟩, fun _ => ⟨rfl, rfl, rfl, .inl ⟨rfl, (o_ld (b := b376) (off := 3) (v := (.bool p2.Graph)) rfl rm4 rfl rfl ⟨rfl, rfl⟩)⟩⟩, trivial⟩, rfl, .inr ⟨[12], rfl, rfl, ⟨rfl, .inl rfl, ?_⟩, trivial⟩⟩
    refine (o_call has155 rfl (c_write_pen_cell hg X (⟨d1.1.n, d1.1.look, d1.1.texts⟩ : Vwrite_pen) b0 p1 b1 s0 p2.Code p2.Graph _ h5) (pc rm0 (pc rm2 (pc rm0 (pc rm0 pn)))) ?_)
    refine ⟨[], [0, 1, 2, 3, 4, 5, 6], rfl, rfl, rfl, rfl, ?_⟩
    replace h := bsome h
    obtain ⟨d6, h6, h⟩ := h
    refine ⟨⟨fun _ => ⟨rfl, rfl, rfl, .inl ⟨rfl, (o_p rfl ⟨rfl, rfl⟩)⟩⟩, fun _ => ⟨rfl, rfl, rfl, .inl ⟨rfl, (o_p rfl ⟨rfl, rfl⟩)⟩⟩, fun _ => ⟨rfl, rfl, rfl, .inl ⟨rfl, (o_fa (fd := ⟨ "s", 24, 0, false, "", "vitrine/write", 0⟩) rfl rfl rfl rfl rfl ⟨rfl, rfl⟩)⟩⟩, fun _ => ⟨rfl, rfl, rfl, .inl ⟨rfl, (o_ld (b := b0) (off := 0) (v := (.pointer (some ⟨b1, 0, none⟩))) rfl rm3 rfl rfl ⟨rfl, rfl⟩)⟩⟩, fun _ => ⟨rfl, rfl, rfl, .inl ⟨rfl, (o_p rfl ⟨rfl, rfl⟩)⟩⟩, fun _ => ⟨rfl, rfl, rfl, .inl ⟨rfl, (o_fa (fd := ⟨ "Addr", 3, 1, false, "", "", 8⟩) rfl rfl rfl rfl rfl ⟨rfl, rfl⟩)⟩⟩, fun _ => ⟨rfl, rfl, rfl, .inl ⟨rfl, (o_ld (b := b376) (off := 1) (v := (.int .i64 p2.Addr)) rfl rm4 rfl rfl ⟨rfl, rfl⟩)⟩⟩, (fun h => nomatch h), (fun h => nomatch h), (fun h => nomatch h), (fun h => nomatch h), (fun h => nomatch h), trivial⟩, rfl, .inr ⟨[13], rfl, rfl, ⟨rfl, .inl rfl, ?_⟩, trivial⟩⟩
    refine (o_call has158 rfl (c_erase_Repeat hg X p1 b1 s0 p0.n p2.Addr (⟨d5.Char, d5.Attr, d5.FA, d5.High, d5.Color, d5.f_Set⟩ : Vapi_Cell) _ h6) (pc rm0 (pc rm0 (pc rm0 pn))) ?_)
    refine ⟨[], [], rfl, rfl, rfl, rfl, ?_⟩
    refine ⟨⟨(fun h => nomatch h), (fun h => nomatch h), (fun h => nomatch h), (fun h => nomatch h), (fun h => nomatch h), (fun h => nomatch h), (fun h => nomatch h), (fun h => nomatch h), (fun h => nomatch h), (fun h => nomatch h), (fun h => nomatch h), (fun h => nomatch h), trivial⟩, rfl, rfl, rfl, ?_⟩
    obtain rfl := Option.some.inj h
    exact ej () () trivial sn (kc rm0 (kc rm0 (kc rm1 (kc rm0 (kd kr)))))
  ·rintro _ i3 _
   replace h := hk3
   clear hk3
   refine e_seq (c_seq (c_region (o1 rfl (o_p rfl (o_end (e_seq ?_))))))
   refine c_ret (e_ret ?_)
   refine r_endt rfl rfl (kc rm0 (kc rm0 (kc rm1 (kc rm0 kr)))) ?_
   obtain rfl := Option.some.inj h
   exact hk

theorem c_attr_Pair_Apply {g : Gw} (hg : GK g) (X : HP) (p0 : Vattr_Pair) (p1 : Vapi_Cell) (r : Vapi_Cell × Int) (h : m_attr_Pair_Apply p0 p1 = some r) : Tri env g 159 (List.toArray [(.agg (List.toArray [(.int .u8 p0.f_Type), (.int .u8 p0.Value)])), (.agg (List.toArray [(.int .u8 p1.Char), (.bool p1.Attr), (.int .u8 p1.FA), (.int .u8 p1.High), (.int .u8 p1.Color), (.int .u8 p1.f_Set)]))]) [X] (fun K R => K (.tuple (List.toArray [(.agg (List.toArray [(.int .u8 r.1.Char), (.bool r.1.Attr), (.int .u8 r.1.FA), (.int .u8 r.1.High), (.int .u8 r.1.Color), (.int .u8 r.1.f_Set)])), (.int .i64 r.2)])) (X :: R)) := by
 refine tri_of (fn := Tryz.f159) (N := 44) Tryz.func159 rfl rfl rfl ?_
 intro R K hk
 unfold m_attr_Pair_Apply at h
 change GC _ none _ [] [(0, (.agg (List.toArray [(.int .u8 p0.f_Type), (.int .u8 p0.Value)]))), (1, (.agg (List.toArray [(.int .u8 p1.Char), (.bool p1.Attr), (.int .u8 p1.FA), (.int .u8 p1.High), (.int .u8 p1.Color), (.int .u8 p1.f_Set)])))] (X :: R) g _ _
 refine c_seq (c_region ?_)
 refine o1 rfl (o_box (cs := [(.int .u8 p0.f_Type), (.int .u8 p0.Value)]) rfl rfl (fun b469 => ?_))
 refine o1 rfl (o_box (cs := [(.int .u8 p1.Char), (.bool p1.Attr), (.int .u8 p1.FA), (.int .u8 p1.High), (.int .u8 p1.Color), (.int .u8 p1.f_Set)]) rfl rfl (fun b471 => ?_))
 refine o1 rfl (o_alloc (cs := [(.int .u8 0), (.bool false), (.int .u8 0), (.int .u8 0), (.int .u8 0), (.int .u8 0)]) rfl rfl (fun b473 => ?_))
 refine o1 rfl (o_p rfl (o_end (e_seq (c_seq (c_seq (c_region ?_))))))
 refine o1 rfl (o_ld (b := b469) (off := 0) (v := (.agg (List.toArray [(.int .u8 p0.f_Type), (.int .u8 p0.Value)]))) rfl rm2 rfl rfl ?_)
 replace h := bsome h
 obtain ⟨d1, h1, h⟩ := h
 refine o1 rfl (o_call has180 rfl (c_attr_Pair_Check hg X p0 _ h1) (pc rm3 pn) ?_)
 refine o1 rfl (o_p rfl (o_end (e_seq (c_seq (c_region (o1 rfl (o_p rfl ?_)))))))
 refine o1 rfl (o_p (v := (.bool (d1 != 0))) rfl ?_)
 refine o_end (e_seq ?_)
 refine c_cond (b := (d1 != 0)) rfl (fun hb475 => ?_) (fun hb475 => ?_)
 ·replace h := cond_t hb475 h
  refine c_seq (c_region ?_)
  refine o1 rfl (o_build (fs := [⟨ "Char", 5, 0, false, "", "", 0⟩, ⟨ "Attr", 4, 1, false, "", "", 1⟩, ⟨ "FA", 5, 2, false, "", "", 2⟩, ⟨ "High", 5, 3, false, "", "", 3⟩, ⟨ "Color", 5, 4, false, "", "", 4⟩, ⟨ "Set", 5, 5, false, "", "", 5⟩]) (ps := [(0, 1), (1, 1), (2, 1), (3, 1), (4, 1), (5, 1)]) (cs := [(.int .u8 0), (.bool false), (.int .u8 0), (.int .u8 0), (.int .u8 0), (.int .u8 0)]) rfl rfl rfl rfl rfl ?_)
  refine o1 rfl (o_p rfl ?_)
  refine o0 (o_st (b := b473) (off := 0) (vs := [(.int .u8 0), (.bool false), (.int .u8 0), (.int .u8 0), (.int .u8 0), (.int .u8 0)]) (cs' := [(.int .u8 0), (.bool false), (.int .u8 0), (.int .u8 0), (.int .u8 0), (.int .u8 0)]) rfl rfl rp1 rfl rfl rfl rfl rfl rfl ?_)
  refine o1 rfl (o_p rfl (o_end (e_seq (c_ret (e_then_ret (e_ret ?_))))))
  refine r_endc (B := [[(.int .u8 0), (.bool false), (.int .u8 0), (.int .u8 0), (.int .u8 0), (.int .u8 0)]]) rfl ⟨⟨_, _, _, _, rfl, rm1⟩, trivial⟩ rfl (kc rm0 (kd (kd (kd kr)))) ?_
  obtain rfl := Option.some.inj h
  exact hk
 ·replace h := cond_f hb475 h
  refine c_skip (e_seq (c_seq (c_seq (c_region ?_))))
  refine o1 rfl (o_fa (fd := ⟨ "Type", 5, 0, false, "", "", 0⟩) rfl rfl rfl rfl rfl ?_)
  refine o1 rfl (o_ld (b := b469) (off := 0) (v := (.int .u8 p0.f_Type)) rfl rm3 rfl rfl ?_)
  refine o_end (e_seq (c_block (c_seq (c_region ?_))))
  refine o1 rfl (o_p (v := (.bool (p0.f_Type == 0))) rfl ?_)
  refine o1 rfl (o_p rfl (o_end (e_seq ?_)))
  replace h := bsome h
  obtain ⟨d4, h, hk4⟩ := h
  refine cj (D := Unit) (ι := Unit) (fun _ i4 => True) (fun _ i4 => [(4, (.pointer (some ⟨b473, 0, none⟩))), (3, (.pointer (some ⟨b471, 0, none⟩)))]) (fun _ i4 => X :: blk b473 (.cells (List.toArray [(.int .u8 0), (.bool false), (.int .u8 0), (.int .u8 0), (.int .u8 0), (.int .u8 0)]) 80 (0, 0)) :: blk b471 (.cells (List.toArray [(.int .u8 p1.Char), (.bool p1.Attr), (.int .u8 d4.1), (.int .u8 d4.2.1), (.int .u8 d4.2.2.1), (.int .u8 d4.2.2.2)]) 80 (0, 0)) :: R) ?_ ?_
  ·refine c_cond (b := (p0.f_Type == 0)) rfl (fun hb476 => ?_) (fun hb476 => ?_)
   ·replace h := cond_t hb476 h
    refine c_region ?_
    refine o1 rfl (o_fa (fd := ⟨ "High", 5, 3, false, "", "", 3⟩) rfl rfl rfl rfl rfl ?_)
    refine o0 (o_st (b := b471) (off := 3) (vs := [(.int .u8 0)]) (cs' := [(.int .u8 p1.Char), (.bool p1.Attr), (.int .u8 p1.FA), (.int .u8 0), (.int .u8 p1.Color), (.int .u8 p1.f_Set)]) rfl rfl rp2 rfl rfl rfl rfl rfl rfl ?_)
    refine o1 rfl (o_fa (fd := ⟨ "Color", 5, 4, false, "", "", 4⟩) rfl rfl rfl rfl rfl ?_)
    refine o0 (o_st (b := b471) (off := 4) (vs := [(.int .u8 0)]) (cs' := [(.int .u8 p1.Char), (.bool p1.Attr), (.int .u8 p1.FA), (.int .u8 0), (.int .u8 0), (.int .u8 p1.f_Set)]) rfl rfl rp2 rfl rfl rfl rfl rfl rfl ?_)
    refine o1 rfl (o_fa (fd := ⟨ "Set", 5, 5, false, "", "", 5⟩) rfl rfl rfl rfl rfl ?_)
    refine o0 (o_st (b := b471) (off := 5) (vs := [(.int .u8 0)]) (cs' := [(.int .u8 p1.Char), (.bool p1.Attr), (.int .u8 p1.FA), (.int .u8 0), (.int .u8 0), (.int .u8 0)]) rfl rfl rp2 rfl rfl rfl rfl rfl rfl ?_)
    refine o_end ?_
    obtain rfl := Option.some.inj h
    exact ej () () trivial (sc rfl (sc rfl sn)) (kc rm0 (kc rm0 (kc rm0 (kd kr))))
   ·replace h := cond_f hb476 h
    refine c_seq (c_region ?_)
    refine o1 rfl (o_p (v := (.bool (p0.f_Type == 192))) rfl ?_)
    refine o1 rfl (o_p rfl (o_end (e_seq ?_)))
    refine c_cond (b := (p0.f_Type == 192)) rfl (fun hb477 => ?_) (fun hb477 => ?_)
    ·replace h := cond_t hb477 h
     refine c_seq (c_region ?_)
     refine o1 rfl (o_fa (fd := ⟨ "Attr", 4, 1, false, "", "", 1⟩) rfl rfl rfl rfl rfl ?_)
     refine o1 rfl (o_ld (b := b471) (off := 1) (v := (.bool p1.Attr)) rfl rm2 rfl rfl ?_)
     refine o_end (e_seq ?_)
     refine c_cond (b := p1.Attr) rfl (fun hb478 => ?_) (fun hb478 => ?_)
     ·replace h := cond_t hb478 h
      refine c_region ?_
      refine o1 rfl (o_fa (fd := ⟨ "Value", 5, 1, false, "", "", 1⟩) rfl rfl rfl rfl rfl ?_)
      refine o1 rfl (o_ld (b := b469) (off := 1) (v := (.int .u8 p0.Value)) rfl rm3 rfl rfl ?_)
      refine o1 rfl (o_p (v := (.int .u8 (iband .u8 p0.Value 61))) rfl ?_)
      refine o1 rfl (o_fa (fd := ⟨ "FA", 5, 2, false, "", "", 2⟩) rfl rfl rfl rfl rfl ?_)
      refine o0 (o_st (b := b471) (off := 2) (vs := [(.int .u8 (iband .u8 p0.Value 61))]) (cs' := [(.int .u8 p1.Char), (.bool p1.Attr), (.int .u8 (iband .u8 p0.Value 61)), (.int .u8 p1.High), (.int .u8 p1.Color), (.int .u8 p1.f_Set)]) rfl rfl rp2 rfl rfl rfl rfl rfl rfl ?_)
      refine o_end ?_
      obtain rfl := Option.some.inj h
      exact ej () () trivial (sc rfl (sc rfl sn)) (kc rm0 (kc rm0 (kc rm0 (kd kr))))
     ·replace h := cond_f hb478 h
      refine c_skip ?_
      obtain rfl := Option.some.inj h
      exact ej () () trivial (sc rfl (sc rfl sn)) (kc rm0 (kc rm0 (kc rm0 (kd kr))))
    ·replace h := cond_f hb477 h
     refine c_seq (c_region ?_)
     refine o1 rfl (o_p (v := (.bool (p0.f_Type == 65))) rfl ?_)
     refine o1 rfl (o_p rfl (o_end (e_seq ?_)))
     refine c_cond (b := (p0.f_Type == 65)) rfl (fun hb479 => ?_) (fun hb479 => ?_)
     ·replace h := cond_t hb479 h
      refine c_region ?_
      refine o1 rfl (o_fa (fd := ⟨ "Value", 5, 1, false, "", "", 1⟩) rfl rfl rfl rfl rfl ?_)
      refine o1 rfl (o_ld (b := b469) (off := 1) (v := (.int .u8 p0.Value)) rfl rm3 rfl rfl ?_)
      refine o1 rfl (o_fa (fd := ⟨ "High", 5, 3, false, "", "", 3⟩) rfl rfl rfl rfl rfl ?_)
      refine o0 (o_st (b := b471) (off := 3) (vs := [(.int .u8 p0.Value)]) (cs' := [(.int .u8 p1.Char), (.bool p1.Attr), (.int .u8 p1.FA), (.int .u8 p0.Value), (.int .u8 p1.Color), (.int .u8 p1.f_Set)]) rfl rfl rp2 rfl rfl rfl rfl rfl rfl ?_)
      refine o_end ?_
      obtain rfl := Option.some.inj h
      exact ej () () trivial (sc rfl (sc rfl sn)) (kc rm0 (kc rm0 (kc rm0 (kd kr))))
     ·replace h := cond_f hb479 h
      refine c_seq (c_region ?_)
      refine o1 rfl (o_p (v := (.bool (p0.f_Type == 66))) rfl ?_)
      refine o1 rfl (o_p rfl (o_end (e_seq ?_)))
      refine c_cond (b := (p0.f_Type == 66)) rfl (fun hb480 => ?_) (fun hb480 => ?_)
      ·replace h := cond_t hb480 h
       refine c_region ?_
       refine o1 rfl (o_fa (fd := ⟨ "Value", 5, 1, false, "", "", 1⟩) rfl rfl rfl rfl rfl ?_)
       refine o1 rfl (o_ld (b := b469) (off := 1) (v := (.int .u8 p0.Value)) rfl rm3 rfl rfl ?_)
       refine o1 rfl (o_fa (fd := ⟨ "Color", 5, 4, false, "", "", 4⟩) rfl rfl rfl rfl rfl ?_)
       refine o0 (o_st (b := b471) (off := 4) (vs := [(.int .u8 p0.Value)]) (cs' := [(.int .u8 p1.Char), (.bool p1.Attr), (.int .u8 p1.FA), (.int .u8 p1.High), (.int .u8 p0.Value), (.int .u8 p1.f_Set)]) rfl rfl rp2 rfl rfl rfl rfl rfl rfl ?_)
       refine o_end ?_
       obtain rfl := Option.some.inj h
       exact ej () () trivial (sc rfl (sc rfl sn)) (kc rm0 (kc rm0 (kc rm0 (kd kr))))
      ·replace h := cond_f hb480 h
       refine c_seq (c_region ?_)
       refine o1 rfl (o_p (v := (.bool (p0.f_Type == 67))) rfl ?_)
       refine o1 rfl (o_p rfl (o_end (e_seq ?_)))
       refine c_cond (b := (p0.f_Type == 67)) rfl (fun hb481 => ?_) (fun hb481 => ?_)
       ·replace h := cond_t hb481 h
        refine c_region ?_
        refine o1 rfl (o_fa (fd := ⟨ "Value", 5, 1, false, "", "", 1⟩) rfl rfl rfl rfl rfl ?_)
        refine o1 rfl (o_ld (b := b469) (off := 1) (v := (.int .u8 p0.Value)) rfl rm3 rfl rfl ?_)
        refine o1 rfl (o_fa (fd := ⟨ "Set", 5, 5, false, "", "", 5⟩) rfl rfl rfl rfl rfl ?_)
        refine o0 (o_st (b := b471) (off := 5) (vs := [(.int .u8 p0.Value)]) (cs' := [(.int .u8 p1.Char), (.bool p1.Attr), (.int .u8 p1.FA), (.int .u8 p1.High), (.int .u8 p1.Color), (.int .u8 p0.Value)]) rfl rfl rp2 rfl rfl rfl rfl rfl rfl ?_)
        refine o_end ?_
        obtain rfl := Option.some.inj h
        exact ej () () trivial (sc rfl (sc rfl sn)) (kc rm0 (kc rm0 (kc rm0 (kd kr))))
       ·replace h := cond_f hb481 h
        refine c_skip ?_
        obtain rfl := Option.some.inj h
        exact ej () () trivial (sc rfl (sc rfl sn)) (kc rm0 (kc rm0 (kc rm0 (kd kr))))
  ·rintro _ i4 _
   replace h := hk4
   clear hk4
   refine e_blk (e_seq (c_seq (c_region ?_)))
   refine o1 rfl (o_ld (b := b471) (off := 0) (v := (.agg (List.toArray [(.int .u8 p1.Char), (.bool p1.Attr), (.int .u8 d4.1), (.int .u8 d4.2.1), (.int .u8 d4.2.2.1), (.int .u8 d4.2.2.2)]))) rfl rm2 rfl rfl ?_)
   refine o0 (o_st (b := b473) (off := 0) (vs := [(.int .u8 p1.Char), (.bool p1.Attr), (.int .u8 d4.1), (.int .u8 d4.2.1), (.int .u8 d4.2.2.1), (.int .u8 d4.2.2.2)]) (cs' := [(.int .u8 p1.Char), (.bool p1.Attr), (.int .u8 d4.1), (.int .u8 d4.2.1), (.int .u8 d4.2.2.1), (.int .u8 d4.2.2.2)]) rfl rfl rp1 rfl rfl rfl rfl rfl rfl ?_)
   refine o1 rfl (o_p rfl (o_end (e_seq (c_ret (e_ret ?_)))))
   refine r_endc (B := [[(.int .u8 p1.Char), (.bool p1.Attr), (.int .u8 d4.1), (.int .u8 d4.2.1), (.int .u8 d4.2.2.1), (.int .u8 d4.2.2.2)]]) rfl ⟨⟨_, _, _, _, rfl, rm1⟩, trivial⟩ rfl (kc rm0 (kd (kd kr))) ?_
   obtain rfl := Option.some.inj h
   exact hk

theorem c_write_applied {g : Gw} (hg : GK g) (X : HP) (p0 : Vapi_Cell) (p1 : List Vattr_Pair) (s0 : SV) (q0 : Rd X s0 254 en_Vattr_Pair p1) (r : Vapi_Cell × Int) (h : m_write_applied p0 p1 = some r) : Tri env g 117 (List.toArray [(.agg (List.toArray [(.int .u8 p0.Char), (.bool p0.Attr), (.int .u8 p0.FA), (.int .u8 p0.High), (.int .u8 p0.Color), (.int .u8 p0.f_Set)])), (SV.val s0)]) [X] (fun K R => K (.tuple (List.toArray [(.agg (List.toArray [(.int .u8 r.1.Char), (.bool r.1.Attr), (.int .u8 r.1.FA), (.int .u8 r.1.High), (.int .u8 r.1.Color), (.int .u8 r.1.f_Set)])), (.int .i64 r.2)])) (X :: R)) := by
 refine tri_of (fn := Tryz.f117) (N := 27) Tryz.func117 rfl rfl rfl ?_
 intro R K hk
 unfold m_write_applied at h
 change GC _ none _ [] [(0, (.agg (List.toArray [(.int .u8 p0.Char), (.bool p0.Attr), (.int .u8 p0.FA), (.int .u8 p0.High), (.int .u8 p0.Color), (.int .u8 p0.f_Set)]))), (1, (SV.val s0))] (X :: R) g _ _
 refine c_seq (c_region ?_)
 refine o1 rfl (o_box (cs := [(.int .u8 p0.Char), (.bool p0.Attr), (.int .u8 p0.FA), (.int .u8 p0.High), (.int .u8 p0.Color), (.int .u8 p0.f_Set)]) rfl rfl (fun b461 => ?_))
 refine o1 rfl (o_alloc (cs := [(.int .u8 0), (.bool false), (.int .u8 0), (.int .u8 0), (.int .u8 0), (.int .u8 0)]) rfl rfl (fun b463 => ?_))
 refine o1 rfl (o_p rfl (o_end (e_seq (c_seq (c_seq (c_region ?_))))))
 refine o1 rfl (o_p rfl ?_)
 refine o1 rfl (o_len (s := s0) rfl rfl rfl rm2 q0 ?_)
 refine o1 rfl (o_p rfl (o_end (e_seq ?_)))
 replace h := jn_some h
 obtain ⟨y1, h, hk1⟩ := h
 refine cj (D := Int × Bool × Int × Int × Int × Int) (ι := Unit) (fun d1 i1 => y1 = Sum.inl d1) (fun d1 i1 => [(4, (.pointer (some ⟨b463, 0, none⟩))), (2, (.pointer (some ⟨b461, 0, none⟩)))]) (fun d1 i1 => X :: blk b463 (.cells (List.toArray [(.int .u8 0), (.bool false), (.int .u8 0), (.int .u8 0), (.int .u8 0), (.int .u8 0)]) 80 (0, 0)) :: blk b461 (.cells (List.toArray [(.int .u8 d1.1), (.bool d1.2.1), (.int .u8 d1.2.2.1), (.int .u8 d1.2.2.2.1), (.int .u8 d1.2.2.2.2.1), (.int .u8 d1.2.2.2.2.2)]) 80 (0, 0)) :: R) ?_ ?_
 ·refine c_block ?_
  refine c_loop (l_sub (sc rfl (sc rfl (sc rfl (sc rfl (sc rfl sn))))) (l_keep (kc rm2 (kc rm0 (kc rm0 kr))) (lf (X := Int × Int × Bool × Int × Int × Int × Int) (ι := Unit) (fun k x => write_applied_l2 p1 k x) _ (fun x2 i2 => True) (fun x2 i2 => [(11, (.int .i64 x2.1)), (10, (.int .i64 (p1.length : Int))), (9, (SV.val s0)), (4, (.pointer (some ⟨b463, 0, none⟩))), (2, (.pointer (some ⟨b461, 0, none⟩)))]) (fun x2 i2 => X :: blk b463 (.cells (List.toArray [(.int .u8 0), (.bool false), (.int .u8 0), (.int .u8 0), (.int .u8 0), (.int .u8 0)]) 80 (0, 0)) :: blk b461 (.cells (List.toArray [(.int .u8 x2.2.1), (.bool x2.2.2.1), (.int .u8 x2.2.2.2.1), (.int .u8 x2.2.2.2.2.1), (.int .u8 x2.2.2.2.2.2.1), (.int .u8 x2.2.2.2.2.2.2)]) 80 (0, 0)) :: R) (fun _ => rfl) ?_ fuel (0, p0.Char, p0.Attr, p0.FA, p0.High, p0.Color, p0.f_Set) () trivial h)))
  clear h
  rintro k2 ih2 x2 i2 _ h
  rw [write_applied_l2.eq_2] at h
  refine l_round (c_seq (c_region ?_))
  refine o1 rfl (o_p (v := (.bool (decide (x2.1 < (p1.length : Int))))) rfl ?_)
  refine o_end (e_seq (c_seq ?_))
  refine c_cond (b := (decide (x2.1 < (p1.length : Int)))) rfl (fun hb488 => ?_) (fun hb488 => ?_)
  ·replace h := cond_t hb488 h
   refine c_skip (e_seq (c_seq (c_block (c_seq (c_region ?_)))))
   replace h := gsome h
   obtain ⟨hg489, h⟩ := h
   refine o1 rfl (o_ix (s := s0) (n := x2.1) (e := en_Vattr_Pair) rfl rfl rfl rfl rfl rfl rm0 q0 hg489 ?_)
   refine o1 rfl (o_ldE (s := s0) (e := en_Vattr_Pair) (n := x2.1) (f := 0) (v := (.agg (List.toArray [(.int .u8 ((rd p1 x2.1).f_Type)), (.int .u8 ((rd p1 x2.1).Value))]))) rfl rm0 q0 hg489 rfl rfl ?_)
   refine o1 rfl (o_alloc (cs := [(.int .u8 0), (.int .u8 0)]) rfl rfl (fun b490 => ?_))
   refine o0 (o_st (b := b490) (off := 0) (vs := [(.int .u8 ((rd p1 x2.1).f_Type)), (.int .u8 ((rd p1 x2.1).Value))]) (cs' := [(.int .u8 ((rd p1 x2.1).f_Type)), (.int .u8 ((rd p1 x2.1).Value))]) rfl rfl rp0 rfl rfl rfl rfl rfl rfl ?_)
   refine o_end (e_seq (c_seq (c_region (o1 rfl (o_p rfl (o_end ?_))))))
   refine e_seq (c_seq (c_region ?_))
   refine o1 rfl (o_ld (b := b490) (off := 0) (v := (.agg (List.toArray [(.int .u8 ((rd p1 x2.1).f_Type)), (.int .u8 ((rd p1 x2.1).Value))]))) rfl rm0 rfl rfl ?_)
   refine o1 rfl (o_ld (b := b461) (off := 0) (v := (.agg (List.toArray [(.int .u8 x2.2.1), (.bool x2.2.2.1), (.int .u8 x2.2.2.2.1), (.int .u8 x2.2.2.2.2.1), (.int .u8 x2.2.2.2.2.2.1), (.int .u8 x2.2.2.2.2.2.2)]))) rfl rm3 rfl rfl ?_)
   replace h := bsome h
   obtain ⟨d5, h5, h⟩ := h
   refine o1 rfl (o_call has159 rfl (c_attr_Pair_Apply hg X (rd p1 x2.1) (⟨x2.2.1, x2.2.2.1, x2.2.2.2.1, x2.2.2.2.2.1, x2.2.2.2.2.2.1, x2.2.2.2.2.2.2⟩ : Vapi_Cell) _ h5) (pc rm1 pn) ?_)
   refine o1 rfl (o_p rfl (o1 rfl (o_p rfl (o1 rfl (o_p rfl ?_)))))
   refine o0 (o_st (b := b461) (off := 0) (vs := [(.int .u8 d5.1.Char), (.bool d5.1.Attr), (.int .u8 d5.1.FA), (.int .u8 d5.1.High), (.int .u8 d5.1.Color), (.int .u8 d5.1.f_Set)]) (cs' := [(.int .u8 d5.1.Char), (.bool d5.1.Attr), (.int .u8 d5.1.FA), (.int .u8 d5.1.High), (.int .u8 d5.1.Color), (.int .u8 d5.1.f_Set)]) rfl rfl rp3 rfl rfl rfl rfl rfl rfl ?_)
   refine o1 rfl (o_p rfl (o_end (e_seq (c_seq (c_region (o1 rfl (o_p rfl ?_)))))))
   refine o1 rfl (o_p (v := (.bool (d5.2 != 0))) rfl ?_)
   refine o_end (e_seq ?_)
   refine c_cond (b := (d5.2 != 0)) rfl (fun hb492 => ?_) (fun hb492 => ?_)
   ·replace h := cond_t hb492 h
    refine c_seq (c_region ?_)
    refine o1 rfl (o_build (fs := [⟨ "Char", 5, 0, false, "", "", 0⟩, ⟨ "Attr", 4, 1, false, "", "", 1⟩, ⟨ "FA", 5, 2, false, "", "", 2⟩, ⟨ "High", 5, 3, false, "", "", 3⟩, ⟨ "Color", 5, 4, false, "", "", 4⟩, ⟨ "Set", 5, 5, false, "", "", 5⟩]) (ps := [(0, 1), (1, 1), (2, 1), (3, 1), (4, 1), (5, 1)]) (cs := [(.int .u8 0), (.bool false), (.int .u8 0), (.int .u8 0), (.int .u8 0), (.int .u8 0)]) rfl rfl rfl rfl rfl ?_)
    refine o1 rfl (o_p rfl ?_)
    refine o0 (o_st (b := b463) (off := 0) (vs := [(.int .u8 0), (.bool false), (.int .u8 0), (.int .u8 0), (.int .u8 0), (.int .u8 0)]) (cs' := [(.int .u8 0), (.bool false), (.int .u8 0), (.int .u8 0), (.int .u8 0), (.int .u8 0)]) rfl rfl rp2 rfl rfl rfl rfl rfl rfl ?_)
    refine o1 rfl (o_p rfl (o_end (e_seq (c_ret (e_blk_ret (e_then_ret ?_))))))
    refine e_then_ret (e_blk_ret (ej_ret ?_))
    replace h := esc_some h
    obtain ⟨z1, h, rfl⟩ := h
    obtain rfl := (hk1 : z1 = _)
    refine e_then_ret (e_ret ?_)
    refine r_endc (B := [[(.int .u8 0), (.bool false), (.int .u8 0), (.int .u8 0), (.int .u8 0), (.int .u8 0)]]) rfl ⟨⟨_, _, _, _, rfl, rm2⟩, trivial⟩ rfl (kc rm0 (kd (kd (kd kr)))) ?_
    obtain rfl := Option.some.inj h
    exact hk
   ·replace h := cond_f hb492 h
    refine c_skip (e_blk (e_seq (c_region ?_)))
    refine o1 rfl (o_p (v := (.int .i64 (w64 (x2.1 + 1)))) rfl ?_)
    refine o1 rfl (o_p rfl (o_end ?_))
    exact e_loop (l_sub (sc rfl (sc rfl (sc rfl (sc rfl (sc rfl sn))))) (l_keep (kc rm0 (kc rm1 (kc rm1 (kd kr)))) (ih2 (w64 (x2.1 + 1), d5.1.Char, d5.1.Attr, d5.1.FA, d5.1.High, d5.1.Color, d5.1.f_Set) () trivial h)))
  ·replace h := cond_f hb488 h
   refine c_exit (e_then_exit (e_then_exit (e_blk_exit ?_)))
   obtain rfl := Option.some.inj h
   exact ej (x2.2.1, x2.2.2.1, x2.2.2.2.1, x2.2.2.2.2.1, x2.2.2.2.2.2.1, x2.2.2.2.2.2.2) () rfl (sc rfl (sc rfl sn)) (kc rm0 (kc rm0 (kc rm0 kr)))
 ·rintro d1 i1 rfl
  replace h := JK_inl hk1
  clear hk1
  refine e_seq (c_seq (c_region ?_))
  refine o1 rfl (o_ld (b := b461) (off := 0) (v := (.agg (List.toArray [(.int .u8 d1.1), (.bool d1.2.1), (.int .u8 d1.2.2.1), (.int .u8 d1.2.2.2.1), (.int .u8 d1.2.2.2.2.1), (.int .u8 d1.2.2.2.2.2)]))) rfl rm2 rfl rfl ?_)
  refine o0 (o_st (b := b463) (off := 0) (vs := [(.int .u8 d1.1), (.bool d1.2.1), (.int .u8 d1.2.2.1), (.int .u8 d1.2.2.2.1), (.int .u8 d1.2.2.2.2.1), (.int .u8 d1.2.2.2.2.2)]) (cs' := [(.int .u8 d1.1), (.bool d1.2.1), (.int .u8 d1.2.2.1), (.int .u8 d1.2.2.2.1), (.int .u8 d1.2.2.2.2.1), (.int .u8 d1.2.2.2.2.2)]) rfl rfl rp1 rfl rfl rfl rfl rfl rfl ?_)
  refine o1 rfl (o_p rfl (o_end (e_seq (c_ret (e_ret ?_)))))
  refine r_endc (B := [[(.int .u8 d1.1), (.bool d1.2.1), (.int .u8 d1.2.2.1), (.int .u8 d1.2.2.2.1), (.int .u8 d1.2.2.2.2.1), (.int .u8 d1.2.2.2.2.2)]]) rfl ⟨⟨_, _, _, _, rfl, rm1⟩, trivial⟩ rfl (kc rm0 (kd (kd kr))) ?_
  obtain rfl := Option.some.inj h
  exact hk

theorem c_write_pen_attribute {g : Gw} (hg : GK g) (X : HP) (p0 : Vwrite_pen) (b0 : Nat) (p1 : Vspace_Space) (b1 : Nat) (s0 : SV) (p2 : Vapi_Cell) (p3 : List Vattr_Pair) (s1 : SV) (q0 : Rd X s1 254 en_Vattr_Pair p3) (r : Vspace_Space × Vwrite_pen × Int) (h : m_write_pen_attribute p0 p1 p2 p3 = some r) : Tri env g 116 (List.toArray [(.pointer (some ⟨b0, 0, none⟩)), (.agg (List.toArray [(.int .u8 p2.Char), (.bool p2.Attr), (.int .u8 p2.FA), (.int .u8 p2.High), (.int .u8 p2.Color), (.int .u8 p2.f_Set)])), (SV.val s1)]) [X, blk b0 (.cells (List.toArray [(.pointer (some ⟨b1, 0, none⟩)), (.int .i64 p0.n), (.int .u8 p0.look.Char), (.bool p0.look.Attr), (.int .u8 p0.look.FA), (.int .u8 p0.look.High), (.int .u8 p0.look.Color), (.int .u8 p0.look.f_Set), (.bool p0.texts)]) 123 (0, 0)), blk b1 (.cells (List.toArray [(.int .i64 p1.model), (.bool p1.alternate), (.int .i64 p1.size.Rows), (.int .i64 p1.size.Cols), (SV.val s0), (.int .i64 p1.cursor), (.int .i64 p1.attrs)]) 116 (0, 0)), slO s0 80 en_Vapi_Cell p1.cells] (fun K R => K (.int .i64 r.2.2) (X :: blk b1 (.cells (List.toArray [(.int .i64 r.1.model), (.bool r.1.alternate), (.int .i64 r.1.size.Rows), (.int .i64 r.1.size.Cols), (SV.val s0), (.int .i64 r.1.cursor), (.int .i64 r.1.attrs)]) 116 (0, 0)) :: slO s0 80 en_Vapi_Cell r.1.cells :: blk b0 (.cells (List.toArray [(.pointer (some ⟨b1, 0, none⟩)), (.int .i64 r.2.1.n), (.int .u8 r.2.1.look.Char), (.bool r.2.1.look.Attr), (.int .u8 r.2.1.look.FA), (.int .u8 r.2.1.look.High), (.int .u8 r.2.1.look.Color), (.int .u8 r.2.1.look.f_Set), (.bool r.2.1.texts)]) 123 (0, 0)) :: R)) := by
 refine tri_of (fn := Tryz.f116) (N := 29) Tryz.func116 rfl rfl rfl ?_
 intro R K hk
 unfold m_write_pen_attribute at h
 change GC _ none _ [] [(0, (.pointer (some ⟨b0, 0, none⟩))), (1, (.agg (List.toArray [(.int .u8 p2.Char), (.bool p2.Attr), (.int .u8 p2.FA), (.int .u8 p2.High), (.int .u8 p2.Color), (.int .u8 p2.f_Set)]))), (2, (SV.val s1))] (X :: blk b0 (.cells (List.toArray [(.pointer (some ⟨b1, 0, none⟩)), (.int .i64 p0.n), (.int .u8 p0.look.Char), (.bool p0.look.Attr), (.int .u8 p0.look.FA), (.int .u8 p0.look.High), (.int .u8 p0.look.Color), (.int .u8 p0.look.f_Set), (.bool p0.texts)]) 123 (0, 0)) :: blk b1 (.cells (List.toArray [(.int .i64 p1.model), (.bool p1.alternate), (.int .i64 p1.size.Rows), (.int .i64 p1.size.Cols), (SV.val s0), (.int .i64 p1.cursor), (.int .i64 p1.attrs)]) 116 (0, 0)) :: slO s0 80 en_Vapi_Cell p1.cells :: R) g _ _
 refine c_seq (c_region ?_)
 refine o1 rfl (o_box (cs := [(.int .u8 p2.Char), (.bool p2.Attr), (.int .u8 p2.FA), (.int .u8 p2.High), (.int .u8 p2.Color), (.int .u8 p2.f_Set)]) rfl rfl (fun b459 => ?_))
 refine o1 rfl (o_p rfl (o_end (e_seq (c_seq (c_region ?_)))))
 refine o1 rfl (o_ld (b := b459) (off := 0) (v := (.agg (List.toArray [(.int .u8 p2.Char), (.bool p2.Attr), (.int .u8 p2.FA), (.int .u8 p2.High), (.int .u8 p2.Color), (.int .u8 p2.f_Set)]))) rfl rm0 rfl rfl ?_)
 refine o1 rfl (o_p rfl ?_)
 replace h := bsome h
 obtain ⟨d1, h1, h⟩ := h
 refine o1 rfl (o_call has117 rfl (c_write_applied hg X p2 p3 s1 q0 _ h1) (pc rm1 pn) ?_)
 refine o1 rfl (o_p rfl (o1 rfl (o_p rfl (o1 rfl (o_p rfl ?_)))))
 refine o0 (o_st (b := b459) (off := 0) (vs := [(.int .u8 d1.1.Char), (.bool d1.1.Attr), (.int .u8 d1.1.FA), (.int .u8 d1.1.High), (.int .u8 d1.1.Color), (.int .u8 d1.1.f_Set)]) (cs' := [(.int .u8 d1.1.Char), (.bool d1.1.Attr), (.int .u8 d1.1.FA), (.int .u8 d1.1.High), (.int .u8 d1.1.Color), (.int .u8 d1.1.f_Set)]) rfl rfl rp1 rfl rfl rfl rfl rfl rfl ?_)
 refine o1 rfl (o_p rfl (o_end (e_seq (c_seq (c_seq (c_region ?_))))))
 refine o1 rfl (o_p rfl ?_)
 refine o1 rfl (o_p (v := (.bool (d1.2 != 0))) rfl ?_)
 refine o_end (e_seq ?_)
 refine c_cond (b := (d1.2 != 0)) rfl (fun hb493 => ?_) (fun hb493 => ?_)
 ·replace h := cond_t hb493 h
  refine c_seq (c_region (o1 rfl (o_p rfl (o1 rfl (o_p rfl (o_end (e_seq ?_)))))))
  refine c_ret (e_then_ret (e_ret ?_))
  refine r_endt rfl rfl (kc rm0 (kc rm2 (kc rm2 (kc rm1 (kd kr))))) ?_
  obtain rfl := Option.some.inj h
  exact hk
 ·replace h := cond_f hb493 h
  refine c_skip (e_seq (c_seq ?_))
  refine c_draw (n := 1) (q := [(0, 17, (.pointer (some ⟨b0, 0, none⟩))), (1, 18, (.pointer (some ⟨b0, 0, none⟩))), (2, 19, (.pointer (some ⟨b0, 0, none⟩))), (3, 20, (.pointer (some ⟨b1, 0, none⟩))), (4, 21, (.pointer (some ⟨b0, 0, none⟩))), (5, 22, (.pointer (some ⟨b0, 0, none⟩))), (6, 23, (.pointer (some ⟨b0, 1, none⟩))), (7, 24, (.int .i64 p0.n)), (8, 25, (.agg (List.toArray [(.int .u8 d1.1.Char), (.bool d1.1.Attr), (.int .u8 d1.1.FA), (.int .u8 d1.1.High), (.int .u8 d1.1.Color), (.int .u8 d1.1.f_Set)])))]) (pend := [0, 1, 2, 3, 4, 5, 6, 7, 8]) rfl rfl rfl ?_
  replace h := bsome h
  obtain ⟨d4, h4, h⟩ := h
  refine ⟨⟨fun _ => ⟨rfl, rfl, rfl, .inl ⟨rfl, (o_p rfl ⟨rfl, rfl⟩)⟩⟩, fun _ => ⟨rfl, rfl, rfl, .inl ⟨rfl, (o_p rfl ⟨rfl, rfl⟩)⟩⟩, fun _ => ⟨rfl, rfl, rfl, .inl ⟨rfl, (o_fa (fd := ⟨ "s", 24, 0, false, "", "vitrine/write", 0⟩) rfl rfl rfl rfl rfl ⟨rfl, rfl⟩)⟩⟩, fun _ => ⟨rfl, rfl, rfl, .inl ⟨rfl, (o_ld (b := b0) (off := 0) (v := (.pointer (some ⟨b1, 0, none⟩))) rfl rm2 rfl rfl ⟨rfl, rfl⟩)⟩⟩, fun _ => ⟨rfl, rfl, rfl, .inl ⟨rfl, (o_p rfl ⟨rfl, rfl⟩)⟩⟩, fun _ => ⟨rfl, rfl, rfl, .inl ⟨rfl, (o_p rfl ⟨rfl, rfl⟩)⟩⟩, fun _ => ⟨rfl, rfl, rfl, .inl ⟨rfl, (o_fa (fd := ⟨ "n", 3, 1, false, "", "vitrine/write", 8⟩) rfl rfl rfl rfl rfl ⟨rfl, rfl⟩)⟩⟩, fun _ => ⟨rfl, rfl, rfl, .inl ⟨rfl, (o_ld (b := b0) (off := 1) (v := (.int .i64 p0.n)) rfl rm2 rfl rfl ⟨rfl, rfl⟩)⟩⟩, fun _ => ⟨rfl, rfl, rfl, .inl ⟨rfl, (o_ld (b := b459) (off := 0) (v := (.agg (List.toArray [(.int .u8 d1.1.Char), (.bool d1.1.Attr), (.int .u8 d1.1.FA), (.int .u8 d1.1.High), (.int .u8 d1.1.Color), (.int .u8 d1.1.f_Set)]))) rfl rm1 rfl rfl ⟨rfl, rfl⟩)⟩⟩, trivial⟩, rfl, .inr ⟨[9], rfl, rfl, ⟨rfl, .inl rfl, ?_⟩, trivial⟩⟩
  refine (o_call has48 rfl (c_space_Space_Set hg X (⟨p1.model, p1.alternate, p1.size, p1.cells, p1.cursor, p1.attrs⟩ : Vspace_Space) b1 s0 p0.n d1.1 _ h4) (pc rm0 (pc rm2 (pc rm2 pn))) ?_)
  refine ⟨[], [], rfl, rfl, rfl, rfl, ?_⟩
  refine ⟨⟨(fun h => nomatch h), (fun h => nomatch h), (fun h => nomatch h), (fun h => nomatch h), (fun h => nomatch h), (fun h => nomatch h), (fun h => nomatch h), (fun h => nomatch h), (fun h => nomatch h), trivial⟩, rfl, rfl, rfl, ?_⟩
  refine e_seq (c_seq (c_region (o1 rfl (o_p rfl ?_))))
  replace h := bsome h
  obtain ⟨d5, h5, h⟩ := h
  refine o1 rfl (o_call has156 rfl (c_write_pen_next hg X (⟨p0.n, p0.look, p0.texts⟩ : Vwrite_pen) b0 d4 b1 s0 _ h5) (pc rm0 (pc rm3 (pc rm0 (pc rm0 pn)))) ?_)
  refine o_end (e_seq (c_seq (c_region (o1 rfl (o_p rfl (o_end ?_))))))
  refine e_seq (c_ret (e_ret ?_))
  refine r_endt rfl rfl (kc rm0 (kc rm0 (kc rm0 (kc rm0 (kd kr))))) ?_
  obtain rfl := Option.some.inj h
  exact hk

theorem c_space_Space_Place {g : Gw} (hg : GK g) (X : HP) (p0 : Vspace_Space) (b0 : Nat) (s0 : SV) (p1 : Int) (r : Vspace_Space) (h : m_space_Space_Place p0 p1 = some r) : Tri env g 58 (List.toArray [(.pointer (some ⟨b0, 0, none⟩)), (.int .i64 p1)]) [X, blk b0 (.cells (List.toArray [(.int .i64 p0.model), (.bool p0.alternate), (.int .i64 p0.size.Rows), (.int .i64 p0.size.Cols), (SV.val s0), (.int .i64 p0.cursor), (.int .i64 p0.attrs)]) 116 (0, 0)), slO s0 80 en_Vapi_Cell p0.cells] (fun K R => K (.tuple (List.toArray [])) (X :: blk b0 (.cells (List.toArray [(.int .i64 r.model), (.bool r.alternate), (.int .i64 r.size.Rows), (.int .i64 r.size.Cols), (SV.val s0), (.int .i64 r.cursor), (.int .i64 r.attrs)]) 116 (0, 0)) :: slO s0 80 en_Vapi_Cell r.cells :: R)) := by
 refine tri_of (fn := Tryz.f58) (N := 15) Tryz.func58 rfl rfl rfl ?_
 intro R K hk
 unfold m_space_Space_Place at h
 change GC _ none _ [] [(0, (.pointer (some ⟨b0, 0, none⟩))), (1, (.int .i64 p1))] (X :: blk b0 (.cells (List.toArray [(.int .i64 p0.model), (.bool p0.alternate), (.int .i64 p0.size.Rows), (.int .i64 p0.size.Cols), (SV.val s0), (.int .i64 p0.cursor), (.int .i64 p0.attrs)]) 116 (0, 0)) :: slO s0 80 en_Vapi_Cell p0.cells :: R) g _ _
 refine c_seq (c_region (o1 rfl (o_p rfl ?_)))
 refine o1 rfl (o_p (v := (.bool true)) rfl ?_)
 refine o_end (e_seq ?_)
 refine c_cond_t rfl rfl ?_
 refine c_region (o1 rfl (o_p rfl (o1 rfl (o_p rfl (o1 rfl (o_p rfl ?_))))))
 refine o1 rfl (o_fa (fd := ⟨ "size", 102, 2, false, "", "vitrine/space", 16⟩) rfl rfl rfl rfl rfl ?_)
 refine o1 rfl (o_ld (b := b0) (off := 2) (v := (.agg (List.toArray [(.int .i64 p0.size.Rows), (.int .i64 p0.size.Cols)]))) rfl rm1 rfl rfl ?_)
 refine o1 rfl (o_p rfl ?_)
 replace h := bsome h
 obtain ⟨d1, h1, h⟩ := h
 refine o1 rfl (o_call has61 rfl (c_addr_Size_Wrap hg X p0.size p1 _ h1) (pc rm0 pn) ?_)
 refine o1 rfl (o_p rfl ?_)
 refine o1 rfl (o_fa (fd := ⟨ "cursor", 3, 5, false, "", "vitrine/space", 56⟩) rfl rfl rfl rfl rfl ?_)
 refine o0 (o_st (b := b0) (off := 5) (vs := [(.int .i64 d1)]) (cs' := [(.int .i64 p0.model), (.bool p0.alternate), (.int .i64 p0.size.Rows), (.int .i64 p0.size.Cols), (SV.val s0), (.int .i64 d1), (.int .i64 p0.attrs)]) rfl rfl rp1 rfl rfl rfl rfl rfl rfl ?_)
 refine o_end (e_fall ?_)
 refine r_endt rfl rfl (kc rm0 (kc rm0 (kc rm0 kr))) ?_
 obtain rfl := Option.some.inj h
 exact hk

theorem c_field_first {g : Gw} (hg : GK g) (X : HP) (p0 : Vspace_Space) (b0 : Nat) (s0 : SV) (p1 : Int) (r : Bool) (h : m_field_first p0 p1 = some r) : Tri env g 194 (List.toArray [(.pointer (some ⟨b0, 0, none⟩)), (.int .i64 p1)]) [X, blk b0 (.cells (List.toArray [(.int .i64 p0.model), (.bool p0.alternate), (.int .i64 p0.size.Rows), (.int .i64 p0.size.Cols), (SV.val s0), (.int .i64 p0.cursor), (.int .i64 p0.attrs)]) 116 (0, 0)), slO s0 80 en_Vapi_Cell p0.cells] (fun K R => K (.bool r) (X :: blk b0 (.cells (List.toArray [(.int .i64 p0.model), (.bool p0.alternate), (.int .i64 p0.size.Rows), (.int .i64 p0.size.Cols), (SV.val s0), (.int .i64 p0.cursor), (.int .i64 p0.attrs)]) 116 (0, 0)) :: slO s0 80 en_Vapi_Cell p0.cells :: R)) := by
 refine tri_of (fn := Tryz.f194) (N := 26) Tryz.func194 rfl rfl rfl ?_
 intro R K hk
 unfold m_field_first at h
 change GC _ none _ [] [(0, (.pointer (some ⟨b0, 0, none⟩))), (1, (.int .i64 p1))] (X :: blk b0 (.cells (List.toArray [(.int .i64 p0.model), (.bool p0.alternate), (.int .i64 p0.size.Rows), (.int .i64 p0.size.Cols), (SV.val s0), (.int .i64 p0.cursor), (.int .i64 p0.attrs)]) 116 (0, 0)) :: slO s0 80 en_Vapi_Cell p0.cells :: R) g _ _
 refine c_seq (c_region (o1 rfl (o_p rfl (o_end (e_seq (c_seq ?_))))))
 refine c_region (o1 rfl (o_p rfl (o1 rfl (o_p rfl ?_))))
 refine o1 rfl (o_p (v := (.int .i64 (w64 (p1 - 1)))) rfl ?_)
 replace h := bsome h
 obtain ⟨d1, h1, h⟩ := h
 refine o1 rfl (o_call has57 rfl (c_space_Space_At hg X p0 b0 s0 (w64 (p1 - 1)) _ h1) (pc rm0 (pc rm0 (pc rm0 pn))) ?_)
 refine o1 rfl (o_alloc (cs := [(.int .u8 0), (.bool false), (.int .u8 0), (.int .u8 0), (.int .u8 0), (.int .u8 0)]) rfl rfl (fun b538 => ?_))
 refine o0 (o_st (b := b538) (off := 0) (vs := [(.int .u8 d1.Char), (.bool d1.Attr), (.int .u8 d1.FA), (.int .u8 d1.High), (.int .u8 d1.Color), (.int .u8 d1.f_Set)]) (cs' := [(.int .u8 d1.Char), (.bool d1.Attr), (.int .u8 d1.FA), (.int .u8 d1.High), (.int .u8 d1.Color), (.int .u8 d1.f_Set)]) rfl rfl rp0 rfl rfl rfl rfl rfl rfl ?_)
 refine o_end (e_seq (c_seq ?_))
 replace h := bsome h
 obtain ⟨d2, h, hk2⟩ := h
 refine cj (D := Unit) (ι := Unit) (fun _ i2 => True) (fun _ i2 => [(4, (.bool d2))]) (fun _ i2 => X :: blk b0 (.cells (List.toArray [(.int .i64 p0.model), (.bool p0.alternate), (.int .i64 p0.size.Rows), (.int .i64 p0.size.Cols), (SV.val s0), (.int .i64 p0.cursor), (.int .i64 p0.attrs)]) 116 (0, 0)) :: slO s0 80 en_Vapi_Cell p0.cells :: R) ?_ ?_
 ·refine c_region ?_
  refine o1 rfl (o_fa (fd := ⟨ "Attr", 4, 1, false, "", "", 1⟩) rfl rfl rfl rfl rfl ?_)
  refine o1 rfl (o_ld (b := b538) (off := 1) (v := (.bool d1.Attr)) rfl rm0 rfl rfl ?_)
  refine o1 rfl (o_p rfl ?_)
  rcases bool_or (d1.Attr) with hb540 | hb540
  ·replace h := cond_t hb540 h
   refine oy rfl rfl rfl hb540 (o_p rfl ?_)
   refine oy rfl rfl rfl hb540 (o_p rfl ?_)
   replace h := bsome h
   obtain ⟨d3, h3, h⟩ := h
   refine oy rfl rfl rfl hb540 (o_call has57 rfl (c_space_Space_At hg X p0 b0 s0 p1 _ h3) (pc rm1 (pc rm1 (pc rm1 pn))) ?_)
   refine oy rfl rfl rfl hb540 (o_field (v := (.bool d3.Attr)) rfl rfl rfl ?_)
   refine oy rfl rfl rfl hb540 (o_p (v := (.bool (!d3.Attr))) rfl ?_)
   refine o1 rfl (o_pick_t rfl hb540 rfl ?_)
   refine o1 rfl (o_p rfl ?_)
   rcases bool_or ((!d3.Attr)) with hb541 | hb541
   ·replace h := cond_t hb541 h
    refine oy rfl rfl rfl hb541 (o_fa (fd := ⟨ "FA", 5, 2, false, "", "", 2⟩) rfl rfl rfl rfl rfl ?_)
    refine oy rfl rfl rfl hb541 (o_ld (b := b538) (off := 2) (v := (.int .u8 d1.FA)) rfl rm3 rfl rfl ?_)
    replace h := bsome h
    obtain ⟨d4, h4, h⟩ := h
    refine oy rfl rfl rfl hb541 (o_call has121 rfl (c_attr_Of hg X d1.FA _ h4) (pc rm0 pn) ?_)
    refine oy rfl rfl rfl hb541 (o_field (v := (.bool d4.Protected)) rfl rfl rfl ?_)
    refine oy rfl rfl rfl hb541 (o_p (v := (.bool (!d4.Protected))) rfl ?_)
    refine o1 rfl (o_pick_t rfl hb541 rfl ?_)
    refine o1 rfl (o_p rfl (o_end ?_))
    obtain rfl := Option.some.inj h
    exact ej () () trivial (sc rfl sn) (kc rm0 (kc rm0 (kc rm0 (kd kr))))
   ·replace h := cond_f hb541 h
    refine on rfl rfl rfl hb541 ?_
    refine on rfl rfl rfl hb541 ?_
    refine on rfl rfl rfl hb541 ?_
    refine on rfl rfl rfl hb541 ?_
    refine on rfl rfl rfl hb541 ?_
    refine o1 rfl (o_pick_f rfl hb541 rfl ?_)
    refine o1 rfl (o_p rfl (o_end ?_))
    obtain rfl := Option.some.inj h
    exact ej () () trivial (sc rfl sn) (kc rm0 (kc rm0 (kc rm0 (kd kr))))
  ·replace h := cond_f hb540 h
   refine on rfl rfl rfl hb540 ?_
   refine on rfl rfl rfl hb540 ?_
   refine on rfl rfl rfl hb540 ?_
   refine on rfl rfl rfl hb540 ?_
   refine on rfl rfl rfl hb540 ?_
   refine o1 rfl (o_pick_f rfl hb540 rfl ?_)
   refine o1 rfl (o_p rfl ?_)
   refine on rfl rfl rfl rfl ?_
   refine on rfl rfl rfl rfl ?_
   refine on rfl rfl rfl rfl ?_
   refine on rfl rfl rfl rfl ?_
   refine on rfl rfl rfl rfl ?_
   refine o1 rfl (o_pick_f rfl rfl rfl ?_)
   refine o1 rfl (o_p rfl (o_end ?_))
   obtain rfl := Option.some.inj h
   exact ej () () trivial (sc rfl sn) (kc rm1 (kc rm1 (kc rm1 (kd kr))))
 ·rintro _ i2 _
  replace h := hk2
  clear hk2
  refine e_seq (c_ret (e_ret ?_))
  refine r_endt rfl rfl (kc rm0 (kc rm0 (kc rm0 kr))) ?_
  obtain rfl := Option.some.inj h
  exact hk

theorem c_field_find {g : Gw} (hg : GK g) (X : HP) (p0 : Vspace_Space) (b0 : Nat) (s0 : SV) (p1 : Int) (p2 : Int) (r : Int) (h : m_field_find p0 p1 p2 = some r) : Tri env g 175 (List.toArray [(.pointer (some ⟨b0, 0, none⟩)), (.int .i64 p1), (.int .i64 p2)]) [X, blk b0 (.cells (List.toArray [(.int .i64 p0.model), (.bool p0.alternate), (.int .i64 p0.size.Rows), (.int .i64 p0.size.Cols), (SV.val s0), (.int .i64 p0.cursor), (.int .i64 p0.attrs)]) 116 (0, 0)), slO s0 80 en_Vapi_Cell p0.cells] (fun K R => K (.int .i64 r) (X :: blk b0 (.cells (List.toArray [(.int .i64 p0.model), (.bool p0.alternate), (.int .i64 p0.size.Rows), (.int .i64 p0.size.Cols), (SV.val s0), (.int .i64 p0.cursor), (.int .i64 p0.attrs)]) 116 (0, 0)) :: slO s0 80 en_Vapi_Cell p0.cells :: R)) := by
 refine tri_of (fn := Tryz.f175) (N := 24) Tryz.func175 rfl rfl rfl ?_
 intro R K hk
 unfold m_field_find at h
 change GC _ none _ [] [(0, (.pointer (some ⟨b0, 0, none⟩))), (1, (.int .i64 p1)), (2, (.int .i64 p2))] (X :: blk b0 (.cells (List.toArray [(.int .i64 p0.model), (.bool p0.alternate), (.int .i64 p0.size.Rows), (.int .i64 p0.size.Cols), (SV.val s0), (.int .i64 p0.cursor), (.int .i64 p0.attrs)]) 116 (0, 0)) :: slO s0 80 en_Vapi_Cell p0.cells :: R) g _ _
 refine c_seq (c_region (o1 rfl (o_p rfl (o_end (e_seq (c_seq ?_))))))
 refine c_region (o1 rfl (o_p rfl ?_))
 replace h := bsome h
 obtain ⟨d1, h1, h⟩ := h
 refine o1 rfl (o_call has51 rfl (c_space_Space_Size hg X p0 b0 s0 _ h1) (pc rm0 (pc rm0 (pc rm0 pn))) ?_)
 refine o1 rfl (o_alloc (cs := [(.int .i64 0), (.int .i64 0)]) rfl rfl (fun b535 => ?_))
 refine o0 (o_st (b := b535) (off := 0) (vs := [(.int .i64 d1.Rows), (.int .i64 d1.Cols)]) (cs' := [(.int .i64 d1.Rows), (.int .i64 d1.Cols)]) rfl rfl rp0 rfl rfl rfl rfl rfl rfl ?_)
 refine o_end (e_seq (c_seq (c_seq (c_region ?_))))
 refine o1 rfl (o_ld (b := b535) (off := 0) (v := (.agg (List.toArray [(.int .i64 d1.Rows), (.int .i64 d1.Cols)]))) rfl rm0 rfl rfl ?_)
 replace h := bsome h
 obtain ⟨d2, h2, h⟩ := h
 refine o1 rfl (o_call has52 rfl (c_addr_Size_Cells hg X (⟨d1.Rows, d1.Cols⟩ : Vaddr_Size) _ h2) (pc rm1 pn) ?_)
 refine o1 rfl (o_p rfl (o_end (e_seq ?_)))
 replace h := jn_some h
 obtain ⟨y3, h, hk3⟩ := h
 refine cj (D := Unit) (ι := Unit) (fun d3 i3 => y3 = Sum.inl d3) (fun d3 i3 => []) (fun d3 i3 => X :: blk b0 (.cells (List.toArray [(.int .i64 p0.model), (.bool p0.alternate), (.int .i64 p0.size.Rows), (.int .i64 p0.size.Cols), (SV.val s0), (.int .i64 p0.cursor), (.int .i64 p0.attrs)]) 116 (0, 0)) :: slO s0 80 en_Vapi_Cell p0.cells :: R) ?_ ?_
 ·refine c_block ?_
  refine c_loop (l_sub (sc rfl (sc rfl (sc rfl (sc rfl (sc rfl (sc rfl sn)))))) (l_keep (kc rm0 (kc rm0 (kc rm0 (kc rm0 kr)))) (lf (X := Int × Int) (ι := Unit) (fun k x => field_find_l4 p0 p2 d1 d2 k x) _ (fun x4 i4 => True) (fun x4 i4 => [(12, (.int .i64 x4.1)), (11, (.int .i64 d2)), (7, (.pointer (some ⟨b535, 0, none⟩))), (0, (.pointer (some ⟨b0, 0, none⟩))), (1, (.int .i64 x4.2)), (2, (.int .i64 p2))]) (fun x4 i4 => X :: blk b535 (.cells (List.toArray [(.int .i64 d1.Rows), (.int .i64 d1.Cols)]) 102 (0, 0)) :: blk b0 (.cells (List.toArray [(.int .i64 p0.model), (.bool p0.alternate), (.int .i64 p0.size.Rows), (.int .i64 p0.size.Cols), (SV.val s0), (.int .i64 p0.cursor), (.int .i64 p0.attrs)]) 116 (0, 0)) :: slO s0 80 en_Vapi_Cell p0.cells :: R) (fun _ => rfl) ?_ fuel (0, p1) () trivial h)))
  clear h
  rintro k4 ih4 x4 i4 _ h
  rw [field_find_l4.eq_2] at h
  refine l_round (c_seq (c_region ?_))
  refine o1 rfl (o_p (v := (.bool (decide (x4.1 < d2)))) rfl ?_)
  refine o_end (e_seq (c_seq ?_))
  refine c_cond (b := (decide (x4.1 < d2))) rfl (fun hb545 => ?_) (fun hb545 => ?_)
  ·replace h := cond_t hb545 h
   refine c_skip (e_seq (c_seq (c_block (c_seq (c_region ?_)))))
   refine o1 rfl (o_ld (b := b535) (off := 0) (v := (.agg (List.toArray [(.int .i64 d1.Rows), (.int .i64 d1.Cols)]))) rfl rm1 rfl rfl ?_)
   refine o1 rfl (o_p rfl (o1 rfl (o_p rfl ?_)))
   refine o1 rfl (o_p (v := (.int .i64 (w64 (x4.2 + p2)))) rfl ?_)
   replace h := bsome h
   obtain ⟨d7, h7, h⟩ := h
   refine o1 rfl (o_call has61 rfl (c_addr_Size_Wrap hg X (⟨d1.Rows, d1.Cols⟩ : Vaddr_Size) (w64 (x4.2 + p2)) _ h7) (pc rm0 pn) ?_)
   refine o1 rfl (o_p rfl (o_end (e_seq (c_seq (c_region (o1 rfl (o_p rfl ?_)))))))
   refine o1 rfl (o_p rfl ?_)
   replace h := bsome h
   obtain ⟨d8, h8, h⟩ := h
   refine o1 rfl (o_call has194 rfl (c_field_first hg X p0 b0 s0 d7 _ h8) (pc rm0 (pc rm1 (pc rm1 pn))) ?_)
   refine o_end (e_seq ?_)
   refine c_cond (b := d8) rfl (fun hb546 => ?_) (fun hb546 => ?_)
   ·replace h := cond_t hb546 h
    refine c_seq (c_region (o1 rfl (o_p rfl (o1 rfl (o_p rfl (o_end (e_seq ?_)))))))
    refine c_ret (e_blk_ret (e_then_ret (e_then_ret (e_blk_ret (ej_ret ?_)))))
    replace h := esc_some h
    obtain ⟨z3, h, rfl⟩ := h
    obtain rfl := (hk3 : z3 = _)
    refine e_then_ret (e_ret ?_)
    refine r_endt rfl rfl (kc rm0 (kc rm0 (kc rm0 (kd kr)))) ?_
    obtain rfl := Option.some.inj h
    exact hk
   ·replace h := cond_f hb546 h
    refine c_skip (e_blk (e_seq (c_region ?_)))
    refine o1 rfl (o_p (v := (.int .i64 (w64 (x4.1 + 1)))) rfl ?_)
    refine o1 rfl (o_p rfl (o_end ?_))
    exact e_loop (l_sub (sc rfl (sc rfl (sc rfl (sc rfl (sc rfl (sc rfl sn)))))) (l_keep (kc rm0 (kc rm2 (kc rm0 (kc rm0 kr)))) (ih4 (w64 (x4.1 + 1), d7) () trivial h)))
  ·replace h := cond_f hb545 h
   refine c_exit (e_then_exit (e_then_exit (e_blk_exit ?_)))
   obtain rfl := Option.some.inj h
   exact ej () () rfl sn (kc rm0 (kc rm1 (kc rm1 (kd kr))))
 ·rintro d3 i3 rfl
  replace h := JK_inl hk3
  clear hk3
  refine e_seq (c_seq (c_region (o1 rfl (o_p rfl (o_end (e_seq ?_))))))
  refine c_ret (e_ret ?_)
  refine r_endt rfl rfl (kc rm0 (kc rm0 (kc rm0 kr))) ?_
  obtain rfl := Option.some.inj h
  exact hk

theorem c_field_Next {g : Gw} (hg : GK g) (X : HP) (p0 : Vspace_Space) (b0 : Nat) (s0 : SV) (p1 : Int) (r : Int) (h : m_field_Next p0 p1 = some r) : Tri env g 145 (List.toArray [(.pointer (some ⟨b0, 0, none⟩)), (.int .i64 p1)]) [X, blk b0 (.cells (List.toArray [(.int .i64 p0.model), (.bool p0.alternate), (.int .i64 p0.size.Rows), (.int .i64 p0.size.Cols), (SV.val s0), (.int .i64 p0.cursor), (.int .i64 p0.attrs)]) 116 (0, 0)), slO s0 80 en_Vapi_Cell p0.cells] (fun K R => K (.int .i64 r) (X :: blk b0 (.cells (List.toArray [(.int .i64 p0.model), (.bool p0.alternate), (.int .i64 p0.size.Rows), (.int .i64 p0.size.Cols), (SV.val s0), (.int .i64 p0.cursor), (.int .i64 p0.attrs)]) 116 (0, 0)) :: slO s0 80 en_Vapi_Cell p0.cells :: R)) := by
 refine tri_of (fn := Tryz.f145) (N := 11) Tryz.func145 rfl rfl rfl ?_
 intro R K hk
 unfold m_field_Next at h
 change GC _ none _ [] [(0, (.pointer (some ⟨b0, 0, none⟩))), (1, (.int .i64 p1))] (X :: blk b0 (.cells (List.toArray [(.int .i64 p0.model), (.bool p0.alternate), (.int .i64 p0.size.Rows), (.int .i64 p0.size.Cols), (SV.val s0), (.int .i64 p0.cursor), (.int .i64 p0.attrs)]) 116 (0, 0)) :: slO s0 80 en_Vapi_Cell p0.cells :: R) g _ _
 refine c_seq (c_region (o1 rfl (o_p rfl (o_end (e_seq (c_seq ?_))))))
 refine c_region (o1 rfl (o_p rfl (o1 rfl (o_p rfl ?_))))
 replace h := bsome h
 obtain ⟨d1, h1, h⟩ := h
 refine o1 rfl (o_call has51 rfl (c_space_Space_Size hg X p0 b0 s0 _ h1) (pc rm0 (pc rm0 (pc rm0 pn))) ?_)
 refine o1 rfl (o_p rfl ?_)
 replace h := bsome h
 obtain ⟨d2, h2, h⟩ := h
 refine o1 rfl (o_call has61 rfl (c_addr_Size_Wrap hg X (⟨d1.Rows, d1.Cols⟩ : Vaddr_Size) p1 _ h2) (pc rm0 pn) ?_)
 replace h := bsome h
 obtain ⟨d3, h3, h⟩ := h
 refine o1 rfl (o_call has175 rfl (c_field_find hg X p0 b0 s0 d2 1 _ h3) (pc rm0 (pc rm0 (pc rm0 pn))) ?_)
 refine o1 rfl (o_p rfl (o_end (e_seq (c_ret (e_ret ?_)))))
 refine r_endt rfl rfl (kc rm0 (kc rm0 (kc rm0 kr))) ?_
 obtain rfl := Option.some.inj h
 exact hk

theorem c_write_pen_tab {g : Gw} (hg : GK g) (X : HP) (p0 : Vwrite_pen) (b0 : Nat) (p1 : Vspace_Space) (b1 : Nat) (s0 : SV) (r : Vspace_Space × Vwrite_pen) (h : m_write_pen_tab p0 p1 = some r) : Tri env g 118 (List.toArray [(.pointer (some ⟨b0, 0, none⟩))]) [X, blk b0 (.cells (List.toArray [(.pointer (some ⟨b1, 0, none⟩)), (.int .i64 p0.n), (.int .u8 p0.look.Char), (.bool p0.look.Attr), (.int .u8 p0.look.FA), (.int .u8 p0.look.High), (.int .u8 p0.look.Color), (.int .u8 p0.look.f_Set), (.bool p0.texts)]) 123 (0, 0)), blk b1 (.cells (List.toArray [(.int .i64 p1.model), (.bool p1.alternate), (.int .i64 p1.size.Rows), (.int .i64 p1.size.Cols), (SV.val s0), (.int .i64 p1.cursor), (.int .i64 p1.attrs)]) 116 (0, 0)), slO s0 80 en_Vapi_Cell p1.cells] (fun K R => K (.tuple (List.toArray [])) (X :: blk b1 (.cells (List.toArray [(.int .i64 r.1.model), (.bool r.1.alternate), (.int .i64 r.1.size.Rows), (.int .i64 r.1.size.Cols), (SV.val s0), (.int .i64 r.1.cursor), (.int .i64 r.1.attrs)]) 116 (0, 0)) :: slO s0 80 en_Vapi_Cell r.1.cells :: blk b0 (.cells (List.toArray [(.pointer (some ⟨b1, 0, none⟩)), (.int .i64 r.2.n), (.int .u8 r.2.look.Char), (.bool r.2.look.Attr), (.int .u8 r.2.look.FA), (.int .u8 r.2.look.High), (.int .u8 r.2.look.Color), (.int .u8 r.2.look.f_Set), (.bool r.2.texts)]) 123 (0, 0)) :: R)) := by
 refine tri_of (fn := Tryz.f118) (N := 59) Tryz.func118 rfl rfl rfl ?_
 intro R K hk
 unfold m_write_pen_tab at h
 change GC _ none _ [] [(0, (.pointer (some ⟨b0, 0, none⟩)))] (X :: blk b0 (.cells (List.toArray [(.pointer (some ⟨b1, 0, none⟩)), (.int .i64 p0.n), (.int .u8 p0.look.Char), (.bool p0.look.Attr), (.int .u8 p0.look.FA), (.int .u8 p0.look.High), (.int .u8 p0.look.Color), (.int .u8 p0.look.f_Set), (.bool p0.texts)]) 123 (0, 0)) :: blk b1 (.cells (List.toArray [(.int .i64 p1.model), (.bool p1.alternate), (.int .i64 p1.size.Rows), (.int .i64 p1.size.Cols), (SV.val s0), (.int .i64 p1.cursor), (.int .i64 p1.attrs)]) 116 (0, 0)) :: slO s0 80 en_Vapi_Cell p1.cells :: R) g _ _
 refine c_seq (c_region (o1 rfl (o_p rfl (o1 rfl (o_p rfl ?_)))))
 refine o1 rfl (o_fa (fd := ⟨ "s", 24, 0, false, "", "vitrine/write", 0⟩) rfl rfl rfl rfl rfl ?_)
 refine o1 rfl (o_ld (b := b0) (off := 0) (v := (.pointer (some ⟨b1, 0, none⟩))) rfl rm1 rfl rfl ?_)
 replace h := bsome h
 obtain ⟨d1, h1, h⟩ := h
 refine o1 rfl (o_call has51 rfl (c_space_Space_Size hg X p1 b1 s0 _ h1) (pc rm0 (pc rm1 (pc rm1 pn))) ?_)
 refine o1 rfl (o_alloc (cs := [(.int .i64 0), (.int .i64 0)]) rfl rfl (fun b518 => ?_))
 refine o0 (o_st (b := b518) (off := 0) (vs := [(.int .i64 d1.Rows), (.int .i64 d1.Cols)]) (cs' := [(.int .i64 d1.Rows), (.int .i64 d1.Cols)]) rfl rfl rp0 rfl rfl rfl rfl rfl rfl ?_)
 refine o_end (e_seq (c_seq (c_seq (c_region (o1 rfl (o_p rfl ?_))))))
 refine o1 rfl (o_p rfl ?_)
 refine o1 rfl (o_fa (fd := ⟨ "texts", 4, 8, false, "", "vitrine/write", 22⟩) rfl rfl rfl rfl rfl ?_)
 refine o1 rfl (o_ld (b := b0) (off := 8) (v := (.bool p0.texts)) rfl rm4 rfl rfl ?_)
 refine o_end (e_seq ?_)
 replace h := bsome h
 obtain ⟨d2, h, hk2⟩ := h
 refine cj (D := Unit) (ι := Unit) (fun _ i2 => True) (fun _ i2 => [(0, (.pointer (some ⟨b0, 0, none⟩)))]) (fun _ i2 => X :: blk b0 (.cells (List.toArray [(.pointer (some ⟨b1, 0, none⟩)), (.int .i64 p0.n), (.int .u8 p0.look.Char), (.bool p0.look.Attr), (.int .u8 p0.look.FA), (.int .u8 p0.look.High), (.int .u8 p0.look.Color), (.int .u8 p0.look.f_Set), (.bool p0.texts)]) 123 (0, 0)) :: blk b1 (.cells (List.toArray [(.int .i64 d2.1), (.bool d2.2.1), (.int .i64 d2.2.2.1), (.int .i64 d2.2.2.2.1), (SV.val s0), (.int .i64 d2.2.2.2.2.2.1), (.int .i64 d2.2.2.2.2.2.2)]) 116 (0, 0)) :: slO s0 80 en_Vapi_Cell d2.2.2.2.2.1 :: R) ?_ ?_
 ·refine c_cond (b := p0.texts) rfl (fun hb520 => ?_) (fun hb520 => ?_)
  ·replace h := cond_t hb520 h
   refine c_scope (c_seq (c_label (e_seq (c_seq (c_region ?_)))))
   refine o1 rfl (o_p rfl (o1 rfl (o_p rfl ?_)))
   refine o1 rfl (o_fa (fd := ⟨ "n", 3, 1, false, "", "vitrine/write", 8⟩) rfl rfl rfl rfl rfl ?_)
   refine o1 rfl (o_ld (b := b0) (off := 1) (v := (.int .i64 p0.n)) rfl rm4 rfl rfl ?_)
   refine o1 rfl (o_p rfl (o_end (e_seq ?_)))
   replace h := bsome h
   obtain ⟨d3, h, hk3⟩ := h
   refine cj (D := Unit) (ι := Unit) (fun _ i3 => True) (fun _ i3 => [(0, (.pointer (some ⟨b0, 0, none⟩)))]) (fun _ i3 => X :: blk b0 (.cells (List.toArray [(.pointer (some ⟨b1, 0, none⟩)), (.int .i64 p0.n), (.int .u8 p0.look.Char), (.bool p0.look.Attr), (.int .u8 p0.look.FA), (.int .u8 p0.look.High), (.int .u8 p0.look.Color), (.int .u8 p0.look.f_Set), (.bool p0.texts)]) 123 (0, 0)) :: blk b1 (.cells (List.toArray [(.int .i64 d3.1), (.bool d3.2.1), (.int .i64 d3.2.2.1), (.int .i64 d3.2.2.2.1), (SV.val s0), (.int .i64 d3.2.2.2.2.2.1), (.int .i64 d3.2.2.2.2.2.2)]) 116 (0, 0)) :: slO s0 80 en_Vapi_Cell d3.2.2.2.2.1 :: R) ?_ ?_
   ·refine c_block ?_
    refine c_loop (l_sub (sc rfl (sc rfl (sc rfl sn))) (l_keep (kc rm1 (kc rm0 (kc rm2 (kc rm0 (kc rm0 kr))))) (lf (X := Int × Int × Bool × Int × Int × (List Vapi_Cell) × Int × Int) (ι := Unit) (fun k x => write_pen_tab_l4 d1 k x) _ (fun x4 i4 => True) (fun x4 i4 => [(3, (.int .i64 x4.1)), (2, (.pointer (some ⟨b518, 0, none⟩))), (0, (.pointer (some ⟨b0, 0, none⟩)))]) (fun x4 i4 => X :: blk b518 (.cells (List.toArray [(.int .i64 d1.Rows), (.int .i64 d1.Cols)]) 102 (0, 0)) :: blk b0 (.cells (List.toArray [(.pointer (some ⟨b1, 0, none⟩)), (.int .i64 p0.n), (.int .u8 p0.look.Char), (.bool p0.look.Attr), (.int .u8 p0.look.FA), (.int .u8 p0.look.High), (.int .u8 p0.look.Color), (.int .u8 p0.look.f_Set), (.bool p0.texts)]) 123 (0, 0)) :: blk b1 (.cells (List.toArray [(.int .i64 x4.2.1), (.bool x4.2.2.1), (.int .i64 x4.2.2.2.1), (.int .i64 x4.2.2.2.2.1), (SV.val s0), (.int .i64 x4.2.2.2.2.2.2.1), (.int .i64 x4.2.2.2.2.2.2.2)]) 116 (0, 0)) :: slO s0 80 en_Vapi_Cell x4.2.2.2.2.2.1 :: R) (fun _ => rfl) ?_ fuel (p0.n, p1.model, p1.alternate, p1.size.Rows, p1.size.Cols, p1.cells, p1.cursor, p1.attrs) () trivial h)))
    clear h
    rintro k4 ih4 x4 i4 _ h
    rw [write_pen_tab_l4.eq_2] at h
    refine l_round (c_seq (c_seq (c_region (o1 rfl (o_p rfl ?_)))))
    refine o1 rfl (o_ld (b := b518) (off := 0) (v := (.agg (List.toArray [(.int .i64 d1.Rows), (.int .i64 d1.Cols)]))) rfl rm1 rfl rfl ?_)
    replace h := bsome h
    obtain ⟨d5, h5, h⟩ := h
    refine o1 rfl (o_call has52 rfl (c_addr_Size_Cells hg X (⟨d1.Rows, d1.Cols⟩ : Vaddr_Size) _ h5) (pc rm0 pn) ?_)
    refine o1 rfl (o_p (v := (.bool (decide (x4.1 < d5)))) rfl ?_)
    refine o_end (e_seq ?_)
    refine c_cond (b := (decide (x4.1 < d5))) rfl (fun hb529 => ?_) (fun hb529 => ?_)
    ·replace h := cond_t hb529 h
     refine c_skip (e_seq (c_seq (c_block (c_seq (c_seq ?_)))))
     refine c_region (o1 rfl (o_p rfl (o1 rfl (o_p rfl ?_))))
     refine o1 rfl (o_fa (fd := ⟨ "s", 24, 0, false, "", "vitrine/write", 0⟩) rfl rfl rfl rfl rfl ?_)
     refine o1 rfl (o_ld (b := b0) (off := 0) (v := (.pointer (some ⟨b1, 0, none⟩))) rfl rm2 rfl rfl ?_)
     refine o1 rfl (o_p rfl ?_)
     replace h := bsome h
     obtain ⟨d8, h8, h⟩ := h
     refine o1 rfl (o_call has57 rfl (c_space_Space_At hg X (⟨x4.2.1, x4.2.2.1, (⟨x4.2.2.2.1, x4.2.2.2.2.1⟩ : Vaddr_Size), x4.2.2.2.2.2.1, x4.2.2.2.2.2.2.1, x4.2.2.2.2.2.2.2⟩ : Vspace_Space) b1 s0 x4.1 _ h8) (pc rm0 (pc rm2 (pc rm2 pn))) ?_)
     refine o1 rfl (o_field (v := (.bool d8.Attr)) rfl rfl rfl ?_)
     refine o_end (e_seq ?_)
     refine c_cond (b := d8.Attr) rfl (fun hb530 => ?_) (fun hb530 => ?_)
     ·replace h := cond_t hb530 h
      refine c_exit (e_then_exit ?_)
      refine e_blk_exit_ne rfl ?_
      refine e_then_exit (e_then_exit (e_blk_exit ?_))
      obtain rfl := Option.some.inj h
      exact ej () () trivial (sc rfl sn) (kc rm0 (kc rm3 (kc rm0 (kc rm0 (kd kr)))))
     ·replace h := cond_f hb530 h
      refine c_skip (e_seq (c_region (o1 rfl (o_p rfl (o1 rfl (o_p rfl ?_))))))
      refine o1 rfl (o_fa (fd := ⟨ "s", 24, 0, false, "", "vitrine/write", 0⟩) rfl rfl rfl rfl rfl ?_)
      refine o1 rfl (o_ld (b := b0) (off := 0) (v := (.pointer (some ⟨b1, 0, none⟩))) rfl rm4 rfl rfl ?_)
      refine o1 rfl (o_p rfl ?_)
      replace h := bsome h
      obtain ⟨d10, h10, h⟩ := h
      refine o1 rfl (o_call has40 rfl (c_space_Space_Put hg X (⟨x4.2.1, x4.2.2.1, (⟨x4.2.2.2.1, x4.2.2.2.2.1⟩ : Vaddr_Size), x4.2.2.2.2.2.1, x4.2.2.2.2.2.2.1, x4.2.2.2.2.2.2.2⟩ : Vspace_Space) b1 s0 x4.1 0 _ h10) (pc rm0 (pc rm0 (pc rm0 pn))) ?_)
      refine o_end (e_blk (e_seq (c_region (o1 rfl (o_p rfl ?_)))))
      refine o1 rfl (o_p (v := (.int .i64 (w64 (x4.1 + 1)))) rfl ?_)
      refine o1 rfl (o_p rfl (o_end ?_))
      exact e_loop (l_sub (sc rfl (sc rfl (sc rfl sn))) (l_keep (kc rm0 (kc rm2 (kc rm2 (kc rm0 (kc rm0 kr))))) (ih4 (w64 (x4.1 + 1), d10.model, d10.alternate, d10.size.Rows, d10.size.Cols, d10.cells, d10.cursor, d10.attrs) () trivial h)))
    ·replace h := cond_f hb529 h
     refine c_exit (e_then_exit (e_then_exit (e_blk_exit ?_)))
     obtain rfl := Option.some.inj h
     exact ej () () trivial (sc rfl sn) (kc rm0 (kc rm1 (kc rm1 (kc rm1 (kd kr)))))
   ·rintro _ i3 _
    replace h := hk3
    clear hk3
    refine e_ngo ?_
    obtain rfl := Option.some.inj h
    exact ej () () trivial (sc rfl sn) (kc rm0 (kc rm0 (kc rm0 (kc rm0 kr))))
  ·replace h := cond_f hb520 h
   refine c_skip ?_
   obtain rfl := Option.some.inj h
   exact ej () () trivial (sc rfl sn) (kc rm1 (kc rm3 (kc rm1 (kc rm1 (kd kr)))))
 ·rintro _ i2 _
  replace h := hk2
  clear hk2
  refine e_seq (c_seq ?_)
  refine c_draw (n := 1) (q := [(0, 37, (.pointer (some ⟨b0, 0, none⟩))), (1, 38, (.pointer (some ⟨b0, 0, none⟩))), (2, 39, (.pointer (some ⟨b0, 0, none⟩))), (3, 40, (.pointer (some ⟨b1, 0, none⟩))), (4, 41, (.pointer (some ⟨b0, 0, none⟩))), (5, 42, (.pointer (some ⟨b0, 0, none⟩))), (6, 43, (.pointer (some ⟨b0, 1, none⟩))), (7, 44, (.int .i64 p0.n))]) (pend := [0, 1, 2, 3, 4, 5, 6, 7]) rfl rfl rfl ?_
  replace h := bsome h
  obtain ⟨d12, h12, h⟩ := h
  refine ⟨⟨fun _ => ⟨rfl, rfl, rfl, .inl ⟨rfl, (o_p rfl ⟨rfl, rfl⟩)⟩⟩, fun _ => ⟨rfl, rfl, rfl, .inl ⟨rfl, (o_p rfl ⟨rfl, rfl⟩)⟩⟩, fun _ => ⟨rfl, rfl, rfl, .inl ⟨rfl, (o_fa (fd := ⟨ "s", 24, 0, false, "", "vitrine/write", 0⟩) rfl rfl rfl rfl rfl ⟨rfl, rfl⟩)⟩⟩, fun _ => ⟨rfl, rfl, rfl, .inl ⟨rfl, (o_ld (b := b0) (off := 0) (v := (.pointer (some ⟨b1, 0, none⟩))) rfl rm1 rfl rfl ⟨rfl, rfl⟩)⟩⟩, fun _ => ⟨rfl, rfl, rfl, .inl ⟨rfl, (o_p rfl ⟨rfl, rfl⟩)⟩⟩, fun _ => ⟨rfl, rfl, rfl, .inl ⟨rfl, (o_p rfl ⟨rfl, rfl⟩)⟩⟩, fun _ => ⟨rfl, rfl, rfl, .inl ⟨rfl, (o_fa (fd := ⟨ "n", 3, 1, false, "", "vitrine/write", 8⟩) rfl rfl rfl rfl rfl ⟨rfl, rfl⟩)⟩⟩, fun _ => ⟨rfl, rfl, rfl, .inl ⟨rfl, (o_ld (b := b0) (off := 1) (v := (.int .i64 p0.n)) rfl rm1 rfl rfl ⟨rfl, rfl⟩)⟩⟩, trivial⟩, rfl, .inr ⟨[8], rfl, rfl, ⟨rfl, .inl rfl, ?_⟩, trivial⟩⟩
  refine (o_call has145 rfl (c_field_Next hg X (⟨d2.1, d2.2.1, (⟨d2.2.2.1, d2.2.2.2.1⟩ : Vaddr_Size), d2.2.2.2.2.1, d2.2.2.2.2.2.1, d2.2.2.2.2.2.2⟩ : Vspace_Space) b1 s0 p0.n _ h12) (pc rm0 (pc rm1 (pc rm1 pn))) ?_)
  refine ⟨[(9, 4, (.int .i64 d12))], [9], rfl, rfl, rfl, rfl, ?_⟩
  refine ⟨⟨fun _ => ⟨rfl, rfl, rfl, .inl ⟨rfl, (o_p rfl ⟨rfl, rfl⟩)⟩⟩, (fun h => nomatch h), (fun h => nomatch h), (fun h => nomatch h), (fun h => nomatch h), (fun h => nomatch h), (fun h => nomatch h), (fun h => nomatch h), (fun h => nomatch h), trivial⟩, rfl, rfl, rfl, ?_⟩
  refine e_seq (c_seq (c_region (o1 rfl (o_p rfl (o1 rfl (o_p rfl (o1 rfl (o_p rfl ?_))))))))
  refine o1 rfl (o_fa (fd := ⟨ "n", 3, 1, false, "", "vitrine/write", 8⟩) rfl rfl rfl rfl rfl ?_)
  refine o1 rfl (o_ld (b := b0) (off := 1) (v := (.int .i64 p0.n)) rfl rm3 rfl rfl ?_)
  refine o1 rfl (o_p (v := (.bool (decide (d12 > p0.n)))) rfl ?_)
  refine o_end (e_seq ?_)
  refine c_cond (b := (decide (d12 > p0.n))) rfl (fun hb547 => ?_) (fun hb547 => ?_)
  ·replace h := cond_t hb547 h
   refine c_region (o1 rfl (o_p rfl (o1 rfl (o_p rfl (o1 rfl (o_p rfl ?_))))))
   refine o1 rfl (o_fa (fd := ⟨ "n", 3, 1, false, "", "vitrine/write", 8⟩) rfl rfl rfl rfl rfl ?_)
   refine o0 (o_st (b := b0) (off := 1) (vs := [(.int .i64 d12)]) (cs' := [(.pointer (some ⟨b1, 0, none⟩)), (.int .i64 d12), (.int .u8 p0.look.Char), (.bool p0.look.Attr), (.int .u8 p0.look.FA), (.int .u8 p0.look.High), (.int .u8 p0.look.Color), (.int .u8 p0.look.f_Set), (.bool p0.texts)]) rfl rfl rp3 rfl rfl rfl rfl rfl rfl ?_)
   refine o_end (e_fall ?_)
   refine r_endt rfl rfl (kc rm0 (kc rm0 (kc rm0 (kc rm0 kr)))) ?_
   obtain rfl := Option.some.inj h
   exact hk
  ·replace h := cond_f hb547 h
   refine c_region (o1 rfl (o_p rfl (o1 rfl (o_p rfl ?_))))
   refine o1 rfl (o_fa (fd := ⟨ "n", 3, 1, false, "", "vitrine/write", 8⟩) rfl rfl rfl rfl rfl ?_)
   refine o0 (o_st (b := b0) (off := 1) (vs := [(.int .i64 0)]) (cs' := [(.pointer (some ⟨b1, 0, none⟩)), (.int .i64 0), (.int .u8 p0.look.Char), (.bool p0.look.Attr), (.int .u8 p0.look.FA), (.int .u8 p0.look.High), (.int .u8 p0.look.Color), (.int .u8 p0.look.f_Set), (.bool p0.texts)]) rfl rfl rp3 rfl rfl rfl rfl rfl rfl ?_)
   refine o_end (e_fall ?_)
   refine r_endt rfl rfl (kc rm0 (kc rm0 (kc rm0 (kc rm0 kr)))) ?_
   obtain rfl := Option.some.inj h
   exact hk

theorem c_write_pen_do {g : Gw} (hg : GK g) (X : HP) (p0 : Vwrite_pen) (b0 : Nat) (p1 : Vspace_Space) (b1 : Nat) (s0 : SV) (p2 : Vorder_Op) (s1 : SV) (q0 : Rd X s1 254 en_Vattr_Pair p2.Pairs) (s2 : SV) (q1 : Rd X s2 5 (enI .u8) p2.Text) (r : Vspace_Space × Vwrite_pen × Int) (h : m_write_pen_do p0 p1 p2 = some r) : Tri env g 63 (List.toArray [(.pointer (some ⟨b0, 0, none⟩)), (.agg (List.toArray [(.int .i64 p2.Kind), (.int .i64 p2.Addr), (.int .u8 p2.Code), (.bool p2.Graph), (.int .u8 p2.FA), (SV.val s1), (SV.val s2)]))]) [X, blk b0 (.cells (List.toArray [(.pointer (some ⟨b1, 0, none⟩)), (.int .i64 p0.n), (.int .u8 p0.look.Char), (.bool p0.look.Attr), (.int .u8 p0.look.FA), (.int .u8 p0.look.High), (.int .u8 p0.look.Color), (.int .u8 p0.look.f_Set), (.bool p0.texts)]) 123 (0, 0)), blk b1 (.cells (List.toArray [(.int .i64 p1.model), (.bool p1.alternate), (.int .i64 p1.size.Rows), (.int .i64 p1.size.Cols), (SV.val s0), (.int .i64 p1.cursor), (.int .i64 p1.attrs)]) 116 (0, 0)), slO s0 80 en_Vapi_Cell p1.cells] (fun K R => K (.int .i64 r.2.2) (X :: blk b1 (.cells (List.toArray [(.int .i64 r.1.model), (.bool r.1.alternate), (.int .i64 r.1.size.Rows), (.int .i64 r.1.size.Cols), (SV.val s0), (.int .i64 r.1.cursor), (.int .i64 r.1.attrs)]) 116 (0, 0)) :: slO s0 80 en_Vapi_Cell r.1.cells :: blk b0 (.cells (List.toArray [(.pointer (some ⟨b1, 0, none⟩)), (.int .i64 r.2.1.n), (.int .u8 r.2.1.look.Char), (.bool r.2.1.look.Attr), (.int .u8 r.2.1.look.FA), (.int .u8 r.2.1.look.High), (.int .u8 r.2.1.look.Color), (.int .u8 r.2.1.look.f_Set), (.bool r.2.1.texts)]) 123 (0, 0)) :: R)) := by
 refine tri_of (fn := Tryz.f63) (N := 110) Tryz.func63 rfl rfl rfl ?_
 intro R K hk
 unfold m_write_pen_do at h
 change GC _ none _ [] [(0, (.pointer (some ⟨b0, 0, none⟩))), (1, (.agg (List.toArray [(.int .i64 p2.Kind), (.int .i64 p2.Addr), (.int .u8 p2.Code), (.bool p2.Graph), (.int .u8 p2.FA), (SV.val s1), (SV.val s2)])))] (X :: blk b0 (.cells (List.toArray [(.pointer (some ⟨b1, 0, none⟩)), (.int .i64 p0.n), (.int .u8 p0.look.Char), (.bool p0.look.Attr), (.int .u8 p0.look.FA), (.int .u8 p0.look.High), (.int .u8 p0.look.Color), (.int .u8 p0.look.f_Set), (.bool p0.texts)]) 123 (0, 0)) :: blk b1 (.cells (List.toArray [(.int .i64 p1.model), (.bool p1.alternate), (.int .i64 p1.size.Rows), (.int .i64 p1.size.Cols), (SV.val s0), (.int .i64 p1.cursor), (.int .i64 p1.attrs)]) 116 (0, 0)) :: slO s0 80 en_Vapi_Cell p1.cells :: R) g _ _
 refine c_seq (c_region ?_)
 refine o1 rfl (o_box (cs := [(.int .i64 p2.Kind), (.int .i64 p2.Addr), (.int .u8 p2.Code), (.bool p2.Graph), (.int .u8 p2.FA), (SV.val s1), (SV.val s2)]) rfl rfl (fun b347 => ?_))
 refine o1 rfl (o_p rfl (o_end (e_seq (c_seq (c_seq (c_region ?_))))))
 refine o1 rfl (o_fa (fd := ⟨ "Kind", 3, 0, false, "", "", 0⟩) rfl rfl rfl rfl rfl ?_)
 refine o1 rfl (o_ld (b := b347) (off := 0) (v := (.int .i64 p2.Kind)) rfl rm0 rfl rfl ?_)
 refine o_end (e_seq ?_)
 replace h := jn_some h
 obtain ⟨y1, h, hk1⟩ := h
 refine cj (D := Int × Bool × Int × Int × (List Vapi_Cell) × Int × Int × Int × Int × Bool × Int × Int × Int × Int × Bool) (ι := Unit) (fun d1 i1 => y1 = Sum.inl d1) (fun d1 i1 => []) (fun d1 i1 => X :: blk b1 (.cells (List.toArray [(.int .i64 d1.1), (.bool d1.2.1), (.int .i64 d1.2.2.1), (.int .i64 d1.2.2.2.1), (SV.val s0), (.int .i64 d1.2.2.2.2.2.1), (.int .i64 d1.2.2.2.2.2.2.1)]) 116 (0, 0)) :: blk b0 (.cells (List.toArray [(.pointer (some ⟨b1, 0, none⟩)), (.int .i64 d1.2.2.2.2.2.2.2.1), (.int .u8 d1.2.2.2.2.2.2.2.2.1), (.bool d1.2.2.2.2.2.2.2.2.2.1), (.int .u8 d1.2.2.2.2.2.2.2.2.2.2.1), (.int .u8 d1.2.2.2.2.2.2.2.2.2.2.2.1), (.int .u8 d1.2.2.2.2.2.2.2.2.2.2.2.2.1), (.int .u8 d1.2.2.2.2.2.2.2.2.2.2.2.2.2.1), (.bool d1.2.2.2.2.2.2.2.2.2.2.2.2.2.2)]) 123 (0, 0)) :: slO s0 80 en_Vapi_Cell d1.2.2.2.2.1 :: R) ?_ ?_
 ·refine c_block (c_seq (c_region ?_))
  refine o1 rfl (o_p (v := (.bool (p2.Kind == 0))) rfl ?_)
  refine o1 rfl (o_p rfl (o_end (e_seq ?_)))
  replace h := jn_some h
  obtain ⟨y2, h, hk2⟩ := h
  refine cj (D := Int × Bool × Int × Int × (List Vapi_Cell) × Int × Int × Int × Int × Bool × Int × Int × Int × Int × Bool) (ι := Unit) (fun d2 i2 => y2 = Sum.inl d2) (fun d2 i2 => []) (fun d2 i2 => X :: blk b1 (.cells (List.toArray [(.int .i64 d2.1), (.bool d2.2.1), (.int .i64 d2.2.2.1), (.int .i64 d2.2.2.2.1), (SV.val s0), (.int .i64 d2.2.2.2.2.2.1), (.int .i64 d2.2.2.2.2.2.2.1)]) 116 (0, 0)) :: blk b0 (.cells (List.toArray [(.pointer (some ⟨b1, 0, none⟩)), (.int .i64 d2.2.2.2.2.2.2.2.1), (.int .u8 d2.2.2.2.2.2.2.2.2.1), (.bool d2.2.2.2.2.2.2.2.2.2.1), (.int .u8 d2.2.2.2.2.2.2.2.2.2.2.1), (.int .u8 d2.2.2.2.2.2.2.2.2.2.2.2.1), (.int .u8 d2.2.2.2.2.2.2.2.2.2.2.2.2.1), (.int .u8 d2.2.2.2.2.2.2.2.2.2.2.2.2.2.1), (.bool d2.2.2.2.2.2.2.2.2.2.2.2.2.2.2)]) 123 (0, 0)) :: slO s0 80 en_Vapi_Cell d2.2.2.2.2.1 :: R) ?_ ?_
  ·refine c_cond (b := (p2.Kind == 0)) rfl (fun hb349 => ?_) (fun hb349 => ?_)
   ·replace h := cond_t hb349 h
    refine c_seq (c_region ?_)
    refine o1 rfl (o_fa (fd := ⟨ "Text", 46, 6, false, "", "", 48⟩) rfl rfl rfl rfl rfl ?_)
    refine o1 rfl (o_ld (b := b347) (off := 6) (v := (SV.val s2)) rfl rm0 rfl rfl ?_)
    refine o1 rfl (o_len (s := s2) rfl rfl rfl rm1 q1 ?_)
    refine o1 rfl (o_p rfl (o_end (e_seq ?_)))
    replace h := bsome h
    obtain ⟨d3, h, hk3⟩ := h
    refine cj (D := Unit) (ι := Unit) (fun _ i3 => True) (fun _ i3 => []) (fun _ i3 => X :: blk b1 (.cells (List.toArray [(.int .i64 d3.1), (.bool d3.2.1), (.int .i64 d3.2.2.1), (.int .i64 d3.2.2.2.1), (SV.val s0), (.int .i64 d3.2.2.2.2.2.1), (.int .i64 d3.2.2.2.2.2.2.1)]) 116 (0, 0)) :: blk b0 (.cells (List.toArray [(.pointer (some ⟨b1, 0, none⟩)), (.int .i64 d3.2.2.2.2.2.2.2.1), (.int .u8 d3.2.2.2.2.2.2.2.2.1), (.bool d3.2.2.2.2.2.2.2.2.2.1), (.int .u8 d3.2.2.2.2.2.2.2.2.2.2.1), (.int .u8 d3.2.2.2.2.2.2.2.2.2.2.2.1), (.int .u8 d3.2.2.2.2.2.2.2.2.2.2.2.2.1), (.int .u8 d3.2.2.2.2.2.2.2.2.2.2.2.2.2.1), (.bool d3.2.2.2.2.2.2.2.2.2.2.2.2.2.2)]) 123 (0, 0)) :: slO s0 80 en_Vapi_Cell d3.2.2.2.2.1 :: R) ?_ ?_
    ·refine c_block ?_
     refine c_loop (l_sub (sc rfl (sc rfl (sc rfl (sc rfl sn)))) (l_keep (kc rm1 (kc rm1 (kc rm1 (kc rm1 (kd kr))))) (lf (X := Int × Int × Int × Bool × Int × Int × Int × Int × Bool × Int × Bool × Int × Int × (List Vapi_Cell) × Int × Int) (ι := Unit) (fun k x => write_pen_do_l4 p2 k x) _ (fun x4 i4 => True) (fun x4 i4 => [(17, (.int .i64 x4.1)), (16, (.int .i64 (p2.Text.length : Int))), (15, (SV.val s2)), (0, (.pointer (some ⟨b0, 0, none⟩)))]) (fun x4 i4 => X :: blk b0 (.cells (List.toArray [(.pointer (some ⟨b1, 0, none⟩)), (.int .i64 x4.2.1), (.int .u8 x4.2.2.1), (.bool x4.2.2.2.1), (.int .u8 x4.2.2.2.2.1), (.int .u8 x4.2.2.2.2.2.1), (.int .u8 x4.2.2.2.2.2.2.1), (.int .u8 x4.2.2.2.2.2.2.2.1), (.bool x4.2.2.2.2.2.2.2.2.1)]) 123 (0, 0)) :: blk b1 (.cells (List.toArray [(.int .i64 x4.2.2.2.2.2.2.2.2.2.1), (.bool x4.2.2.2.2.2.2.2.2.2.2.1), (.int .i64 x4.2.2.2.2.2.2.2.2.2.2.2.1), (.int .i64 x4.2.2.2.2.2.2.2.2.2.2.2.2.1), (SV.val s0), (.int .i64 x4.2.2.2.2.2.2.2.2.2.2.2.2.2.2.1), (.int .i64 x4.2.2.2.2.2.2.2.2.2.2.2.2.2.2.2)]) 116 (0, 0)) :: slO s0 80 en_Vapi_Cell x4.2.2.2.2.2.2.2.2.2.2.2.2.2.1 :: R) (fun _ => rfl) ?_ fuel (0, p0.n, p0.look.Char, p0.look.Attr, p0.look.FA, p0.look.High, p0.look.Color, p0.look.f_Set, p0.texts, p1.model, p1.alternate, p1.size.Rows, p1.size.Cols, p1.cells, p1.cursor, p1.attrs) () trivial h)))
     clear h
     rintro k4 ih4 x4 i4 _ h
     rw [write_pen_do_l4.eq_2] at h
     refine l_round (c_seq (c_region ?_))
     refine o1 rfl (o_p (v := (.bool (decide (x4.1 < (p2.Text.length : Int))))) rfl ?_)
     refine o_end (e_seq (c_seq ?_))
     refine c_cond (b := (decide (x4.1 < (p2.Text.length : Int)))) rfl (fun hb365 => ?_) (fun hb365 => ?_)
     ·replace h := cond_t hb365 h
      refine c_skip (e_seq (c_seq (c_block (c_seq (c_region ?_)))))
      replace h := gsome h
      obtain ⟨hg366, h⟩ := h
      refine o1 rfl (o_ix (s := s2) (n := x4.1) (e := (enI .u8)) rfl rfl rfl rfl rfl rfl rm0 q1 hg366 ?_)
      refine o1 rfl (o_ldE (s := s2) (e := (enI .u8)) (n := x4.1) (f := 0) (v := (.int .u8 (rd p2.Text x4.1))) rfl rm0 q1 hg366 rfl rfl ?_)
      refine o1 rfl (o_p rfl (o_end (e_seq (c_region (o1 rfl (o_p rfl (o1 rfl (o_p rfl ?_))))))))
      replace h := bsome h
      obtain ⟨d7, h7, h⟩ := h
      refine o1 rfl (o_call has113 rfl (c_write_pen_put hg X (⟨x4.2.1, (⟨x4.2.2.1, x4.2.2.2.1, x4.2.2.2.2.1, x4.2.2.2.2.2.1, x4.2.2.2.2.2.2.1, x4.2.2.2.2.2.2.2.1⟩ : Vapi_Cell), x4.2.2.2.2.2.2.2.2.1⟩ : Vwrite_pen) b0 (⟨x4.2.2.2.2.2.2.2.2.2.1, x4.2.2.2.2.2.2.2.2.2.2.1, (⟨x4.2.2.2.2.2.2.2.2.2.2.2.1, x4.2.2.2.2.2.2.2.2.2.2.2.2.1⟩ : Vaddr_Size), x4.2.2.2.2.2.2.2.2.2.2.2.2.2.1, x4.2.2.2.2.2.2.2.2.2.2.2.2.2.2.1, x4.2.2.2.2.2.2.2.2.2.2.2.2.2.2.2⟩ : Vspace_Space) b1 s0 (rd p2.Text x4.1) false _ h7) (pc rm0 (pc rm0 (pc rm0 (pc rm0 pn)))) ?_)
      refine o_end (e_blk (e_seq (c_region ?_)))
      refine o1 rfl (o_p (v := (.int .i64 (w64 (x4.1 + 1)))) rfl ?_)
      refine o1 rfl (o_p rfl (o_end ?_))
      exact e_loop (l_sub (sc rfl (sc rfl (sc rfl (sc rfl sn)))) (l_keep (kc rm0 (kc rm2 (kc rm0 (kc rm0 kr)))) (ih4 (w64 (x4.1 + 1), d7.2.n, d7.2.look.Char, d7.2.look.Attr, d7.2.look.FA, d7.2.look.High, d7.2.look.Color, d7.2.look.f_Set, d7.2.texts, d7.1.model, d7.1.alternate, d7.1.size.Rows, d7.1.size.Cols, d7.1.cells, d7.1.cursor, d7.1.attrs) () trivial h)))
     ·replace h := cond_f hb365 h
      refine c_exit (e_then_exit (e_then_exit (e_blk_exit ?_)))
      obtain rfl := Option.some.inj h
      exact ej () () trivial sn (kc rm0 (kc rm1 (kc rm0 (kc rm0 kr))))
    ·rintro _ i3 _
     replace h := hk3
     clear hk3
     obtain rfl := Option.some.inj h
     exact ej (d3.1, d3.2.1, d3.2.2.1, d3.2.2.2.1, d3.2.2.2.2.1, d3.2.2.2.2.2.1, d3.2.2.2.2.2.2.1, d3.2.2.2.2.2.2.2.1, d3.2.2.2.2.2.2.2.2.1, d3.2.2.2.2.2.2.2.2.2.1, d3.2.2.2.2.2.2.2.2.2.2.1, d3.2.2.2.2.2.2.2.2.2.2.2.1, d3.2.2.2.2.2.2.2.2.2.2.2.2.1, d3.2.2.2.2.2.2.2.2.2.2.2.2.2.1, d3.2.2.2.2.2.2.2.2.2.2.2.2.2.2) () rfl sn (kc rm0 (kc rm0 (kc rm0 (kc rm0 kr))))
   ·replace h := cond_f hb349 h
    refine c_seq (c_region ?_)
    refine o1 rfl (o_p (v := (.bool (p2.Kind == 8))) rfl ?_)
    refine o1 rfl (o_p rfl (o_end (e_seq ?_)))
    refine c_cond (b := (p2.Kind == 8)) rfl (fun hb370 => ?_) (fun hb370 => ?_)
    ·replace h := cond_t hb370 h
     refine c_region (o1 rfl (o_p rfl ?_))
     refine o1 rfl (o_fa (fd := ⟨ "Code", 5, 2, false, "", "", 16⟩) rfl rfl rfl rfl rfl ?_)
     refine o1 rfl (o_ld (b := b347) (off := 2) (v := (.int .u8 p2.Code)) rfl rm0 rfl rfl ?_)
     replace h := bsome h
     obtain ⟨d8, h8, h⟩ := h
     refine o1 rfl (o_call has113 rfl (c_write_pen_put hg X p0 b0 p1 b1 s0 p2.Code true _ h8) (pc rm1 (pc rm1 (pc rm1 (pc rm1 pn)))) ?_)
     refine o_end ?_
     obtain rfl := Option.some.inj h
     exact ej (d8.1.model, d8.1.alternate, d8.1.size.Rows, d8.1.size.Cols, d8.1.cells, d8.1.cursor, d8.1.attrs, d8.2.n, d8.2.look.Char, d8.2.look.Attr, d8.2.look.FA, d8.2.look.High, d8.2.look.Color, d8.2.look.f_Set, d8.2.texts) () rfl sn (kc rm0 (kc rm0 (kc rm1 (kc rm0 (kd kr)))))
    ·replace h := cond_f hb370 h
     refine c_seq (c_region ?_)
     refine o1 rfl (o_p (v := (.bool (p2.Kind == 17))) rfl ?_)
     refine o1 rfl (o_p rfl (o_end (e_seq ?_)))
     refine c_cond (b := (p2.Kind == 17)) rfl (fun hb372 => ?_) (fun hb372 => ?_)
     ·replace h := cond_t hb372 h
      refine c_seq (c_region (o1 rfl (o_p rfl ?_)))
      refine o1 rfl (o_fa (fd := ⟨ "Addr", 3, 1, false, "", "", 8⟩) rfl rfl rfl rfl rfl ?_)
      refine o1 rfl (o_ld (b := b347) (off := 1) (v := (.int .i64 p2.Addr)) rfl rm0 rfl rfl ?_)
      replace h := bsome h
      obtain ⟨d9, h9, h⟩ := h
      refine o1 rfl (o_call has114 rfl (c_write_pen_to hg X p0 b0 p1 b1 s0 p2.Addr _ h9) (pc rm1 (pc rm1 (pc rm1 (pc rm1 pn)))) ?_)
      refine o1 rfl (o_p rfl (o_end (e_seq (c_ret (ej_ret ?_)))))
      replace h := esc_some h
      obtain ⟨z2, h, rfl⟩ := h
      obtain rfl := (hk2 : z2 = _)
      refine e_blk_ret (ej_ret ?_)
      replace h := esc_some h
      obtain ⟨z1, h, rfl⟩ := h
      obtain rfl := (hk1 : z1 = _)
      refine e_then_ret (e_ret ?_)
      refine r_endt rfl rfl (kc rm0 (kc rm0 (kc rm0 (kc rm0 (kd kr))))) ?_
      obtain rfl := Option.some.inj h
      exact hk
     ·replace h := cond_f hb372 h
      refine c_seq (c_seq (c_region ?_))
      refine o1 rfl (o_p (v := (.bool (p2.Kind == 18))) rfl ?_)
      refine o1 rfl (o_p rfl (o_end (e_seq ?_)))
      replace h := bsome h
      obtain ⟨d10, h, hk10⟩ := h
      refine cj (D := Unit) (ι := Unit) (fun _ i10 => True) (fun _ i10 => [(37, (.bool d10)), (11, (.int .i64 p2.Kind)), (3, (.pointer (some ⟨b347, 0, none⟩))), (0, (.pointer (some ⟨b0, 0, none⟩)))]) (fun _ i10 => X :: blk b347 (.cells (List.toArray [(.int .i64 p2.Kind), (.int .i64 p2.Addr), (.int .u8 p2.Code), (.bool p2.Graph), (.int .u8 p2.FA), (SV.val s1), (SV.val s2)]) 129 (0, 0)) :: blk b0 (.cells (List.toArray [(.pointer (some ⟨b1, 0, none⟩)), (.int .i64 p0.n), (.int .u8 p0.look.Char), (.bool p0.look.Attr), (.int .u8 p0.look.FA), (.int .u8 p0.look.High), (.int .u8 p0.look.Color), (.int .u8 p0.look.f_Set), (.bool p0.texts)]) 123 (0, 0)) :: blk b1 (.cells (List.toArray [(.int .i64 p1.model), (.bool p1.alternate), (.int .i64 p1.size.Rows), (.int .i64 p1.size.Cols), (SV.val s0), (.int .i64 p1.cursor), (.int .i64 p1.attrs)]) 116 (0, 0)) :: slO s0 80 en_Vapi_Cell p1.cells :: R) ?_ ?_
      ·refine c_cond (b := (p2.Kind == 18)) rfl (fun hb374 => ?_) (fun hb374 => ?_)
       ·replace h := cond_t hb374 h
        refine c_skip ?_
        obtain rfl := Option.some.inj h
        exact ej () () trivial (sc rfl (sc rfl (sc rfl (sc rfl sn)))) (kc rm1 (kc rm0 (kc rm0 (kc rm0 (kc rm0 kr)))))
       ·replace h := cond_f hb374 h
        refine c_region ?_
        refine o1 rfl (o_p (v := (.bool (p2.Kind == 60))) rfl ?_)
        refine o1 rfl (o_p rfl (o_end ?_))
        obtain rfl := Option.some.inj h
        exact ej () () trivial (sc rfl (sc rfl (sc rfl (sc rfl sn)))) (kc rm1 (kc rm0 (kc rm0 (kc rm0 (kc rm0 kr)))))
      ·rintro _ i10 _
       replace h := hk10
       clear hk10
       refine e_seq ?_
       refine c_cond (b := d10) rfl (fun hb375 => ?_) (fun hb375 => ?_)
       ·replace h := cond_t hb375 h
        refine c_seq (c_region (o1 rfl (o_p rfl ?_)))
        refine o1 rfl (o_ld (b := b347) (off := 0) (v := (.agg (List.toArray [(.int .i64 p2.Kind), (.int .i64 p2.Addr), (.int .u8 p2.Code), (.bool p2.Graph), (.int .u8 p2.FA), (SV.val s1), (SV.val s2)]))) rfl rm1 rfl rfl ?_)
        replace h := bsome h
        obtain ⟨d11, h11, h⟩ := h
        refine o1 rfl (o_call has115 rfl (c_write_pen_span hg X (⟨p0.n, p0.look, p0.texts⟩ : Vwrite_pen) b0 p1 b1 s0 p2 s1 q0 s2 q1 _ h11) (pc rm0 (pc rm1 (pc rm1 (pc rm1 pn)))) ?_)
        refine o1 rfl (o_p rfl (o_end (e_seq (c_ret (ej_ret ?_)))))
        replace h := esc_some h
        obtain ⟨z2, h, rfl⟩ := h
        obtain rfl := (hk2 : z2 = _)
        refine e_blk_ret (ej_ret ?_)
        replace h := esc_some h
        obtain ⟨z1, h, rfl⟩ := h
        obtain rfl := (hk1 : z1 = _)
        refine e_then_ret (e_ret ?_)
        refine r_endt rfl rfl (kc rm0 (kc rm0 (kc rm0 (kc rm0 (kd kr))))) ?_
        obtain rfl := Option.some.inj h
        exact hk
       ·replace h := cond_f hb375 h
        refine c_seq (c_region ?_)
        refine o1 rfl (o_p (v := (.bool (p2.Kind == 29))) rfl ?_)
        refine o1 rfl (o_p rfl (o_end (e_seq ?_)))
        refine c_cond (b := (p2.Kind == 29)) rfl (fun hb458 => ?_) (fun hb458 => ?_)
        ·replace h := cond_t hb458 h
         refine c_seq (c_region (o1 rfl (o_p rfl ?_)))
         refine o1 rfl (o_fa (fd := ⟨ "FA", 5, 4, false, "", "", 18⟩) rfl rfl rfl rfl rfl ?_)
         refine o1 rfl (o_ld (b := b347) (off := 4) (v := (.int .u8 p2.FA)) rfl rm1 rfl rfl ?_)
         refine o1 rfl (o_build (fs := [⟨ "Char", 5, 0, false, "", "", 0⟩, ⟨ "Attr", 4, 1, false, "", "", 1⟩, ⟨ "FA", 5, 2, false, "", "", 2⟩, ⟨ "High", 5, 3, false, "", "", 3⟩, ⟨ "Color", 5, 4, false, "", "", 4⟩, ⟨ "Set", 5, 5, false, "", "", 5⟩]) (ps := [(0, 1), (1, 1), (2, 1), (3, 1), (4, 1), (5, 1)]) (cs := [(.int .u8 0), (.bool true), (.int .u8 p2.FA), (.int .u8 0), (.int .u8 0), (.int .u8 0)]) rfl rfl rfl rfl rfl ?_)
         replace h := bsome h
         obtain ⟨d12, h12, h⟩ := h
         refine o1 rfl (o_call has116 rfl (c_write_pen_attribute hg X (⟨p0.n, p0.look, p0.texts⟩ : Vwrite_pen) b0 (⟨p1.model, p1.alternate, p1.size, p1.cells, p1.cursor, p1.attrs⟩ : Vspace_Space) b1 s0 (⟨0, true, p2.FA, 0, 0, 0⟩ : Vapi_Cell) ([] : List Vattr_Pair) SV.nil (rd_nil _ _ _) _ h12) (pc rm0 (pc rm1 (pc rm1 (pc rm1 pn)))) ?_)
         refine o1 rfl (o_p rfl (o_end (e_seq (c_ret (ej_ret ?_)))))
         replace h := esc_some h
         obtain ⟨z2, h, rfl⟩ := h
         obtain rfl := (hk2 : z2 = _)
         refine e_blk_ret (ej_ret ?_)
         replace h := esc_some h
         obtain ⟨z1, h, rfl⟩ := h
         obtain rfl := (hk1 : z1 = _)
         refine e_then_ret (e_ret ?_)
         refine r_endt rfl rfl (kc rm0 (kc rm0 (kc rm0 (kc rm0 (kd kr))))) ?_
         obtain rfl := Option.some.inj h
         exact hk
        ·replace h := cond_f hb458 h
         refine c_seq (c_region ?_)
         refine o1 rfl (o_p (v := (.bool (p2.Kind == 41))) rfl ?_)
         refine o1 rfl (o_p rfl (o_end (e_seq ?_)))
         refine c_cond (b := (p2.Kind == 41)) rfl (fun hb497 => ?_) (fun hb497 => ?_)
         ·replace h := cond_t hb497 h
          refine c_seq (c_region (o1 rfl (o_p rfl ?_)))
          refine o1 rfl (o_build (fs := [⟨ "Char", 5, 0, false, "", "", 0⟩, ⟨ "Attr", 4, 1, false, "", "", 1⟩, ⟨ "FA", 5, 2, false, "", "", 2⟩, ⟨ "High", 5, 3, false, "", "", 3⟩, ⟨ "Color", 5, 4, false, "", "", 4⟩, ⟨ "Set", 5, 5, false, "", "", 5⟩]) (ps := [(0, 1), (1, 1), (2, 1), (3, 1), (4, 1), (5, 1)]) (cs := [(.int .u8 0), (.bool true), (.int .u8 0), (.int .u8 0), (.int .u8 0), (.int .u8 0)]) rfl rfl rfl rfl rfl ?_)
          refine o1 rfl (o_fa (fd := ⟨ "Pairs", 127, 5, false, "", "", 24⟩) rfl rfl rfl rfl rfl ?_)
          refine o1 rfl (o_ld (b := b347) (off := 5) (v := (SV.val s1)) rfl rm1 rfl rfl ?_)
          replace h := bsome h
          obtain ⟨d13, h13, h⟩ := h
          refine o1 rfl (o_call has116 rfl (c_write_pen_attribute hg X (⟨p0.n, p0.look, p0.texts⟩ : Vwrite_pen) b0 (⟨p1.model, p1.alternate, p1.size, p1.cells, p1.cursor, p1.attrs⟩ : Vspace_Space) b1 s0 (⟨0, true, 0, 0, 0, 0⟩ : Vapi_Cell) p2.Pairs s1 q0 _ h13) (pc rm0 (pc rm1 (pc rm1 (pc rm1 pn)))) ?_)
          refine o1 rfl (o_p rfl (o_end (e_seq (c_ret (ej_ret ?_)))))
          replace h := esc_some h
          obtain ⟨z2, h, rfl⟩ := h
          obtain rfl := (hk2 : z2 = _)
          refine e_blk_ret (ej_ret ?_)
          replace h := esc_some h
          obtain ⟨z1, h, rfl⟩ := h
          obtain rfl := (hk1 : z1 = _)
          refine e_then_ret (e_ret ?_)
          refine r_endt rfl rfl (kc rm0 (kc rm0 (kc rm0 (kc rm0 (kd kr))))) ?_
          obtain rfl := Option.some.inj h
          exact hk
         ·replace h := cond_f hb497 h
          refine c_seq (c_region ?_)
          refine o1 rfl (o_p (v := (.bool (p2.Kind == 44))) rfl ?_)
          refine o1 rfl (o_p rfl (o_end (e_seq ?_)))
          refine c_cond (b := (p2.Kind == 44)) rfl (fun hb499 => ?_) (fun hb499 => ?_)
          ·replace h := cond_t hb499 h
           refine c_seq ?_
           replace h := bsome h
           obtain ⟨d14, h, hk14⟩ := h
           refine cj (D := Unit) (ι := Nat) (fun _ i14 => True) (fun _ i14 => [(7, (.pointer (some ⟨i14, 0, none⟩))), (3, (.pointer (some ⟨b347, 0, none⟩))), (0, (.pointer (some ⟨b0, 0, none⟩)))]) (fun _ i14 => X :: blk i14 (.cells (List.toArray [(.int .u8 d14.1), (.bool d14.2.1), (.int .u8 d14.2.2.1), (.int .u8 d14.2.2.2.1), (.int .u8 d14.2.2.2.2.1), (.int .u8 d14.2.2.2.2.2)]) 80 (0, 0)) :: blk b347 (.cells (List.toArray [(.int .i64 p2.Kind), (.int .i64 p2.Addr), (.int .u8 p2.Code), (.bool p2.Graph), (.int .u8 p2.FA), (SV.val s1), (SV.val s2)]) 129 (0, 0)) :: blk b0 (.cells (List.toArray [(.pointer (some ⟨b1, 0, none⟩)), (.int .i64 p0.n), (.int .u8 p0.look.Char), (.bool p0.look.Attr), (.int .u8 p0.look.FA), (.int .u8 p0.look.High), (.int .u8 p0.look.Color), (.int .u8 p0.look.f_Set), (.bool p0.texts)]) 123 (0, 0)) :: blk b1 (.cells (List.toArray [(.int .i64 p1.model), (.bool p1.alternate), (.int .i64 p1.size.Rows), (.int .i64 p1.size.Cols), (SV.val s0), (.int .i64 p1.cursor), (.int .i64 p1.attrs)]) 116 (0, 0)) :: slO s0 80 en_Vapi_Cell p1.cells :: R) ?_ ?_
           ·replace h := bsome h
            obtain ⟨d15, h15, h⟩ := h
            refine c_draw (n := 3) (q := [(0, 59, (.pointer (some ⟨b0, 0, none⟩))), (1, 60, (.pointer (some ⟨b0, 0, none⟩))), (2, 61, (.pointer (some ⟨b0, 0, none⟩))), (3, 62, (.pointer (some ⟨b1, 0, none⟩))), (4, 63, (.pointer (some ⟨b0, 0, none⟩))), (5, 64, (.pointer (some ⟨b0, 0, none⟩))), (6, 65, (.pointer (some ⟨b0, 1, none⟩))), (7, 66, (.int .i64 p0.n))]) (pend := [0, 1, 2, 3, 4, 5, 6, 7]) rfl rfl rfl ?_
            refine ⟨⟨fun _ => ⟨rfl, rfl, rfl, .inl ⟨rfl, (o_p rfl ⟨rfl, rfl⟩)⟩⟩, fun _ => ⟨rfl, rfl, rfl, .inl ⟨rfl, (o_p rfl ⟨rfl, rfl⟩)⟩⟩, fun _ => ⟨rfl, rfl, rfl, .inl ⟨rfl, (o_fa (fd := ⟨ "s", 24, 0, false, "", "vitrine/write", 0⟩) rfl rfl rfl rfl rfl ⟨rfl, rfl⟩)⟩⟩, fun _ => ⟨rfl, rfl, rfl, .inl ⟨rfl, (o_ld (b := b0) (off := 0) (v := (.pointer (some ⟨b1, 0, none⟩))) rfl rm2 rfl rfl ⟨rfl, rfl⟩)⟩⟩, fun _ => ⟨rfl, rfl, rfl, .inl ⟨rfl, (o_p rfl ⟨rfl, rfl⟩)⟩⟩, fun _ => ⟨rfl, rfl, rfl, .inl ⟨rfl, (o_p rfl ⟨rfl, rfl⟩)⟩⟩, fun _ => ⟨rfl, rfl, rfl, .inl ⟨rfl, (o_fa (fd := ⟨ "n", 3, 1, false, "", "vitrine/write", 8⟩) rfl rfl rfl rfl rfl ⟨rfl, rfl⟩)⟩⟩, fun _ => ⟨rfl, rfl, rfl, .inl ⟨rfl, (o_ld (b := b0) (off := 1) (v := (.int .i64 p0.n)) rfl rm2 rfl rfl ⟨rfl, rfl⟩)⟩⟩, trivial⟩, rfl, .inr ⟨[8, 9], rfl, rfl, ⟨rfl, .inl rfl, ?_⟩, ⟨rfl, .inl rfl, ?_⟩, trivial⟩⟩
            ·refine (o_call has57 rfl (c_space_Space_At hg X (⟨p1.model, p1.alternate, p1.size, p1.cells, p1.cursor, p1.attrs⟩ : Vspace_Space) b1 s0 p0.n _ h15) (pc rm0 (pc rm2 (pc rm2 pn))) ?_)
             refine ⟨[], [], rfl, rfl, rfl, rfl, ?_⟩
             refine ⟨⟨(fun h => nomatch h), (fun h => nomatch h), (fun h => nomatch h), (fun h => nomatch h), (fun h => nomatch h), (fun h => nomatch h), (fun h => nomatch h), (fun h => nomatch h), trivial⟩, rfl, .inr ⟨[9], rfl, rfl, ⟨rfl, .inl rfl, ?_⟩, trivial⟩⟩
             refine (o_alloc (cs := [(.int .u8 0), (.bool false), (.int .u8 0), (.int .u8 0), (.int .u8 0), (.int .u8 0)]) rfl rfl (fun b500 => ?_))
             refine ⟨[], [], rfl, rfl, rfl, rfl, ?_⟩
             refine ⟨⟨(fun h => nomatch h), (fun h => nomatch h), (fun h => nomatch h), (fun h => nomatch h), (fun h => nomatch h), (fun h => nomatch h), (fun h => nomatch h), (fun h => nomatch h), trivial⟩, rfl, .inr ⟨[10], rfl, rfl, ⟨rfl, .inl rfl, ?_⟩, trivial⟩⟩
             refine (o_st (b := b500) (off := 0) (vs := [(.int .u8 d15.Char), (.bool d15.Attr), (.int .u8 d15.FA), (.int .u8 d15.High), (.int .u8 d15.Color), (.int .u8 d15.f_Set)]) (cs' := [(.int .u8 d15.Char), (.bool d15.Attr), (.int .u8 d15.FA), (.int .u8 d15.High), (.int .u8 d15.Color), (.int .u8 d15.f_Set)]) rfl rfl rp0 rfl rfl rfl rfl rfl rfl ?_)
             refine ⟨[], [], rfl, rfl, ?_⟩
             refine ⟨⟨(fun h => nomatch h), (fun h => nomatch h), (fun h => nomatch h), (fun h => nomatch h), (fun h => nomatch h), (fun h => nomatch h), (fun h => nomatch h), (fun h => nomatch h), trivial⟩, rfl, rfl, rfl, ?_⟩
             obtain rfl := Option.some.inj h
             exact ej () b500 trivial (sc rfl (sc rfl (sc rfl sn))) (kc rm1 (kc rm0 (kc rm2 (kc rm2 (kc rm0 (kc rm0 kr))))))
            ·refine (o_alloc (cs := [(.int .u8 0), (.bool false), (.int .u8 0), (.int .u8 0), (.int .u8 0), (.int .u8 0)]) rfl rfl (fun b500 => ?_))
             refine ⟨[], [0, 1, 2, 3, 4, 5, 6, 7], rfl, rfl, rfl, rfl, ?_⟩
             refine ⟨⟨fun _ => ⟨rfl, rfl, rfl, .inl ⟨rfl, (o_p rfl ⟨rfl, rfl⟩)⟩⟩, fun _ => ⟨rfl, rfl, rfl, .inl ⟨rfl, (o_p rfl ⟨rfl, rfl⟩)⟩⟩, fun _ => ⟨rfl, rfl, rfl, .inl ⟨rfl, (o_fa (fd := ⟨ "s", 24, 0, false, "", "vitrine/write", 0⟩) rfl rfl rfl rfl rfl ⟨rfl, rfl⟩)⟩⟩, fun _ => ⟨rfl, rfl, rfl, .inl ⟨rfl, (o_ld (b := b0) (off := 0) (v := (.pointer (some ⟨b1, 0, none⟩))) rfl rm3 rfl rfl ⟨rfl, rfl⟩)⟩⟩, fun _ => ⟨rfl, rfl, rfl, .inl ⟨rfl, (o_p rfl ⟨rfl, rfl⟩)⟩⟩, fun _ => ⟨rfl, rfl, rfl, .inl ⟨rfl, (o_p rfl ⟨rfl, rfl⟩)⟩⟩, fun _ => ⟨rfl, rfl, rfl, .inl ⟨rfl, (o_fa (fd := ⟨ "n", 3, 1, false, "", "vitrine/write", 8⟩) rfl rfl rfl rfl rfl ⟨rfl, rfl⟩)⟩⟩, fun _ => ⟨rfl, rfl, rfl, .inl ⟨rfl, (o_ld (b := b0) (off := 1) (v := (.int .i64 p0.n)) rfl rm3 rfl rfl ⟨rfl, rfl⟩)⟩⟩, trivial⟩, rfl, .inr ⟨[8], rfl, rfl, ⟨rfl, .inl rfl, ?_⟩, trivial⟩⟩
             refine (o_call has57 rfl (c_space_Space_At hg X (⟨p1.model, p1.alternate, p1.size, p1.cells, p1.cursor, p1.attrs⟩ : Vspace_Space) b1 s0 p0.n _ h15) (pc rm1 (pc rm3 (pc rm3 pn))) ?_)
             refine ⟨[], [], rfl, rfl, rfl, rfl, ?_⟩
             refine ⟨⟨(fun h => nomatch h), (fun h => nomatch h), (fun h => nomatch h), (fun h => nomatch h), (fun h => nomatch h), (fun h => nomatch h), (fun h => nomatch h), (fun h => nomatch h), trivial⟩, rfl, .inr ⟨[10], rfl, rfl, ⟨rfl, .inl rfl, ?_⟩, trivial⟩⟩
             refine (o_st (b := b500) (off := 0) (vs := [(.int .u8 d15.Char), (.bool d15.Attr), (.int .u8 d15.FA), (.int .u8 d15.High), (.int .u8 d15.Color), (.int .u8 d15.f_Set)]) (cs' := [(.int .u8 d15.Char), (.bool d15.Attr), (.int .u8 d15.FA), (.int .u8 d15.High), (.int .u8 d15.Color), (.int .u8 d15.f_Set)]) rfl rfl rp3 rfl rfl rfl rfl rfl rfl ?_)
             refine ⟨[], [], rfl, rfl, ?_⟩
             refine ⟨⟨(fun h => nomatch h), (fun h => nomatch h), (fun h => nomatch h), (fun h => nomatch h), (fun h => nomatch h), (fun h => nomatch h), (fun h => nomatch h), (fun h => nomatch h), trivial⟩, rfl, rfl, rfl, ?_⟩
             obtain rfl := Option.some.inj h
             exact ej () b500 trivial (sc rfl (sc rfl (sc rfl sn))) (kc rm0 (kc rm2 (kc rm2 (kc rm2 (kc rm0 (kc rm0 kr))))))
           ·rintro _ i14 _
            replace h := hk14
            clear hk14
            refine e_seq (c_seq (c_seq (c_region ?_)))
            refine o1 rfl (o_fa (fd := ⟨ "Attr", 4, 1, false, "", "", 1⟩) rfl rfl rfl rfl rfl ?_)
            refine o1 rfl (o_ld (b := i14) (off := 1) (v := (.bool d14.2.1)) rfl rm1 rfl rfl ?_)
            refine o1 rfl (o_p (v := (.bool (!d14.2.1))) rfl ?_)
            refine o_end (e_seq ?_)
            refine c_cond (b := (!d14.2.1)) rfl (fun hb505 => ?_) (fun hb505 => ?_)
            ·replace h := cond_t hb505 h
             refine c_seq (c_region (o1 rfl (o_p rfl (o_end (e_seq (c_ret ?_))))))
             refine e_then_ret (ej_ret ?_)
             replace h := esc_some h
             obtain ⟨z2, h, rfl⟩ := h
             obtain rfl := (hk2 : z2 = _)
             refine e_blk_ret (ej_ret ?_)
             replace h := esc_some h
             obtain ⟨z1, h, rfl⟩ := h
             obtain rfl := (hk1 : z1 = _)
             refine e_then_ret (e_ret ?_)
             refine r_endt rfl rfl (kc rm0 (kc rm3 (kc rm3 (kc rm2 (kd (kd kr)))))) ?_
             obtain rfl := Option.some.inj h
             exact hk
            ·replace h := cond_f hb505 h
             refine c_skip (e_seq (c_seq (c_region (o1 rfl (o_p rfl ?_)))))
             refine o1 rfl (o_ld (b := i14) (off := 0) (v := (.agg (List.toArray [(.int .u8 d14.1), (.bool d14.2.1), (.int .u8 d14.2.2.1), (.int .u8 d14.2.2.2.1), (.int .u8 d14.2.2.2.2.1), (.int .u8 d14.2.2.2.2.2)]))) rfl rm1 rfl rfl ?_)
             refine o1 rfl (o_fa (fd := ⟨ "Pairs", 127, 5, false, "", "", 24⟩) rfl rfl rfl rfl rfl ?_)
             refine o1 rfl (o_ld (b := b347) (off := 5) (v := (SV.val s1)) rfl rm2 rfl rfl ?_)
             replace h := bsome h
             obtain ⟨d17, h17, h⟩ := h
             refine o1 rfl (o_call has116 rfl (c_write_pen_attribute hg X (⟨p0.n, p0.look, p0.texts⟩ : Vwrite_pen) b0 (⟨p1.model, p1.alternate, p1.size, p1.cells, p1.cursor, p1.attrs⟩ : Vspace_Space) b1 s0 (⟨d14.1, d14.2.1, d14.2.2.1, d14.2.2.2.1, d14.2.2.2.2.1, d14.2.2.2.2.2⟩ : Vapi_Cell) p2.Pairs s1 q0 _ h17) (pc rm0 (pc rm2 (pc rm2 (pc rm2 pn)))) ?_)
             refine o1 rfl (o_p rfl (o_end (e_seq (c_ret (ej_ret ?_)))))
             replace h := esc_some h
             obtain ⟨z2, h, rfl⟩ := h
             obtain rfl := (hk2 : z2 = _)
             refine e_blk_ret (ej_ret ?_)
             replace h := esc_some h
             obtain ⟨z1, h, rfl⟩ := h
             obtain rfl := (hk1 : z1 = _)
             refine e_then_ret (e_ret ?_)
             refine r_endt rfl rfl (kc rm0 (kc rm0 (kc rm0 (kc rm0 (kd (kd kr)))))) ?_
             obtain rfl := Option.some.inj h
             exact hk
          ·replace h := cond_f hb499 h
           refine c_seq (c_region ?_)
           refine o1 rfl (o_p (v := (.bool (p2.Kind == 40))) rfl ?_)
           refine o1 rfl (o_p rfl (o_end (e_seq ?_)))
           refine c_cond (b := (p2.Kind == 40)) rfl (fun hb507 => ?_) (fun hb507 => ?_)
           ·replace h := cond_t hb507 h
            refine c_seq ?_
            replace h := bsome h
            obtain ⟨d18, h, hk18⟩ := h
            refine cj (D := Unit) (ι := Nat) (fun _ i18 => True) (fun _ i18 => [(9, (.int .i64 d18.1)), (8, (.pointer (some ⟨i18, 0, none⟩))), (0, (.pointer (some ⟨b0, 0, none⟩)))]) (fun _ i18 => X :: blk i18 (.cells (List.toArray [(.int .u8 d18.2.1), (.bool d18.2.2.1), (.int .u8 d18.2.2.2.1), (.int .u8 d18.2.2.2.2.1), (.int .u8 d18.2.2.2.2.2.1), (.int .u8 d18.2.2.2.2.2.2)]) 80 (0, 0)) :: blk b0 (.cells (List.toArray [(.pointer (some ⟨b1, 0, none⟩)), (.int .i64 p0.n), (.int .u8 p0.look.Char), (.bool p0.look.Attr), (.int .u8 p0.look.FA), (.int .u8 p0.look.High), (.int .u8 p0.look.Color), (.int .u8 p0.look.f_Set), (.bool p0.texts)]) 123 (0, 0)) :: blk b1 (.cells (List.toArray [(.int .i64 p1.model), (.bool p1.alternate), (.int .i64 p1.size.Rows), (.int .i64 p1.size.Cols), (SV.val s0), (.int .i64 p1.cursor), (.int .i64 p1.attrs)]) 116 (0, 0)) :: slO s0 80 en_Vapi_Cell p1.cells :: R) ?_ ?_
            ·replace h := bsome h
             obtain ⟨d19, h19, h⟩ := h
             refine c_draw (n := 3) (q := [(0, 79, (.pointer (some ⟨b0, 0, none⟩))), (1, 80, (.pointer (some ⟨b0, 0, none⟩))), (2, 81, (.pointer (some ⟨b0, 2, none⟩))), (3, 82, (.agg (List.toArray [(.int .u8 p0.look.Char), (.bool p0.look.Attr), (.int .u8 p0.look.FA), (.int .u8 p0.look.High), (.int .u8 p0.look.Color), (.int .u8 p0.look.f_Set)]))), (4, 83, (.pointer (some ⟨b347, 5, none⟩))), (5, 84, (SV.val s1))]) (pend := [0, 1, 2, 3, 4, 5]) rfl rfl rfl ?_
             refine ⟨⟨fun _ => ⟨rfl, rfl, rfl, .inl ⟨rfl, (o_p rfl ⟨rfl, rfl⟩)⟩⟩, fun _ => ⟨rfl, rfl, rfl, .inl ⟨rfl, (o_p rfl ⟨rfl, rfl⟩)⟩⟩, fun _ => ⟨rfl, rfl, rfl, .inl ⟨rfl, (o_fa (fd := ⟨ "look", 80, 2, false, "", "vitrine/write", 16⟩) rfl rfl rfl rfl rfl ⟨rfl, rfl⟩)⟩⟩, fun _ => ⟨rfl, rfl, rfl, .inl ⟨rfl, (o_ld (b := b0) (off := 2) (v := (.agg (List.toArray [(.int .u8 p0.look.Char), (.bool p0.look.Attr), (.int .u8 p0.look.FA), (.int .u8 p0.look.High), (.int .u8 p0.look.Color), (.int .u8 p0.look.f_Set)]))) rfl rm2 rfl rfl ⟨rfl, rfl⟩)⟩⟩, fun _ => ⟨rfl, rfl, rfl, .inl ⟨rfl, (o_fa (fd := ⟨ "Pairs", 127, 5, false, "", "", 24⟩) rfl rfl rfl rfl rfl ⟨rfl, rfl⟩)⟩⟩, fun _ => ⟨rfl, rfl, rfl, .inl ⟨rfl, (o_ld (b := b347) (off := 5) (v := (SV.val s1)) rfl rm1 rfl rfl ⟨rfl, rfl⟩)⟩⟩, trivial⟩, rfl, .inr ⟨[6, 10], rfl, rfl, ⟨rfl, .inl rfl, ?_⟩, ⟨rfl, .inl rfl, ?_⟩, trivial⟩⟩
             ·refine (o_call has117 rfl (c_write_applied hg X p0.look p2.Pairs s1 q0 _ h19) (pc rm0 pn) ?_)
              refine ⟨[(7, 78, (.tuple (List.toArray [(.agg (List.toArray [(.int .u8 d19.1.Char), (.bool d19.1.Attr), (.int .u8 d19.1.FA), (.int .u8 d19.1.High), (.int .u8 d19.1.Color), (.int .u8 d19.1.f_Set)])), (.int .i64 d19.2)]))), (8, 86, (.agg (List.toArray [(.int .u8 d19.1.Char), (.bool d19.1.Attr), (.int .u8 d19.1.FA), (.int .u8 d19.1.High), (.int .u8 d19.1.Color), (.int .u8 d19.1.f_Set)]))), (9, 87, (.int .i64 d19.2))], [7, 8, 9], rfl, rfl, rfl, rfl, ?_⟩
              refine ⟨⟨fun _ => ⟨rfl, rfl, rfl, .inl ⟨rfl, (o_p rfl ⟨rfl, rfl⟩)⟩⟩, fun _ => ⟨rfl, rfl, rfl, .inl ⟨rfl, (o_p rfl ⟨rfl, rfl⟩)⟩⟩, fun _ => ⟨rfl, rfl, rfl, .inl ⟨rfl, (o_p rfl ⟨rfl, rfl⟩)⟩⟩, (fun h => nomatch h), (fun h => nomatch h), (fun h => nomatch h), (fun h => nomatch h), (fun h => nomatch h), (fun h => nomatch h), trivial⟩, rfl, .inr ⟨[10], rfl, rfl, ⟨rfl, .inl rfl, ?_⟩, trivial⟩⟩
              refine (o_alloc (cs := [(.int .u8 0), (.bool false), (.int .u8 0), (.int .u8 0), (.int .u8 0), (.int .u8 0)]) rfl rfl (fun b508 => ?_))
              refine ⟨[], [7, 8, 9], rfl, rfl, rfl, rfl, ?_⟩
              refine ⟨⟨fun _ => ⟨rfl, rfl, rfl, .inl ⟨rfl, (o_p rfl ⟨rfl, rfl⟩)⟩⟩, fun _ => ⟨rfl, rfl, rfl, .inl ⟨rfl, (o_p rfl ⟨rfl, rfl⟩)⟩⟩, fun _ => ⟨rfl, rfl, rfl, .inl ⟨rfl, (o_p rfl ⟨rfl, rfl⟩)⟩⟩, (fun h => nomatch h), (fun h => nomatch h), (fun h => nomatch h), (fun h => nomatch h), (fun h => nomatch h), (fun h => nomatch h), trivial⟩, rfl, .inr ⟨[11], rfl, rfl, ⟨rfl, .inl rfl, ?_⟩, trivial⟩⟩
              refine (o_st (b := b508) (off := 0) (vs := [(.int .u8 d19.1.Char), (.bool d19.1.Attr), (.int .u8 d19.1.FA), (.int .u8 d19.1.High), (.int .u8 d19.1.Color), (.int .u8 d19.1.f_Set)]) (cs' := [(.int .u8 d19.1.Char), (.bool d19.1.Attr), (.int .u8 d19.1.FA), (.int .u8 d19.1.High), (.int .u8 d19.1.Color), (.int .u8 d19.1.f_Set)]) rfl rfl rp0 rfl rfl rfl rfl rfl rfl ?_)
              refine ⟨[(12, 9, (.int .i64 d19.2))], [9, 12], rfl, rfl, ?_⟩
              refine ⟨⟨fun _ => ⟨rfl, rfl, rfl, .inl ⟨rfl, (o_p rfl ⟨rfl, rfl⟩)⟩⟩, (fun h => nomatch h), (fun h => nomatch h), fun _ => ⟨rfl, rfl, rfl, .inl ⟨rfl, (o_p rfl ⟨rfl, rfl⟩)⟩⟩, (fun h => nomatch h), (fun h => nomatch h), (fun h => nomatch h), (fun h => nomatch h), (fun h => nomatch h), (fun h => nomatch h), trivial⟩, rfl, rfl, rfl, ?_⟩
              obtain rfl := Option.some.inj h
              exact ej () b508 trivial (sc rfl (sc rfl (sc rfl sn))) (kc rm1 (kc rm0 (kc rm1 (kc rm1 (kc rm1 (kd kr))))))
             ·refine (o_alloc (cs := [(.int .u8 0), (.bool false), (.int .u8 0), (.int .u8 0), (.int .u8 0), (.int .u8 0)]) rfl rfl (fun b508 => ?_))
              refine ⟨[], [0, 1, 2, 3, 4, 5], rfl, rfl, rfl, rfl, ?_⟩
              refine ⟨⟨fun _ => ⟨rfl, rfl, rfl, .inl ⟨rfl, (o_p rfl ⟨rfl, rfl⟩)⟩⟩, fun _ => ⟨rfl, rfl, rfl, .inl ⟨rfl, (o_p rfl ⟨rfl, rfl⟩)⟩⟩, fun _ => ⟨rfl, rfl, rfl, .inl ⟨rfl, (o_fa (fd := ⟨ "look", 80, 2, false, "", "vitrine/write", 16⟩) rfl rfl rfl rfl rfl ⟨rfl, rfl⟩)⟩⟩, fun _ => ⟨rfl, rfl, rfl, .inl ⟨rfl, (o_ld (b := b0) (off := 2) (v := (.agg (List.toArray [(.int .u8 p0.look.Char), (.bool p0.look.Attr), (.int .u8 p0.look.FA), (.int .u8 p0.look.High), (.int .u8 p0.look.Color), (.int .u8 p0.look.f_Set)]))) rfl rm3 rfl rfl ⟨rfl, rfl⟩)⟩⟩, fun _ => ⟨rfl, rfl, rfl, .inl ⟨rfl, (o_fa (fd := ⟨ "Pairs", 127, 5, false, "", "", 24⟩) rfl rfl rfl rfl rfl ⟨rfl, rfl⟩)⟩⟩, fun _ => ⟨rfl, rfl, rfl, .inl ⟨rfl, (o_ld (b := b347) (off := 5) (v := (SV.val s1)) rfl rm2 rfl rfl ⟨rfl, rfl⟩)⟩⟩, trivial⟩, rfl, .inr ⟨[6], rfl, rfl, ⟨rfl, .inl rfl, ?_⟩, trivial⟩⟩
              refine (o_call has117 rfl (c_write_applied hg X p0.look p2.Pairs s1 q0 _ h19) (pc rm1 pn) ?_)
              refine ⟨[(7, 78, (.tuple (List.toArray [(.agg (List.toArray [(.int .u8 d19.1.Char), (.bool d19.1.Attr), (.int .u8 d19.1.FA), (.int .u8 d19.1.High), (.int .u8 d19.1.Color), (.int .u8 d19.1.f_Set)])), (.int .i64 d19.2)]))), (8, 86, (.agg (List.toArray [(.int .u8 d19.1.Char), (.bool d19.1.Attr), (.int .u8 d19.1.FA), (.int .u8 d19.1.High), (.int .u8 d19.1.Color), (.int .u8 d19.1.f_Set)]))), (9, 87, (.int .i64 d19.2))], [7, 8, 9], rfl, rfl, rfl, rfl, ?_⟩
              refine ⟨⟨fun _ => ⟨rfl, rfl, rfl, .inl ⟨rfl, (o_p rfl ⟨rfl, rfl⟩)⟩⟩, fun _ => ⟨rfl, rfl, rfl, .inl ⟨rfl, (o_p rfl ⟨rfl, rfl⟩)⟩⟩, fun _ => ⟨rfl, rfl, rfl, .inl ⟨rfl, (o_p rfl ⟨rfl, rfl⟩)⟩⟩, (fun h => nomatch h), (fun h => nomatch h), (fun h => nomatch h), (fun h => nomatch h), (fun h => nomatch h), (fun h => nomatch h), trivial⟩, rfl, .inr ⟨[11], rfl, rfl, ⟨rfl, .inl rfl, ?_⟩, trivial⟩⟩
              refine (o_st (b := b508) (off := 0) (vs := [(.int .u8 d19.1.Char), (.bool d19.1.Attr), (.int .u8 d19.1.FA), (.int .u8 d19.1.High), (.int .u8 d19.1.Color), (.int .u8 d19.1.f_Set)]) (cs' := [(.int .u8 d19.1.Char), (.bool d19.1.Attr), (.int .u8 d19.1.FA), (.int .u8 d19.1.High), (.int .u8 d19.1.Color), (.int .u8 d19.1.f_Set)]) rfl rfl rp1 rfl rfl rfl rfl rfl rfl ?_)
              refine ⟨[(12, 9, (.int .i64 d19.2))], [9, 12], rfl, rfl, ?_⟩
              refine ⟨⟨fun _ => ⟨rfl, rfl, rfl, .inl ⟨rfl, (o_p rfl ⟨rfl, rfl⟩)⟩⟩, (fun h => nomatch h), (fun h => nomatch h), fun _ => ⟨rfl, rfl, rfl, .inl ⟨rfl, (o_p rfl ⟨rfl, rfl⟩)⟩⟩, (fun h => nomatch h), (fun h => nomatch h), (fun h => nomatch h), (fun h => nomatch h), (fun h => nomatch h), (fun h => nomatch h), trivial⟩, rfl, rfl, rfl, ?_⟩
              obtain rfl := Option.some.inj h
              exact ej () b508 trivial (sc rfl (sc rfl (sc rfl sn))) (kc rm0 (kc rm0 (kc rm1 (kc rm1 (kc rm1 (kd kr))))))
            ·rintro _ i18 _
             replace h := hk18
             clear hk18
             refine e_seq (c_seq (c_seq (c_region (o1 rfl (o_p rfl ?_)))))
             refine o1 rfl (o_p (v := (.bool (d18.1 == 0))) rfl ?_)
             refine o_end (e_seq ?_)
             replace h := bsome h
             obtain ⟨d20, h, hk20⟩ := h
             refine cj (D := Unit) (ι := Unit) (fun _ i20 => True) (fun _ i20 => [(9, (.int .i64 d18.1))]) (fun _ i20 => X :: blk b1 (.cells (List.toArray [(.int .i64 p1.model), (.bool p1.alternate), (.int .i64 p1.size.Rows), (.int .i64 p1.size.Cols), (SV.val s0), (.int .i64 p1.cursor), (.int .i64 p1.attrs)]) 116 (0, 0)) :: blk b0 (.cells (List.toArray [(.pointer (some ⟨b1, 0, none⟩)), (.int .i64 p0.n), (.int .u8 d20.1), (.bool d20.2.1), (.int .u8 d20.2.2.1), (.int .u8 d20.2.2.2.1), (.int .u8 d20.2.2.2.2.1), (.int .u8 d20.2.2.2.2.2), (.bool p0.texts)]) 123 (0, 0)) :: slO s0 80 en_Vapi_Cell p1.cells :: R) ?_ ?_
             ·refine c_cond (b := (d18.1 == 0)) rfl (fun hb513 => ?_) (fun hb513 => ?_)
              ·replace h := cond_t hb513 h
               refine c_region (o1 rfl (o_p rfl ?_))
               refine o1 rfl (o_ld (b := i18) (off := 0) (v := (.agg (List.toArray [(.int .u8 d18.2.1), (.bool d18.2.2.1), (.int .u8 d18.2.2.2.1), (.int .u8 d18.2.2.2.2.1), (.int .u8 d18.2.2.2.2.2.1), (.int .u8 d18.2.2.2.2.2.2)]))) rfl rm1 rfl rfl ?_)
               refine o1 rfl (o_p rfl ?_)
               refine o1 rfl (o_fa (fd := ⟨ "look", 80, 2, false, "", "vitrine/write", 16⟩) rfl rfl rfl rfl rfl ?_)
               refine o0 (o_st (b := b0) (off := 2) (vs := [(.int .u8 d18.2.1), (.bool d18.2.2.1), (.int .u8 d18.2.2.2.1), (.int .u8 d18.2.2.2.2.1), (.int .u8 d18.2.2.2.2.2.1), (.int .u8 d18.2.2.2.2.2.2)]) (cs' := [(.pointer (some ⟨b1, 0, none⟩)), (.int .i64 p0.n), (.int .u8 d18.2.1), (.bool d18.2.2.1), (.int .u8 d18.2.2.2.1), (.int .u8 d18.2.2.2.2.1), (.int .u8 d18.2.2.2.2.2.1), (.int .u8 d18.2.2.2.2.2.2), (.bool p0.texts)]) rfl rfl rp2 rfl rfl rfl rfl rfl rfl ?_)
               refine o_end ?_
               obtain rfl := Option.some.inj h
               exact ej () () trivial (sc rfl sn) (kc rm0 (kc rm2 (kc rm1 (kc rm1 (kd kr)))))
              ·replace h := cond_f hb513 h
               refine c_skip ?_
               obtain rfl := Option.some.inj h
               exact ej () () trivial (sc rfl sn) (kc rm0 (kc rm2 (kc rm1 (kc rm1 (kd kr)))))
             ·rintro _ i20 _
              replace h := hk20
              clear hk20
              refine e_seq (c_seq (c_region (o1 rfl (o_p rfl (o1 rfl (o_p rfl (o_end ?_)))))))
              refine e_seq (c_ret (ej_ret ?_))
              replace h := esc_some h
              obtain ⟨z2, h, rfl⟩ := h
              obtain rfl := (hk2 : z2 = _)
              refine e_blk_ret (ej_ret ?_)
              replace h := esc_some h
              obtain ⟨z1, h, rfl⟩ := h
              obtain rfl := (hk1 : z1 = _)
              refine e_then_ret (e_ret ?_)
              refine r_endt rfl rfl (kc rm0 (kc rm0 (kc rm1 (kc rm0 kr)))) ?_
              obtain rfl := Option.some.inj h
              exact hk
           ·replace h := cond_f hb507 h
            refine c_seq (c_region ?_)
            refine o1 rfl (o_p (v := (.bool (p2.Kind == 19))) rfl ?_)
            refine o1 rfl (o_p rfl (o_end (e_seq ?_)))
            refine c_cond (b := (p2.Kind == 19)) rfl (fun hb514 => ?_) (fun hb514 => ?_)
            ·replace h := cond_t hb514 h
             refine c_draw (n := 1) (q := [(0, 97, (.pointer (some ⟨b0, 0, none⟩))), (1, 98, (.pointer (some ⟨b0, 0, none⟩))), (2, 99, (.pointer (some ⟨b0, 0, none⟩))), (3, 100, (.pointer (some ⟨b1, 0, none⟩))), (4, 101, (.pointer (some ⟨b0, 0, none⟩))), (5, 102, (.pointer (some ⟨b0, 0, none⟩))), (6, 103, (.pointer (some ⟨b0, 1, none⟩))), (7, 104, (.int .i64 p0.n))]) (pend := [0, 1, 2, 3, 4, 5, 6, 7]) rfl rfl rfl ?_
             replace h := bsome h
             obtain ⟨d21, h21, h⟩ := h
             refine ⟨⟨fun _ => ⟨rfl, rfl, rfl, .inl ⟨rfl, (o_p rfl ⟨rfl, rfl⟩)⟩⟩, fun _ => ⟨rfl, rfl, rfl, .inl ⟨rfl, (o_p rfl ⟨rfl, rfl⟩)⟩⟩, fun _ => ⟨rfl, rfl, rfl, .inl ⟨rfl, (o_fa (fd := ⟨ "s", 24, 0, false, "", "vitrine/write", 0⟩) rfl rfl rfl rfl rfl ⟨rfl, rfl⟩)⟩⟩, fun _ => ⟨rfl, rfl, rfl, .inl ⟨rfl, (o_ld (b := b0) (off := 0) (v := (.pointer (some ⟨b1, 0, none⟩))) rfl rm2 rfl rfl ⟨rfl, rfl⟩)⟩⟩, fun _ => ⟨rfl, rfl, rfl, .inl ⟨rfl, (o_p rfl ⟨rfl, rfl⟩)⟩⟩, fun _ => ⟨rfl, rfl, rfl, .inl ⟨rfl, (o_p rfl ⟨rfl, rfl⟩)⟩⟩, fun _ => ⟨rfl, rfl, rfl, .inl ⟨rfl, (o_fa (fd := ⟨ "n", 3, 1, false, "", "vitrine/write", 8⟩) rfl rfl rfl rfl rfl ⟨rfl, rfl⟩)⟩⟩, fun _ => ⟨rfl, rfl, rfl, .inl ⟨rfl, (o_ld (b := b0) (off := 1) (v := (.int .i64 p0.n)) rfl rm2 rfl rfl ⟨rfl, rfl⟩)⟩⟩, trivial⟩, rfl, .inr ⟨[8], rfl, rfl, ⟨rfl, .inl rfl, ?_⟩, trivial⟩⟩
             refine (o_call has58 rfl (c_space_Space_Place hg X (⟨p1.model, p1.alternate, p1.size, p1.cells, p1.cursor, p1.attrs⟩ : Vspace_Space) b1 s0 p0.n _ h21) (pc rm0 (pc rm2 (pc rm2 pn))) ?_)
             refine ⟨[], [], rfl, rfl, rfl, rfl, ?_⟩
             refine ⟨⟨(fun h => nomatch h), (fun h => nomatch h), (fun h => nomatch h), (fun h => nomatch h), (fun h => nomatch h), (fun h => nomatch h), (fun h => nomatch h), (fun h => nomatch h), trivial⟩, rfl, rfl, rfl, ?_⟩
             obtain rfl := Option.some.inj h
             exact ej (d21.model, d21.alternate, d21.size.Rows, d21.size.Cols, d21.cells, d21.cursor, d21.attrs, p0.n, p0.look.Char, p0.look.Attr, p0.look.FA, p0.look.High, p0.look.Color, p0.look.f_Set, p0.texts) () rfl sn (kc rm0 (kc rm0 (kc rm2 (kc rm0 (kd kr)))))
            ·replace h := cond_f hb514 h
             refine c_seq (c_region ?_)
             refine o1 rfl (o_p (v := (.bool (p2.Kind == 5))) rfl ?_)
             refine o1 rfl (o_p rfl (o_end (e_seq ?_)))
             refine c_cond (b := (p2.Kind == 5)) rfl (fun hb517 => ?_) (fun hb517 => ?_)
             ·replace h := cond_t hb517 h
              refine c_region (o1 rfl (o_p rfl ?_))
              replace h := bsome h
              obtain ⟨d22, h22, h⟩ := h
              refine o1 rfl (o_call has118 rfl (c_write_pen_tab hg X (⟨p0.n, p0.look, p0.texts⟩ : Vwrite_pen) b0 p1 b1 s0 _ h22) (pc rm0 (pc rm1 (pc rm1 (pc rm1 pn)))) ?_)
              refine o_end ?_
              obtain rfl := Option.some.inj h
              exact ej (d22.1.model, d22.1.alternate, d22.1.size.Rows, d22.1.size.Cols, d22.1.cells, d22.1.cursor, d22.1.attrs, d22.2.n, d22.2.look.Char, d22.2.look.Attr, d22.2.look.FA, d22.2.look.High, d22.2.look.Color, d22.2.look.f_Set, d22.2.texts) () rfl sn (kc rm0 (kc rm0 (kc rm1 (kc rm0 (kd kr)))))
             ·replace h := cond_f hb517 h
              refine c_skip ?_
              obtain rfl := Option.some.inj h
              exact ej (p1.model, p1.alternate, p1.size.Rows, p1.size.Cols, p1.cells, p1.cursor, p1.attrs, p0.n, p0.look.Char, p0.look.Attr, p0.look.FA, p0.look.High, p0.look.Color, p0.look.f_Set, p0.texts) () rfl sn (kc rm0 (kc rm2 (kc rm1 (kc rm1 (kd kr)))))
  ·rintro d2 i2 rfl
   replace h := JK_inl hk2
   clear hk2
   refine e_blk ?_
   obtain rfl := Option.some.inj h
   exact ej (d2.1, d2.2.1, d2.2.2.1, d2.2.2.2.1, d2.2.2.2.2.1, d2.2.2.2.2.2.1, d2.2.2.2.2.2.2.1, d2.2.2.2.2.2.2.2.1, d2.2.2.2.2.2.2.2.2.1, d2.2.2.2.2.2.2.2.2.2.1, d2.2.2.2.2.2.2.2.2.2.2.1, d2.2.2.2.2.2.2.2.2.2.2.2.1, d2.2.2.2.2.2.2.2.2.2.2.2.2.1, d2.2.2.2.2.2.2.2.2.2.2.2.2.2.1, d2.2.2.2.2.2.2.2.2.2.2.2.2.2.2) () rfl sn (kc rm0 (kc rm0 (kc rm0 (kc rm0 kr))))
 ·rintro d1 i1 rfl
  replace h := JK_inl hk1
  clear hk1
  refine e_seq (c_seq (c_region (o1 rfl (o_p rfl (o_end (e_seq ?_))))))
  refine c_ret (e_ret ?_)
  refine r_endt rfl rfl (kc rm0 (kc rm0 (kc rm1 (kc rm0 kr)))) ?_
  obtain rfl := Option.some.inj h
  exact hk

end Go.Vt
