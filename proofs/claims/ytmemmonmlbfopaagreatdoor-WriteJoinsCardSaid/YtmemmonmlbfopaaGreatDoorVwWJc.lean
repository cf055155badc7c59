/- The walks: each function does what its model says. No conditions. -/
import Derived.Test.YtmemmonmlbfopaaGreatDoorVwWJb
set_option linter.unusedVariables false
set_option maxRecDepth 100000
set_option maxHeartbeats 4000000
namespace Go.Vt
open Go.Proofs
theorem c_write_Orders {g : Gw} (hg : GK g) (X : HP) (p0 : Vspace_Space) (b0 : Nat) (s0 : SV) (p1 : List Int) (s1 : SV) (q0 : Rd X s1 5 (enI .u8) p1) (p2 : Int) (r : Vspace_Space × Int × Int × Int) (h : m_write_Orders p0 p1 p2 = some r) : Tri env g 23 (List.toArray [(.pointer (some ⟨b0, 0, none⟩)), (SV.val s1), (.int .i64 p2)]) [X, blk b0 (.cells (List.toArray [(.int .i64 p0.model), (.bool p0.alternate), (.int .i64 p0.size.Rows), (.int .i64 p0.size.Cols), (SV.val s0), (.int .i64 p0.cursor), (.int .i64 p0.attrs)]) 116 (0, 0)), slO s0 80 en_Vapi_Cell p0.cells] (fun K R => ∀ (i0 : HP), (Ext X i0) → K (.tuple (List.toArray [(.int .i64 r.2.1), (.int .i64 r.2.2.1), (.int .i64 r.2.2.2)])) (i0 :: blk b0 (.cells (List.toArray [(.int .i64 r.1.model), (.bool r.1.alternate), (.int .i64 r.1.size.Rows), (.int .i64 r.1.size.Cols), (SV.val s0), (.int .i64 r.1.cursor), (.int .i64 r.1.attrs)]) 116 (0, 0)) :: slO s0 80 en_Vapi_Cell r.1.cells :: R)) := by
 refine tri_of (fn := Tryz.f23) (N := 57) Tryz.func23 rfl rfl rfl ?_
 intro R K hk
 unfold m_write_Orders at h
 change GC _ none _ [] [(0, (.pointer (some ⟨b0, 0, none⟩))), (1, (SV.val s1)), (2, (.int .i64 p2))] (X :: blk b0 (.cells (List.toArray [(.int .i64 p0.model), (.bool p0.alternate), (.int .i64 p0.size.Rows), (.int .i64 p0.size.Cols), (SV.val s0), (.int .i64 p0.cursor), (.int .i64 p0.attrs)]) 116 (0, 0)) :: slO s0 80 en_Vapi_Cell p0.cells :: R) g _ _
 refine c_seq (c_region ?_)
 refine o1 rfl (o_alloc (cs := [(.int .i64 0)]) rfl rfl (fun b144 => ?_))
 refine o1 rfl (o_alloc (cs := [(.int .i64 0)]) rfl rfl (fun b146 => ?_))
 refine o1 rfl (o_alloc (cs := [(.int .i64 0)]) rfl rfl (fun b148 => ?_))
 refine o_end (e_seq (c_seq (c_seq (c_region (o1 rfl (o_p rfl ?_))))))
 refine o1 rfl (o_p (v := (.bool false)) rfl ?_)
 refine o_end (e_seq ?_)
 refine c_cond_f rfl rfl ?_
 refine c_skip (e_seq (c_seq (c_region (o1 rfl (o_p rfl (o1 rfl (o_p rfl ?_)))))))
 replace h := bsome h
 obtain ⟨d1, h1, h⟩ := h
 refine o1 rfl (o_call has51 rfl (c_space_Space_Size hg X p0 b0 s0 _ h1) (pc rm3 (pc rm3 (pc rm3 pn))) ?_)
 refine o1 rfl (o_p rfl ?_)
 replace h := bsome h
 obtain ⟨d2, h2, h⟩ := h
 refine o1 rfl (o_call has61 rfl (c_addr_Size_Wrap hg X (⟨d1.Rows, d1.Cols⟩ : Vaddr_Size) p2 _ h2) (pc rm0 pn) ?_)
 refine o1 rfl (o_build (fs := [⟨ "s", 24, 0, false, "", "vitrine/write", 0⟩, ⟨ "n", 3, 1, false, "", "vitrine/write", 8⟩, ⟨ "look", 80, 2, false, "", "vitrine/write", 16⟩, ⟨ "texts", 4, 8, false, "", "vitrine/write", 22⟩]) (ps := [(0, 1), (1, 1), (2, 6), (8, 1)]) (cs := [(.pointer (some ⟨b0, 0, none⟩)), (.int .i64 d2), (.int .u8 0), (.bool false), (.int .u8 0), (.int .u8 0), (.int .u8 0), (.int .u8 0), (.bool false)]) rfl rfl rfl rfl rfl ?_)
 refine o1 rfl (o_box (cs := [(.pointer (some ⟨b0, 0, none⟩)), (.int .i64 d2), (.int .u8 0), (.bool false), (.int .u8 0), (.int .u8 0), (.int .u8 0), (.int .u8 0), (.bool false)]) rfl rfl (fun b150 => ?_))
 refine o1 rfl (o_alloc (cs := [(.pointer none)]) rfl rfl (fun b152 => ?_))
 refine o0 (o_st (b := b152) (off := 0) (vs := [(.pointer (some ⟨b150, 0, none⟩))]) (cs' := [(.pointer (some ⟨b150, 0, none⟩))]) rfl rfl rp0 rfl rfl rfl rfl rfl rfl ?_)
 refine o_end (e_seq (c_seq (c_region ?_)))
 refine o1 rfl (o_alloc (cs := [(.int .i64 0)]) rfl rfl (fun b154 => ?_))
 refine o0 (o_st (b := b154) (off := 0) (vs := [(.int .i64 0)]) (cs' := [(.int .i64 0)]) rfl rfl rp0 rfl rfl rfl rfl rfl rfl ?_)
 refine o_end (e_seq (c_seq (c_seq (c_region (o1 rfl (o_p rfl ?_))))))
 replace h := bsome h
 obtain ⟨d3, h3, h⟩ := h
 refine o1 rfl (o_call has62 rfl (c_order_Parse hg X p1 s1 q0 _ h3) (pc rm3 pn) (fun i3 => ?_))
 refine o_end (e_seq ?_)
 replace h := jn_some h
 obtain ⟨y4, h, hk4⟩ := h
 refine cjd (D := Int × Int × Bool × Int × Int × (List Vapi_Cell) × Int × Int × Int × Int × Bool × Int × Int × Int × Int × Bool) (ι := HP × Nat) (fun d4 i4 => [mk i4.2]) (fun d4 i4 => (y4 = Sum.inl d4) ∧ (Ext X i4.1)) (fun d4 i4 => [(10, (.pointer (some ⟨b154, 0, none⟩))), (9, (.pointer (some ⟨b152, 0, none⟩))), (8, (.pointer (some ⟨b148, 0, none⟩))), (7, (.pointer (some ⟨b146, 0, none⟩))), (6, (.pointer (some ⟨b144, 0, none⟩)))]) (fun d4 i4 => i4.1 :: blk b154 (.cells (List.toArray [(.int .i64 d4.1)]) 3 (0, 0)) :: blk b152 (.cells (List.toArray [(.pointer (some ⟨b150, 0, none⟩))]) 120 (0, 0)) :: blk b148 (.cells (List.toArray [(.int .i64 0)]) 57 (0, 0)) :: blk b146 (.cells (List.toArray [(.int .i64 0)]) 3 (0, 0)) :: blk b144 (.cells (List.toArray [(.int .i64 0)]) 3 (0, 0)) :: blk b0 (.cells (List.toArray [(.int .i64 d4.2.1), (.bool d4.2.2.1), (.int .i64 d4.2.2.2.1), (.int .i64 d4.2.2.2.2.1), (SV.val s0), (.int .i64 d4.2.2.2.2.2.2.1), (.int .i64 d4.2.2.2.2.2.2.2.1)]) 116 (0, 0)) :: blk b150 (.cells (List.toArray [(.pointer (some ⟨b0, 0, none⟩)), (.int .i64 d4.2.2.2.2.2.2.2.2.1), (.int .u8 d4.2.2.2.2.2.2.2.2.2.1), (.bool d4.2.2.2.2.2.2.2.2.2.2.1), (.int .u8 d4.2.2.2.2.2.2.2.2.2.2.2.1), (.int .u8 d4.2.2.2.2.2.2.2.2.2.2.2.2.1), (.int .u8 d4.2.2.2.2.2.2.2.2.2.2.2.2.2.1), (.int .u8 d4.2.2.2.2.2.2.2.2.2.2.2.2.2.2.1), (.bool d4.2.2.2.2.2.2.2.2.2.2.2.2.2.2.2)]) 123 (0, 0)) :: slO s0 80 en_Vapi_Cell d4.2.2.2.2.2.1 :: blk i4.2 (.deferred (some [])) :: R) ?_ ?_
 ·refine c_block ?_
  replace h := jn_some h
  obtain ⟨y5, h, hk5⟩ := h
  refine cjd (D := Int × Int × Bool × Int × Int × (List Vapi_Cell) × Int × Int × Int × Int × Bool × Int × Int × Int × Int × Bool) (ι := HP × Nat) (fun d5 i5 => [mk i5.2]) (fun d5 i5 => (y5 = Sum.inl d5) ∧ (Ext X i5.1)) (fun d5 i5 => [(10, (.pointer (some ⟨b154, 0, none⟩))), (9, (.pointer (some ⟨b152, 0, none⟩))), (8, (.pointer (some ⟨b148, 0, none⟩))), (7, (.pointer (some ⟨b146, 0, none⟩))), (6, (.pointer (some ⟨b144, 0, none⟩)))]) (fun d5 i5 => i5.1 :: blk b154 (.cells (List.toArray [(.int .i64 d5.1)]) 3 (0, 0)) :: blk b152 (.cells (List.toArray [(.pointer (some ⟨b150, 0, none⟩))]) 120 (0, 0)) :: blk b148 (.cells (List.toArray [(.int .i64 0)]) 57 (0, 0)) :: blk b146 (.cells (List.toArray [(.int .i64 0)]) 3 (0, 0)) :: blk b144 (.cells (List.toArray [(.int .i64 0)]) 3 (0, 0)) :: blk b0 (.cells (List.toArray [(.int .i64 d5.2.1), (.bool d5.2.2.1), (.int .i64 d5.2.2.2.1), (.int .i64 d5.2.2.2.2.1), (SV.val s0), (.int .i64 d5.2.2.2.2.2.2.1), (.int .i64 d5.2.2.2.2.2.2.2.1)]) 116 (0, 0)) :: blk b150 (.cells (List.toArray [(.pointer (some ⟨b0, 0, none⟩)), (.int .i64 d5.2.2.2.2.2.2.2.2.1), (.int .u8 d5.2.2.2.2.2.2.2.2.2.1), (.bool d5.2.2.2.2.2.2.2.2.2.2.1), (.int .u8 d5.2.2.2.2.2.2.2.2.2.2.2.1), (.int .u8 d5.2.2.2.2.2.2.2.2.2.2.2.2.1), (.int .u8 d5.2.2.2.2.2.2.2.2.2.2.2.2.2.1), (.int .u8 d5.2.2.2.2.2.2.2.2.2.2.2.2.2.2.1), (.bool d5.2.2.2.2.2.2.2.2.2.2.2.2.2.2.2)]) 123 (0, 0)) :: slO s0 80 en_Vapi_Cell d5.2.2.2.2.2.1 :: blk i5.2 (.deferred (some [])) :: R) ?_ ?_
  ·refine c_range' (fn := Tryz.f111) (M := 32) rfl has111 Tryz.func111 rfl rfl rfl (fun l6 D6 a6 fc6 rc6 hrc6 ht6 => ?_)
   change GC _ none _ [] [(0, (.func (.yield l6) #[] #[])), (1, (.pointer (some ⟨i3, 0, none⟩)))] (blk l6 (.loop (rc6 .ready none)) :: blk D6 (.deferred (some [])) :: X :: blk i3 (.cells (List.toArray [(SV.val s1)]) 46 (0, 0)) :: blk b154 (.cells (List.toArray [(.int .i64 0)]) 3 (0, 0)) :: blk b152 (.cells (List.toArray [(.pointer (some ⟨b150, 0, none⟩))]) 120 (0, 0)) :: blk b150 (.cells (List.toArray [(.pointer (some ⟨b0, 0, none⟩)), (.int .i64 d2), (.int .u8 0), (.bool false), (.int .u8 0), (.int .u8 0), (.int .u8 0), (.int .u8 0), (.bool false)]) 123 (0, 0)) :: blk b0 (.cells (List.toArray [(.int .i64 p0.model), (.bool p0.alternate), (.int .i64 p0.size.Rows), (.int .i64 p0.size.Cols), (SV.val s0), (.int .i64 p0.cursor), (.int .i64 p0.attrs)]) 116 (0, 0)) :: slO s0 80 en_Vapi_Cell p0.cells :: blk b148 (.cells (List.toArray [(.int .i64 0)]) 57 (0, 0)) :: blk b146 (.cells (List.toArray [(.int .i64 0)]) 3 (0, 0)) :: blk b144 (.cells (List.toArray [(.int .i64 0)]) 3 (0, 0)) :: R) g _ _
   refine c_seq (c_region ?_)
   refine o1 rfl (o_ld (b := i3) (off := 0) (v := (SV.val s1)) rfl rm3 rfl rfl ?_)
   refine o1 rfl (o_build (fs := [⟨ "p", 46, 0, false, "", "vitrine/order", 0⟩, ⟨ "code", 57, 1, false, "", "vitrine/order", 24⟩]) (ps := [(0, 1), (1, 1)]) (cs := [(SV.val s1), (.int .i64 0)]) rfl rfl rfl rfl rfl ?_)
   refine o1 rfl (o_box (cs := [(SV.val s1), (.int .i64 0)]) rfl rfl (fun b159 => ?_))
   refine o1 rfl (o_p rfl (o_end (e_seq ?_)))
   replace h := jn_some h
   obtain ⟨y7, h, hk7⟩ := h
   refine cj (D := Int × Bool × Int × Int × (List Vapi_Cell) × Int × Int × Int × Int × Int × Bool × Int × Int × Int × Int × Bool) (ι := HP) (fun d7 i7 => (y7 = Sum.inl d7) ∧ (Rd i7 s1 5 (enI .u8) p1) ∧ (Ext X i7)) (fun d7 i7 => []) (fun d7 i7 => i7 :: blk b0 (.cells (List.toArray [(.int .i64 d7.1), (.bool d7.2.1), (.int .i64 d7.2.2.1), (.int .i64 d7.2.2.2.1), (SV.val s0), (.int .i64 d7.2.2.2.2.2.1), (.int .i64 d7.2.2.2.2.2.2.1)]) 116 (0, 0)) :: blk i3 (.cells (List.toArray [(SV.val s1)]) 46 (0, 0)) :: blk b154 (.cells (List.toArray [(.int .i64 d7.2.2.2.2.2.2.2.1)]) 3 (0, 0)) :: blk b152 (.cells (List.toArray [(.pointer (some ⟨b150, 0, none⟩))]) 120 (0, 0)) :: blk b150 (.cells (List.toArray [(.pointer (some ⟨b0, 0, none⟩)), (.int .i64 d7.2.2.2.2.2.2.2.2.1), (.int .u8 d7.2.2.2.2.2.2.2.2.2.1), (.bool d7.2.2.2.2.2.2.2.2.2.2.1), (.int .u8 d7.2.2.2.2.2.2.2.2.2.2.2.1), (.int .u8 d7.2.2.2.2.2.2.2.2.2.2.2.2.1), (.int .u8 d7.2.2.2.2.2.2.2.2.2.2.2.2.2.1), (.int .u8 d7.2.2.2.2.2.2.2.2.2.2.2.2.2.2.1), (.bool d7.2.2.2.2.2.2.2.2.2.2.2.2.2.2.2)]) 123 (0, 0)) :: blk b148 (.cells (List.toArray [(.int .i64 0)]) 57 (0, 0)) :: blk b146 (.cells (List.toArray [(.int .i64 0)]) 3 (0, 0)) :: blk b144 (.cells (List.toArray [(.int .i64 0)]) 3 (0, 0)) :: slO s0 80 en_Vapi_Cell d7.2.2.2.2.1 :: blk l6 (.loop (rc6 .ready none)) :: blk D6 (.deferred (some [])) :: R) ?_ ?_
   ·refine c_block ?_
    refine c_loop (l_sub (sc rfl (sc rfl sn)) (l_keep (kc rm3 (kc rm0 (kc rm6 (kc rm2 (kc rm2 (kc rm2 (kc rm2 (kc rm3 (kc rm3 (kc rm3 (kc rm2 (kc rm0 (kc rm0 kr))))))))))))) (lf (X := (List Int) × Int × Int × Bool × Int × Int × (List Vapi_Cell) × Int × Int × Int × Int × Int × Bool × Int × Int × Int × Int × Bool) (ι := HP × SV) (fun k x => write_Orders_l8 k x) _ (fun x8 i8 => (Rd i8.1 i8.2 5 (enI .u8) x8.1) ∧ (Rd i8.1 s1 5 (enI .u8) p1) ∧ (Ext X i8.1)) (fun x8 i8 => [(3, (.pointer (some ⟨b159, 0, none⟩))), (0, (.func (.yield l6) #[] #[]))]) (fun x8 i8 => i8.1 :: blk b159 (.cells (List.toArray [(SV.val i8.2), (.int .i64 x8.2.1)]) 213 (0, 0)) :: blk b0 (.cells (List.toArray [(.int .i64 x8.2.2.1), (.bool x8.2.2.2.1), (.int .i64 x8.2.2.2.2.1), (.int .i64 x8.2.2.2.2.2.1), (SV.val s0), (.int .i64 x8.2.2.2.2.2.2.2.1), (.int .i64 x8.2.2.2.2.2.2.2.2.1)]) 116 (0, 0)) :: blk i3 (.cells (List.toArray [(SV.val s1)]) 46 (0, 0)) :: blk b154 (.cells (List.toArray [(.int .i64 x8.2.2.2.2.2.2.2.2.2.1)]) 3 (0, 0)) :: blk b152 (.cells (List.toArray [(.pointer (some ⟨b150, 0, none⟩))]) 120 (0, 0)) :: blk b150 (.cells (List.toArray [(.pointer (some ⟨b0, 0, none⟩)), (.int .i64 x8.2.2.2.2.2.2.2.2.2.2.1), (.int .u8 x8.2.2.2.2.2.2.2.2.2.2.2.1), (.bool x8.2.2.2.2.2.2.2.2.2.2.2.2.1), (.int .u8 x8.2.2.2.2.2.2.2.2.2.2.2.2.2.1), (.int .u8 x8.2.2.2.2.2.2.2.2.2.2.2.2.2.2.1), (.int .u8 x8.2.2.2.2.2.2.2.2.2.2.2.2.2.2.2.1), (.int .u8 x8.2.2.2.2.2.2.2.2.2.2.2.2.2.2.2.2.1), (.bool x8.2.2.2.2.2.2.2.2.2.2.2.2.2.2.2.2.2)]) 123 (0, 0)) :: blk b148 (.cells (List.toArray [(.int .i64 0)]) 57 (0, 0)) :: blk b146 (.cells (List.toArray [(.int .i64 0)]) 3 (0, 0)) :: blk b144 (.cells (List.toArray [(.int .i64 0)]) 3 (0, 0)) :: slO s0 80 en_Vapi_Cell x8.2.2.2.2.2.2.1 :: blk l6 (.loop (rc6 .ready none)) :: blk D6 (.deferred (some [])) :: R) (fun _ => rfl) ?_ fuel (p1, 0, p0.model, p0.alternate, p0.size.Rows, p0.size.Cols, p0.cells, p0.cursor, p0.attrs, 0, d2, 0, false, 0, 0, 0, 0, false) (X, s1) ⟨q0, q0, (Ext.refl _)⟩ h)))
    clear h
    rintro k8 ih8 x8 i8 ⟨f8_0, f8_1, f8_2⟩ h
    rw [write_Orders_l8.eq_2] at h
    refine l_round (c_seq (c_seq (c_region (o1 rfl (o_p rfl (o1 rfl (o_p rfl ?_)))))))
    refine o1 rfl (o_fa (fd := ⟨ "p", 46, 0, false, "", "vitrine/order", 0⟩) rfl rfl rfl rfl rfl ?_)
    refine o1 rfl (o_ld (b := b159) (off := 0) (v := (SV.val i8.2)) rfl rm1 rfl rfl ?_)
    refine o1 rfl (o_len (s := i8.2) rfl rfl rfl rm0 f8_0 ?_)
    refine o1 rfl (o_p (v := (.bool (decide ((x8.1.length : Int) > 0)))) rfl ?_)
    refine o_end (e_seq ?_)
    refine c_cond (b := (decide ((x8.1.length : Int) > 0))) rfl (fun hb592 => ?_) (fun hb592 => ?_)
    ·replace h := cond_t hb592 h
     refine c_skip (e_seq (c_block (c_seq (c_region (o1 rfl (o_p rfl ?_))))))
     replace h := bsome h
     obtain ⟨d10, h10, h⟩ := h
     refine o1 rfl (o_call has112 rfl (c_order_scanner_op hg i8.1 (⟨x8.1, x8.2.1⟩ : Vorder_scanner) b159 i8.2 f8_0 _ h10) (pc rm0 (pc rm0 pn)) (fun i10 f10_0 f10_1 => ?_))
     refine o1 rfl (o_alloc (cs := [(.int .i64 0), (.int .i64 0), (.int .u8 0), (.bool false), (.int .u8 0), (SV.val SV.nil), (SV.val SV.nil)]) rfl rfl (fun b595 => ?_))
     refine o0 (o_st (b := b595) (off := 0) (vs := [(.int .i64 d10.2.Kind), (.int .i64 d10.2.Addr), (.int .u8 d10.2.Code), (.bool d10.2.Graph), (.int .u8 d10.2.FA), (SV.val i10.2.2.1), (SV.val i10.2.2.2)]) (cs' := [(.int .i64 d10.2.Kind), (.int .i64 d10.2.Addr), (.int .u8 d10.2.Code), (.bool d10.2.Graph), (.int .u8 d10.2.FA), (SV.val i10.2.2.1), (SV.val i10.2.2.2)]) rfl rfl rp0 rfl rfl rfl rfl rfl rfl ?_)
     refine o_end (e_seq (c_seq (c_seq (c_region (o1 rfl (o_p rfl ?_))))))
     refine o1 rfl (o_p rfl ?_)
     refine o1 rfl (o_fa (fd := ⟨ "code", 57, 1, false, "", "vitrine/order", 24⟩) rfl rfl rfl rfl rfl ?_)
     refine o1 rfl (o_ld (b := b159) (off := 1) (v := (.int .i64 d10.1.code)) rfl rm2 rfl rfl ?_)
     refine o1 rfl (o_p (v := (.bool (d10.1.code != 0))) rfl ?_)
     refine o_end (e_seq ?_)
     refine c_cond (b := (d10.1.code != 0)) rfl (fun hb597 => ?_) (fun hb597 => ?_)
     ·replace h := cond_t hb597 h
      refine c_seq (c_region (o1 rfl (o_p rfl ?_)))
      refine o1 rfl (o_build (fs := [⟨ "Kind", 3, 0, false, "", "", 0⟩, ⟨ "Addr", 3, 1, false, "", "", 8⟩, ⟨ "Code", 5, 2, false, "", "", 16⟩, ⟨ "Graph", 4, 3, false, "", "", 17⟩, ⟨ "FA", 5, 4, false, "", "", 18⟩, ⟨ "Pairs", 127, 5, false, "", "", 24⟩, ⟨ "Text", 46, 6, false, "", "", 48⟩]) (ps := [(0, 1), (1, 1), (2, 1), (3, 1), (4, 1), (5, 1), (6, 1)]) (cs := [(.int .i64 0), (.int .i64 0), (.int .u8 0), (.bool false), (.int .u8 0), (SV.val SV.nil), (SV.val SV.nil)]) rfl rfl rfl rfl rfl ?_)
      refine o1 rfl (o_p rfl (o1 rfl (o_p rfl ?_)))
      refine o1 rfl (o_fa (fd := ⟨ "code", 57, 1, false, "", "vitrine/order", 24⟩) rfl rfl rfl rfl rfl ?_)
      refine o1 rfl (o_ld (b := b159) (off := 1) (v := (.int .i64 d10.1.code)) rfl rm2 rfl rfl ?_)
      refine o1 rfl (o_yield' hrc6 ht6 rfl rfl rfl rfl rm14 ?_)
      refine c_seq (c_region ?_)
      refine o1 rfl (o_alloc (cs := [(.int .i64 0), (.int .i64 0), (.int .u8 0), (.bool false), (.int .u8 0), (SV.val SV.nil), (SV.val SV.nil)]) rfl rfl (fun b598 => ?_))
      refine o0 (o_st (b := b598) (off := 0) (vs := [(.int .i64 0), (.int .i64 0), (.int .u8 0), (.bool false), (.int .u8 0), (SV.val SV.nil), (SV.val SV.nil)]) (cs' := [(.int .i64 0), (.int .i64 0), (.int .u8 0), (.bool false), (.int .u8 0), (SV.val SV.nil), (SV.val SV.nil)]) rfl rfl rp0 rfl rfl rfl rfl rfl rfl ?_)
      refine o_end (e_seq (c_region (o1 rfl (o_p rfl (o_end ?_)))))
      refine e_begin' hrc6 rm1 ?_
      refine c_block (c_seq (c_seq (c_region (o1 rfl (o_p rfl ?_)))))
      refine o1 rfl (o_p (v := (.bool (d10.1.code == 0))) rfl ?_)
      refine o_end (e_seq ?_)
      replace h := bsome h
      obtain ⟨d13, h, hk13⟩ := h
      refine cj (D := Unit) (ι := Unit) (fun _ i13 => True) (fun _ i13 => [(12, (.int .i64 d13.1)), (11, (.pointer (some ⟨b598, 0, none⟩))), (10, (.pointer (some ⟨b154, 0, none⟩))), (9, (.pointer (some ⟨b152, 0, none⟩))), (8, (.pointer (some ⟨b148, 0, none⟩))), (7, (.pointer (some ⟨b146, 0, none⟩))), (6, (.pointer (some ⟨b144, 0, none⟩)))]) (fun _ i13 => i10.1 :: blk b598 (.cells (List.toArray [(.int .i64 0), (.int .i64 0), (.int .u8 0), (.bool false), (.int .u8 0), (SV.val SV.nil), (SV.val SV.nil)]) 129 (0, 0)) :: blk b154 (.cells (List.toArray [(.int .i64 x8.2.2.2.2.2.2.2.2.2.1)]) 3 (0, 0)) :: blk b152 (.cells (List.toArray [(.pointer (some ⟨b150, 0, none⟩))]) 120 (0, 0)) :: blk b148 (.cells (List.toArray [(.int .i64 0)]) 57 (0, 0)) :: blk b146 (.cells (List.toArray [(.int .i64 0)]) 3 (0, 0)) :: blk b144 (.cells (List.toArray [(.int .i64 0)]) 3 (0, 0)) :: blk b0 (.cells (List.toArray [(.int .i64 d13.2.1), (.bool d13.2.2.1), (.int .i64 d13.2.2.2.1), (.int .i64 d13.2.2.2.2.1), (SV.val s0), (.int .i64 d13.2.2.2.2.2.2.1), (.int .i64 d13.2.2.2.2.2.2.2.1)]) 116 (0, 0)) :: blk i3 (.cells (List.toArray [(SV.val s1)]) 46 (0, 0)) :: blk b150 (.cells (List.toArray [(.pointer (some ⟨b0, 0, none⟩)), (.int .i64 d13.2.2.2.2.2.2.2.2.1), (.int .u8 d13.2.2.2.2.2.2.2.2.2.1), (.bool d13.2.2.2.2.2.2.2.2.2.2.1), (.int .u8 d13.2.2.2.2.2.2.2.2.2.2.2.1), (.int .u8 d13.2.2.2.2.2.2.2.2.2.2.2.2.1), (.int .u8 d13.2.2.2.2.2.2.2.2.2.2.2.2.2.1), (.int .u8 d13.2.2.2.2.2.2.2.2.2.2.2.2.2.2.1), (.bool d13.2.2.2.2.2.2.2.2.2.2.2.2.2.2.2)]) 123 (0, 0)) :: blk b159 (.cells (List.toArray [(SV.val i10.2.1), (.int .i64 d10.1.code)]) 213 (0, 0)) :: blk b595 (.cells (List.toArray [(.int .i64 d10.2.Kind), (.int .i64 d10.2.Addr), (.int .u8 d10.2.Code), (.bool d10.2.Graph), (.int .u8 d10.2.FA), (SV.val i10.2.2.1), (SV.val i10.2.2.2)]) 129 (0, 0)) :: slO s0 80 en_Vapi_Cell d13.2.2.2.2.2.1 :: slO i10.2.2.1 254 en_Vattr_Pair d10.2.Pairs :: slO i10.2.2.2 5 (enI .u8) d10.2.Text :: blk l6 (.loop (rc6 .busy none)) :: blk D6 (.deferred (some [])) :: R) ?_ ?_
      ·refine c_cond (b := (d10.1.code == 0)) rfl (fun hb600 => ?_) (fun hb600 => ?_)
       ·replace h := cond_t hb600 h
        refine c_region ?_
        refine o1 rfl (o_ld (b := b152) (off := 0) (v := (.pointer (some ⟨b150, 0, none⟩))) rfl rm10 rfl rfl ?_)
        refine o1 rfl (o_ld (b := b598) (off := 0) (v := (.agg (List.toArray [(.int .i64 0), (.int .i64 0), (.int .u8 0), (.bool false), (.int .u8 0), (SV.val SV.nil), (SV.val SV.nil)]))) rfl rm1 rfl rfl ?_)
        replace h := bsome h
        obtain ⟨d14, h14, h⟩ := h
        refine o1 rfl (o_call has63 rfl (c_write_pen_do hg i10.1 (⟨x8.2.2.2.2.2.2.2.2.2.2.1, (⟨x8.2.2.2.2.2.2.2.2.2.2.2.1, x8.2.2.2.2.2.2.2.2.2.2.2.2.1, x8.2.2.2.2.2.2.2.2.2.2.2.2.2.1, x8.2.2.2.2.2.2.2.2.2.2.2.2.2.2.1, x8.2.2.2.2.2.2.2.2.2.2.2.2.2.2.2.1, x8.2.2.2.2.2.2.2.2.2.2.2.2.2.2.2.2.1⟩ : Vapi_Cell), x8.2.2.2.2.2.2.2.2.2.2.2.2.2.2.2.2.2⟩ : Vwrite_pen) b150 (⟨x8.2.2.1, x8.2.2.2.1, (⟨x8.2.2.2.2.1, x8.2.2.2.2.2.1⟩ : Vaddr_Size), x8.2.2.2.2.2.2.1, x8.2.2.2.2.2.2.2.1, x8.2.2.2.2.2.2.2.2.1⟩ : Vspace_Space) b0 s0 (⟨0, 0, 0, false, 0, ([] : List Vattr_Pair), ([] : List Int)⟩ : Vorder_Op) SV.nil (rd_nil _ _ _) SV.nil (rd_nil _ _ _) _ h14) (pc rm3 (pc rm10 (pc rm6 (pc rm12 pn)))) ?_)
        refine o1 rfl (o_p rfl (o_end ?_))
        obtain rfl := Option.some.inj h
        exact ej () () trivial (sc rfl (sc rfl (sc rfl (sc rfl (sc rfl (sc rfl (sc rfl sn))))))) (kc rm0 (kc rm4 (kc rm9 (kc rm9 (kc rm9 (kc rm9 (kc rm9 (kc rm0 (kc rm7 (kc rm1 (kc rm3 (kc rm2 (kc rm0 (kc rm1 (kc rm1 (kc rm0 (kc rm0 kr)))))))))))))))))
       ·replace h := cond_f hb600 h
        refine c_skip ?_
        obtain rfl := Option.some.inj h
        exact ej () () trivial (sc rfl (sc rfl (sc rfl (sc rfl (sc rfl (sc rfl (sc rfl sn))))))) (kc rm3 (kc rm1 (kc rm7 (kc rm7 (kc rm8 (kc rm8 (kc rm8 (kc rm5 (kc rm5 (kc rm5 (kc rm2 (kc rm1 (kc rm3 (kc rm1 (kc rm1 (kc rm0 (kc rm0 kr)))))))))))))))))
      ·rintro _ i13 _
       replace h := hk13
       clear hk13
       refine e_seq (c_seq (c_seq (c_region (o1 rfl (o_p rfl ?_)))))
       refine o1 rfl (o_p (v := (.bool (d13.1 != 0))) rfl ?_)
       refine o_end (e_seq ?_)
       refine c_cond (b := (d13.1 != 0)) rfl (fun hb603 => ?_) (fun hb603 => ?_)
       ·replace h := cond_t hb603 h
        refine c_seq ?_
        refine c_draw (n := 3) (q := [(0, 33, (.pointer (some ⟨b150, 0, none⟩))), (1, 34, (.pointer (some ⟨b150, 0, none⟩))), (2, 35, (.pointer (some ⟨b150, 1, none⟩))), (3, 36, (.int .i64 d13.2.2.2.2.2.2.2.2.1)), (4, 37, (.int .i64 x8.2.2.2.2.2.2.2.2.2.1)), (5, 38, (.int .i64 d13.1))]) (pend := [0, 1, 2, 3, 4, 5]) rfl rfl rfl ?_
        refine ⟨⟨fun _ => ⟨rfl, rfl, rfl, .inl ⟨rfl, (o_ld (b := b152) (off := 0) (v := (.pointer (some ⟨b150, 0, none⟩))) rfl rm3 rfl rfl ⟨rfl, rfl⟩)⟩⟩, fun _ => ⟨rfl, rfl, rfl, .inl ⟨rfl, (o_p rfl ⟨rfl, rfl⟩)⟩⟩, fun _ => ⟨rfl, rfl, rfl, .inl ⟨rfl, (o_fa (fd := ⟨ "n", 3, 1, false, "", "vitrine/write", 8⟩) rfl rfl rfl rfl rfl ⟨rfl, rfl⟩)⟩⟩, fun _ => ⟨rfl, rfl, rfl, .inl ⟨rfl, (o_ld (b := b150) (off := 1) (v := (.int .i64 d13.2.2.2.2.2.2.2.2.1)) rfl rm9 rfl rfl ⟨rfl, rfl⟩)⟩⟩, fun _ => ⟨rfl, rfl, rfl, .inl ⟨rfl, (o_ld (b := b154) (off := 0) (v := (.int .i64 x8.2.2.2.2.2.2.2.2.2.1)) rfl rm2 rfl rfl ⟨rfl, rfl⟩)⟩⟩, fun _ => ⟨rfl, rfl, rfl, .inl ⟨rfl, (o_p rfl ⟨rfl, rfl⟩)⟩⟩, trivial⟩, rfl, .inr ⟨[6], rfl, rfl, ⟨rfl, .inl rfl, ?_⟩, trivial⟩⟩
        refine (o_st (b := b144) (off := 0) (vs := [(.int .i64 d13.2.2.2.2.2.2.2.2.1)]) (cs' := [(.int .i64 d13.2.2.2.2.2.2.2.2.1)]) rfl rfl rp6 rfl rfl rfl rfl rfl rfl ?_)
        refine ⟨[], [4, 5], rfl, rfl, ?_⟩
        refine ⟨⟨(fun h => nomatch h), (fun h => nomatch h), (fun h => nomatch h), (fun h => nomatch h), fun _ => ⟨rfl, rfl, rfl, .inl ⟨rfl, (o_ld (b := b154) (off := 0) (v := (.int .i64 x8.2.2.2.2.2.2.2.2.2.1)) rfl rm2 rfl rfl ⟨rfl, rfl⟩)⟩⟩, fun _ => ⟨rfl, rfl, rfl, .inl ⟨rfl, (o_p rfl ⟨rfl, rfl⟩)⟩⟩, trivial⟩, rfl, .inr ⟨[7], rfl, rfl, ⟨rfl, .inl rfl, ?_⟩, trivial⟩⟩
        refine (o_st (b := b146) (off := 0) (vs := [(.int .i64 x8.2.2.2.2.2.2.2.2.2.1)]) (cs' := [(.int .i64 x8.2.2.2.2.2.2.2.2.2.1)]) rfl rfl rp5 rfl rfl rfl rfl rfl rfl ?_)
        refine ⟨[], [5], rfl, rfl, ?_⟩
        refine ⟨⟨(fun h => nomatch h), (fun h => nomatch h), (fun h => nomatch h), (fun h => nomatch h), (fun h => nomatch h), fun _ => ⟨rfl, rfl, rfl, .inl ⟨rfl, (o_p rfl ⟨rfl, rfl⟩)⟩⟩, trivial⟩, rfl, .inr ⟨[8], rfl, rfl, ⟨rfl, .inl rfl, ?_⟩, trivial⟩⟩
        refine (o_st (b := b148) (off := 0) (vs := [(.int .i64 d13.1)]) (cs' := [(.int .i64 d13.1)]) rfl rfl rp4 rfl rfl rfl rfl rfl rfl ?_)
        refine ⟨[], [], rfl, rfl, ?_⟩
        refine ⟨⟨(fun h => nomatch h), (fun h => nomatch h), (fun h => nomatch h), (fun h => nomatch h), (fun h => nomatch h), (fun h => nomatch h), trivial⟩, rfl, rfl, rfl, ?_⟩
        refine e_seq (c_ret (e_then_ret (e_blk_ret ?_)))
        refine e_round_ret' hrc6 rm15 ?_
        refine o_end (e_seq (c_ret (e_then_ret (e_blk_ret (e_then_ret ?_)))))
        refine e_blk_ret (ej_ret ?_)
        replace h := esc_some h
        obtain ⟨z7, h, rfl⟩ := h
        obtain rfl := (hk7 : z7 = _)
        refine e_ret ?_
        refine r_end (rs := []) (vs := []) rfl rfl ?_
        refine ke_jump' hrc6 rm0 (by simp) ?_
        refine c_ret (ejd_ret ?_)
        replace h := esc_some h
        obtain ⟨z5, h, rfl⟩ := h
        obtain rfl := (hk5 : z5 = _)
        refine e_blk_ret (ejd_ret ?_)
        replace h := esc_some h
        obtain ⟨z4, h, rfl⟩ := h
        obtain rfl := (hk4 : z4 = _)
        refine e_then_ret (e_ret ?_)
        refine r_mark rm15 ?_
        refine r_endc (B := [[(.int .i64 d13.2.2.2.2.2.2.2.2.1)], [(.int .i64 x8.2.2.2.2.2.2.2.2.2.1)], [(.int .i64 d13.1)]]) rfl ⟨⟨_, _, _, _, rfl, rm6⟩, ⟨⟨_, _, _, _, rfl, rm5⟩, ⟨⟨_, _, _, _, rfl, rm4⟩, trivial⟩⟩⟩ rfl (kc rm0 (kc rm6 (kc rm10 (kd (kd (kd (kd (kd (kd (kd (kd (kd (kd (kd (kd kr))))))))))))))) ?_
        obtain rfl := Option.some.inj h
        exact hk i10.1 (Ext.trans f8_2 f10_1)
       ·replace h := cond_f hb603 h
        refine c_skip (e_seq (c_seq (c_region ?_)))
        refine o1 rfl (o_ld (b := b152) (off := 0) (v := (.pointer (some ⟨b150, 0, none⟩))) rfl rm3 rfl rfl ?_)
        refine o1 rfl (o_fa (fd := ⟨ "Kind", 3, 0, false, "", "", 0⟩) rfl rfl rfl rfl rfl ?_)
        refine o1 rfl (o_ld (b := b598) (off := 0) (v := (.int .i64 0)) rfl rm1 rfl rfl ?_)
        refine o1 rfl (o_p (v := (.bool true)) rfl ?_)
        refine o1 rfl (o_p rfl ?_)
        refine on rfl rfl rfl rfl ?_
        refine on rfl rfl rfl rfl ?_
        refine on rfl rfl rfl rfl ?_
        refine o1 rfl (o_pick_t rfl rfl rfl ?_)
        refine o1 rfl (o_p rfl ?_)
        refine o1 rfl (o_fa (fd := ⟨ "texts", 4, 8, false, "", "vitrine/write", 22⟩) rfl rfl rfl rfl rfl ?_)
        refine o0 (o_st (b := b150) (off := 8) (vs := [(.bool true)]) (cs' := [(.pointer (some ⟨b0, 0, none⟩)), (.int .i64 d13.2.2.2.2.2.2.2.2.1), (.int .u8 d13.2.2.2.2.2.2.2.2.2.1), (.bool d13.2.2.2.2.2.2.2.2.2.2.1), (.int .u8 d13.2.2.2.2.2.2.2.2.2.2.2.1), (.int .u8 d13.2.2.2.2.2.2.2.2.2.2.2.2.1), (.int .u8 d13.2.2.2.2.2.2.2.2.2.2.2.2.2.1), (.int .u8 d13.2.2.2.2.2.2.2.2.2.2.2.2.2.2.1), (.bool true)]) rfl rfl rp9 rfl rfl rfl rfl rfl rfl ?_)
        refine o_end (e_seq (c_region ?_))
        refine o1 rfl (o_ld (b := b154) (off := 0) (v := (.int .i64 x8.2.2.2.2.2.2.2.2.2.1)) rfl rm2 rfl rfl ?_)
        refine o1 rfl (o_p (v := (.int .i64 (w64 (x8.2.2.2.2.2.2.2.2.2.1 + 1)))) rfl ?_)
        refine o0 (o_st (b := b154) (off := 0) (vs := [(.int .i64 (w64 (x8.2.2.2.2.2.2.2.2.2.1 + 1)))]) (cs' := [(.int .i64 (w64 (x8.2.2.2.2.2.2.2.2.2.1 + 1)))]) rfl rfl rp2 rfl rfl rfl rfl rfl rfl ?_)
        refine o_end (e_blk ?_)
        refine e_on' hrc6 rm15 ?_
        refine o_end (e_seq (c_ret (e_then_ret (e_blk_ret (e_then_ret ?_)))))
        refine e_blk_ret (ej_ret ?_)
        replace h := esc_some h
        obtain ⟨z7, h, rfl⟩ := h
        obtain rfl := (hk7 : z7 = _)
        refine e_ret ?_
        refine r_end (rs := []) (vs := []) rfl rfl ?_
        refine ke' hrc6 rm0 (by simp) ?_
        obtain rfl := Option.some.inj h
        exact ejd (w64 (x8.2.2.2.2.2.2.2.2.2.1 + 1), d13.2.1, d13.2.2.1, d13.2.2.2.1, d13.2.2.2.2.1, d13.2.2.2.2.2.1, d13.2.2.2.2.2.2.1, d13.2.2.2.2.2.2.2.1, d13.2.2.2.2.2.2.2.2.1, d13.2.2.2.2.2.2.2.2.2.1, d13.2.2.2.2.2.2.2.2.2.2.1, d13.2.2.2.2.2.2.2.2.2.2.2.1, d13.2.2.2.2.2.2.2.2.2.2.2.2.1, d13.2.2.2.2.2.2.2.2.2.2.2.2.2.1, d13.2.2.2.2.2.2.2.2.2.2.2.2.2.2.1, true) (i10.1, D6) ⟨rfl, (Ext.trans f8_2 f10_1)⟩ rfl (sc rfl (sc rfl (sc rfl (sc rfl (sc rfl sn))))) (kc rm0 (kc rm1 (kc rm1 (kc rm1 (kc rm1 (kc rm1 (kc rm1 (kc rm2 (kc rm4 (kc rm6 (kd (kd (kd (kd (kd (kd kr))))))))))))))))
     ·replace h := cond_f hb597 h
      refine c_skip (e_seq (c_seq (c_region (o1 rfl (o_p rfl ?_)))))
      refine o1 rfl (o_ld (b := b595) (off := 0) (v := (.agg (List.toArray [(.int .i64 d10.2.Kind), (.int .i64 d10.2.Addr), (.int .u8 d10.2.Code), (.bool d10.2.Graph), (.int .u8 d10.2.FA), (SV.val i10.2.2.1), (SV.val i10.2.2.2)]))) rfl rm0 rfl rfl ?_)
      refine o1 rfl (o_yield' hrc6 ht6 rfl rfl rfl rfl rm14 ?_)
      refine c_seq (c_region ?_)
      refine o1 rfl (o_alloc (cs := [(.int .i64 0), (.int .i64 0), (.int .u8 0), (.bool false), (.int .u8 0), (SV.val SV.nil), (SV.val SV.nil)]) rfl rfl (fun b604 => ?_))
      refine o0 (o_st (b := b604) (off := 0) (vs := [(.int .i64 d10.2.Kind), (.int .i64 d10.2.Addr), (.int .u8 d10.2.Code), (.bool d10.2.Graph), (.int .u8 d10.2.FA), (SV.val i10.2.2.1), (SV.val i10.2.2.2)]) (cs' := [(.int .i64 d10.2.Kind), (.int .i64 d10.2.Addr), (.int .u8 d10.2.Code), (.bool d10.2.Graph), (.int .u8 d10.2.FA), (SV.val i10.2.2.1), (SV.val i10.2.2.2)]) rfl rfl rp0 rfl rfl rfl rfl rfl rfl ?_)
      refine o_end (e_seq (c_region (o1 rfl (o_p rfl (o_end ?_)))))
      refine e_begin' hrc6 rm1 ?_
      refine c_block (c_seq (c_seq (c_region (o1 rfl (o_p rfl ?_)))))
      refine o1 rfl (o_p (v := (.bool true)) rfl ?_)
      refine o_end (e_seq ?_)
      refine c_cond_t rfl rfl ?_
      refine c_region ?_
      refine o1 rfl (o_ld (b := b152) (off := 0) (v := (.pointer (some ⟨b150, 0, none⟩))) rfl rm10 rfl rfl ?_)
      refine o1 rfl (o_ld (b := b604) (off := 0) (v := (.agg (List.toArray [(.int .i64 d10.2.Kind), (.int .i64 d10.2.Addr), (.int .u8 d10.2.Code), (.bool d10.2.Graph), (.int .u8 d10.2.FA), (SV.val i10.2.2.1), (SV.val i10.2.2.2)]))) rfl rm1 rfl rfl ?_)
      refine o_fz rm5 rm3 (fun X606 hx607 hs608 => ?_)
      refine o_fz rm5 rm0 (fun X609 hx610 hs611 => ?_)
      replace h := bsome h
      obtain ⟨d19, h19, h⟩ := h
      refine o1 rfl (o_call has63 rfl (c_write_pen_do hg X609 (⟨x8.2.2.2.2.2.2.2.2.2.2.1, (⟨x8.2.2.2.2.2.2.2.2.2.2.2.1, x8.2.2.2.2.2.2.2.2.2.2.2.2.1, x8.2.2.2.2.2.2.2.2.2.2.2.2.2.1, x8.2.2.2.2.2.2.2.2.2.2.2.2.2.2.1, x8.2.2.2.2.2.2.2.2.2.2.2.2.2.2.2.1, x8.2.2.2.2.2.2.2.2.2.2.2.2.2.2.2.2.1⟩ : Vapi_Cell), x8.2.2.2.2.2.2.2.2.2.2.2.2.2.2.2.2.2⟩ : Vwrite_pen) b150 (⟨x8.2.2.1, x8.2.2.2.1, (⟨x8.2.2.2.2.1, x8.2.2.2.2.2.1⟩ : Vaddr_Size), x8.2.2.2.2.2.2.1, x8.2.2.2.2.2.2.2.1, x8.2.2.2.2.2.2.2.2.1⟩ : Vspace_Space) b0 s0 (⟨d10.2.Kind, d10.2.Addr, d10.2.Code, d10.2.Graph, d10.2.FA, d10.2.Pairs, d10.2.Text⟩ : Vorder_Op) i10.2.2.1 (Rd.ext hs608 hx610) i10.2.2.2 hs611 _ h19) (pc rm0 (pc rm8 (pc rm4 (pc rm10 pn)))) ?_)
      refine o1 rfl (o_p rfl (o_end (e_seq (c_seq (c_seq (c_region ?_))))))
      refine o1 rfl (o_p rfl ?_)
      refine o1 rfl (o_p (v := (.bool (d19.2.2 != 0))) rfl ?_)
      refine o_end (e_seq ?_)
      refine c_cond (b := (d19.2.2 != 0)) rfl (fun hb613 => ?_) (fun hb613 => ?_)
      ·replace h := cond_t hb613 h
       refine c_seq ?_
       refine c_draw (n := 3) (q := [(0, 33, (.pointer (some ⟨b150, 0, none⟩))), (1, 34, (.pointer (some ⟨b150, 0, none⟩))), (2, 35, (.pointer (some ⟨b150, 1, none⟩))), (3, 36, (.int .i64 d19.2.1.n)), (4, 37, (.int .i64 x8.2.2.2.2.2.2.2.2.2.1)), (5, 38, (.int .i64 d19.2.2))]) (pend := [0, 1, 2, 3, 4, 5]) rfl rfl rfl ?_
       refine ⟨⟨fun _ => ⟨rfl, rfl, rfl, .inl ⟨rfl, (o_ld (b := b152) (off := 0) (v := (.pointer (some ⟨b150, 0, none⟩))) rfl rm10 rfl rfl ⟨rfl, rfl⟩)⟩⟩, fun _ => ⟨rfl, rfl, rfl, .inl ⟨rfl, (o_p rfl ⟨rfl, rfl⟩)⟩⟩, fun _ => ⟨rfl, rfl, rfl, .inl ⟨rfl, (o_fa (fd := ⟨ "n", 3, 1, false, "", "vitrine/write", 8⟩) rfl rfl rfl rfl rfl ⟨rfl, rfl⟩)⟩⟩, fun _ => ⟨rfl, rfl, rfl, .inl ⟨rfl, (o_ld (b := b150) (off := 1) (v := (.int .i64 d19.2.1.n)) rfl rm3 rfl rfl ⟨rfl, rfl⟩)⟩⟩, fun _ => ⟨rfl, rfl, rfl, .inl ⟨rfl, (o_ld (b := b154) (off := 0) (v := (.int .i64 x8.2.2.2.2.2.2.2.2.2.1)) rfl rm9 rfl rfl ⟨rfl, rfl⟩)⟩⟩, fun _ => ⟨rfl, rfl, rfl, .inl ⟨rfl, (o_p rfl ⟨rfl, rfl⟩)⟩⟩, trivial⟩, rfl, .inr ⟨[6], rfl, rfl, ⟨rfl, .inl rfl, ?_⟩, trivial⟩⟩
       refine (o_st (b := b144) (off := 0) (vs := [(.int .i64 d19.2.1.n)]) (cs' := [(.int .i64 d19.2.1.n)]) rfl rfl rp13 rfl rfl rfl rfl rfl rfl ?_)
       refine ⟨[], [4, 5], rfl, rfl, ?_⟩
       refine ⟨⟨(fun h => nomatch h), (fun h => nomatch h), (fun h => nomatch h), (fun h => nomatch h), fun _ => ⟨rfl, rfl, rfl, .inl ⟨rfl, (o_ld (b := b154) (off := 0) (v := (.int .i64 x8.2.2.2.2.2.2.2.2.2.1)) rfl rm9 rfl rfl ⟨rfl, rfl⟩)⟩⟩, fun _ => ⟨rfl, rfl, rfl, .inl ⟨rfl, (o_p rfl ⟨rfl, rfl⟩)⟩⟩, trivial⟩, rfl, .inr ⟨[7], rfl, rfl, ⟨rfl, .inl rfl, ?_⟩, trivial⟩⟩
       refine (o_st (b := b146) (off := 0) (vs := [(.int .i64 x8.2.2.2.2.2.2.2.2.2.1)]) (cs' := [(.int .i64 x8.2.2.2.2.2.2.2.2.2.1)]) rfl rfl rp12 rfl rfl rfl rfl rfl rfl ?_)
       refine ⟨[], [5], rfl, rfl, ?_⟩
       refine ⟨⟨(fun h => nomatch h), (fun h => nomatch h), (fun h => nomatch h), (fun h => nomatch h), (fun h => nomatch h), fun _ => ⟨rfl, rfl, rfl, .inl ⟨rfl, (o_p rfl ⟨rfl, rfl⟩)⟩⟩, trivial⟩, rfl, .inr ⟨[8], rfl, rfl, ⟨rfl, .inl rfl, ?_⟩, trivial⟩⟩
       refine (o_st (b := b148) (off := 0) (vs := [(.int .i64 d19.2.2)]) (cs' := [(.int .i64 d19.2.2)]) rfl rfl rp11 rfl rfl rfl rfl rfl rfl ?_)
       refine ⟨[], [], rfl, rfl, ?_⟩
       refine ⟨⟨(fun h => nomatch h), (fun h => nomatch h), (fun h => nomatch h), (fun h => nomatch h), (fun h => nomatch h), (fun h => nomatch h), trivial⟩, rfl, rfl, rfl, ?_⟩
       refine e_seq (c_ret (e_then_ret (e_blk_ret ?_)))
       refine e_round_ret' hrc6 rm4 ?_
       refine o1 rfl (o_p (v := (.bool true)) rfl ?_)
       refine o_end (e_seq ?_)
       refine c_cond_t rfl rfl ?_
       refine c_ret (e_blk_ret (e_then_ret (e_blk_ret (ej_ret ?_))))
       replace h := esc_some h
       obtain ⟨z7, h, rfl⟩ := h
       obtain rfl := (hk7 : z7 = _)
       refine e_ret ?_
       refine r_end (rs := []) (vs := []) rfl rfl ?_
       refine ke_jump' hrc6 rm0 (by simp) ?_
       refine c_ret (ejd_ret ?_)
       replace h := esc_some h
       obtain ⟨z5, h, rfl⟩ := h
       obtain rfl := (hk5 : z5 = _)
       refine e_blk_ret (ejd_ret ?_)
       replace h := esc_some h
       obtain ⟨z4, h, rfl⟩ := h
       obtain rfl := (hk4 : z4 = _)
       refine e_then_ret (e_ret ?_)
       refine r_mark rm13 ?_
       refine r_endc (B := [[(.int .i64 d19.2.1.n)], [(.int .i64 x8.2.2.2.2.2.2.2.2.2.1)], [(.int .i64 d19.2.2)]]) rfl ⟨⟨_, _, _, _, rfl, rm12⟩, ⟨⟨_, _, _, _, rfl, rm11⟩, ⟨⟨_, _, _, _, rfl, rm10⟩, trivial⟩⟩⟩ rfl (kc rm0 (kc rm0 (kc rm0 (kd (kd (kd (kd (kd (kd (kd (kd (kd (kd kr))))))))))))) ?_
       obtain rfl := Option.some.inj h
       exact hk X609 (Ext.trans (Ext.trans (Ext.trans f8_2 f10_1) hx607) hx610)
      ·replace h := cond_f hb613 h
       refine c_skip (e_seq (c_seq ?_))
       replace h := bsome h
       obtain ⟨d22, h, hk22⟩ := h
       refine cj (D := Unit) (ι := Unit) (fun _ i22 => True) (fun _ i22 => [(10, (.pointer (some ⟨b154, 0, none⟩)))]) (fun _ i22 => X609 :: blk b154 (.cells (List.toArray [(.int .i64 x8.2.2.2.2.2.2.2.2.2.1)]) 3 (0, 0)) :: blk b0 (.cells (List.toArray [(.int .i64 d19.1.model), (.bool d19.1.alternate), (.int .i64 d19.1.size.Rows), (.int .i64 d19.1.size.Cols), (SV.val s0), (.int .i64 d19.1.cursor), (.int .i64 d19.1.attrs)]) 116 (0, 0)) :: blk i3 (.cells (List.toArray [(SV.val s1)]) 46 (0, 0)) :: blk b152 (.cells (List.toArray [(.pointer (some ⟨b150, 0, none⟩))]) 120 (0, 0)) :: blk b150 (.cells (List.toArray [(.pointer (some ⟨b0, 0, none⟩)), (.int .i64 d19.2.1.n), (.int .u8 d19.2.1.look.Char), (.bool d19.2.1.look.Attr), (.int .u8 d19.2.1.look.FA), (.int .u8 d19.2.1.look.High), (.int .u8 d19.2.1.look.Color), (.int .u8 d19.2.1.look.f_Set), (.bool d22)]) 123 (0, 0)) :: blk b148 (.cells (List.toArray [(.int .i64 0)]) 57 (0, 0)) :: blk b146 (.cells (List.toArray [(.int .i64 0)]) 3 (0, 0)) :: blk b144 (.cells (List.toArray [(.int .i64 0)]) 3 (0, 0)) :: blk b159 (.cells (List.toArray [(SV.val i10.2.1), (.int .i64 d10.1.code)]) 213 (0, 0)) :: blk b595 (.cells (List.toArray [(.int .i64 d10.2.Kind), (.int .i64 d10.2.Addr), (.int .u8 d10.2.Code), (.bool d10.2.Graph), (.int .u8 d10.2.FA), (SV.val i10.2.2.1), (SV.val i10.2.2.2)]) 129 (0, 0)) :: slO s0 80 en_Vapi_Cell d19.1.cells :: blk l6 (.loop (rc6 .busy none)) :: blk D6 (.deferred (some [])) :: R) ?_ ?_
       ·refine c_region ?_
        refine o1 rfl (o_ld (b := b152) (off := 0) (v := (.pointer (some ⟨b150, 0, none⟩))) rfl rm10 rfl rfl ?_)
        refine o1 rfl (o_fa (fd := ⟨ "Kind", 3, 0, false, "", "", 0⟩) rfl rfl rfl rfl rfl ?_)
        refine o1 rfl (o_ld (b := b604) (off := 0) (v := (.int .i64 d10.2.Kind)) rfl rm5 rfl rfl ?_)
        refine o1 rfl (o_p (v := (.bool (d10.2.Kind == 0))) rfl ?_)
        refine o1 rfl (o_p rfl ?_)
        rcases bool_or ((d10.2.Kind == 0)) with hb614 | hb614
        ·replace h := cond_t hb614 h
         refine on rfl rfl rfl hb614 ?_
         refine on rfl rfl rfl hb614 ?_
         refine on rfl rfl rfl hb614 ?_
         refine o1 rfl (o_pick_t rfl hb614 rfl ?_)
         refine o1 rfl (o_p rfl ?_)
         refine o1 rfl (o_fa (fd := ⟨ "texts", 4, 8, false, "", "vitrine/write", 22⟩) rfl rfl rfl rfl rfl ?_)
         refine o0 (o_st (b := b150) (off := 8) (vs := [(.bool true)]) (cs' := [(.pointer (some ⟨b0, 0, none⟩)), (.int .i64 d19.2.1.n), (.int .u8 d19.2.1.look.Char), (.bool d19.2.1.look.Attr), (.int .u8 d19.2.1.look.FA), (.int .u8 d19.2.1.look.High), (.int .u8 d19.2.1.look.Color), (.int .u8 d19.2.1.look.f_Set), (.bool true)]) rfl rfl rp3 rfl rfl rfl rfl rfl rfl ?_)
         refine o_end ?_
         obtain rfl := Option.some.inj h
         exact ej () () trivial (sc rfl sn) (kc rm0 (kc rm8 (kc rm0 (kc rm6 (kc rm6 (kc rm1 (kc rm5 (kc rm5 (kc rm5 (kc rm4 (kc rm3 (kc rm0 (kc rm0 (kc rm1 (kd kr)))))))))))))))
        ·replace h := cond_f hb614 h
         refine oy rfl rfl rfl hb614 (o_fa (fd := ⟨ "Kind", 3, 0, false, "", "", 0⟩) rfl rfl rfl rfl rfl ?_)
         refine oy rfl rfl rfl hb614 (o_ld (b := b604) (off := 0) (v := (.int .i64 d10.2.Kind)) rfl rm5 rfl rfl ?_)
         refine oy rfl rfl rfl hb614 (o_p (v := (.bool (d10.2.Kind == 8))) rfl ?_)
         refine o1 rfl (o_pick_f rfl hb614 rfl ?_)
         refine o1 rfl (o_p rfl ?_)
         refine o1 rfl (o_fa (fd := ⟨ "texts", 4, 8, false, "", "vitrine/write", 22⟩) rfl rfl rfl rfl rfl ?_)
         refine o0 (o_st (b := b150) (off := 8) (vs := [(.bool (d10.2.Kind == 8))]) (cs' := [(.pointer (some ⟨b0, 0, none⟩)), (.int .i64 d19.2.1.n), (.int .u8 d19.2.1.look.Char), (.bool d19.2.1.look.Attr), (.int .u8 d19.2.1.look.FA), (.int .u8 d19.2.1.look.High), (.int .u8 d19.2.1.look.Color), (.int .u8 d19.2.1.look.f_Set), (.bool (d10.2.Kind == 8))]) rfl rfl rp3 rfl rfl rfl rfl rfl rfl ?_)
         refine o_end ?_
         obtain rfl := Option.some.inj h
         exact ej () () trivial (sc rfl sn) (kc rm0 (kc rm8 (kc rm0 (kc rm6 (kc rm6 (kc rm1 (kc rm5 (kc rm5 (kc rm5 (kc rm4 (kc rm3 (kc rm0 (kc rm0 (kc rm1 (kd kr)))))))))))))))
       ·rintro _ i22 _
        replace h := hk22
        clear hk22
        refine e_seq (c_region ?_)
        refine o1 rfl (o_ld (b := b154) (off := 0) (v := (.int .i64 x8.2.2.2.2.2.2.2.2.2.1)) rfl rm1 rfl rfl ?_)
        refine o1 rfl (o_p (v := (.int .i64 (w64 (x8.2.2.2.2.2.2.2.2.2.1 + 1)))) rfl ?_)
        refine o0 (o_st (b := b154) (off := 0) (vs := [(.int .i64 (w64 (x8.2.2.2.2.2.2.2.2.2.1 + 1)))]) (cs' := [(.int .i64 (w64 (x8.2.2.2.2.2.2.2.2.2.1 + 1)))]) rfl rfl rp1 rfl rfl rfl rfl rfl rfl ?_)
        refine o_end (e_blk ?_)
        refine e_on' hrc6 rm12 ?_
        refine o1 rfl (o_p (v := (.bool false)) rfl ?_)
        refine o_end (e_seq ?_)
        refine c_cond_f rfl rfl ?_
        refine c_skip (e_blk ?_)
        exact e_loop (l_sub (sc rfl (sc rfl sn)) (l_keep (kc rm1 (kc rm9 (kc rm2 (kc rm2 (kc rm1 (kc rm1 (kc rm1 (kc rm1 (kc rm1 (kc rm1 (kc rm2 (kc rm0 (kc rm1 (kd kr)))))))))))))) (ih8 (d10.1.p, d10.1.code, d19.1.model, d19.1.alternate, d19.1.size.Rows, d19.1.size.Cols, d19.1.cells, d19.1.cursor, d19.1.attrs, w64 (x8.2.2.2.2.2.2.2.2.2.1 + 1), d19.2.1.n, d19.2.1.look.Char, d19.2.1.look.Attr, d19.2.1.look.FA, d19.2.1.look.High, d19.2.1.look.Color, d19.2.1.look.f_Set, d22) (X609, i10.2.1) ⟨(Rd.ext f10_0 (Ext.trans hx607 hx610)), (Rd.ext f8_1 (Ext.trans (Ext.trans f10_1 hx607) hx610)), (Ext.trans (Ext.trans (Ext.trans f8_2 f10_1) hx607) hx610)⟩ h)))
    ·replace h := cond_f hb592 h
     refine c_exit (e_then_exit (e_then_exit (e_blk_exit ?_)))
     obtain rfl := Option.some.inj h
     exact ej (x8.2.2.1, x8.2.2.2.1, x8.2.2.2.2.1, x8.2.2.2.2.2.1, x8.2.2.2.2.2.2.1, x8.2.2.2.2.2.2.2.1, x8.2.2.2.2.2.2.2.2.1, x8.2.2.2.2.2.2.2.2.2.1, x8.2.2.2.2.2.2.2.2.2.2.1, x8.2.2.2.2.2.2.2.2.2.2.2.1, x8.2.2.2.2.2.2.2.2.2.2.2.2.1, x8.2.2.2.2.2.2.2.2.2.2.2.2.2.1, x8.2.2.2.2.2.2.2.2.2.2.2.2.2.2.1, x8.2.2.2.2.2.2.2.2.2.2.2.2.2.2.2.1, x8.2.2.2.2.2.2.2.2.2.2.2.2.2.2.2.2.1, x8.2.2.2.2.2.2.2.2.2.2.2.2.2.2.2.2.2) i8.1 ⟨rfl, f8_1, f8_2⟩ sn (kc rm0 (kc rm1 (kc rm1 (kc rm1 (kc rm1 (kc rm1 (kc rm1 (kc rm1 (kc rm1 (kc rm1 (kc rm1 (kc rm1 (kd kr)))))))))))))
   ·rintro d7 i7 ⟨rfl, f7_0, f7_1⟩
    replace h := JK_inl hk7
    clear hk7
    refine e_fall ?_
    refine r_end (rs := []) (vs := []) rfl rfl ?_
    refine ke' hrc6 rm10 (by simp) ?_
    obtain rfl := Option.some.inj h
    exact ejd (d7.2.2.2.2.2.2.2.1, d7.1, d7.2.1, d7.2.2.1, d7.2.2.2.1, d7.2.2.2.2.1, d7.2.2.2.2.2.1, d7.2.2.2.2.2.2.1, d7.2.2.2.2.2.2.2.2.1, d7.2.2.2.2.2.2.2.2.2.1, d7.2.2.2.2.2.2.2.2.2.2.1, d7.2.2.2.2.2.2.2.2.2.2.2.1, d7.2.2.2.2.2.2.2.2.2.2.2.2.1, d7.2.2.2.2.2.2.2.2.2.2.2.2.2.1, d7.2.2.2.2.2.2.2.2.2.2.2.2.2.2.1, d7.2.2.2.2.2.2.2.2.2.2.2.2.2.2.2) (i7, D6) ⟨rfl, f7_1⟩ rfl (sc rfl (sc rfl (sc rfl (sc rfl (sc rfl sn))))) (kc rm0 (kc rm2 (kc rm2 (kc rm3 (kc rm3 (kc rm3 (kc rm0 (kc rm1 (kc rm1 (kc rm1 (kd kr)))))))))))
  ·rintro d5 i5 ⟨rfl, f5_0⟩
   replace h := JK_inl hk5
   clear hk5
   refine e_blk ?_
   obtain rfl := Option.some.inj h
   exact ejd (d5.1, d5.2.1, d5.2.2.1, d5.2.2.2.1, d5.2.2.2.2.1, d5.2.2.2.2.2.1, d5.2.2.2.2.2.2.1, d5.2.2.2.2.2.2.2.1, d5.2.2.2.2.2.2.2.2.1, d5.2.2.2.2.2.2.2.2.2.1, d5.2.2.2.2.2.2.2.2.2.2.1, d5.2.2.2.2.2.2.2.2.2.2.2.1, d5.2.2.2.2.2.2.2.2.2.2.2.2.1, d5.2.2.2.2.2.2.2.2.2.2.2.2.2.1, d5.2.2.2.2.2.2.2.2.2.2.2.2.2.2.1, d5.2.2.2.2.2.2.2.2.2.2.2.2.2.2.2) (i5.1, i5.2) ⟨rfl, f5_0⟩ rfl (sc rfl (sc rfl (sc rfl (sc rfl (sc rfl sn))))) (kc rm0 (kc rm0 (kc rm0 (kc rm0 (kc rm0 (kc rm0 (kc rm0 (kc rm0 (kc rm0 (kc rm0 kr))))))))))
 ·rintro d4 i4 ⟨rfl, f4_0⟩
  replace h := JK_inl hk4
  clear hk4
  refine e_seq (c_seq ?_)
  refine c_draw (n := 3) (q := [(0, 52, (.pointer (some ⟨b150, 0, none⟩))), (1, 53, (.pointer (some ⟨b150, 0, none⟩))), (2, 54, (.pointer (some ⟨b150, 1, none⟩))), (3, 55, (.int .i64 d4.2.2.2.2.2.2.2.2.1)), (4, 56, (.int .i64 d4.1))]) (pend := [0, 1, 2, 3, 4]) rfl rfl rfl ?_
  refine ⟨⟨fun _ => ⟨rfl, rfl, rfl, .inl ⟨rfl, (o_ld (b := b152) (off := 0) (v := (.pointer (some ⟨b150, 0, none⟩))) rfl rm2 rfl rfl ⟨rfl, rfl⟩)⟩⟩, fun _ => ⟨rfl, rfl, rfl, .inl ⟨rfl, (o_p rfl ⟨rfl, rfl⟩)⟩⟩, fun _ => ⟨rfl, rfl, rfl, .inl ⟨rfl, (o_fa (fd := ⟨ "n", 3, 1, false, "", "vitrine/write", 8⟩) rfl rfl rfl rfl rfl ⟨rfl, rfl⟩)⟩⟩, fun _ => ⟨rfl, rfl, rfl, .inl ⟨rfl, (o_ld (b := b150) (off := 1) (v := (.int .i64 d4.2.2.2.2.2.2.2.2.1)) rfl rm7 rfl rfl ⟨rfl, rfl⟩)⟩⟩, fun _ => ⟨rfl, rfl, rfl, .inl ⟨rfl, (o_ld (b := b154) (off := 0) (v := (.int .i64 d4.1)) rfl rm1 rfl rfl ⟨rfl, rfl⟩)⟩⟩, trivial⟩, rfl, .inr ⟨[5], rfl, rfl, ⟨rfl, .inl rfl, ?_⟩, trivial⟩⟩
  refine (o_st (b := b144) (off := 0) (vs := [(.int .i64 d4.2.2.2.2.2.2.2.2.1)]) (cs' := [(.int .i64 d4.2.2.2.2.2.2.2.2.1)]) rfl rfl rp5 rfl rfl rfl rfl rfl rfl ?_)
  refine ⟨[], [4], rfl, rfl, ?_⟩
  refine ⟨⟨(fun h => nomatch h), (fun h => nomatch h), (fun h => nomatch h), (fun h => nomatch h), fun _ => ⟨rfl, rfl, rfl, .inl ⟨rfl, (o_ld (b := b154) (off := 0) (v := (.int .i64 d4.1)) rfl rm1 rfl rfl ⟨rfl, rfl⟩)⟩⟩, trivial⟩, rfl, .inr ⟨[6], rfl, rfl, ⟨rfl, .inl rfl, ?_⟩, trivial⟩⟩
  refine (o_st (b := b146) (off := 0) (vs := [(.int .i64 d4.1)]) (cs' := [(.int .i64 d4.1)]) rfl rfl rp4 rfl rfl rfl rfl rfl rfl ?_)
  refine ⟨[], [], rfl, rfl, ?_⟩
  refine ⟨⟨(fun h => nomatch h), (fun h => nomatch h), (fun h => nomatch h), (fun h => nomatch h), (fun h => nomatch h), trivial⟩, rfl, .inr ⟨[7], rfl, rfl, ⟨rfl, .inl rfl, ?_⟩, trivial⟩⟩
  refine (o_st (b := b148) (off := 0) (vs := [(.int .i64 0)]) (cs' := [(.int .i64 0)]) rfl rfl rp3 rfl rfl rfl rfl rfl rfl ?_)
  refine ⟨[], [], rfl, rfl, ?_⟩
  refine ⟨⟨(fun h => nomatch h), (fun h => nomatch h), (fun h => nomatch h), (fun h => nomatch h), (fun h => nomatch h), trivial⟩, rfl, rfl, rfl, ?_⟩
  refine e_seq (c_ret (e_ret ?_))
  refine r_mark rm9 ?_
  refine r_endc (B := [[(.int .i64 d4.2.2.2.2.2.2.2.2.1)], [(.int .i64 d4.1)], [(.int .i64 0)]]) rfl ⟨⟨_, _, _, _, rfl, rm5⟩, ⟨⟨_, _, _, _, rfl, rm4⟩, ⟨⟨_, _, _, _, rfl, rm3⟩, trivial⟩⟩⟩ rfl (kc rm0 (kc rm5 (kc rm6 (kd (kd (kd (kd (kd (kd kr))))))))) ?_
  obtain rfl := Option.some.inj h
  exact hk i4.1 f4_0

theorem c_write_written {g : Gw} (hg : GK g) (X : HP) (p0 : Vspace_Space) (b0 : Nat) (s0 : SV) (p1 : Vwrite_Result) (s1 : SV) (q0 : Rd X s1 5 (enI .u8) p1.Fields) (p2 : List Int) (s2 : SV) (q1 : Rd X s2 5 (enI .u8) p2) (r : Vspace_Space × Vwrite_Result × Int) (h : m_write_written p0 p1 p2 = some r) : Tri env g 103 (List.toArray [(.pointer (some ⟨b0, 0, none⟩)), (.agg (List.toArray [(.int .i64 p1.Command), (.bool p1.Restore), (.bool p1.Alarm), (.bool p1.Reset), (.int .i64 p1.Pieces), (SV.val s1)])), (SV.val s2)]) [X, blk b0 (.cells (List.toArray [(.int .i64 p0.model), (.bool p0.alternate), (.int .i64 p0.size.Rows), (.int .i64 p0.size.Cols), (SV.val s0), (.int .i64 p0.cursor), (.int .i64 p0.attrs)]) 116 (0, 0)), slO s0 80 en_Vapi_Cell p0.cells] (fun K R => ∀ (i0 : HP × SV), (Rd i0.1 s1 5 (enI .u8) r.2.1.Fields) → (Ext X i0.1) → K (.tuple (List.toArray [(.agg (List.toArray [(.int .i64 r.2.1.Command), (.bool r.2.1.Restore), (.bool r.2.1.Alarm), (.bool r.2.1.Reset), (.int .i64 r.2.1.Pieces), (SV.val s1)])), (.int .i64 r.2.2)])) (i0.1 :: blk b0 (.cells (List.toArray [(.int .i64 r.1.model), (.bool r.1.alternate), (.int .i64 r.1.size.Rows), (.int .i64 r.1.size.Cols), (SV.val i0.2), (.int .i64 r.1.cursor), (.int .i64 r.1.attrs)]) 116 (0, 0)) :: slO i0.2 80 en_Vapi_Cell r.1.cells :: R)) := by
 refine tri_of (fn := Tryz.f103) (N := 59) Tryz.func103 rfl rfl rfl ?_
 intro R K hk
 unfold m_write_written at h
 change GC _ none _ [] [(0, (.pointer (some ⟨b0, 0, none⟩))), (1, (.agg (List.toArray [(.int .i64 p1.Command), (.bool p1.Restore), (.bool p1.Alarm), (.bool p1.Reset), (.int .i64 p1.Pieces), (SV.val s1)]))), (2, (SV.val s2))] (X :: blk b0 (.cells (List.toArray [(.int .i64 p0.model), (.bool p0.alternate), (.int .i64 p0.size.Rows), (.int .i64 p0.size.Cols), (SV.val s0), (.int .i64 p0.cursor), (.int .i64 p0.attrs)]) 116 (0, 0)) :: slO s0 80 en_Vapi_Cell p0.cells :: R) g _ _
 refine c_seq (c_region ?_)
 refine o1 rfl (o_box (cs := [(.int .i64 p1.Command), (.bool p1.Restore), (.bool p1.Alarm), (.bool p1.Reset), (.int .i64 p1.Pieces), (SV.val s1)]) rfl rfl (fun b64 => ?_))
 refine o1 rfl (o_alloc (cs := [(.int .i64 0), (.bool false), (.bool false), (.bool false), (.int .i64 0), (SV.val SV.nil)]) rfl rfl (fun b66 => ?_))
 refine o1 rfl (o_p rfl (o_end (e_seq (c_seq (c_region (o1 rfl (o_p rfl ?_)))))))
 refine o_end (e_seq (c_seq (c_seq (c_region (o1 rfl (o_p rfl ?_))))))
 refine o1 rfl (o_len (s := s2) rfl rfl rfl rm2 q1 ?_)
 refine o1 rfl (o_p (v := (.bool (decide ((p2.length : Int) > 0)))) rfl ?_)
 refine o_end (e_seq ?_)
 replace h := bsome h
 obtain ⟨d1, h, hk1⟩ := h
 refine cj (D := Unit) (ι := SV) (fun _ i1 => Rd X i1 5 (enI .u8) d1.1) (fun _ i1 => [(2, (SV.val i1)), (8, (.int .u8 d1.2)), (6, (.pointer (some ⟨b66, 0, none⟩))), (4, (.pointer (some ⟨b64, 0, none⟩))), (0, (.pointer (some ⟨b0, 0, none⟩)))]) (fun _ i1 => X :: blk b66 (.cells (List.toArray [(.int .i64 0), (.bool false), (.bool false), (.bool false), (.int .i64 0), (SV.val SV.nil)]) 110 (0, 0)) :: blk b64 (.cells (List.toArray [(.int .i64 p1.Command), (.bool p1.Restore), (.bool p1.Alarm), (.bool p1.Reset), (.int .i64 p1.Pieces), (SV.val s1)]) 110 (0, 0)) :: blk b0 (.cells (List.toArray [(.int .i64 p0.model), (.bool p0.alternate), (.int .i64 p0.size.Rows), (.int .i64 p0.size.Cols), (SV.val s0), (.int .i64 p0.cursor), (.int .i64 p0.attrs)]) 116 (0, 0)) :: slO s0 80 en_Vapi_Cell p0.cells :: R) ?_ ?_
 ·refine c_cond (b := (decide ((p2.length : Int) > 0))) rfl (fun hb68 => ?_) (fun hb68 => ?_)
  ·replace h := cond_t hb68 h
   refine c_sub (T' := [(12, (.bool (decide ((p2.length : Int) > 0)))), (11, (.int .i64 (p2.length : Int))), (10, (SV.val s2)), (7, (.int .i64 0)), (6, (.pointer (some ⟨b66, 0, none⟩))), (4, (.pointer (some ⟨b64, 0, none⟩))), (0, (.pointer (some ⟨b0, 0, none⟩))), (1, (.agg (List.toArray [(.int .i64 p1.Command), (.bool p1.Restore), (.bool p1.Alarm), (.bool p1.Reset), (.int .i64 p1.Pieces), (SV.val s1)]))), (2, (SV.val s2))]) (sc rfl (sc rfl (sc rfl (sc rfl (sc rfl (sc rfl (sc rfl (sc rfl (sc rfl sn))))))))) ?_
   replace h := gsome h
   obtain ⟨hg69, h⟩ := h
   replace h := gsome h
   obtain ⟨hg70, h⟩ := h
   have hr71 : Rd X (SV.cut s2 1 (Int.toNat 1) (Int.toNat (p2.length : Int)) (mxv s2 none)) 5 (enI .u8) (List.drop 1 p2) := rd_tk (Rd.cutv q1 hg70 mx_none)
   refine c_draw (n := 1) (q := [(0, 13, (SV.val s2)), (1, 14, (.pointer (some ⟨SV.blk s2, SV.off s2 + Int.toNat 0 * 1, none⟩))), (2, 15, (.int .u8 (rd p2 0))), (3, 16, (SV.val s2)), (4, 17, (SV.val (SV.cut s2 1 (Int.toNat 1) (Int.toNat (p2.length : Int)) (mxv s2 none)))), (5, 8, (.int .u8 (rd p2 0)))]) (pend := [0, 1, 2, 3, 4, 5]) rfl rfl rfl ?_
   refine ⟨⟨fun _ => ⟨rfl, rfl, rfl, .inl ⟨rfl, (o_p rfl ⟨rfl, rfl⟩)⟩⟩, fun _ => ⟨rfl, rfl, rfl, .inl ⟨rfl, (o_ix (s := s2) (n := 0) (e := (enI .u8)) rfl rfl rfl rfl rfl rfl rm2 q1 hg69 ⟨rfl, rfl⟩)⟩⟩, fun _ => ⟨rfl, rfl, rfl, .inl ⟨rfl, (o_ldE (s := s2) (e := (enI .u8)) (n := 0) (f := 0) (v := (.int .u8 (rd p2 0))) rfl rm2 q1 hg69 rfl rfl ⟨rfl, rfl⟩)⟩⟩, fun _ => ⟨rfl, rfl, rfl, .inl ⟨rfl, (o_p rfl ⟨rfl, rfl⟩)⟩⟩, fun _ => ⟨rfl, rfl, rfl, .inl ⟨rfl, (o_slx (a := 1) (b := (p2.length : Int)) (m := none) rfl rfl rfl rfl rfl rm2 q1 rfl rfl rfl (by decide) hg70 mx_none ⟨rfl, rfl⟩)⟩⟩, fun _ => ⟨rfl, rfl, rfl, .inl ⟨rfl, (o_p rfl ⟨rfl, rfl⟩)⟩⟩, trivial⟩, rfl, .inr ⟨[6], rfl, rfl, ⟨rfl, .inl rfl, ?_⟩, trivial⟩⟩
   refine (o_p rfl ?_)
   refine ⟨[], [], rfl, rfl, rfl, rfl, ?_⟩
   refine ⟨⟨(fun h => nomatch h), (fun h => nomatch h), (fun h => nomatch h), (fun h => nomatch h), (fun h => nomatch h), (fun h => nomatch h), trivial⟩, rfl, rfl, rfl, ?_⟩
   obtain rfl := Option.some.inj h
   exact ej () (SV.cut s2 1 (Int.toNat 1) (Int.toNat (p2.length : Int)) (mxv s2 none)) hr71 (sc rfl (sc rfl (sc rfl (sc rfl (sc rfl sn))))) (kc rm2 (kc rm0 (kc rm0 (kc rm0 (kc rm0 kr)))))
  ·replace h := cond_f hb68 h
   refine c_skip ?_
   obtain rfl := Option.some.inj h
   exact ej () s2 q1 (sc rfl (sc rfl (sc rfl (sc rfl (sc rfl sn))))) (kc rm2 (kc rm0 (kc rm0 (kc rm0 (kc rm0 kr)))))
 ·rintro _ i1 f1_0
  replace h := hk1
  clear hk1
  refine e_seq (c_seq (c_block (c_seq (c_region ?_))))
  refine o1 rfl (o_fa (fd := ⟨ "Command", 3, 0, false, "", "", 0⟩) rfl rfl rfl rfl rfl ?_)
  refine o1 rfl (o_ld (b := b64) (off := 0) (v := (.int .i64 p1.Command)) rfl rm2 rfl rfl ?_)
  refine o1 rfl (o_p (v := (.bool (p1.Command != 1))) rfl ?_)
  refine o1 rfl (o_p rfl (o_end (e_seq ?_)))
  replace h := bsome h
  obtain ⟨d3, h, hk3⟩ := h
  refine cj (D := Unit) (ι := SV) (fun _ i3 => True) (fun _ i3 => [(2, (SV.val i1)), (8, (.int .u8 d1.2)), (6, (.pointer (some ⟨b66, 0, none⟩))), (4, (.pointer (some ⟨b64, 0, none⟩))), (0, (.pointer (some ⟨b0, 0, none⟩)))]) (fun _ i3 => X :: blk b66 (.cells (List.toArray [(.int .i64 0), (.bool false), (.bool false), (.bool false), (.int .i64 0), (SV.val SV.nil)]) 110 (0, 0)) :: blk b64 (.cells (List.toArray [(.int .i64 p1.Command), (.bool p1.Restore), (.bool p1.Alarm), (.bool p1.Reset), (.int .i64 p1.Pieces), (SV.val s1)]) 110 (0, 0)) :: blk b0 (.cells (List.toArray [(.int .i64 d3.1), (.bool d3.2.1), (.int .i64 d3.2.2.1), (.int .i64 d3.2.2.2.1), (SV.val i3), (.int .i64 d3.2.2.2.2.2.1), (.int .i64 d3.2.2.2.2.2.2)]) 116 (0, 0)) :: slO i3 80 en_Vapi_Cell d3.2.2.2.2.1 :: R) ?_ ?_
  ·refine c_cond (b := (p1.Command != 1)) rfl (fun hb72 => ?_) (fun hb72 => ?_)
   ·replace h := cond_t hb72 h
    refine c_region (o1 rfl (o_p rfl ?_))
    refine o1 rfl (o_fa (fd := ⟨ "Command", 3, 0, false, "", "", 0⟩) rfl rfl rfl rfl rfl ?_)
    refine o1 rfl (o_ld (b := b64) (off := 0) (v := (.int .i64 p1.Command)) rfl rm2 rfl rfl ?_)
    refine o1 rfl (o_p (v := (.bool (p1.Command == 3))) rfl ?_)
    replace h := bsome h
    obtain ⟨d4, h4, h⟩ := h
    refine o1 rfl (o_call has47 rfl (c_space_Space_Clear_2 hg X p0 b0 s0 (p1.Command == 3) _ h4) (pc rm0 (pc rm2 (pc rm2 pn))) (fun i4 => ?_))
    refine o_end ?_
    obtain rfl := Option.some.inj h
    exact ej () i4 trivial (sc rfl (sc rfl (sc rfl (sc rfl (sc rfl sn))))) (kc rm0 (kc rm3 (kc rm3 (kc rm0 (kc rm0 (kd kr))))))
   ·replace h := cond_f hb72 h
    refine c_seq (c_region (o1 rfl (o_p rfl ?_)))
    refine o1 rfl (o_p (v := (.int .u8 (iband .u8 d1.2 1))) rfl ?_)
    refine o1 rfl (o_p (v := (.bool ((iband .u8 d1.2 1) != 0))) rfl ?_)
    refine o1 rfl (o_p rfl (o_end (e_seq ?_)))
    refine c_cond (b := ((iband .u8 d1.2 1) != 0)) rfl (fun hb79 => ?_) (fun hb79 => ?_)
    ·replace h := cond_t hb79 h
     refine c_region (o1 rfl (o_p rfl ?_))
     replace h := bsome h
     obtain ⟨d5, h5, h⟩ := h
     refine o1 rfl (o_call has141 rfl (c_field_Unmodify hg X (⟨p0.model, p0.alternate, p0.size, p0.cells, p0.cursor, p0.attrs⟩ : Vspace_Space) b0 s0 _ h5) (pc rm0 (pc rm2 (pc rm2 pn))) ?_)
     refine o_end ?_
     obtain rfl := Option.some.inj h
     exact ej () s0 trivial (sc rfl (sc rfl (sc rfl (sc rfl (sc rfl sn))))) (kc rm0 (kc rm2 (kc rm2 (kc rm0 (kc rm0 kr)))))
    ·replace h := cond_f hb79 h
     refine c_skip ?_
     obtain rfl := Option.some.inj h
     exact ej () s0 trivial (sc rfl (sc rfl (sc rfl (sc rfl (sc rfl sn))))) (kc rm0 (kc rm0 (kc rm0 (kc rm0 (kc rm0 kr)))))
  ·rintro _ i3 _
   replace h := hk3
   clear hk3
   refine e_blk (e_seq (c_seq (c_region (o1 rfl (o_p rfl (o_end ?_))))))
   refine e_seq (c_seq (c_region (o1 rfl (o_p rfl (o1 rfl (o_p rfl (o1 rfl (o_p rfl ?_))))))))
   replace h := bsome h
   obtain ⟨d6, h6, h⟩ := h
   refine o1 rfl (o_call has142 rfl (c_space_Space_Cursor hg X (⟨d3.1, d3.2.1, (⟨d3.2.2.1, d3.2.2.2.1⟩ : Vaddr_Size), d3.2.2.2.2.1, d3.2.2.2.2.2.1, d3.2.2.2.2.2.2⟩ : Vspace_Space) b0 i3 _ h6) (pc rm0 (pc rm2 (pc rm2 pn))) ?_)
   replace h := bsome h
   obtain ⟨d7, h7, h⟩ := h
   refine o1 rfl (o_call has23 rfl (c_write_Orders hg X (⟨d3.1, d3.2.1, (⟨d3.2.2.1, d3.2.2.2.1⟩ : Vaddr_Size), d3.2.2.2.2.1, d3.2.2.2.2.2.1, d3.2.2.2.2.2.2⟩ : Vspace_Space) b0 i3 d1.1 i1 f1_0 d6 _ h7) (pc rm0 (pc rm0 (pc rm0 pn))) (fun i7 f7_0 => ?_))
   refine o1 rfl (o_p rfl (o1 rfl (o_p rfl (o1 rfl (o_p rfl (o1 rfl (o_p rfl ?_)))))))
   refine o1 rfl (o_fa (fd := ⟨ "Pieces", 3, 4, false, "", "", 16⟩) rfl rfl rfl rfl rfl ?_)
   refine o0 (o_st (b := b64) (off := 4) (vs := [(.int .i64 d7.2.2.1)]) (cs' := [(.int .i64 p1.Command), (.bool p1.Restore), (.bool p1.Alarm), (.bool p1.Reset), (.int .i64 d7.2.2.1), (SV.val s1)]) rfl rfl rp4 rfl rfl rfl rfl rfl rfl ?_)
   refine o1 rfl (o_p rfl (o_end (e_seq (c_seq (c_seq (c_region ?_))))))
   refine o1 rfl (o_p rfl ?_)
   refine o1 rfl (o_p (v := (.bool (d7.2.2.2 == 0))) rfl ?_)
   refine o_end (e_seq ?_)
   replace h := bsome h
   obtain ⟨d8, h, hk8⟩ := h
   refine cj (D := Unit) (ι := Unit) (fun _ i8 => True) (fun _ i8 => [(9, (.int .i64 d7.2.2.2)), (6, (.pointer (some ⟨b66, 0, none⟩))), (4, (.pointer (some ⟨b64, 0, none⟩)))]) (fun _ i8 => i7 :: blk b66 (.cells (List.toArray [(.int .i64 0), (.bool false), (.bool false), (.bool false), (.int .i64 0), (SV.val SV.nil)]) 110 (0, 0)) :: blk b64 (.cells (List.toArray [(.int .i64 p1.Command), (.bool d8.1), (.bool d8.2.1), (.bool d8.2.2), (.int .i64 d7.2.2.1), (SV.val s1)]) 110 (0, 0)) :: blk b0 (.cells (List.toArray [(.int .i64 d7.1.model), (.bool d7.1.alternate), (.int .i64 d7.1.size.Rows), (.int .i64 d7.1.size.Cols), (SV.val i3), (.int .i64 d7.1.cursor), (.int .i64 d7.1.attrs)]) 116 (0, 0)) :: slO i3 80 en_Vapi_Cell d7.1.cells :: R) ?_ ?_
   ·refine c_cond (b := (d7.2.2.2 == 0)) rfl (fun hb621 => ?_) (fun hb621 => ?_)
    ·replace h := cond_t hb621 h
     refine c_region (o1 rfl (o_p rfl ?_))
     refine o1 rfl (o_p (v := (.int .u8 (iband .u8 d1.2 2))) rfl ?_)
     refine o1 rfl (o_p (v := (.bool ((iband .u8 d1.2 2) != 0))) rfl ?_)
     refine o1 rfl (o_p rfl ?_)
     refine o1 rfl (o_p (v := (.int .u8 (iband .u8 d1.2 4))) rfl ?_)
     refine o1 rfl (o_p (v := (.bool ((iband .u8 d1.2 4) != 0))) rfl ?_)
     refine o1 rfl (o_p rfl ?_)
     refine o1 rfl (o_p (v := (.int .u8 (iband .u8 d1.2 64))) rfl ?_)
     refine o1 rfl (o_p (v := (.bool ((iband .u8 d1.2 64) != 0))) rfl ?_)
     refine o1 rfl (o_fa (fd := ⟨ "Restore", 4, 1, false, "", "", 8⟩) rfl rfl rfl rfl rfl ?_)
     refine o0 (o_st (b := b64) (off := 1) (vs := [(.bool ((iband .u8 d1.2 2) != 0))]) (cs' := [(.int .i64 p1.Command), (.bool ((iband .u8 d1.2 2) != 0)), (.bool p1.Alarm), (.bool p1.Reset), (.int .i64 d7.2.2.1), (SV.val s1)]) rfl rfl rp4 rfl rfl rfl rfl rfl rfl ?_)
     refine o1 rfl (o_fa (fd := ⟨ "Alarm", 4, 2, false, "", "", 9⟩) rfl rfl rfl rfl rfl ?_)
     refine o0 (o_st (b := b64) (off := 2) (vs := [(.bool ((iband .u8 d1.2 4) != 0))]) (cs' := [(.int .i64 p1.Command), (.bool ((iband .u8 d1.2 2) != 0)), (.bool ((iband .u8 d1.2 4) != 0)), (.bool p1.Reset), (.int .i64 d7.2.2.1), (SV.val s1)]) rfl rfl rp4 rfl rfl rfl rfl rfl rfl ?_)
     refine o1 rfl (o_fa (fd := ⟨ "Reset", 4, 3, false, "", "", 10⟩) rfl rfl rfl rfl rfl ?_)
     refine o0 (o_st (b := b64) (off := 3) (vs := [(.bool ((iband .u8 d1.2 64) != 0))]) (cs' := [(.int .i64 p1.Command), (.bool ((iband .u8 d1.2 2) != 0)), (.bool ((iband .u8 d1.2 4) != 0)), (.bool ((iband .u8 d1.2 64) != 0)), (.int .i64 d7.2.2.1), (SV.val s1)]) rfl rfl rp4 rfl rfl rfl rfl rfl rfl ?_)
     refine o_end ?_
     obtain rfl := Option.some.inj h
     exact ej () () trivial (sc rfl (sc rfl (sc rfl sn))) (kc rm0 (kc rm2 (kc rm2 (kc rm0 (kc rm0 kr)))))
    ·replace h := cond_f hb621 h
     refine c_skip ?_
     obtain rfl := Option.some.inj h
     exact ej () () trivial (sc rfl (sc rfl (sc rfl sn))) (kc rm0 (kc rm2 (kc rm2 (kc rm0 (kc rm0 kr)))))
   ·rintro _ i8 _
    replace h := hk8
    clear hk8
    refine e_seq (c_seq (c_region ?_))
    refine o1 rfl (o_ld (b := b64) (off := 0) (v := (.agg (List.toArray [(.int .i64 p1.Command), (.bool d8.1), (.bool d8.2.1), (.bool d8.2.2), (.int .i64 d7.2.2.1), (SV.val s1)]))) rfl rm2 rfl rfl ?_)
    refine o1 rfl (o_p rfl ?_)
    refine o0 (o_st (b := b66) (off := 0) (vs := [(.int .i64 p1.Command), (.bool d8.1), (.bool d8.2.1), (.bool d8.2.2), (.int .i64 d7.2.2.1), (SV.val s1)]) (cs' := [(.int .i64 p1.Command), (.bool d8.1), (.bool d8.2.1), (.bool d8.2.2), (.int .i64 d7.2.2.1), (SV.val s1)]) rfl rfl rp1 rfl rfl rfl rfl rfl rfl ?_)
    refine o1 rfl (o_p rfl (o_end (e_seq (c_ret (e_ret ?_)))))
    refine r_endc (B := [[(.int .i64 p1.Command), (.bool d8.1), (.bool d8.2.1), (.bool d8.2.2), (.int .i64 d7.2.2.1), (SV.val s1)]]) rfl ⟨⟨_, _, _, _, rfl, rm1⟩, trivial⟩ rfl (kc rm0 (kc rm2 (kc rm2 (kd (kd kr))))) ?_
    obtain rfl := Option.some.inj h
    exact hk (i7, i3) (Rd.ext q0 f7_0) f7_0

theorem c_erase_all {g : Gw} (hg : GK g) (X : HP) (p0 : Vspace_Space) (b0 : Nat) (s0 : SV) (r : Vspace_Space) (h : m_erase_all p0 = some r) : Tri env g 144 (List.toArray [(.pointer (some ⟨b0, 0, none⟩))]) [X, blk b0 (.cells (List.toArray [(.int .i64 p0.model), (.bool p0.alternate), (.int .i64 p0.size.Rows), (.int .i64 p0.size.Cols), (SV.val s0), (.int .i64 p0.cursor), (.int .i64 p0.attrs)]) 116 (0, 0)), slO s0 80 en_Vapi_Cell p0.cells] (fun K R => K (.tuple (List.toArray [])) (X :: blk b0 (.cells (List.toArray [(.int .i64 r.model), (.bool r.alternate), (.int .i64 r.size.Rows), (.int .i64 r.size.Cols), (SV.val s0), (.int .i64 r.cursor), (.int .i64 r.attrs)]) 116 (0, 0)) :: slO s0 80 en_Vapi_Cell r.cells :: R)) := by
 refine tri_of (fn := Tryz.f144) (N := 13) Tryz.func144 rfl rfl rfl ?_
 intro R K hk
 unfold m_erase_all at h
 change GC _ none _ [] [(0, (.pointer (some ⟨b0, 0, none⟩)))] (X :: blk b0 (.cells (List.toArray [(.int .i64 p0.model), (.bool p0.alternate), (.int .i64 p0.size.Rows), (.int .i64 p0.size.Cols), (SV.val s0), (.int .i64 p0.cursor), (.int .i64 p0.attrs)]) 116 (0, 0)) :: slO s0 80 en_Vapi_Cell p0.cells :: R) g _ _
 refine c_seq (c_region (o1 rfl (o_p rfl ?_)))
 replace h := bsome h
 obtain ⟨d1, h1, h⟩ := h
 refine o1 rfl (o_call has51 rfl (c_space_Space_Size hg X p0 b0 s0 _ h1) (pc rm0 (pc rm0 (pc rm0 pn))) ?_)
 replace h := bsome h
 obtain ⟨d2, h2, h⟩ := h
 refine o1 rfl (o_call has52 rfl (c_addr_Size_Cells hg X (⟨d1.Rows, d1.Cols⟩ : Vaddr_Size) _ h2) (pc rm0 pn) ?_)
 refine o1 rfl (o_p rfl (o_end (e_seq ?_)))
 replace h := bsome h
 obtain ⟨d3, h, hk3⟩ := h
 refine cj (D := Unit) (ι := Unit) (fun _ i3 => True) (fun _ i3 => []) (fun _ i3 => X :: blk b0 (.cells (List.toArray [(.int .i64 d3.1), (.bool d3.2.1), (.int .i64 d3.2.2.1), (.int .i64 d3.2.2.2.1), (SV.val s0), (.int .i64 d3.2.2.2.2.2.1), (.int .i64 d3.2.2.2.2.2.2)]) 116 (0, 0)) :: slO s0 80 en_Vapi_Cell d3.2.2.2.2.1 :: R) ?_ ?_
 ·refine c_block ?_
  refine c_loop (l_sub (sc rfl (sc rfl (sc rfl sn))) (l_keep (kc rm0 (kc rm0 (kc rm0 kr))) (lf (X := Int × Int × Bool × Int × Int × (List Vapi_Cell) × Int × Int) (ι := Unit) (fun k x => erase_all_l4 d2 k x) _ (fun x4 i4 => True) (fun x4 i4 => [(6, (.int .i64 x4.1)), (5, (.int .i64 d2)), (0, (.pointer (some ⟨b0, 0, none⟩)))]) (fun x4 i4 => X :: blk b0 (.cells (List.toArray [(.int .i64 x4.2.1), (.bool x4.2.2.1), (.int .i64 x4.2.2.2.1), (.int .i64 x4.2.2.2.2.1), (SV.val s0), (.int .i64 x4.2.2.2.2.2.2.1), (.int .i64 x4.2.2.2.2.2.2.2)]) 116 (0, 0)) :: slO s0 80 en_Vapi_Cell x4.2.2.2.2.2.1 :: R) (fun _ => rfl) ?_ fuel (0, p0.model, p0.alternate, p0.size.Rows, p0.size.Cols, p0.cells, p0.cursor, p0.attrs) () trivial h)))
  clear h
  rintro k4 ih4 x4 i4 _ h
  rw [erase_all_l4.eq_2] at h
  refine l_round (c_seq (c_region ?_))
  refine o1 rfl (o_p (v := (.bool (decide (x4.1 < d2)))) rfl ?_)
  refine o_end (e_seq (c_seq ?_))
  refine c_cond (b := (decide (x4.1 < d2))) rfl (fun hb634 => ?_) (fun hb634 => ?_)
  ·replace h := cond_t hb634 h
   refine c_skip (e_seq (c_seq (c_block (c_seq (c_region ?_)))))
   refine o1 rfl (o_p rfl (o1 rfl (o_p rfl (o_end (e_seq (c_region (o1 rfl (o_p rfl ?_))))))))
   refine o1 rfl (o_p rfl ?_)
   replace h := bsome h
   obtain ⟨d7, h7, h⟩ := h
   refine o1 rfl (o_call has40 rfl (c_space_Space_Put hg X (⟨x4.2.1, x4.2.2.1, (⟨x4.2.2.2.1, x4.2.2.2.2.1⟩ : Vaddr_Size), x4.2.2.2.2.2.1, x4.2.2.2.2.2.2.1, x4.2.2.2.2.2.2.2⟩ : Vspace_Space) b0 s0 x4.1 0 _ h7) (pc rm0 (pc rm0 (pc rm0 pn))) ?_)
   refine o_end (e_blk (e_seq (c_region ?_)))
   refine o1 rfl (o_p (v := (.int .i64 (w64 (x4.1 + 1)))) rfl ?_)
   refine o1 rfl (o_p rfl (o_end ?_))
   exact e_loop (l_sub (sc rfl (sc rfl (sc rfl sn))) (l_keep (kc rm0 (kc rm0 (kc rm0 kr))) (ih4 (w64 (x4.1 + 1), d7.model, d7.alternate, d7.size.Rows, d7.size.Cols, d7.cells, d7.cursor, d7.attrs) () trivial h)))
  ·replace h := cond_f hb634 h
   refine c_exit (e_then_exit (e_then_exit (e_blk_exit ?_)))
   obtain rfl := Option.some.inj h
   exact ej () () trivial sn (kc rm0 (kc rm0 (kc rm0 kr)))
 ·rintro _ i3 _
  replace h := hk3
  clear hk3
  refine e_fall ?_
  refine r_endt rfl rfl (kc rm0 (kc rm0 (kc rm0 kr))) ?_
  obtain rfl := Option.some.inj h
  exact hk

theorem c_field_Fields {g : Gw} (hg : GK g) (X : HP) (p0 : Vspace_Space) (b0 : Nat) (s0 : SV) (r : Unit) (h : m_field_Fields p0 = some r) : Tri env g 76 (List.toArray [(.pointer (some ⟨b0, 0, none⟩))]) [X, blk b0 (.cells (List.toArray [(.int .i64 p0.model), (.bool p0.alternate), (.int .i64 p0.size.Rows), (.int .i64 p0.size.Cols), (SV.val s0), (.int .i64 p0.cursor), (.int .i64 p0.attrs)]) 116 (0, 0)), slO s0 80 en_Vapi_Cell p0.cells] (fun K R => ∀ (i0 : Nat), K (.func (.func 128) #[] (List.toArray [(.pointer (some ⟨i0, 0, none⟩))])) (X :: blk b0 (.cells (List.toArray [(.int .i64 p0.model), (.bool p0.alternate), (.int .i64 p0.size.Rows), (.int .i64 p0.size.Cols), (SV.val s0), (.int .i64 p0.cursor), (.int .i64 p0.attrs)]) 116 (0, 0)) :: slO s0 80 en_Vapi_Cell p0.cells :: blk i0 (.cells (List.toArray [(.pointer (some ⟨b0, 0, none⟩))]) 24 (0, 0)) :: R)) := by
 refine tri_of (fn := Tryz.f76) (N := 4) Tryz.func76 rfl rfl rfl ?_
 intro R K hk
 unfold m_field_Fields at h
 change GC _ none _ [] [(0, (.pointer (some ⟨b0, 0, none⟩)))] (X :: blk b0 (.cells (List.toArray [(.int .i64 p0.model), (.bool p0.alternate), (.int .i64 p0.size.Rows), (.int .i64 p0.size.Cols), (SV.val s0), (.int .i64 p0.cursor), (.int .i64 p0.attrs)]) 116 (0, 0)) :: slO s0 80 en_Vapi_Cell p0.cells :: R) g _ _
 refine c_seq (c_region ?_)
 refine o1 rfl (o_box (cs := [(.pointer (some ⟨b0, 0, none⟩))]) rfl rfl (fun b641 => ?_))
 refine o1 rfl (o_p rfl (o_end (e_seq (c_seq (c_region (o1 rfl (o_p rfl ?_)))))))
 refine o1 rfl (o_p rfl (o_end (e_seq (c_ret (e_ret ?_)))))
 refine r_endt rfl rfl (kc rm1 (kc rm1 (kc rm1 (kc rm0 kr)))) ?_
 obtain rfl := Option.some.inj h
 exact hk b641

theorem c_field_Places {g : Gw} (hg : GK g) (X : HP) (p0 : Vspace_Space) (b0 : Nat) (s0 : SV) (p1 : Int) (r : Unit) (h : m_field_Places p0 p1 = some r) : Tri env g 80 (List.toArray [(.pointer (some ⟨b0, 0, none⟩)), (.int .i64 p1)]) [X, blk b0 (.cells (List.toArray [(.int .i64 p0.model), (.bool p0.alternate), (.int .i64 p0.size.Rows), (.int .i64 p0.size.Cols), (SV.val s0), (.int .i64 p0.cursor), (.int .i64 p0.attrs)]) 116 (0, 0)), slO s0 80 en_Vapi_Cell p0.cells] (fun K R => ∀ (i0 : Nat × Nat), K (.func (.func 131) #[] (List.toArray [(.pointer (some ⟨i0.1, 0, none⟩)), (.pointer (some ⟨i0.2, 0, none⟩))])) (X :: blk b0 (.cells (List.toArray [(.int .i64 p0.model), (.bool p0.alternate), (.int .i64 p0.size.Rows), (.int .i64 p0.size.Cols), (SV.val s0), (.int .i64 p0.cursor), (.int .i64 p0.attrs)]) 116 (0, 0)) :: slO s0 80 en_Vapi_Cell p0.cells :: blk i0.1 (.cells (List.toArray [(.pointer (some ⟨b0, 0, none⟩))]) 24 (0, 0)) :: blk i0.2 (.cells (List.toArray [(.int .i64 p1)]) 3 (0, 0)) :: R)) := by
 refine tri_of (fn := Tryz.f80) (N := 6) Tryz.func80 rfl rfl rfl ?_
 intro R K hk
 unfold m_field_Places at h
 change GC _ none _ [] [(0, (.pointer (some ⟨b0, 0, none⟩))), (1, (.int .i64 p1))] (X :: blk b0 (.cells (List.toArray [(.int .i64 p0.model), (.bool p0.alternate), (.int .i64 p0.size.Rows), (.int .i64 p0.size.Cols), (SV.val s0), (.int .i64 p0.cursor), (.int .i64 p0.attrs)]) 116 (0, 0)) :: slO s0 80 en_Vapi_Cell p0.cells :: R) g _ _
 refine c_seq (c_region ?_)
 refine o1 rfl (o_box (cs := [(.pointer (some ⟨b0, 0, none⟩))]) rfl rfl (fun b657 => ?_))
 refine o1 rfl (o_box (cs := [(.int .i64 p1)]) rfl rfl (fun b659 => ?_))
 refine o1 rfl (o_p rfl (o_end (e_seq (c_seq (c_region (o1 rfl (o_p rfl ?_)))))))
 refine o1 rfl (o_p rfl (o_end (e_seq (c_ret (e_ret ?_)))))
 refine r_endt rfl rfl (kc rm2 (kc rm2 (kc rm2 (kc rm1 (kc rm0 kr))))) ?_
 obtain rfl := Option.some.inj h
 exact hk (b657, b659)

theorem c_erase_Unprotected {g : Gw} (hg : GK g) (X : HP) (p0 : Vspace_Space) (b0 : Nat) (s0 : SV) (r : Vspace_Space) (h : m_erase_Unprotected p0 = some r) : Tri env g 104 (List.toArray [(.pointer (some ⟨b0, 0, none⟩))]) [X, blk b0 (.cells (List.toArray [(.int .i64 p0.model), (.bool p0.alternate), (.int .i64 p0.size.Rows), (.int .i64 p0.size.Cols), (SV.val s0), (.int .i64 p0.cursor), (.int .i64 p0.attrs)]) 116 (0, 0)), slO s0 80 en_Vapi_Cell p0.cells] (fun K R => K (.tuple (List.toArray [])) (X :: blk b0 (.cells (List.toArray [(.int .i64 r.model), (.bool r.alternate), (.int .i64 r.size.Rows), (.int .i64 r.size.Cols), (SV.val s0), (.int .i64 r.cursor), (.int .i64 r.attrs)]) 116 (0, 0)) :: slO s0 80 en_Vapi_Cell r.cells :: R)) := by
 refine tri_of (fn := Tryz.f104) (N := 42) Tryz.func104 rfl rfl rfl ?_
 intro R K hk
 unfold m_erase_Unprotected at h
 change GC _ none _ [] [(0, (.pointer (some ⟨b0, 0, none⟩)))] (X :: blk b0 (.cells (List.toArray [(.int .i64 p0.model), (.bool p0.alternate), (.int .i64 p0.size.Rows), (.int .i64 p0.size.Cols), (SV.val s0), (.int .i64 p0.cursor), (.int .i64 p0.attrs)]) 116 (0, 0)) :: slO s0 80 en_Vapi_Cell p0.cells :: R) g _ _
 refine c_seq (c_region ?_)
 refine o1 rfl (o_box (cs := [(.pointer (some ⟨b0, 0, none⟩))]) rfl rfl (fun b625 => ?_))
 refine o_end (e_seq (c_seq (c_seq (c_region ?_))))
 refine o1 rfl (o_ld (b := b625) (off := 0) (v := (.pointer (some ⟨b0, 0, none⟩))) rfl rm0 rfl rfl ?_)
 replace h := bsome h
 obtain ⟨d1, h1, h⟩ := h
 refine o1 rfl (o_call has143 rfl (c_space_Space_Formatted hg X p0 b0 s0 _ h1) (pc rm1 (pc rm1 (pc rm1 pn))) ?_)
 refine o1 rfl (o_p (v := (.bool (!d1))) rfl ?_)
 refine o_end (e_seq ?_)
 refine c_cond (b := (!d1)) rfl (fun hb627 => ?_) (fun hb627 => ?_)
 ·replace h := cond_t hb627 h
  refine c_seq (c_region ?_)
  refine o1 rfl (o_ld (b := b625) (off := 0) (v := (.pointer (some ⟨b0, 0, none⟩))) rfl rm3 rfl rfl ?_)
  replace h := bsome h
  obtain ⟨d3, h3, h⟩ := h
  refine o1 rfl (o_call has144 rfl (c_erase_all hg X p0 b0 s0 _ h3) (pc rm0 (pc rm0 (pc rm0 pn))) ?_)
  refine o_end (e_seq (c_seq (c_region ?_)))
  refine o1 rfl (o_ld (b := b625) (off := 0) (v := (.pointer (some ⟨b0, 0, none⟩))) rfl rm3 rfl rfl ?_)
  replace h := bsome h
  obtain ⟨d4, h4, h⟩ := h
  refine o1 rfl (o_call has58 rfl (c_space_Space_Place hg X d3 b0 s0 0 _ h4) (pc rm0 (pc rm0 (pc rm0 pn))) ?_)
  refine o_end (e_seq (c_ret (e_then_ret (e_ret ?_))))
  refine r_endt rfl rfl (kc rm0 (kc rm0 (kc rm0 (kd kr)))) ?_
  obtain rfl := Option.some.inj h
  exact hk
 ·replace h := cond_f hb627 h
  refine c_skip (e_seq (c_seq (c_seq (c_region ?_))))
  refine o1 rfl (o_ld (b := b625) (off := 0) (v := (.pointer (some ⟨b0, 0, none⟩))) rfl rm3 rfl rfl ?_)
  replace h := bsome h
  obtain ⟨d5, h5, h⟩ := h
  refine o1 rfl (o_call has76 rfl (c_field_Fields hg X p0 b0 s0 _ h5) (pc rm0 (pc rm0 (pc rm0 pn))) (fun i5 => ?_))
  refine o_end (e_seq ?_)
  replace h := bsome h
  obtain ⟨d6, h, hk6⟩ := h
  refine cjd (D := Unit) (ι := Nat) (fun _ i6 => [mk i6]) (fun _ i6 => True) (fun _ i6 => [(1, (.pointer (some ⟨b625, 0, none⟩)))]) (fun _ i6 => X :: blk b625 (.cells (List.toArray [(.pointer (some ⟨b0, 0, none⟩))]) 24 (0, 0)) :: blk b0 (.cells (List.toArray [(.int .i64 d6.1), (.bool d6.2.1), (.int .i64 d6.2.2.1), (.int .i64 d6.2.2.2.1), (SV.val s0), (.int .i64 d6.2.2.2.2.2.1), (.int .i64 d6.2.2.2.2.2.2)]) 116 (0, 0)) :: slO s0 80 en_Vapi_Cell d6.2.2.2.2.1 :: blk i6 (.deferred (some [])) :: R) ?_ ?_
  ·refine c_block ?_
   replace h := bsome h
   obtain ⟨d7, h, hk7⟩ := h
   refine cjd (D := Unit) (ι := Nat) (fun _ i7 => [mk i7]) (fun _ i7 => True) (fun _ i7 => [(1, (.pointer (some ⟨b625, 0, none⟩)))]) (fun _ i7 => X :: blk b625 (.cells (List.toArray [(.pointer (some ⟨b0, 0, none⟩))]) 24 (0, 0)) :: blk b0 (.cells (List.toArray [(.int .i64 d7.1), (.bool d7.2.1), (.int .i64 d7.2.2.1), (.int .i64 d7.2.2.2.1), (SV.val s0), (.int .i64 d7.2.2.2.2.2.1), (.int .i64 d7.2.2.2.2.2.2)]) 116 (0, 0)) :: slO s0 80 en_Vapi_Cell d7.2.2.2.2.1 :: blk i7 (.deferred (some [])) :: R) ?_ ?_
   ·refine c_range' (fn := Tryz.f128) (M := 16) rfl has128 Tryz.func128 rfl rfl rfl (fun l8 D8 a8 fc8 rc8 hrc8 ht8 => ?_)
    change GC _ none _ [] [(0, (.func (.yield l8) #[] #[])), (1, (.pointer (some ⟨i5, 0, none⟩)))] (blk l8 (.loop (rc8 .ready none)) :: blk D8 (.deferred (some [])) :: X :: blk b0 (.cells (List.toArray [(.int .i64 p0.model), (.bool p0.alternate), (.int .i64 p0.size.Rows), (.int .i64 p0.size.Cols), (SV.val s0), (.int .i64 p0.cursor), (.int .i64 p0.attrs)]) 116 (0, 0)) :: slO s0 80 en_Vapi_Cell p0.cells :: blk i5 (.cells (List.toArray [(.pointer (some ⟨b0, 0, none⟩))]) 24 (0, 0)) :: blk b625 (.cells (List.toArray [(.pointer (some ⟨b0, 0, none⟩))]) 24 (0, 0)) :: R) g _ _
    refine c_seq (c_region ?_)
    refine o1 rfl (o_box (cs := [(.func (.yield l8) #[] #[])]) rfl rfl (fun b644 => ?_))
    refine o_end (e_seq (c_seq (c_region ?_)))
    refine o1 rfl (o_ld (b := i5) (off := 0) (v := (.pointer (some ⟨b0, 0, none⟩))) rfl rm6 rfl rfl ?_)
    replace h := bsome h
    obtain ⟨d9, h9, h⟩ := h
    refine o1 rfl (o_call has129 rfl (c_space_Space_Attrs hg X p0 b0 s0 _ h9) (pc rm3 (pc rm3 (pc rm3 pn))) (fun i9 => ?_))
    refine o_end (e_seq ?_)
    replace h := bsome h
    obtain ⟨d10, h, hk10⟩ := h
    refine cjd (D := Unit) (ι := Nat) (fun _ i10 => [mk i10]) (fun _ i10 => True) (fun _ i10 => []) (fun _ i10 => X :: blk b0 (.cells (List.toArray [(.int .i64 d10.1), (.bool d10.2.1), (.int .i64 d10.2.2.1), (.int .i64 d10.2.2.2.1), (SV.val s0), (.int .i64 d10.2.2.2.2.2.1), (.int .i64 d10.2.2.2.2.2.2)]) 116 (0, 0)) :: blk i5 (.cells (List.toArray [(.pointer (some ⟨b0, 0, none⟩))]) 24 (0, 0)) :: blk b625 (.cells (List.toArray [(.pointer (some ⟨b0, 0, none⟩))]) 24 (0, 0)) :: slO s0 80 en_Vapi_Cell d10.2.2.2.2.1 :: blk i10 (.deferred (some [])) :: blk l8 (.loop (rc8 .ready none)) :: blk D8 (.deferred (some [])) :: R) ?_ ?_
    ·refine c_block ?_
     replace h := bsome h
     obtain ⟨d11, h, hk11⟩ := h
     refine cjd (D := Unit) (ι := Nat) (fun _ i11 => [mk i11]) (fun _ i11 => True) (fun _ i11 => []) (fun _ i11 => X :: blk b0 (.cells (List.toArray [(.int .i64 d11.1), (.bool d11.2.1), (.int .i64 d11.2.2.1), (.int .i64 d11.2.2.2.1), (SV.val s0), (.int .i64 d11.2.2.2.2.2.1), (.int .i64 d11.2.2.2.2.2.2)]) 116 (0, 0)) :: blk i5 (.cells (List.toArray [(.pointer (some ⟨b0, 0, none⟩))]) 24 (0, 0)) :: blk b625 (.cells (List.toArray [(.pointer (some ⟨b0, 0, none⟩))]) 24 (0, 0)) :: slO s0 80 en_Vapi_Cell d11.2.2.2.2.1 :: blk i11 (.deferred (some [])) :: blk l8 (.loop (rc8 .ready none)) :: blk D8 (.deferred (some [])) :: R) ?_ ?_
     ·refine c_range' (fn := Tryz.f167) (M := 17) rfl has167 Tryz.func167 rfl rfl rfl (fun l12 D12 a12 fc12 rc12 hrc12 ht12 => ?_)
      change GC _ none _ [] [(0, (.func (.yield l12) #[] #[])), (1, (.pointer (some ⟨i9, 0, none⟩)))] (blk l12 (.loop (rc12 .ready none)) :: blk D12 (.deferred (some [])) :: X :: blk b0 (.cells (List.toArray [(.int .i64 p0.model), (.bool p0.alternate), (.int .i64 p0.size.Rows), (.int .i64 p0.size.Cols), (SV.val s0), (.int .i64 p0.cursor), (.int .i64 p0.attrs)]) 116 (0, 0)) :: slO s0 80 en_Vapi_Cell p0.cells :: blk i9 (.cells (List.toArray [(.pointer (some ⟨b0, 0, none⟩))]) 24 (0, 0)) :: blk b644 (.cells (List.toArray [(.func (.yield l8) #[] #[])]) 228 (0, 0)) :: blk l8 (.loop (rc8 .ready none)) :: blk D8 (.deferred (some [])) :: blk i5 (.cells (List.toArray [(.pointer (some ⟨b0, 0, none⟩))]) 24 (0, 0)) :: blk b625 (.cells (List.toArray [(.pointer (some ⟨b0, 0, none⟩))]) 24 (0, 0)) :: R) g _ _
      refine c_seq (c_region ?_)
      refine o1 rfl (o_box (cs := [(.func (.yield l12) #[] #[])]) rfl rfl (fun b647 => ?_))
      refine o_end (e_seq (c_seq (c_region ?_)))
      refine o1 rfl (o_ld (b := i9) (off := 0) (v := (.pointer (some ⟨b0, 0, none⟩))) rfl rm6 rfl rfl ?_)
      replace h := bsome h
      obtain ⟨d13, h13, h⟩ := h
      refine o1 rfl (o_call has86 rfl (c_space_Space_All hg X p0 b0 s0 _ h13) (pc rm3 (pc rm3 (pc rm3 pn))) (fun i13 => ?_))
      refine o_end (e_seq ?_)
      replace h := bsome h
      obtain ⟨d14, h, hk14⟩ := h
      refine cjd (D := Unit) (ι := Nat) (fun _ i14 => [mk i14]) (fun _ i14 => True) (fun _ i14 => []) (fun _ i14 => X :: blk b0 (.cells (List.toArray [(.int .i64 d14.1), (.bool d14.2.1), (.int .i64 d14.2.2.1), (.int .i64 d14.2.2.2.1), (SV.val s0), (.int .i64 d14.2.2.2.2.2.1), (.int .i64 d14.2.2.2.2.2.2)]) 116 (0, 0)) :: blk i5 (.cells (List.toArray [(.pointer (some ⟨b0, 0, none⟩))]) 24 (0, 0)) :: blk b625 (.cells (List.toArray [(.pointer (some ⟨b0, 0, none⟩))]) 24 (0, 0)) :: blk i9 (.cells (List.toArray [(.pointer (some ⟨b0, 0, none⟩))]) 24 (0, 0)) :: blk b644 (.cells (List.toArray [(.func (.yield l8) #[] #[])]) 228 (0, 0)) :: slO s0 80 en_Vapi_Cell d14.2.2.2.2.1 :: blk i14 (.deferred (some [])) :: blk l12 (.loop (rc12 .ready none)) :: blk D12 (.deferred (some [])) :: blk l8 (.loop (rc8 .ready none)) :: blk D8 (.deferred (some [])) :: R) ?_ ?_
      ·refine c_block ?_
       replace h := bsome h
       obtain ⟨d15, h, hk15⟩ := h
       refine cjd (D := Unit) (ι := Nat) (fun _ i15 => [mk i15]) (fun _ i15 => True) (fun _ i15 => []) (fun _ i15 => X :: blk b0 (.cells (List.toArray [(.int .i64 d15.1), (.bool d15.2.1), (.int .i64 d15.2.2.1), (.int .i64 d15.2.2.2.1), (SV.val s0), (.int .i64 d15.2.2.2.2.2.1), (.int .i64 d15.2.2.2.2.2.2)]) 116 (0, 0)) :: blk i5 (.cells (List.toArray [(.pointer (some ⟨b0, 0, none⟩))]) 24 (0, 0)) :: blk b625 (.cells (List.toArray [(.pointer (some ⟨b0, 0, none⟩))]) 24 (0, 0)) :: blk i9 (.cells (List.toArray [(.pointer (some ⟨b0, 0, none⟩))]) 24 (0, 0)) :: blk b644 (.cells (List.toArray [(.func (.yield l8) #[] #[])]) 228 (0, 0)) :: slO s0 80 en_Vapi_Cell d15.2.2.2.2.1 :: blk i15 (.deferred (some [])) :: blk l12 (.loop (rc12 .ready none)) :: blk D12 (.deferred (some [])) :: blk l8 (.loop (rc8 .ready none)) :: blk D8 (.deferred (some [])) :: R) ?_ ?_
       ·refine c_range' (fn := Tryz.f135) (M := 18) rfl has135 Tryz.func135 rfl rfl rfl (fun l16 D16 a16 fc16 rc16 hrc16 ht16 => ?_)
        change GC _ none _ [] [(0, (.func (.yield l16) #[] #[])), (1, (.pointer (some ⟨i13, 0, none⟩)))] (blk l16 (.loop (rc16 .ready none)) :: blk D16 (.deferred (some [])) :: X :: blk b0 (.cells (List.toArray [(.int .i64 p0.model), (.bool p0.alternate), (.int .i64 p0.size.Rows), (.int .i64 p0.size.Cols), (SV.val s0), (.int .i64 p0.cursor), (.int .i64 p0.attrs)]) 116 (0, 0)) :: slO s0 80 en_Vapi_Cell p0.cells :: blk i13 (.cells (List.toArray [(.pointer (some ⟨b0, 0, none⟩))]) 24 (0, 0)) :: blk b647 (.cells (List.toArray [(.func (.yield l12) #[] #[])]) 230 (0, 0)) :: blk l12 (.loop (rc12 .ready none)) :: blk D12 (.deferred (some [])) :: blk i9 (.cells (List.toArray [(.pointer (some ⟨b0, 0, none⟩))]) 24 (0, 0)) :: blk b644 (.cells (List.toArray [(.func (.yield l8) #[] #[])]) 228 (0, 0)) :: blk l8 (.loop (rc8 .ready none)) :: blk D8 (.deferred (some [])) :: blk i5 (.cells (List.toArray [(.pointer (some ⟨b0, 0, none⟩))]) 24 (0, 0)) :: blk b625 (.cells (List.toArray [(.pointer (some ⟨b0, 0, none⟩))]) 24 (0, 0)) :: R) g _ _
        refine c_seq (c_region ?_)
        refine o1 rfl (o_ld (b := i13) (off := 0) (v := (.pointer (some ⟨b0, 0, none⟩))) rfl rm5 rfl rfl ?_)
        replace h := bsome h
        obtain ⟨d17, h17, h⟩ := h
        refine o1 rfl (o_call has51 rfl (c_space_Space_Size hg X p0 b0 s0 _ h17) (pc rm2 (pc rm2 (pc rm2 pn))) ?_)
        replace h := bsome h
        obtain ⟨d18, h18, h⟩ := h
        refine o1 rfl (o_call has52 rfl (c_addr_Size_Cells hg X (⟨d17.Rows, d17.Cols⟩ : Vaddr_Size) _ h18) (pc rm0 pn) ?_)
        refine o1 rfl (o_p rfl (o_end (e_seq ?_)))
        replace h := bsome h
        obtain ⟨d19, h, hk19⟩ := h
        refine cj (D := Unit) (ι := Unit) (fun _ i19 => True) (fun _ i19 => []) (fun _ i19 => X :: blk b0 (.cells (List.toArray [(.int .i64 d19.1), (.bool d19.2.1), (.int .i64 d19.2.2.1), (.int .i64 d19.2.2.2.1), (SV.val s0), (.int .i64 d19.2.2.2.2.2.1), (.int .i64 d19.2.2.2.2.2.2)]) 116 (0, 0)) :: blk i5 (.cells (List.toArray [(.pointer (some ⟨b0, 0, none⟩))]) 24 (0, 0)) :: blk b625 (.cells (List.toArray [(.pointer (some ⟨b0, 0, none⟩))]) 24 (0, 0)) :: blk i9 (.cells (List.toArray [(.pointer (some ⟨b0, 0, none⟩))]) 24 (0, 0)) :: blk b644 (.cells (List.toArray [(.func (.yield l8) #[] #[])]) 228 (0, 0)) :: blk i13 (.cells (List.toArray [(.pointer (some ⟨b0, 0, none⟩))]) 24 (0, 0)) :: blk b647 (.cells (List.toArray [(.func (.yield l12) #[] #[])]) 230 (0, 0)) :: slO s0 80 en_Vapi_Cell d19.2.2.2.2.1 :: blk l16 (.loop (rc16 .ready none)) :: blk D16 (.deferred (some [])) :: blk l12 (.loop (rc12 .ready none)) :: blk D12 (.deferred (some [])) :: blk l8 (.loop (rc8 .ready none)) :: blk D8 (.deferred (some [])) :: R) ?_ ?_
        ·refine c_block ?_
         refine c_loop (l_sub (sc rfl (sc rfl (sc rfl (sc rfl sn)))) (l_keep (kc rm0 (kc rm4 (kc rm0 (kc rm10 (kc rm10 (kc rm6 (kc rm6 (kc rm3 (kc rm0 (kc rm0 (kc rm0 (kc rm0 (kc rm0 (kc rm0 (kc rm0 kr))))))))))))))) (lf (X := Int × Int × Bool × Int × Int × (List Vapi_Cell) × Int × Int) (ι := Unit) (fun k x => erase_Unprotected_l20 d18 k x) _ (fun x20 i20 => True) (fun x20 i20 => [(7, (.int .i64 x20.1)), (6, (.int .i64 d18)), (0, (.func (.yield l16) #[] #[])), (1, (.pointer (some ⟨i13, 0, none⟩)))]) (fun x20 i20 => X :: blk i13 (.cells (List.toArray [(.pointer (some ⟨b0, 0, none⟩))]) 24 (0, 0)) :: blk b0 (.cells (List.toArray [(.int .i64 x20.2.1), (.bool x20.2.2.1), (.int .i64 x20.2.2.2.1), (.int .i64 x20.2.2.2.2.1), (SV.val s0), (.int .i64 x20.2.2.2.2.2.2.1), (.int .i64 x20.2.2.2.2.2.2.2)]) 116 (0, 0)) :: blk i5 (.cells (List.toArray [(.pointer (some ⟨b0, 0, none⟩))]) 24 (0, 0)) :: blk b625 (.cells (List.toArray [(.pointer (some ⟨b0, 0, none⟩))]) 24 (0, 0)) :: blk i9 (.cells (List.toArray [(.pointer (some ⟨b0, 0, none⟩))]) 24 (0, 0)) :: blk b644 (.cells (List.toArray [(.func (.yield l8) #[] #[])]) 228 (0, 0)) :: blk b647 (.cells (List.toArray [(.func (.yield l12) #[] #[])]) 230 (0, 0)) :: slO s0 80 en_Vapi_Cell x20.2.2.2.2.2.1 :: blk l16 (.loop (rc16 .ready none)) :: blk D16 (.deferred (some [])) :: blk l12 (.loop (rc12 .ready none)) :: blk D12 (.deferred (some [])) :: blk l8 (.loop (rc8 .ready none)) :: blk D8 (.deferred (some [])) :: R) (fun _ => rfl) ?_ fuel (0, p0.model, p0.alternate, p0.size.Rows, p0.size.Cols, p0.cells, p0.cursor, p0.attrs) () trivial h)))
         clear h
         rintro k20 ih20 x20 i20 _ h
         rw [erase_Unprotected_l20.eq_2] at h
         refine l_round (c_seq (c_region ?_))
         refine o1 rfl (o_p (v := (.bool (decide (x20.1 < d18)))) rfl ?_)
         refine o_end (e_seq (c_seq ?_))
         refine c_cond (b := (decide (x20.1 < d18))) rfl (fun hb714 => ?_) (fun hb714 => ?_)
         ·replace h := cond_t hb714 h
          refine c_skip (e_seq (c_seq (c_block (c_seq (c_region ?_)))))
          refine o1 rfl (o_p rfl (o1 rfl (o_p rfl (o_end (e_seq (c_seq (c_region ?_)))))))
          refine o1 rfl (o_p rfl (o1 rfl (o_p rfl ?_)))
          refine o1 rfl (o_ld (b := i13) (off := 0) (v := (.pointer (some ⟨b0, 0, none⟩))) rfl rm1 rfl rfl ?_)
          refine o1 rfl (o_p rfl ?_)
          replace h := bsome h
          obtain ⟨d23, h23, h⟩ := h
          refine o1 rfl (o_call has57 rfl (c_space_Space_At hg X (⟨x20.2.1, x20.2.2.1, (⟨x20.2.2.2.1, x20.2.2.2.2.1⟩ : Vaddr_Size), x20.2.2.2.2.2.1, x20.2.2.2.2.2.2.1, x20.2.2.2.2.2.2.2⟩ : Vspace_Space) b0 s0 x20.1 _ h23) (pc rm0 (pc rm1 (pc rm6 pn))) ?_)
          refine o1 rfl (o_yield' hrc16 ht16 rfl rfl rfl rfl rm9 ?_)
          refine c_seq (c_region (o1 rfl (o_p rfl (o_end (e_seq (c_region ?_))))))
          refine o1 rfl (o_alloc (cs := [(.int .u8 0), (.bool false), (.int .u8 0), (.int .u8 0), (.int .u8 0), (.int .u8 0)]) rfl rfl (fun b715 => ?_))
          refine o0 (o_st (b := b715) (off := 0) (vs := [(.int .u8 d23.Char), (.bool d23.Attr), (.int .u8 d23.FA), (.int .u8 d23.High), (.int .u8 d23.Color), (.int .u8 d23.f_Set)]) (cs' := [(.int .u8 d23.Char), (.bool d23.Attr), (.int .u8 d23.FA), (.int .u8 d23.High), (.int .u8 d23.Color), (.int .u8 d23.f_Set)]) rfl rfl rp0 rfl rfl rfl rfl rfl rfl ?_)
          refine o_end ?_
          refine e_begin' hrc16 rm1 ?_
          refine c_block (c_seq ?_)
          replace h := bsome h
          obtain ⟨d25, h, hk25⟩ := h
          refine cj (D := Unit) (ι := Unit) (fun _ i25 => True) (fun _ i25 => [(16, (.bool false))]) (fun _ i25 => X :: blk b0 (.cells (List.toArray [(.int .i64 d25.1), (.bool d25.2.1), (.int .i64 d25.2.2.1), (.int .i64 d25.2.2.2.1), (SV.val s0), (.int .i64 d25.2.2.2.2.2.1), (.int .i64 d25.2.2.2.2.2.2)]) 116 (0, 0)) :: blk i5 (.cells (List.toArray [(.pointer (some ⟨b0, 0, none⟩))]) 24 (0, 0)) :: blk b625 (.cells (List.toArray [(.pointer (some ⟨b0, 0, none⟩))]) 24 (0, 0)) :: blk i9 (.cells (List.toArray [(.pointer (some ⟨b0, 0, none⟩))]) 24 (0, 0)) :: blk b644 (.cells (List.toArray [(.func (.yield l8) #[] #[])]) 228 (0, 0)) :: blk i13 (.cells (List.toArray [(.pointer (some ⟨b0, 0, none⟩))]) 24 (0, 0)) :: blk b647 (.cells (List.toArray [(.func (.yield l12) #[] #[])]) 230 (0, 0)) :: slO s0 80 en_Vapi_Cell d25.2.2.2.2.1 :: blk l12 (.loop (rc12 .ready none)) :: blk l8 (.loop (rc8 .ready none)) :: blk l16 (.loop (rc16 .busy none)) :: blk D16 (.deferred (some [])) :: blk D12 (.deferred (some [])) :: blk D8 (.deferred (some [])) :: R) ?_ ?_
          ·refine c_region ?_
           refine o1 rfl (o_fa (fd := ⟨ "Attr", 4, 1, false, "", "", 1⟩) rfl rfl rfl rfl rfl ?_)
           refine o1 rfl (o_ld (b := b715) (off := 1) (v := (.bool d23.Attr)) rfl rm1 rfl rfl ?_)
           refine o1 rfl (o_p rfl ?_)
           rcases bool_or (d23.Attr) with hb717 | hb717
           ·replace h := cond_t hb717 h
            refine oy rfl rfl rfl hb717 (o_ld (b := b647) (off := 0) (v := (.func (.yield l12) #[] #[])) rfl rm10 rfl rfl ?_)
            refine oy rfl rfl rfl hb717 (o_p rfl ?_)
            refine oy rfl rfl rfl hb717 (o_yield' hrc12 ht12 rfl rfl rfl rfl rm12 ?_)
            refine c_region (o1 rfl (o_p rfl (o_end ?_)))
            refine e_begin' hrc12 rm0 ?_
            refine c_block (c_seq ?_)
            refine c_draw (n := 3) (q := [(0, 7, (.func (.yield l8) #[] #[])), (1, 8, (.int .i64 x20.1)), (2, 9, (.pointer (some ⟨b0, 0, none⟩))), (3, 10, (.int .i64 x20.1))]) (pend := [0, 1, 2, 3]) rfl rfl rfl ?_
            replace h := bsome h
            obtain ⟨d28, h28, h⟩ := h
            refine ⟨⟨fun _ => ⟨rfl, rfl, rfl, .inl ⟨rfl, (o_ld (b := b644) (off := 0) (v := (.func (.yield l8) #[] #[])) rfl rm10 rfl rfl ⟨rfl, rfl⟩)⟩⟩, fun _ => ⟨rfl, rfl, rfl, .inl ⟨rfl, (o_p rfl ⟨rfl, rfl⟩)⟩⟩, fun _ => ⟨rfl, rfl, rfl, .inl ⟨rfl, (o_ld (b := i5) (off := 0) (v := (.pointer (some ⟨b0, 0, none⟩))) rfl rm7 rfl rfl ⟨rfl, rfl⟩)⟩⟩, fun _ => ⟨rfl, rfl, rfl, .inl ⟨rfl, (o_p rfl ⟨rfl, rfl⟩)⟩⟩, trivial⟩, rfl, .inr ⟨[4], rfl, rfl, ⟨rfl, .inl rfl, ?_⟩, trivial⟩⟩
            refine (o_call has57 rfl (c_space_Space_At hg X (⟨x20.2.1, x20.2.2.1, (⟨x20.2.2.2.1, x20.2.2.2.2.1⟩ : Vaddr_Size), x20.2.2.2.2.2.1, x20.2.2.2.2.2.2.1, x20.2.2.2.2.2.2.2⟩ : Vspace_Space) b0 s0 x20.1 _ h28) (pc rm3 (pc rm3 (pc rm3 pn))) ?_)
            refine ⟨[(5, 12, (.int .u8 d28.FA))], [0, 1, 5], rfl, rfl, rfl, rfl, ?_⟩
            replace h := bsome h
            obtain ⟨d29, h29, h⟩ := h
            refine ⟨⟨fun _ => ⟨rfl, rfl, rfl, .inl ⟨rfl, (o_field (v := (.int .u8 d28.FA)) rfl rfl rfl ⟨rfl, rfl⟩)⟩⟩, fun _ => ⟨rfl, rfl, rfl, .inl ⟨rfl, (o_ld (b := b644) (off := 0) (v := (.func (.yield l8) #[] #[])) rfl rm10 rfl rfl ⟨rfl, rfl⟩)⟩⟩, fun _ => ⟨rfl, rfl, rfl, .inl ⟨rfl, (o_p rfl ⟨rfl, rfl⟩)⟩⟩, (fun h => nomatch h), (fun h => nomatch h), trivial⟩, rfl, .inr ⟨[6], rfl, rfl, ⟨rfl, .inl rfl, ?_⟩, trivial⟩⟩
            refine (o_call has121 rfl (c_attr_Of hg X d28.FA _ h29) (pc rm0 pn) ?_)
            refine ⟨[], [0, 1], rfl, rfl, rfl, rfl, ?_⟩
            refine ⟨⟨(fun h => nomatch h), fun _ => ⟨rfl, rfl, rfl, .inl ⟨rfl, (o_ld (b := b644) (off := 0) (v := (.func (.yield l8) #[] #[])) rfl rm10 rfl rfl ⟨rfl, rfl⟩)⟩⟩, fun _ => ⟨rfl, rfl, rfl, .inl ⟨rfl, (o_p rfl ⟨rfl, rfl⟩)⟩⟩, (fun h => nomatch h), (fun h => nomatch h), trivial⟩, rfl, .inr ⟨[7], rfl, rfl, ⟨rfl, .inl rfl, ?_⟩, trivial⟩⟩
            refine (o_yield' hrc8 ht8 rfl rfl rfl rfl rm14 ?_)
            refine c_seq (c_region (o1 rfl (o_p rfl (o_end (e_seq (c_region ?_))))))
            refine o1 rfl (o_alloc (cs := [(.bool false), (.bool false), (.int .i64 0), (.bool false)]) rfl rfl (fun b718 => ?_))
            refine o0 (o_st (b := b718) (off := 0) (vs := [(.bool d29.Protected), (.bool d29.Numeric), (.int .i64 d29.Display), (.bool d29.Modified)]) (cs' := [(.bool d29.Protected), (.bool d29.Numeric), (.int .i64 d29.Display), (.bool d29.Modified)]) rfl rfl rp0 rfl rfl rfl rfl rfl rfl ?_)
            refine o_end ?_
            refine e_begin' hrc8 rm1 ?_
            replace h := bsome h
            obtain ⟨d30, h, hk30⟩ := h
            refine cj (D := Unit) (ι := Unit) (fun _ i30 => True) (fun _ i30 => []) (fun _ i30 => X :: blk b0 (.cells (List.toArray [(.int .i64 d30.1), (.bool d30.2.1), (.int .i64 d30.2.2.1), (.int .i64 d30.2.2.2.1), (SV.val s0), (.int .i64 d30.2.2.2.2.2.1), (.int .i64 d30.2.2.2.2.2.2)]) 116 (0, 0)) :: blk i5 (.cells (List.toArray [(.pointer (some ⟨b0, 0, none⟩))]) 24 (0, 0)) :: blk b625 (.cells (List.toArray [(.pointer (some ⟨b0, 0, none⟩))]) 24 (0, 0)) :: blk i9 (.cells (List.toArray [(.pointer (some ⟨b0, 0, none⟩))]) 24 (0, 0)) :: blk b644 (.cells (List.toArray [(.func (.yield l8) #[] #[])]) 228 (0, 0)) :: blk i13 (.cells (List.toArray [(.pointer (some ⟨b0, 0, none⟩))]) 24 (0, 0)) :: blk b647 (.cells (List.toArray [(.func (.yield l12) #[] #[])]) 230 (0, 0)) :: blk b715 (.cells (List.toArray [(.int .u8 d23.Char), (.bool d23.Attr), (.int .u8 d23.FA), (.int .u8 d23.High), (.int .u8 d23.Color), (.int .u8 d23.f_Set)]) 80 (0, 0)) :: slO s0 80 en_Vapi_Cell d30.2.2.2.2.1 :: blk l8 (.loop (rc8 .busy none)) :: blk l12 (.loop (rc12 .busy none)) :: blk l16 (.loop (rc16 .busy none)) :: blk D16 (.deferred (some [])) :: blk D12 (.deferred (some [])) :: blk D8 (.deferred (some [])) :: R) ?_ ?_
            ·refine c_block (c_seq (c_seq (c_region ?_)))
             refine o1 rfl (o_fa (fd := ⟨ "Protected", 4, 0, false, "", "", 0⟩) rfl rfl rfl rfl rfl ?_)
             refine o1 rfl (o_ld (b := b718) (off := 0) (v := (.bool d29.Protected)) rfl rm1 rfl rfl ?_)
             refine o_end (e_seq ?_)
             refine c_cond (b := d29.Protected) rfl (fun hb720 => ?_) (fun hb720 => ?_)
             ·replace h := cond_t hb720 h
              refine c_exit (e_then_exit (e_blk_exit ?_))
              obtain rfl := Option.some.inj h
              exact ej () () trivial sn (kc rm2 (kc rm2 (kc rm7 (kc rm7 (kc rm7 (kc rm7 (kc rm6 (kc rm6 (kc rm5 (kc rm2 (kc rm0 (kc rm1 (kc rm1 (kc rm1 (kc rm1 (kc rm1 (kd kr)))))))))))))))))
             ·replace h := cond_f hb720 h
              refine c_skip (e_seq (c_seq (c_seq (c_region ?_))))
              refine o1 rfl (o_ld (b := b625) (off := 0) (v := (.pointer (some ⟨b0, 0, none⟩))) rfl rm10 rfl rfl ?_)
              refine o1 rfl (o_p rfl ?_)
              replace h := bsome h
              obtain ⟨d32, h32, h⟩ := h
              refine o1 rfl (o_call has80 rfl (c_field_Places hg X (⟨x20.2.1, x20.2.2.1, (⟨x20.2.2.2.1, x20.2.2.2.2.1⟩ : Vaddr_Size), x20.2.2.2.2.2.1, x20.2.2.2.2.2.2.1, x20.2.2.2.2.2.2.2⟩ : Vspace_Space) b0 s0 x20.1 _ h32) (pc rm2 (pc rm2 (pc rm2 pn))) (fun i32 => ?_))
              refine o_end (e_seq ?_)
              replace h := bsome h
              obtain ⟨d33, h, hk33⟩ := h
              refine cj (D := Unit) (ι := Unit) (fun _ i33 => True) (fun _ i33 => [(2, (.int .i64 x20.1)), (1, (.pointer (some ⟨b625, 0, none⟩)))]) (fun _ i33 => X :: blk b625 (.cells (List.toArray [(.pointer (some ⟨b0, 0, none⟩))]) 24 (0, 0)) :: blk b0 (.cells (List.toArray [(.int .i64 d33.1), (.bool d33.2.1), (.int .i64 d33.2.2.1), (.int .i64 d33.2.2.2.1), (SV.val s0), (.int .i64 d33.2.2.2.2.2.1), (.int .i64 d33.2.2.2.2.2.2)]) 116 (0, 0)) :: blk i5 (.cells (List.toArray [(.pointer (some ⟨b0, 0, none⟩))]) 24 (0, 0)) :: blk i9 (.cells (List.toArray [(.pointer (some ⟨b0, 0, none⟩))]) 24 (0, 0)) :: blk b644 (.cells (List.toArray [(.func (.yield l8) #[] #[])]) 228 (0, 0)) :: blk i13 (.cells (List.toArray [(.pointer (some ⟨b0, 0, none⟩))]) 24 (0, 0)) :: blk b647 (.cells (List.toArray [(.func (.yield l12) #[] #[])]) 230 (0, 0)) :: blk b715 (.cells (List.toArray [(.int .u8 d23.Char), (.bool d23.Attr), (.int .u8 d23.FA), (.int .u8 d23.High), (.int .u8 d23.Color), (.int .u8 d23.f_Set)]) 80 (0, 0)) :: slO s0 80 en_Vapi_Cell d33.2.2.2.2.1 :: blk l8 (.loop (rc8 .busy none)) :: blk l12 (.loop (rc12 .busy none)) :: blk l16 (.loop (rc16 .busy none)) :: blk D16 (.deferred (some [])) :: blk D12 (.deferred (some [])) :: blk D8 (.deferred (some [])) :: R) ?_ ?_
              ·refine c_block ?_
               replace h := bsome h
               obtain ⟨d34, h, hk34⟩ := h
               refine cj (D := Unit) (ι := Unit) (fun _ i34 => True) (fun _ i34 => [(2, (.int .i64 x20.1)), (1, (.pointer (some ⟨b625, 0, none⟩)))]) (fun _ i34 => X :: blk b625 (.cells (List.toArray [(.pointer (some ⟨b0, 0, none⟩))]) 24 (0, 0)) :: blk b0 (.cells (List.toArray [(.int .i64 d34.1), (.bool d34.2.1), (.int .i64 d34.2.2.1), (.int .i64 d34.2.2.2.1), (SV.val s0), (.int .i64 d34.2.2.2.2.2.1), (.int .i64 d34.2.2.2.2.2.2)]) 116 (0, 0)) :: blk i5 (.cells (List.toArray [(.pointer (some ⟨b0, 0, none⟩))]) 24 (0, 0)) :: blk i9 (.cells (List.toArray [(.pointer (some ⟨b0, 0, none⟩))]) 24 (0, 0)) :: blk b644 (.cells (List.toArray [(.func (.yield l8) #[] #[])]) 228 (0, 0)) :: blk i13 (.cells (List.toArray [(.pointer (some ⟨b0, 0, none⟩))]) 24 (0, 0)) :: blk b647 (.cells (List.toArray [(.func (.yield l12) #[] #[])]) 230 (0, 0)) :: blk b715 (.cells (List.toArray [(.int .u8 d23.Char), (.bool d23.Attr), (.int .u8 d23.FA), (.int .u8 d23.High), (.int .u8 d23.Color), (.int .u8 d23.f_Set)]) 80 (0, 0)) :: slO s0 80 en_Vapi_Cell d34.2.2.2.2.1 :: blk l8 (.loop (rc8 .busy none)) :: blk l12 (.loop (rc12 .busy none)) :: blk l16 (.loop (rc16 .busy none)) :: blk D16 (.deferred (some [])) :: blk D12 (.deferred (some [])) :: blk D8 (.deferred (some [])) :: R) ?_ ?_
               ·refine c_range_in' (fn := Tryz.f131) (M := 33) hrc8 rm5 rfl has131 Tryz.func131 rfl rfl rfl (fun l35 a35 fc35 rc35 hrc35 ht35 => ?_)
                change GC _ none _ [] [(0, (.func (.yield l35) #[] #[])), (1, (.pointer (some ⟨i32.1, 0, none⟩))), (2, (.pointer (some ⟨i32.2, 0, none⟩)))] (blk l35 (.loop (rc35 .ready none)) :: X :: blk b0 (.cells (List.toArray [(.int .i64 x20.2.1), (.bool x20.2.2.1), (.int .i64 x20.2.2.2.1), (.int .i64 x20.2.2.2.2.1), (SV.val s0), (.int .i64 x20.2.2.2.2.2.2.1), (.int .i64 x20.2.2.2.2.2.2.2)]) 116 (0, 0)) :: slO s0 80 en_Vapi_Cell x20.2.2.2.2.2.1 :: blk i32.1 (.cells (List.toArray [(.pointer (some ⟨b0, 0, none⟩))]) 24 (0, 0)) :: blk i32.2 (.cells (List.toArray [(.int .i64 x20.1)]) 3 (0, 0)) :: blk l8 (.loop (rc8 .busy none)) :: blk b718 (.cells (List.toArray [(.bool d29.Protected), (.bool d29.Numeric), (.int .i64 d29.Display), (.bool d29.Modified)]) 141 (0, 0)) :: blk l12 (.loop (rc12 .busy none)) :: blk l16 (.loop (rc16 .busy none)) :: blk b715 (.cells (List.toArray [(.int .u8 d23.Char), (.bool d23.Attr), (.int .u8 d23.FA), (.int .u8 d23.High), (.int .u8 d23.Color), (.int .u8 d23.f_Set)]) 80 (0, 0)) :: blk i13 (.cells (List.toArray [(.pointer (some ⟨b0, 0, none⟩))]) 24 (0, 0)) :: blk i5 (.cells (List.toArray [(.pointer (some ⟨b0, 0, none⟩))]) 24 (0, 0)) :: blk b625 (.cells (List.toArray [(.pointer (some ⟨b0, 0, none⟩))]) 24 (0, 0)) :: blk i9 (.cells (List.toArray [(.pointer (some ⟨b0, 0, none⟩))]) 24 (0, 0)) :: blk b644 (.cells (List.toArray [(.func (.yield l8) #[] #[])]) 228 (0, 0)) :: blk b647 (.cells (List.toArray [(.func (.yield l12) #[] #[])]) 230 (0, 0)) :: blk D16 (.deferred (some [])) :: blk D12 (.deferred (some [])) :: blk D8 (.deferred (some [])) :: R) g _ _
                refine c_seq (c_region ?_)
                refine o1 rfl (o_ld (b := i32.1) (off := 0) (v := (.pointer (some ⟨b0, 0, none⟩))) rfl rm4 rfl rfl ?_)
                replace h := bsome h
                obtain ⟨d36, h36, h⟩ := h
                refine o1 rfl (o_call has51 rfl (c_space_Space_Size hg X (⟨x20.2.1, x20.2.2.1, (⟨x20.2.2.2.1, x20.2.2.2.2.1⟩ : Vaddr_Size), x20.2.2.2.2.2.1, x20.2.2.2.2.2.2.1, x20.2.2.2.2.2.2.2⟩ : Vspace_Space) b0 s0 _ h36) (pc rm1 (pc rm1 (pc rm1 pn))) ?_)
                refine o1 rfl (o_alloc (cs := [(.int .i64 0), (.int .i64 0)]) rfl rfl (fun b723 => ?_))
                refine o0 (o_st (b := b723) (off := 0) (vs := [(.int .i64 d36.Rows), (.int .i64 d36.Cols)]) (cs' := [(.int .i64 d36.Rows), (.int .i64 d36.Cols)]) rfl rfl rp0 rfl rfl rfl rfl rfl rfl ?_)
                refine o_end (e_seq (c_seq (c_region ?_)))
                refine o1 rfl (o_ld (b := b723) (off := 0) (v := (.agg (List.toArray [(.int .i64 d36.Rows), (.int .i64 d36.Cols)]))) rfl rm0 rfl rfl ?_)
                refine o1 rfl (o_ld (b := i32.2) (off := 0) (v := (.int .i64 x20.1)) rfl rm6 rfl rfl ?_)
                replace h := bsome h
                obtain ⟨d37, h37, h⟩ := h
                refine o1 rfl (o_call has61 rfl (c_addr_Size_Wrap hg X (⟨d36.Rows, d36.Cols⟩ : Vaddr_Size) x20.1 _ h37) (pc rm1 pn) ?_)
                refine o0 (o_st (b := i32.2) (off := 0) (vs := [(.int .i64 d37)]) (cs' := [(.int .i64 d37)]) rfl rfl rp6 rfl rfl rfl rfl rfl rfl ?_)
                refine o_end (e_seq (c_seq (c_seq (c_region ?_))))
                refine o1 rfl (o_ld (b := i32.1) (off := 0) (v := (.pointer (some ⟨b0, 0, none⟩))) rfl rm5 rfl rfl ?_)
                refine o1 rfl (o_ld (b := i32.2) (off := 0) (v := (.int .i64 d37)) rfl rm6 rfl rfl ?_)
                replace h := bsome h
                obtain ⟨d38, h38, h⟩ := h
                refine o1 rfl (o_call has57 rfl (c_space_Space_At hg X (⟨x20.2.1, x20.2.2.1, (⟨x20.2.2.2.1, x20.2.2.2.2.1⟩ : Vaddr_Size), x20.2.2.2.2.2.1, x20.2.2.2.2.2.2.1, x20.2.2.2.2.2.2.2⟩ : Vspace_Space) b0 s0 d37 _ h38) (pc rm0 (pc rm1 (pc rm1 pn))) ?_)
                refine o1 rfl (o_field (v := (.bool d38.Attr)) rfl rfl rfl ?_)
                refine o1 rfl (o_p (v := (.bool (!d38.Attr))) rfl ?_)
                refine o_end (e_seq ?_)
                refine c_cond (b := (!d38.Attr)) rfl (fun hb725 => ?_) (fun hb725 => ?_)
                ·replace h := cond_t hb725 h
                 refine c_ret (e_then_ret (e_ret ?_))
                 refine r_end (rs := []) (vs := []) rfl rfl ?_
                 refine ke' hrc35 rm4 (by simp) ?_
                 obtain rfl := Option.some.inj h
                 exact ej () () trivial (sc rfl (sc rfl sn)) (kc rm0 (kc rm12 (kc rm0 (kc rm10 (kc rm10 (kc rm10 (kc rm9 (kc rm9 (kc rm8 (kc rm0 (kc rm3 (kc rm4 (kc rm4 (kc rm4 (kc rm4 (kc rm4 (kd (kd (kd (kd kr))))))))))))))))))))
                ·replace h := cond_f hb725 h
                 refine c_skip (e_seq (c_seq (c_region ?_)))
                 refine o1 rfl (o_ld (b := b723) (off := 0) (v := (.agg (List.toArray [(.int .i64 d36.Rows), (.int .i64 d36.Cols)]))) rfl rm3 rfl rfl ?_)
                 refine o1 rfl (o_ld (b := i32.2) (off := 0) (v := (.int .i64 d37)) rfl rm6 rfl rfl ?_)
                 refine o1 rfl (o_p (v := (.int .i64 (w64 (d37 + 1)))) rfl ?_)
                 replace h := bsome h
                 obtain ⟨d40, h40, h⟩ := h
                 refine o1 rfl (o_call has61 rfl (c_addr_Size_Wrap hg X (⟨d36.Rows, d36.Cols⟩ : Vaddr_Size) (w64 (d37 + 1)) _ h40) (pc rm0 pn) ?_)
                 refine o1 rfl (o_p rfl (o_end (e_seq ?_)))
                 replace h := bsome h
                 obtain ⟨d41, h, hk41⟩ := h
                 refine cj (D := Unit) (ι := Unit) (fun _ i41 => True) (fun _ i41 => []) (fun _ i41 => X :: blk b0 (.cells (List.toArray [(.int .i64 d41.1), (.bool d41.2.1), (.int .i64 d41.2.2.1), (.int .i64 d41.2.2.2.1), (SV.val s0), (.int .i64 d41.2.2.2.2.2.1), (.int .i64 d41.2.2.2.2.2.2)]) 116 (0, 0)) :: blk i5 (.cells (List.toArray [(.pointer (some ⟨b0, 0, none⟩))]) 24 (0, 0)) :: blk b625 (.cells (List.toArray [(.pointer (some ⟨b0, 0, none⟩))]) 24 (0, 0)) :: blk i9 (.cells (List.toArray [(.pointer (some ⟨b0, 0, none⟩))]) 24 (0, 0)) :: blk b644 (.cells (List.toArray [(.func (.yield l8) #[] #[])]) 228 (0, 0)) :: blk i13 (.cells (List.toArray [(.pointer (some ⟨b0, 0, none⟩))]) 24 (0, 0)) :: blk b647 (.cells (List.toArray [(.func (.yield l12) #[] #[])]) 230 (0, 0)) :: blk b715 (.cells (List.toArray [(.int .u8 d23.Char), (.bool d23.Attr), (.int .u8 d23.FA), (.int .u8 d23.High), (.int .u8 d23.Color), (.int .u8 d23.f_Set)]) 80 (0, 0)) :: blk i32.1 (.cells (List.toArray [(.pointer (some ⟨b0, 0, none⟩))]) 24 (0, 0)) :: blk i32.2 (.cells (List.toArray [(.int .i64 d37)]) 3 (0, 0)) :: blk b718 (.cells (List.toArray [(.bool d29.Protected), (.bool d29.Numeric), (.int .i64 d29.Display), (.bool d29.Modified)]) 141 (0, 0)) :: slO s0 80 en_Vapi_Cell d41.2.2.2.2.1 :: blk l35 (.loop (rc35 .ready none)) :: blk l8 (.loop (rc8 .busy none)) :: blk l12 (.loop (rc12 .busy none)) :: blk l16 (.loop (rc16 .busy none)) :: blk D16 (.deferred (some [])) :: blk D12 (.deferred (some [])) :: blk D8 (.deferred (some [])) :: R) ?_ ?_
                 ·refine c_block ?_
                  refine c_loop (l_sub (sc rfl (sc rfl (sc rfl (sc rfl sn)))) (l_keep (kc rm0 (kc rm2 (kc rm3 (kc rm0 (kc rm9 (kc rm9 (kc rm9 (kc rm9 (kc rm8 (kc rm8 (kc rm7 (kc rm2 (kc rm3 (kc rm0 (kc rm0 (kc rm0 (kc rm0 (kc rm0 (kc rm0 (kc rm0 (kc rm0 kr))))))))))))))))))))) (lf (X := Int × Int × Bool × Int × Int × (List Vapi_Cell) × Int × Int) (ι := Unit) (fun k x => erase_Unprotected_l42 d36 k x) _ (fun x42 i42 => True) (fun x42 i42 => [(5, (.int .i64 x42.1)), (4, (.pointer (some ⟨b723, 0, none⟩))), (0, (.func (.yield l35) #[] #[])), (1, (.pointer (some ⟨i32.1, 0, none⟩)))]) (fun x42 i42 => X :: blk b723 (.cells (List.toArray [(.int .i64 d36.Rows), (.int .i64 d36.Cols)]) 102 (0, 0)) :: blk i32.1 (.cells (List.toArray [(.pointer (some ⟨b0, 0, none⟩))]) 24 (0, 0)) :: blk b0 (.cells (List.toArray [(.int .i64 x42.2.1), (.bool x42.2.2.1), (.int .i64 x42.2.2.2.1), (.int .i64 x42.2.2.2.2.1), (SV.val s0), (.int .i64 x42.2.2.2.2.2.2.1), (.int .i64 x42.2.2.2.2.2.2.2)]) 116 (0, 0)) :: blk i5 (.cells (List.toArray [(.pointer (some ⟨b0, 0, none⟩))]) 24 (0, 0)) :: blk b625 (.cells (List.toArray [(.pointer (some ⟨b0, 0, none⟩))]) 24 (0, 0)) :: blk i9 (.cells (List.toArray [(.pointer (some ⟨b0, 0, none⟩))]) 24 (0, 0)) :: blk b644 (.cells (List.toArray [(.func (.yield l8) #[] #[])]) 228 (0, 0)) :: blk i13 (.cells (List.toArray [(.pointer (some ⟨b0, 0, none⟩))]) 24 (0, 0)) :: blk b647 (.cells (List.toArray [(.func (.yield l12) #[] #[])]) 230 (0, 0)) :: blk b715 (.cells (List.toArray [(.int .u8 d23.Char), (.bool d23.Attr), (.int .u8 d23.FA), (.int .u8 d23.High), (.int .u8 d23.Color), (.int .u8 d23.f_Set)]) 80 (0, 0)) :: blk i32.2 (.cells (List.toArray [(.int .i64 d37)]) 3 (0, 0)) :: blk b718 (.cells (List.toArray [(.bool d29.Protected), (.bool d29.Numeric), (.int .i64 d29.Display), (.bool d29.Modified)]) 141 (0, 0)) :: slO s0 80 en_Vapi_Cell x42.2.2.2.2.2.1 :: blk l35 (.loop (rc35 .ready none)) :: blk l8 (.loop (rc8 .busy none)) :: blk l12 (.loop (rc12 .busy none)) :: blk l16 (.loop (rc16 .busy none)) :: blk D16 (.deferred (some [])) :: blk D12 (.deferred (some [])) :: blk D8 (.deferred (some [])) :: R) (fun _ => rfl) ?_ fuel (d40, x20.2.1, x20.2.2.1, x20.2.2.2.1, x20.2.2.2.2.1, x20.2.2.2.2.2.1, x20.2.2.2.2.2.2.1, x20.2.2.2.2.2.2.2) () trivial h)))
                  clear h
                  rintro k42 ih42 x42 i42 _ h
                  rw [erase_Unprotected_l42.eq_2] at h
                  refine l_round (c_seq (c_seq (c_region ?_)))
                  refine o1 rfl (o_ld (b := i32.1) (off := 0) (v := (.pointer (some ⟨b0, 0, none⟩))) rfl rm2 rfl rfl ?_)
                  refine o1 rfl (o_p rfl ?_)
                  replace h := bsome h
                  obtain ⟨d43, h43, h⟩ := h
                  refine o1 rfl (o_call has57 rfl (c_space_Space_At hg X (⟨x42.2.1, x42.2.2.1, (⟨x42.2.2.2.1, x42.2.2.2.2.1⟩ : Vaddr_Size), x42.2.2.2.2.2.1, x42.2.2.2.2.2.2.1, x42.2.2.2.2.2.2.2⟩ : Vspace_Space) b0 s0 x42.1 _ h43) (pc rm0 (pc rm2 (pc rm11 pn))) ?_)
                  refine o1 rfl (o_field (v := (.bool d43.Attr)) rfl rfl rfl ?_)
                  refine o1 rfl (o_p (v := (.bool (!d43.Attr))) rfl ?_)
                  refine o_end (e_seq ?_)
                  refine c_cond (b := (!d43.Attr)) rfl (fun hb732 => ?_) (fun hb732 => ?_)
                  ·replace h := cond_t hb732 h
                   refine c_skip (e_seq (c_seq (c_block (c_seq (c_region ?_)))))
                   refine o1 rfl (o_p rfl (o1 rfl (o_p rfl ?_)))
                   refine o1 rfl (o_yield' hrc35 ht35 rfl rfl rfl rfl rm14 ?_)
                   refine c_region (o1 rfl (o_p rfl (o_end ?_)))
                   refine e_begin' hrc35 rm0 ?_
                   refine c_block (c_region ?_)
                   refine o1 rfl (o_ld (b := b625) (off := 0) (v := (.pointer (some ⟨b0, 0, none⟩))) rfl rm7 rfl rfl ?_)
                   refine o1 rfl (o_p rfl ?_)
                   replace h := bsome h
                   obtain ⟨d47, h47, h⟩ := h
                   refine o1 rfl (o_call has40 rfl (c_space_Space_Put hg X (⟨x42.2.1, x42.2.2.1, (⟨x42.2.2.2.1, x42.2.2.2.2.1⟩ : Vaddr_Size), x42.2.2.2.2.2.1, x42.2.2.2.2.2.2.1, x42.2.2.2.2.2.2.2⟩ : Vspace_Space) b0 s0 x42.1 0 _ h47) (pc rm1 (pc rm1 (pc rm1 pn))) ?_)
                   refine o_end (e_blk ?_)
                   refine e_on' hrc35 rm3 ?_
                   refine o1 rfl (o_p (v := (.bool false)) rfl ?_)
                   refine o_end (e_seq ?_)
                   refine c_cond_f rfl rfl ?_
                   refine c_skip (e_blk (e_seq (c_region ?_)))
                   refine o1 rfl (o_ld (b := b723) (off := 0) (v := (.agg (List.toArray [(.int .i64 d36.Rows), (.int .i64 d36.Cols)]))) rfl rm4 rfl rfl ?_)
                   refine o1 rfl (o_p rfl ?_)
                   refine o1 rfl (o_p (v := (.int .i64 (w64 (x42.1 + 1)))) rfl ?_)
                   replace h := bsome h
                   obtain ⟨d48, h48, h⟩ := h
                   refine o1 rfl (o_call has61 rfl (c_addr_Size_Wrap hg X (⟨d36.Rows, d36.Cols⟩ : Vaddr_Size) (w64 (x42.1 + 1)) _ h48) (pc rm1 pn) ?_)
                   refine o1 rfl (o_p rfl (o_end ?_))
                   exact e_loop (l_sub (sc rfl (sc rfl (sc rfl (sc rfl sn)))) (l_keep (kc rm0 (kc rm3 (kc rm3 (kc rm1 (kc rm2 (kc rm2 (kc rm2 (kc rm2 (kc rm2 (kc rm2 (kc rm2 (kc rm2 (kc rm2 (kc rm1 (kc rm0 (kc rm0 (kc rm0 (kc rm0 (kc rm0 (kc rm0 (kc rm0 kr))))))))))))))))))))) (ih42 (d48, d47.model, d47.alternate, d47.size.Rows, d47.size.Cols, d47.cells, d47.cursor, d47.attrs) () trivial h)))
                  ·replace h := cond_f hb732 h
                   refine c_exit (e_then_exit (e_then_exit (e_blk_exit ?_)))
                   obtain rfl := Option.some.inj h
                   exact ej () () trivial sn (kc rm0 (kc rm0 (kc rm3 (kc rm3 (kc rm3 (kc rm3 (kc rm3 (kc rm3 (kc rm3 (kc rm2 (kc rm2 (kc rm2 (kc rm0 (kc rm1 (kc rm1 (kc rm1 (kc rm1 (kc rm1 (kc rm1 (kc rm1 (kd kr)))))))))))))))))))))
                 ·rintro _ i41 _
                  replace h := hk41
                  clear hk41
                  refine e_fall ?_
                  refine r_end (rs := []) (vs := []) rfl rfl ?_
                  refine ke' hrc35 rm13 (by simp) ?_
                  obtain rfl := Option.some.inj h
                  exact ej () () trivial (sc rfl (sc rfl sn)) (kc rm0 (kc rm2 (kc rm0 (kc rm0 (kc rm0 (kc rm0 (kc rm0 (kc rm0 (kc rm0 (kc rm3 (kc rm3 (kc rm3 (kc rm3 (kc rm3 (kc rm3 (kc rm3 (kd (kd (kd kr)))))))))))))))))))
               ·rintro _ i34 _
                replace h := hk34
                clear hk34
                refine e_blk ?_
                obtain rfl := Option.some.inj h
                exact ej () () trivial (sc rfl (sc rfl sn)) (kc rm0 (kc rm0 (kc rm0 (kc rm0 (kc rm0 (kc rm0 (kc rm0 (kc rm0 (kc rm0 (kc rm0 (kc rm0 (kc rm0 (kc rm0 (kc rm0 (kc rm0 (kc rm0 kr))))))))))))))))
              ·rintro _ i33 _
               replace h := hk33
               clear hk33
               refine e_seq (c_seq (c_region ?_))
               refine o1 rfl (o_ld (b := b625) (off := 0) (v := (.pointer (some ⟨b0, 0, none⟩))) rfl rm1 rfl rfl ?_)
               refine o1 rfl (o_p rfl ?_)
               replace h := bsome h
               obtain ⟨d49, h49, h⟩ := h
               refine o1 rfl (o_call has57 rfl (c_space_Space_At hg X (⟨d33.1, d33.2.1, (⟨d33.2.2.1, d33.2.2.2.1⟩ : Vaddr_Size), d33.2.2.2.2.1, d33.2.2.2.2.2.1, d33.2.2.2.2.2.2⟩ : Vspace_Space) b0 s0 x20.1 _ h49) (pc rm0 (pc rm1 (pc rm7 pn))) ?_)
               refine o1 rfl (o_alloc (cs := [(.int .u8 0), (.bool false), (.int .u8 0), (.int .u8 0), (.int .u8 0), (.int .u8 0)]) rfl rfl (fun b738 => ?_))
               refine o0 (o_st (b := b738) (off := 0) (vs := [(.int .u8 d49.Char), (.bool d49.Attr), (.int .u8 d49.FA), (.int .u8 d49.High), (.int .u8 d49.Color), (.int .u8 d49.f_Set)]) (cs' := [(.int .u8 d49.Char), (.bool d49.Attr), (.int .u8 d49.FA), (.int .u8 d49.High), (.int .u8 d49.Color), (.int .u8 d49.f_Set)]) rfl rfl rp0 rfl rfl rfl rfl rfl rfl ?_)
               refine o_end (e_seq (c_seq (c_region ?_)))
               refine o1 rfl (o_fa (fd := ⟨ "FA", 5, 2, false, "", "", 2⟩) rfl rfl rfl rfl rfl ?_)
               refine o1 rfl (o_ld (b := b738) (off := 2) (v := (.int .u8 d49.FA)) rfl rm0 rfl rfl ?_)
               refine o1 rfl (o_p (v := (.int .u8 (ibandn .u8 d49.FA 1))) rfl ?_)
               refine o1 rfl (o_fa (fd := ⟨ "FA", 5, 2, false, "", "", 2⟩) rfl rfl rfl rfl rfl ?_)
               refine o0 (o_st (b := b738) (off := 2) (vs := [(.int .u8 (ibandn .u8 d49.FA 1))]) (cs' := [(.int .u8 d49.Char), (.bool d49.Attr), (.int .u8 (ibandn .u8 d49.FA 1)), (.int .u8 d49.High), (.int .u8 d49.Color), (.int .u8 d49.f_Set)]) rfl rfl rp0 rfl rfl rfl rfl rfl rfl ?_)
               refine o_end (e_seq (c_region ?_))
               refine o1 rfl (o_ld (b := b625) (off := 0) (v := (.pointer (some ⟨b0, 0, none⟩))) rfl rm4 rfl rfl ?_)
               refine o1 rfl (o_p rfl ?_)
               refine o1 rfl (o_ld (b := b738) (off := 0) (v := (.agg (List.toArray [(.int .u8 d49.Char), (.bool d49.Attr), (.int .u8 (ibandn .u8 d49.FA 1)), (.int .u8 d49.High), (.int .u8 d49.Color), (.int .u8 d49.f_Set)]))) rfl rm0 rfl rfl ?_)
               replace h := bsome h
               obtain ⟨d50, h50, h⟩ := h
               refine o1 rfl (o_call has48 rfl (c_space_Space_Set hg X (⟨d33.1, d33.2.1, (⟨d33.2.2.1, d33.2.2.2.1⟩ : Vaddr_Size), d33.2.2.2.2.1, d33.2.2.2.2.2.1, d33.2.2.2.2.2.2⟩ : Vspace_Space) b0 s0 x20.1 (⟨d49.Char, d49.Attr, ibandn .u8 d49.FA 1, d49.High, d49.Color, d49.f_Set⟩ : Vapi_Cell) _ h50) (pc rm1 (pc rm1 (pc rm1 pn))) ?_)
               refine o_end (e_blk ?_)
               obtain rfl := Option.some.inj h
               exact ej () () trivial sn (kc rm0 (kc rm0 (kc rm3 (kc rm2 (kc rm2 (kc rm2 (kc rm2 (kc rm2 (kc rm2 (kc rm0 (kc rm1 (kc rm1 (kc rm1 (kc rm1 (kc rm1 (kc rm1 (kd kr)))))))))))))))))
            ·rintro _ i30 _
             replace h := hk30
             clear hk30
             refine e_on' hrc8 rm10 ?_
             refine ⟨[(8, 15, (.bool false))], [8], rfl, rfl, rfl, rfl, ?_⟩
             refine ⟨⟨fun _ => ⟨rfl, rfl, rfl, .inl ⟨rfl, (o_p (v := (.bool false)) rfl ⟨rfl, rfl⟩)⟩⟩, (fun h => nomatch h), (fun h => nomatch h), (fun h => nomatch h), (fun h => nomatch h), (fun h => nomatch h), trivial⟩, rfl, rfl, rfl, ?_⟩
             refine e_seq ?_
             refine c_cond_f rfl rfl ?_
             refine c_skip (e_blk ?_)
             refine e_on' hrc12 rm11 ?_
             refine oy rfl rfl rfl hb717 (o_p (v := (.bool false)) rfl ?_)
             refine o1 rfl (o_pick_t rfl hb717 rfl ?_)
             refine o_end ?_
             obtain rfl := Option.some.inj h
             exact ej () () trivial (sc rfl sn) (kc rm2 (kc rm2 (kc rm2 (kc rm2 (kc rm2 (kc rm2 (kc rm2 (kc rm2 (kc rm3 (kc rm0 (kc rm0 (kc rm1 (kc rm1 (kc rm1 (kc rm1 (kd kr))))))))))))))))
           ·replace h := cond_f hb717 h
            refine on rfl rfl rfl hb717 ?_
            refine on rfl rfl rfl hb717 ?_
            refine on rfl rfl rfl hb717 ?_
            refine on rfl rfl rfl hb717 ?_
            refine o1 rfl (o_pick_f rfl hb717 rfl ?_)
            refine o_end ?_
            obtain rfl := Option.some.inj h
            exact ej () () trivial (sc rfl sn) (kc rm2 (kc rm2 (kc rm4 (kc rm4 (kc rm4 (kc rm4 (kc rm3 (kc rm3 (kc rm2 (kc rm3 (kc rm4 (kc rm0 (kc rm1 (kc rm1 (kc rm1 (kd kr))))))))))))))))
          ·rintro _ i25 _
           replace h := hk25
           clear hk25
           refine e_seq ?_
           refine c_cond_f rfl rfl ?_
           refine c_skip (e_blk ?_)
           refine e_on' hrc16 rm11 ?_
           refine o1 rfl (o_p (v := (.bool false)) rfl ?_)
           refine o_end (e_seq ?_)
           refine c_cond_f rfl rfl ?_
           refine c_skip (e_blk (e_seq (c_region ?_)))
           refine o1 rfl (o_p (v := (.int .i64 (w64 (x20.1 + 1)))) rfl ?_)
           refine o1 rfl (o_p rfl (o_end ?_))
           exact e_loop (l_sub (sc rfl (sc rfl (sc rfl (sc rfl sn)))) (l_keep (kc rm1 (kc rm6 (kc rm1 (kc rm1 (kc rm1 (kc rm1 (kc rm1 (kc rm1 (kc rm1 (kc rm0 (kc rm2 (kc rm0 (kc rm1 (kc rm0 (kc rm0 kr))))))))))))))) (ih20 (w64 (x20.1 + 1), d25.1, d25.2.1, d25.2.2.1, d25.2.2.2.1, d25.2.2.2.2.1, d25.2.2.2.2.2.1, d25.2.2.2.2.2.2) () trivial h)))
         ·replace h := cond_f hb714 h
          refine c_exit (e_then_exit (e_then_exit (e_blk_exit ?_)))
          obtain rfl := Option.some.inj h
          exact ej () () trivial sn (kc rm0 (kc rm1 (kc rm1 (kc rm1 (kc rm1 (kc rm1 (kc rm0 (kc rm0 (kc rm0 (kc rm0 (kc rm0 (kc rm0 (kc rm0 (kc rm0 (kc rm0 kr)))))))))))))))
        ·rintro _ i19 _
         replace h := hk19
         clear hk19
         refine e_fall ?_
         refine r_end (rs := []) (vs := []) rfl rfl ?_
         refine ke' hrc16 rm9 (by simp) ?_
         obtain rfl := Option.some.inj h
         exact ejd () D16 trivial rfl sn (kc rm0 (kc rm0 (kc rm0 (kc rm0 (kc rm0 (kc rm0 (kc rm2 (kc rm2 (kc rm2 (kc rm2 (kc rm2 (kc rm2 (kd (kd kr))))))))))))))
       ·rintro _ i15 _
        replace h := hk15
        clear hk15
        refine e_blk ?_
        obtain rfl := Option.some.inj h
        exact ejd () i15 trivial rfl sn (kc rm0 (kc rm0 (kc rm0 (kc rm0 (kc rm0 (kc rm0 (kc rm0 (kc rm0 (kc rm0 (kc rm0 (kc rm0 (kc rm0 kr))))))))))))
      ·rintro _ i14 _
       replace h := hk14
       clear hk14
       refine e_fall ?_
       refine r_mark rm7 ?_
       refine r_end (rs := []) (vs := []) rfl rfl ?_
       refine ke' hrc12 rm7 (by simp) ?_
       obtain rfl := Option.some.inj h
       exact ejd () D12 trivial rfl sn (kc rm0 (kc rm0 (kc rm0 (kc rm0 (kc rm2 (kc rm2 (kc rm2 (kc rm2 (kd (kd kr))))))))))
     ·rintro _ i11 _
      replace h := hk11
      clear hk11
      refine e_blk ?_
      obtain rfl := Option.some.inj h
      exact ejd () i11 trivial rfl sn (kc rm0 (kc rm0 (kc rm0 (kc rm0 (kc rm0 (kc rm0 (kc rm0 (kc rm0 kr))))))))
    ·rintro _ i10 _
     replace h := hk10
     clear hk10
     refine e_fall ?_
     refine r_mark rm5 ?_
     refine r_end (rs := []) (vs := []) rfl rfl ?_
     refine ke' hrc8 rm5 (by simp) ?_
     obtain rfl := Option.some.inj h
     exact ejd () D8 trivial rfl (sc rfl sn) (kc rm0 (kc rm2 (kc rm0 (kc rm1 (kc rm1 (kd kr))))))
   ·rintro _ i7 _
    replace h := hk7
    clear hk7
    refine e_blk ?_
    obtain rfl := Option.some.inj h
    exact ejd () i7 trivial rfl (sc rfl sn) (kc rm0 (kc rm0 (kc rm0 (kc rm0 (kc rm0 kr)))))
  ·rintro _ i6 _
   replace h := hk6
   clear hk6
   refine e_seq ?_
   refine c_draw (n := 2) (q := [(0, 37, (.pointer (some ⟨b0, 0, none⟩))), (1, 38, (.pointer (some ⟨b0, 0, none⟩)))]) (pend := [0, 1]) rfl rfl rfl ?_
   replace h := bsome h
   obtain ⟨d51, h51, h⟩ := h
   refine ⟨⟨fun _ => ⟨rfl, rfl, rfl, .inl ⟨rfl, (o_ld (b := b625) (off := 0) (v := (.pointer (some ⟨b0, 0, none⟩))) rfl rm1 rfl rfl ⟨rfl, rfl⟩)⟩⟩, fun _ => ⟨rfl, rfl, rfl, .inl ⟨rfl, (o_ld (b := b625) (off := 0) (v := (.pointer (some ⟨b0, 0, none⟩))) rfl rm1 rfl rfl ⟨rfl, rfl⟩)⟩⟩, trivial⟩, rfl, .inr ⟨[2], rfl, rfl, ⟨rfl, .inl rfl, ?_⟩, trivial⟩⟩
   refine (o_call has145 rfl (c_field_Next hg X (⟨d6.1, d6.2.1, (⟨d6.2.2.1, d6.2.2.2.1⟩ : Vaddr_Size), d6.2.2.2.2.1, d6.2.2.2.2.2.1, d6.2.2.2.2.2.2⟩ : Vspace_Space) b0 s0 (-1) _ h51) (pc rm0 (pc rm1 (pc rm1 pn))) ?_)
   refine ⟨[(3, 40, (.int .i64 (imax d51 0)))], [0, 3], rfl, rfl, rfl, rfl, ?_⟩
   replace h := bsome h
   obtain ⟨d52, h52, h⟩ := h
   refine ⟨⟨fun _ => ⟨rfl, rfl, rfl, .inl ⟨rfl, (o_max (m := d51) (n := 0) rfl rfl ⟨rfl, rfl⟩)⟩⟩, fun _ => ⟨rfl, rfl, rfl, .inl ⟨rfl, (o_ld (b := b625) (off := 0) (v := (.pointer (some ⟨b0, 0, none⟩))) rfl rm3 rfl rfl ⟨rfl, rfl⟩)⟩⟩, (fun h => nomatch h), trivial⟩, rfl, .inr ⟨[4], rfl, rfl, ⟨rfl, .inl rfl, ?_⟩, trivial⟩⟩
   refine (o_call has58 rfl (c_space_Space_Place hg X (⟨d6.1, d6.2.1, (⟨d6.2.2.1, d6.2.2.2.1⟩ : Vaddr_Size), d6.2.2.2.2.1, d6.2.2.2.2.2.1, d6.2.2.2.2.2.2⟩ : Vspace_Space) b0 s0 (imax d51 0) _ h52) (pc rm0 (pc rm0 (pc rm0 pn))) ?_)
   refine ⟨[], [], rfl, rfl, rfl, rfl, ?_⟩
   refine ⟨⟨(fun h => nomatch h), (fun h => nomatch h), (fun h => nomatch h), trivial⟩, rfl, rfl, rfl, ?_⟩
   refine e_fall ?_
   refine r_mark rm4 ?_
   refine r_endt rfl rfl (kc rm0 (kc rm0 (kc rm0 (kd kr)))) ?_
   obtain rfl := Option.some.inj h
   exact hk

theorem c_write_Run {g : Gw} (hg : GK g) (X : HP) (p0 : Vspace_Space) (b0 : Nat) (s0 : SV) (p1 : List Int) (s1 : SV) (q0 : Rd X s1 5 (enI .u8) p1) (r : Vspace_Space × Vwrite_Result × Int) (h : m_write_Run p0 p1 = some r) : Tri env g 56 (List.toArray [(.pointer (some ⟨b0, 0, none⟩)), (SV.val s1)]) [X, blk b0 (.cells (List.toArray [(.int .i64 p0.model), (.bool p0.alternate), (.int .i64 p0.size.Rows), (.int .i64 p0.size.Cols), (SV.val s0), (.int .i64 p0.cursor), (.int .i64 p0.attrs)]) 116 (0, 0)), slO s0 80 en_Vapi_Cell p0.cells] (fun K R => ∀ (i0 : HP × SV × SV), (Rd i0.1 i0.2.2 5 (enI .u8) r.2.1.Fields) → (Ext X i0.1) → K (.tuple (List.toArray [(.agg (List.toArray [(.int .i64 r.2.1.Command), (.bool r.2.1.Restore), (.bool r.2.1.Alarm), (.bool r.2.1.Reset), (.int .i64 r.2.1.Pieces), (SV.val i0.2.2)])), (.int .i64 r.2.2)])) (i0.1 :: blk b0 (.cells (List.toArray [(.int .i64 r.1.model), (.bool r.1.alternate), (.int .i64 r.1.size.Rows), (.int .i64 r.1.size.Cols), (SV.val i0.2.1), (.int .i64 r.1.cursor), (.int .i64 r.1.attrs)]) 116 (0, 0)) :: slO i0.2.1 80 en_Vapi_Cell r.1.cells :: R)) := by
 refine tri_of (fn := Tryz.f56) (N := 54) Tryz.func56 rfl rfl rfl ?_
 intro R K hk
 unfold m_write_Run at h
 change GC _ none _ [] [(0, (.pointer (some ⟨b0, 0, none⟩))), (1, (SV.val s1))] (X :: blk b0 (.cells (List.toArray [(.int .i64 p0.model), (.bool p0.alternate), (.int .i64 p0.size.Rows), (.int .i64 p0.size.Cols), (SV.val s0), (.int .i64 p0.cursor), (.int .i64 p0.attrs)]) 116 (0, 0)) :: slO s0 80 en_Vapi_Cell p0.cells :: R) g _ _
 refine c_seq (c_region ?_)
 refine o1 rfl (o_alloc (cs := [(.int .i64 0), (.bool false), (.bool false), (.bool false), (.int .i64 0), (SV.val SV.nil)]) rfl rfl (fun b36 => ?_))
 refine o1 rfl (o_p rfl (o_end (e_seq (c_seq (c_block (c_seq ?_))))))
 refine c_region (o1 rfl (o_p rfl ?_))
 refine o1 rfl (o_p (v := (.bool false)) rfl ?_)
 refine o1 rfl (o_p rfl (o_end (e_seq ?_)))
 refine c_cond_f rfl rfl ?_
 refine c_seq (c_region (o1 rfl (o_p rfl ?_)))
 refine o1 rfl (o_len (s := s1) rfl rfl rfl rm1 q0 ?_)
 refine o1 rfl (o_p (v := (.bool ((p1.length : Int) == 0))) rfl ?_)
 refine o1 rfl (o_p rfl (o_end (e_seq ?_)))
 refine c_cond (b := ((p1.length : Int) == 0)) rfl (fun hb38 => ?_) (fun hb38 => ?_)
 ·replace h := cond_t hb38 h
  refine c_seq (c_region ?_)
  refine o1 rfl (o_build (fs := [⟨ "Command", 3, 0, false, "", "", 0⟩, ⟨ "Restore", 4, 1, false, "", "", 8⟩, ⟨ "Alarm", 4, 2, false, "", "", 9⟩, ⟨ "Reset", 4, 3, false, "", "", 10⟩, ⟨ "Pieces", 3, 4, false, "", "", 16⟩, ⟨ "Fields", 46, 5, false, "", "", 24⟩]) (ps := [(0, 1), (1, 1), (2, 1), (3, 1), (4, 1), (5, 1)]) (cs := [(.int .i64 0), (.bool false), (.bool false), (.bool false), (.int .i64 0), (SV.val SV.nil)]) rfl rfl rfl rfl rfl ?_)
  refine o0 (o_st (b := b36) (off := 0) (vs := [(.int .i64 0), (.bool false), (.bool false), (.bool false), (.int .i64 0), (SV.val SV.nil)]) (cs' := [(.int .i64 0), (.bool false), (.bool false), (.bool false), (.int .i64 0), (SV.val SV.nil)]) rfl rfl rp0 rfl rfl rfl rfl rfl rfl ?_)
  refine o1 rfl (o_p rfl (o_end (e_seq (c_ret (e_blk_ret (e_then_ret ?_))))))
  refine e_ret ?_
  refine r_endc (B := [[(.int .i64 0), (.bool false), (.bool false), (.bool false), (.int .i64 0), (SV.val SV.nil)]]) rfl ⟨⟨_, _, _, _, rfl, rm0⟩, trivial⟩ rfl (kc rm1 (kc rm1 (kc rm1 (kd kr)))) ?_
  obtain rfl := Option.some.inj h
  exact hk (X, s0, SV.nil) (rd_nil _ _ _) (Ext.refl _)
 ·replace h := cond_f hb38 h
  refine c_skip (e_blk (e_seq (c_seq (c_region (o1 rfl (o_p rfl ?_))))))
  replace h := gsome h
  obtain ⟨hg39, h⟩ := h
  refine o1 rfl (o_ix (s := s1) (n := 0) (e := (enI .u8)) rfl rfl rfl rfl rfl rfl rm1 q0 hg39 ?_)
  refine o1 rfl (o_ldE (s := s1) (e := (enI .u8)) (n := 0) (f := 0) (v := (.int .u8 (rd p1 0))) rfl rm1 q0 hg39 rfl rfl ?_)
  replace h := bsome h
  obtain ⟨d3, h3, h⟩ := h
  refine o1 rfl (o_call has102 rfl (c_write_Command hg X (rd p1 0) _ h3) (pc rm1 pn) ?_)
  refine o1 rfl (o_p rfl (o1 rfl (o_p rfl (o1 rfl (o_p rfl (o1 rfl (o_p rfl (o1 rfl (o_p rfl (o_end ?_))))))))))
  refine e_seq (c_seq (c_seq (c_region (o1 rfl (o_p rfl ?_)))))
  refine o1 rfl (o_p (v := (.bool (!d3.2))) rfl ?_)
  refine o_end (e_seq ?_)
  refine c_cond (b := (!d3.2)) rfl (fun hb56 => ?_) (fun hb56 => ?_)
  ·replace h := cond_t hb56 h
   refine c_seq (c_region ?_)
   refine o1 rfl (o_build (fs := [⟨ "Command", 3, 0, false, "", "", 0⟩, ⟨ "Restore", 4, 1, false, "", "", 8⟩, ⟨ "Alarm", 4, 2, false, "", "", 9⟩, ⟨ "Reset", 4, 3, false, "", "", 10⟩, ⟨ "Pieces", 3, 4, false, "", "", 16⟩, ⟨ "Fields", 46, 5, false, "", "", 24⟩]) (ps := [(0, 1), (1, 1), (2, 1), (3, 1), (4, 1), (5, 1)]) (cs := [(.int .i64 0), (.bool false), (.bool false), (.bool false), (.int .i64 0), (SV.val SV.nil)]) rfl rfl rfl rfl rfl ?_)
   refine o0 (o_st (b := b36) (off := 0) (vs := [(.int .i64 0), (.bool false), (.bool false), (.bool false), (.int .i64 0), (SV.val SV.nil)]) (cs' := [(.int .i64 0), (.bool false), (.bool false), (.bool false), (.int .i64 0), (SV.val SV.nil)]) rfl rfl rp1 rfl rfl rfl rfl rfl rfl ?_)
   refine o1 rfl (o_p rfl (o_end (e_seq (c_ret (e_then_ret (e_ret ?_))))))
   refine r_endc (B := [[(.int .i64 0), (.bool false), (.bool false), (.bool false), (.int .i64 0), (SV.val SV.nil)]]) rfl ⟨⟨_, _, _, _, rfl, rm1⟩, trivial⟩ rfl (kc rm0 (kc rm1 (kc rm1 (kd kr)))) ?_
   obtain rfl := Option.some.inj h
   exact hk (X, s0, SV.nil) (rd_nil _ _ _) (Ext.refl _)
  ·replace h := cond_f hb56 h
   refine c_skip (e_seq (c_seq (c_region (o1 rfl (o_p rfl ?_)))))
   refine o1 rfl (o_build (fs := [⟨ "Command", 3, 0, false, "", "", 0⟩, ⟨ "Restore", 4, 1, false, "", "", 8⟩, ⟨ "Alarm", 4, 2, false, "", "", 9⟩, ⟨ "Reset", 4, 3, false, "", "", 10⟩, ⟨ "Pieces", 3, 4, false, "", "", 16⟩, ⟨ "Fields", 46, 5, false, "", "", 24⟩]) (ps := [(0, 1), (1, 1), (2, 1), (3, 1), (4, 1), (5, 1)]) (cs := [(.int .i64 d3.1), (.bool false), (.bool false), (.bool false), (.int .i64 0), (SV.val SV.nil)]) rfl rfl rfl rfl rfl ?_)
   refine o1 rfl (o_alloc (cs := [(.int .i64 0), (.bool false), (.bool false), (.bool false), (.int .i64 0), (SV.val SV.nil)]) rfl rfl (fun b57 => ?_))
   refine o0 (o_st (b := b57) (off := 0) (vs := [(.int .i64 d3.1), (.bool false), (.bool false), (.bool false), (.int .i64 0), (SV.val SV.nil)]) (cs' := [(.int .i64 d3.1), (.bool false), (.bool false), (.bool false), (.int .i64 0), (SV.val SV.nil)]) rfl rfl rp0 rfl rfl rfl rfl rfl rfl ?_)
   refine o_end (e_seq (c_seq (c_seq (c_region (o1 rfl (o_p rfl ?_))))))
   refine o_end (e_seq (c_block (c_seq (c_seq (c_region ?_)))))
   refine o1 rfl (o_p (v := (.bool (d3.1 == 1))) rfl ?_)
   refine o1 rfl (o_p rfl (o_end (e_seq ?_)))
   replace h := bsome h
   obtain ⟨d6, h, hk6⟩ := h
   refine cj (D := Unit) (ι := Unit) (fun _ i6 => True) (fun _ i6 => [(31, (.bool d6)), (30, (.int .i64 d3.1)), (8, (.pointer (some ⟨b57, 0, none⟩))), (4, (.pointer (some ⟨b36, 0, none⟩))), (0, (.pointer (some ⟨b0, 0, none⟩))), (1, (SV.val s1))]) (fun _ i6 => X :: blk b57 (.cells (List.toArray [(.int .i64 d3.1), (.bool false), (.bool false), (.bool false), (.int .i64 0), (SV.val SV.nil)]) 110 (0, 0)) :: blk b36 (.cells (List.toArray [(.int .i64 0), (.bool false), (.bool false), (.bool false), (.int .i64 0), (SV.val SV.nil)]) 110 (0, 0)) :: blk b0 (.cells (List.toArray [(.int .i64 p0.model), (.bool p0.alternate), (.int .i64 p0.size.Rows), (.int .i64 p0.size.Cols), (SV.val s0), (.int .i64 p0.cursor), (.int .i64 p0.attrs)]) 116 (0, 0)) :: slO s0 80 en_Vapi_Cell p0.cells :: R) ?_ ?_
   ·refine c_cond (b := (d3.1 == 1)) rfl (fun hb59 => ?_) (fun hb59 => ?_)
    ·replace h := cond_t hb59 h
     refine c_skip ?_
     obtain rfl := Option.some.inj h
     exact ej () () trivial (sc rfl (sc rfl (sc rfl (sc rfl (sc rfl (sc rfl sn)))))) (kc rm1 (kc rm0 (kc rm0 (kc rm0 (kc rm0 kr)))))
    ·replace h := cond_f hb59 h
     refine c_seq (c_region ?_)
     refine o1 rfl (o_p (v := (.bool (d3.1 == 2))) rfl ?_)
     refine o1 rfl (o_p rfl (o_end (e_seq ?_)))
     refine c_cond (b := (d3.1 == 2)) rfl (fun hb60 => ?_) (fun hb60 => ?_)
     ·replace h := cond_t hb60 h
      refine c_skip ?_
      obtain rfl := Option.some.inj h
      exact ej () () trivial (sc rfl (sc rfl (sc rfl (sc rfl (sc rfl (sc rfl sn)))))) (kc rm1 (kc rm0 (kc rm0 (kc rm0 (kc rm0 kr)))))
     ·replace h := cond_f hb60 h
      refine c_region ?_
      refine o1 rfl (o_p (v := (.bool (d3.1 == 3))) rfl ?_)
      refine o1 rfl (o_p rfl (o_end ?_))
      obtain rfl := Option.some.inj h
      exact ej () () trivial (sc rfl (sc rfl (sc rfl (sc rfl (sc rfl (sc rfl sn)))))) (kc rm1 (kc rm0 (kc rm0 (kc rm0 (kc rm0 kr)))))
   ·rintro _ i6 _
    replace h := hk6
    clear hk6
    refine e_seq ?_
    replace h := jn_some h
    obtain ⟨y7, h, hk7⟩ := h
    refine cj (D := Bool × (List Int) × Int × Bool × Int × Int × (List Vapi_Cell) × Int × Int) (ι := SV) (fun d7 i7 => y7 = Sum.inl d7) (fun d7 i7 => [(8, (.pointer (some ⟨b57, 0, none⟩))), (4, (.pointer (some ⟨b36, 0, none⟩)))]) (fun d7 i7 => X :: blk b57 (.cells (List.toArray [(.int .i64 d3.1), (.bool d7.1), (.bool false), (.bool false), (.int .i64 0), (SV.val i7)]) 110 (0, 0)) :: blk b36 (.cells (List.toArray [(.int .i64 0), (.bool false), (.bool false), (.bool false), (.int .i64 0), (SV.val SV.nil)]) 110 (0, 0)) :: blk b0 (.cells (List.toArray [(.int .i64 d7.2.2.1), (.bool d7.2.2.2.1), (.int .i64 d7.2.2.2.2.1), (.int .i64 d7.2.2.2.2.2.1), (SV.val s0), (.int .i64 d7.2.2.2.2.2.2.2.1), (.int .i64 d7.2.2.2.2.2.2.2.2)]) 116 (0, 0)) :: slO i7 5 (enI .u8) d7.2.1 :: slO s0 80 en_Vapi_Cell d7.2.2.2.2.2.2.1 :: R) ?_ ?_
    ·refine c_cond (b := d6) rfl (fun hb61 => ?_) (fun hb61 => ?_)
     ·replace h := cond_t hb61 h
      refine c_seq ?_
      replace h := gsome h
      obtain ⟨hg62, h⟩ := h
      have hr63 : Rd X (SV.cut s1 1 (Int.toNat 1) (Int.toNat (p1.length : Int)) (mxv s1 none)) 5 (enI .u8) (List.drop 1 p1) := rd_tk (Rd.cutv q0 hg62 mx_none)
      refine c_draw (n := 2) (q := [(0, 35, (.pointer (some ⟨b0, 0, none⟩))), (1, 36, (.agg (List.toArray [(.int .i64 d3.1), (.bool false), (.bool false), (.bool false), (.int .i64 0), (SV.val SV.nil)]))), (2, 37, (SV.val s1)), (3, 38, (SV.val (SV.cut s1 1 (Int.toNat 1) (Int.toNat (p1.length : Int)) (mxv s1 none))))]) (pend := [0, 1, 2, 3]) rfl rfl rfl ?_
      replace h := bsome h
      obtain ⟨d9, h9, h⟩ := h
      refine ⟨⟨fun _ => ⟨rfl, rfl, rfl, .inl ⟨rfl, (o_p rfl ⟨rfl, rfl⟩)⟩⟩, fun _ => ⟨rfl, rfl, rfl, .inl ⟨rfl, (o_ld (b := b57) (off := 0) (v := (.agg (List.toArray [(.int .i64 d3.1), (.bool false), (.bool false), (.bool false), (.int .i64 0), (SV.val SV.nil)]))) rfl rm1 rfl rfl ⟨rfl, rfl⟩)⟩⟩, fun _ => ⟨rfl, rfl, rfl, .inl ⟨rfl, (o_p rfl ⟨rfl, rfl⟩)⟩⟩, fun _ => ⟨rfl, rfl, rfl, .inl ⟨rfl, (o_slx (a := 1) (b := (p1.length : Int)) (m := none) rfl rfl rfl rfl rfl rm0 q0 rfl rfl rfl (by decide) hg62 mx_none ⟨rfl, rfl⟩)⟩⟩, trivial⟩, rfl, .inr ⟨[4], rfl, rfl, ⟨rfl, .inl rfl, ?_⟩, trivial⟩⟩
      refine (o_call has103 rfl (c_write_written hg X p0 b0 s0 (⟨d3.1, false, false, false, 0, ([] : List Int)⟩ : Vwrite_Result) SV.nil (rd_nil _ _ _) (List.drop 1 p1) (SV.cut s1 1 (Int.toNat 1) (Int.toNat (p1.length : Int)) (mxv s1 none)) hr63 _ h9) (pc rm0 (pc rm2 (pc rm2 pn))) (fun i9 f9_0 f9_1 => ?_))
      refine ⟨[(5, 40, (.agg (List.toArray [(.int .i64 d9.2.1.Command), (.bool d9.2.1.Restore), (.bool d9.2.1.Alarm), (.bool d9.2.1.Reset), (.int .i64 d9.2.1.Pieces), (SV.val SV.nil)]))), (6, 41, (.int .i64 d9.2.2))], [5, 6], rfl, rfl, rfl, rfl, ?_⟩
      refine ⟨⟨fun _ => ⟨rfl, rfl, rfl, .inl ⟨rfl, (o_p rfl ⟨rfl, rfl⟩)⟩⟩, fun _ => ⟨rfl, rfl, rfl, .inl ⟨rfl, (o_p rfl ⟨rfl, rfl⟩)⟩⟩, (fun h => nomatch h), (fun h => nomatch h), (fun h => nomatch h), (fun h => nomatch h), trivial⟩, rfl, .inr ⟨[7], rfl, rfl, ⟨rfl, .inl rfl, ?_⟩, trivial⟩⟩
      refine (o_st (b := b36) (off := 0) (vs := [(.int .i64 d9.2.1.Command), (.bool d9.2.1.Restore), (.bool d9.2.1.Alarm), (.bool d9.2.1.Reset), (.int .i64 d9.2.1.Pieces), (SV.val SV.nil)]) (cs' := [(.int .i64 d9.2.1.Command), (.bool d9.2.1.Restore), (.bool d9.2.1.Alarm), (.bool d9.2.1.Reset), (.int .i64 d9.2.1.Pieces), (SV.val SV.nil)]) rfl rfl rp4 rfl rfl rfl rfl rfl rfl ?_)
      refine ⟨[(8, 5, (.int .i64 d9.2.2))], [8], rfl, rfl, ?_⟩
      refine ⟨⟨fun _ => ⟨rfl, rfl, rfl, .inl ⟨rfl, (o_p rfl ⟨rfl, rfl⟩)⟩⟩, (fun h => nomatch h), (fun h => nomatch h), (fun h => nomatch h), (fun h => nomatch h), (fun h => nomatch h), (fun h => nomatch h), trivial⟩, rfl, rfl, rfl, ?_⟩
      refine e_seq (c_ret (ej_ret ?_))
      replace h := esc_some h
      obtain ⟨z7, h, rfl⟩ := h
      obtain rfl := (hk7 : z7 = _)
      refine e_blk_ret (e_then_ret (e_ret ?_))
      refine r_endc (B := [[(.int .i64 d9.2.1.Command), (.bool d9.2.1.Restore), (.bool d9.2.1.Alarm), (.bool d9.2.1.Reset), (.int .i64 d9.2.1.Pieces), (SV.val SV.nil)]]) rfl ⟨⟨_, _, _, _, rfl, rm4⟩, trivial⟩ rfl (kc rm0 (kc rm0 (kc rm0 (kd (kd kr))))) ?_
      obtain rfl := Option.some.inj h
      exact hk (i9.1, i9.2, SV.nil) f9_0 f9_1
     ·replace h := cond_f hb61 h
      refine c_seq (c_region ?_)
      refine o1 rfl (o_p (v := (.bool (d3.1 == 4))) rfl ?_)
      refine o1 rfl (o_p rfl (o_end (e_seq ?_)))
      refine c_cond (b := (d3.1 == 4)) rfl (fun hb624 => ?_) (fun hb624 => ?_)
      ·replace h := cond_t hb624 h
       refine c_seq (c_region (o1 rfl (o_p rfl ?_)))
       replace h := bsome h
       obtain ⟨d10, h10, h⟩ := h
       refine o1 rfl (o_call has104 rfl (c_erase_Unprotected hg X p0 b0 s0 _ h10) (pc rm0 (pc rm2 (pc rm2 pn))) ?_)
       refine o_end (e_seq (c_region ?_))
       refine o1 rfl (o_fa (fd := ⟨ "Restore", 4, 1, false, "", "", 8⟩) rfl rfl rfl rfl rfl ?_)
       refine o0 (o_st (b := b57) (off := 1) (vs := [(.bool true)]) (cs' := [(.int .i64 d3.1), (.bool true), (.bool false), (.bool false), (.int .i64 0), (SV.val SV.nil)]) rfl rfl rp3 rfl rfl rfl rfl rfl rfl ?_)
       refine o_end ?_
       refine e_add (slO SV.nil 5 (enI .u8) []) (slO_nil _ _ _) ?_
       obtain rfl := Option.some.inj h
       exact ej (true, ([] : List Int), d10.model, d10.alternate, d10.size.Rows, d10.size.Cols, d10.cells, d10.cursor, d10.attrs) SV.nil rfl (sc rfl (sc rfl sn)) (kc rm1 (kc rm3 (kc rm3 (kc rm1 (kc rm0 (kc rm0 kr))))))
      ·replace h := cond_f hb624 h
       refine c_seq (c_region ?_)
       refine o1 rfl (o_p (v := (.bool (d3.1 == 8))) rfl ?_)
       refine o1 rfl (o_p rfl (o_end (e_seq ?_)))
       refine c_cond (b := (d3.1 == 8)) rfl (fun hb754 => ?_) (fun hb754 => ?_)
       ·replace h := cond_t hb754 h
        refine c_region (o1 rfl (o_p rfl ?_))
        replace h := gsome h
        obtain ⟨hg755, h⟩ := h
        refine o1 rfl (o_sl (a := 1) (b := (p1.length : Int)) (m := none) rfl rfl rfl rfl rfl rm0 q0 rfl rfl rfl (by decide) hg755 mx_none (fun s757 hr756 => ?_))
        replace hr756 := rd_tk hr756
        replace h := bsome h
        obtain ⟨d11, h11, h⟩ := h
        refine o1 rfl (o_call has105 rfl (c_bytes_Clone hg X (List.drop 1 p1) s757 hr756 _ h11) (pc rm0 pn) (fun i11 => ?_))
        refine o1 rfl (o_fa (fd := ⟨ "Fields", 46, 5, false, "", "", 24⟩) rfl rfl rfl rfl rfl ?_)
        refine o0 (o_st (b := b57) (off := 5) (vs := [(SV.val i11)]) (cs' := [(.int .i64 d3.1), (.bool false), (.bool false), (.bool false), (.int .i64 0), (SV.val i11)]) rfl rfl rp2 rfl rfl rfl rfl rfl rfl ?_)
        refine o_end ?_
        obtain rfl := Option.some.inj h
        exact ej (false, d11, p0.model, p0.alternate, p0.size.Rows, p0.size.Cols, p0.cells, p0.cursor, p0.attrs) i11 rfl (sc rfl (sc rfl sn)) (kc rm0 (kc rm1 (kc rm1 (kc rm1 (kc rm0 (kc rm0 kr))))))
       ·replace h := cond_f hb754 h
        refine c_skip ?_
        refine e_add (slO SV.nil 5 (enI .u8) []) (slO_nil _ _ _) ?_
        obtain rfl := Option.some.inj h
        exact ej (false, ([] : List Int), p0.model, p0.alternate, p0.size.Rows, p0.size.Cols, p0.cells, p0.cursor, p0.attrs) SV.nil rfl (sc rfl (sc rfl sn)) (kc rm1 (kc rm1 (kc rm1 (kc rm1 (kc rm0 (kc rm0 kr))))))
    ·rintro d7 i7 rfl
     replace h := JK_inl hk7
     clear hk7
     refine e_blk (e_seq (c_seq (c_region ?_)))
     refine o1 rfl (o_ld (b := b57) (off := 0) (v := (.agg (List.toArray [(.int .i64 d3.1), (.bool d7.1), (.bool false), (.bool false), (.int .i64 0), (SV.val i7)]))) rfl rm1 rfl rfl ?_)
     refine o0 (o_st (b := b36) (off := 0) (vs := [(.int .i64 d3.1), (.bool d7.1), (.bool false), (.bool false), (.int .i64 0), (SV.val i7)]) (cs' := [(.int .i64 d3.1), (.bool d7.1), (.bool false), (.bool false), (.int .i64 0), (SV.val i7)]) rfl rfl rp2 rfl rfl rfl rfl rfl rfl ?_)
     refine o1 rfl (o_p rfl (o_end (e_seq (c_ret (e_ret ?_)))))
     refine r_fz rm4 rm0 (fun X764 hx765 hs766 => ?_)
     refine r_endc (B := [[(.int .i64 d3.1), (.bool d7.1), (.bool false), (.bool false), (.int .i64 0), (SV.val i7)]]) rfl ⟨⟨_, _, _, _, rfl, rm2⟩, trivial⟩ rfl (kc rm0 (kc rm2 (kc rm2 (kd (kd kr))))) ?_
     obtain rfl := Option.some.inj h
     exact hk (X764, s0, i7) hs766 hx765

theorem c_vitrinelaw17_awake {g : Gw} (hg : GK g) (X : HP) (r : Bool) (h : m_vitrinelaw17_awake = some r) : Tri env g 18 (List.toArray []) [X] (fun K R => ∀ (i0 : HP), (Ext X i0) → K (.bool r) (i0 :: R)) := by
 refine tri_of (fn := Tryz.f18) (N := 57) Tryz.func18 rfl rfl rfl ?_
 intro R K hk
 unfold m_vitrinelaw17_awake at h
 change GC _ none _ [] [] (X :: R) g _ _
 refine c_seq (c_region (o1 rfl (o_p rfl (o_end (e_seq (c_seq ?_))))))
 refine c_region ?_
 replace h := bsome h
 obtain ⟨d2, h2, h⟩ := h
 rcases d2 with d2 | d2
 ·cases h
 ·refine o1 rfl (o_call has44 rfl (c_space_New hg X 2 _ h2) (pc rm0 pn) (fun i2 => ?_))
  refine o1 rfl (o_p rfl (o1 rfl (o_p rfl (o1 rfl (o_p rfl (o1 rfl (o_p rfl (o1 rfl (o_p rfl (o_end ?_))))))))))
  refine e_seq (c_seq (c_region (o1 rfl (o_p rfl ?_))))
  refine o1 rfl (o_bs (e := (enI .u8)) (l := [245, 195, 17, 64, 64, 29, 96, 193]) (zs := [(.int .u8 0)]) rfl rfl rfl rfl rfl rfl rfl rfl rfl rfl (fun s31 => ?_))
  refine o_fz rm0 rm0 (fun X33 hx34 hs35 => ?_)
  replace h := bsome h
  obtain ⟨d3, h3, h⟩ := h
  refine o1 rfl (o_call has56 rfl (c_write_Run hg X33 d2.1 i2.1 i2.2 [245, 195, 17, 64, 64, 29, 96, 193] s31 hs35 _ h3) (pc rm0 (pc rm0 (pc rm0 pn))) (fun i3 f3_0 f3_1 => ?_))
  refine o1 rfl (o_p rfl (o1 rfl (o_p rfl (o1 rfl (o_p rfl ?_)))))
  refine o1 rfl (o_alloc (cs := [(.int .i64 0), (.bool false), (.bool false), (.bool false), (.int .i64 0), (SV.val SV.nil)]) rfl rfl (fun b769 => ?_))
  refine o0 (o_st (b := b769) (off := 0) (vs := [(.int .i64 d3.2.1.Command), (.bool d3.2.1.Restore), (.bool d3.2.1.Alarm), (.bool d3.2.1.Reset), (.int .i64 d3.2.1.Pieces), (SV.val i3.2.2)]) (cs' := [(.int .i64 d3.2.1.Command), (.bool d3.2.1.Restore), (.bool d3.2.1.Alarm), (.bool d3.2.1.Reset), (.int .i64 d3.2.1.Pieces), (SV.val i3.2.2)]) rfl rfl rp0 rfl rfl rfl rfl rfl rfl ?_)
  refine o1 rfl (o_p rfl (o_end (e_seq (c_seq ?_))))
  replace h := bsome h
  obtain ⟨d4, h, hk4⟩ := h
  refine cj (D := Unit) (ι := Unit) (fun _ i4 => True) (fun _ i4 => [(0, (.bool d4))]) (fun _ i4 => i3.1 :: R) ?_ ?_
  ·refine c_region (o1 rfl (o_p rfl ?_))
   refine o1 rfl (o_p (v := (.bool (d3.2.2 == 0))) rfl ?_)
   refine o1 rfl (o_p rfl ?_)
   rcases bool_or ((d3.2.2 == 0)) with hb771 | hb771
   ·replace h := cond_t hb771 h
    refine oy rfl rfl rfl hb771 (o_fa (fd := ⟨ "Command", 3, 0, false, "", "", 0⟩) rfl rfl rfl rfl rfl ?_)
    refine oy rfl rfl rfl hb771 (o_ld (b := b769) (off := 0) (v := (.int .i64 d3.2.1.Command)) rfl rm0 rfl rfl ?_)
    refine oy rfl rfl rfl hb771 (o_p (v := (.bool (d3.2.1.Command == 2))) rfl ?_)
    refine o1 rfl (o_pick_t rfl hb771 rfl ?_)
    refine o1 rfl (o_p rfl ?_)
    rcases bool_or ((d3.2.1.Command == 2)) with hb772 | hb772
    ·replace h := cond_t hb772 h
     refine oy rfl rfl rfl hb772 (o_fa (fd := ⟨ "Restore", 4, 1, false, "", "", 8⟩) rfl rfl rfl rfl rfl ?_)
     refine oy rfl rfl rfl hb772 (o_ld (b := b769) (off := 1) (v := (.bool d3.2.1.Restore)) rfl rm0 rfl rfl ?_)
     refine o1 rfl (o_pick_t rfl hb772 rfl ?_)
     refine o1 rfl (o_p rfl ?_)
     rcases bool_or (d3.2.1.Restore) with hb773 | hb773
     ·replace h := cond_t hb773 h
      refine oy rfl rfl rfl hb773 (o_fa (fd := ⟨ "Reset", 4, 3, false, "", "", 10⟩) rfl rfl rfl rfl rfl ?_)
      refine oy rfl rfl rfl hb773 (o_ld (b := b769) (off := 3) (v := (.bool d3.2.1.Reset)) rfl rm0 rfl rfl ?_)
      refine o1 rfl (o_pick_t rfl hb773 rfl ?_)
      refine o1 rfl (o_p rfl ?_)
      rcases bool_or (d3.2.1.Reset) with hb774 | hb774
      ·replace h := cond_t hb774 h
       refine oy rfl rfl rfl hb774 (o_fa (fd := ⟨ "Alarm", 4, 2, false, "", "", 9⟩) rfl rfl rfl rfl rfl ?_)
       refine oy rfl rfl rfl hb774 (o_ld (b := b769) (off := 2) (v := (.bool d3.2.1.Alarm)) rfl rm0 rfl rfl ?_)
       refine oy rfl rfl rfl hb774 (o_p (v := (.bool (!d3.2.1.Alarm))) rfl ?_)
       refine o1 rfl (o_pick_t rfl hb774 rfl ?_)
       refine o1 rfl (o_p rfl ?_)
       rcases bool_or ((!d3.2.1.Alarm)) with hb775 | hb775
       ·replace h := cond_t hb775 h
        refine oy rfl rfl rfl hb775 (o_fa (fd := ⟨ "Pieces", 3, 4, false, "", "", 16⟩) rfl rfl rfl rfl rfl ?_)
        refine oy rfl rfl rfl hb775 (o_ld (b := b769) (off := 4) (v := (.int .i64 d3.2.1.Pieces)) rfl rm0 rfl rfl ?_)
        refine oy rfl rfl rfl hb775 (o_p (v := (.bool (d3.2.1.Pieces == 3))) rfl ?_)
        refine o1 rfl (o_pick_t rfl hb775 rfl ?_)
        refine o1 rfl (o_p rfl ?_)
        rcases bool_or ((d3.2.1.Pieces == 3)) with hb776 | hb776
        ·replace h := cond_t hb776 h
         refine oy rfl rfl rfl hb776 (o_p rfl ?_)
         replace h := bsome h
         obtain ⟨d5, h5, h⟩ := h
         refine oy rfl rfl rfl hb776 (o_call has57 rfl (c_space_Space_At hg i3.1 d3.1 i2.1 i3.2.1 0 _ h5) (pc rm1 (pc rm1 (pc rm1 pn))) ?_)
         refine oy rfl rfl rfl hb776 (o_field (v := (.bool d5.Attr)) rfl rfl rfl ?_)
         refine o1 rfl (o_pick_t rfl hb776 rfl ?_)
         refine o1 rfl (o_p rfl ?_)
         rcases bool_or (d5.Attr) with hb777 | hb777
         ·replace h := cond_t hb777 h
          refine oy rfl rfl rfl hb777 (o_p rfl ?_)
          replace h := bsome h
          obtain ⟨d6, h6, h⟩ := h
          refine oy rfl rfl rfl hb777 (o_call has57 rfl (c_space_Space_At hg i3.1 d3.1 i2.1 i3.2.1 0 _ h6) (pc rm0 (pc rm0 (pc rm0 pn))) ?_)
          refine oy rfl rfl rfl hb777 (o_field (v := (.int .u8 d6.FA)) rfl rfl rfl ?_)
          refine oy rfl rfl rfl hb777 (o_p (v := (.bool (d6.FA == 32))) rfl ?_)
          refine o1 rfl (o_pick_t rfl hb777 rfl ?_)
          refine o1 rfl (o_p rfl ?_)
          rcases bool_or ((d6.FA == 32)) with hb778 | hb778
          ·replace h := cond_t hb778 h
           refine oy rfl rfl rfl hb778 (o_p rfl ?_)
           replace h := bsome h
           obtain ⟨d7, h7, h⟩ := h
           refine oy rfl rfl rfl hb778 (o_call has57 rfl (c_space_Space_At hg i3.1 d3.1 i2.1 i3.2.1 1 _ h7) (pc rm0 (pc rm0 (pc rm0 pn))) ?_)
           refine oy rfl rfl rfl hb778 (o_field (v := (.int .u8 d7.Char)) rfl rfl rfl ?_)
           refine oy rfl rfl rfl hb778 (o_p (v := (.bool (d7.Char == 193))) rfl ?_)
           refine o1 rfl (o_pick_t rfl hb778 rfl ?_)
           refine o1 rfl (o_p rfl (o_end ?_))
           obtain rfl := Option.some.inj h
           exact ej () () trivial (sc rfl sn) (kc rm0 (kd (kd (kd kr))))
          ·replace h := cond_f hb778 h
           refine on rfl rfl rfl hb778 ?_
           refine on rfl rfl rfl hb778 ?_
           refine on rfl rfl rfl hb778 ?_
           refine on rfl rfl rfl hb778 ?_
           refine o1 rfl (o_pick_f rfl hb778 rfl ?_)
           refine o1 rfl (o_p rfl (o_end ?_))
           obtain rfl := Option.some.inj h
           exact ej () () trivial (sc rfl sn) (kc rm0 (kd (kd (kd kr))))
         ·replace h := cond_f hb777 h
          refine on rfl rfl rfl hb777 ?_
          refine on rfl rfl rfl hb777 ?_
          refine on rfl rfl rfl hb777 ?_
          refine on rfl rfl rfl hb777 ?_
          refine o1 rfl (o_pick_f rfl hb777 rfl ?_)
          refine o1 rfl (o_p rfl ?_)
          refine on rfl rfl rfl rfl ?_
          refine on rfl rfl rfl rfl ?_
          refine on rfl rfl rfl rfl ?_
          refine on rfl rfl rfl rfl ?_
          refine o1 rfl (o_pick_f rfl rfl rfl ?_)
          refine o1 rfl (o_p rfl (o_end ?_))
          obtain rfl := Option.some.inj h
          exact ej () () trivial (sc rfl sn) (kc rm0 (kd (kd (kd kr))))
        ·replace h := cond_f hb776 h
         refine on rfl rfl rfl hb776 ?_
         refine on rfl rfl rfl hb776 ?_
         refine on rfl rfl rfl hb776 ?_
         refine o1 rfl (o_pick_f rfl hb776 rfl ?_)
         refine o1 rfl (o_p rfl ?_)
         refine on rfl rfl rfl rfl ?_
         refine on rfl rfl rfl rfl ?_
         refine on rfl rfl rfl rfl ?_
         refine on rfl rfl rfl rfl ?_
         refine o1 rfl (o_pick_f rfl rfl rfl ?_)
         refine o1 rfl (o_p rfl ?_)
         refine on rfl rfl rfl rfl ?_
         refine on rfl rfl rfl rfl ?_
         refine on rfl rfl rfl rfl ?_
         refine on rfl rfl rfl rfl ?_
         refine o1 rfl (o_pick_f rfl rfl rfl ?_)
         refine o1 rfl (o_p rfl (o_end ?_))
         obtain rfl := Option.some.inj h
         exact ej () () trivial (sc rfl sn) (kc rm1 (kd (kd (kd kr))))
       ·replace h := cond_f hb775 h
        refine on rfl rfl rfl hb775 ?_
        refine on rfl rfl rfl hb775 ?_
        refine on rfl rfl rfl hb775 ?_
        refine o1 rfl (o_pick_f rfl hb775 rfl ?_)
        refine o1 rfl (o_p rfl ?_)
        refine on rfl rfl rfl rfl ?_
        refine on rfl rfl rfl rfl ?_
        refine on rfl rfl rfl rfl ?_
        refine o1 rfl (o_pick_f rfl rfl rfl ?_)
        refine o1 rfl (o_p rfl ?_)
        refine on rfl rfl rfl rfl ?_
        refine on rfl rfl rfl rfl ?_
        refine on rfl rfl rfl rfl ?_
        refine on rfl rfl rfl rfl ?_
        refine o1 rfl (o_pick_f rfl rfl rfl ?_)
        refine o1 rfl (o_p rfl ?_)
        refine on rfl rfl rfl rfl ?_
        refine on rfl rfl rfl rfl ?_
        refine on rfl rfl rfl rfl ?_
        refine on rfl rfl rfl rfl ?_
        refine o1 rfl (o_pick_f rfl rfl rfl ?_)
        refine o1 rfl (o_p rfl (o_end ?_))
        obtain rfl := Option.some.inj h
        exact ej () () trivial (sc rfl sn) (kc rm1 (kd (kd (kd kr))))
      ·replace h := cond_f hb774 h
       refine on rfl rfl rfl hb774 ?_
       refine on rfl rfl rfl hb774 ?_
       refine on rfl rfl rfl hb774 ?_
       refine o1 rfl (o_pick_f rfl hb774 rfl ?_)
       refine o1 rfl (o_p rfl ?_)
       refine on rfl rfl rfl rfl ?_
       refine on rfl rfl rfl rfl ?_
       refine on rfl rfl rfl rfl ?_
       refine o1 rfl (o_pick_f rfl rfl rfl ?_)
       refine o1 rfl (o_p rfl ?_)
       refine on rfl rfl rfl rfl ?_
       refine on rfl rfl rfl rfl ?_
       refine on rfl rfl rfl rfl ?_
       refine o1 rfl (o_pick_f rfl rfl rfl ?_)
       refine o1 rfl (o_p rfl ?_)
       refine on rfl rfl rfl rfl ?_
       refine on rfl rfl rfl rfl ?_
       refine on rfl rfl rfl rfl ?_
       refine on rfl rfl rfl rfl ?_
       refine o1 rfl (o_pick_f rfl rfl rfl ?_)
       refine o1 rfl (o_p rfl ?_)
       refine on rfl rfl rfl rfl ?_
       refine on rfl rfl rfl rfl ?_
       refine on rfl rfl rfl rfl ?_
       refine on rfl rfl rfl rfl ?_
       refine o1 rfl (o_pick_f rfl rfl rfl ?_)
       refine o1 rfl (o_p rfl (o_end ?_))
       obtain rfl := Option.some.inj h
       exact ej () () trivial (sc rfl sn) (kc rm1 (kd (kd (kd kr))))
     ·replace h := cond_f hb773 h
      refine on rfl rfl rfl hb773 ?_
      refine on rfl rfl rfl hb773 ?_
      refine o1 rfl (o_pick_f rfl hb773 rfl ?_)
      refine o1 rfl (o_p rfl ?_)
      refine on rfl rfl rfl rfl ?_
      refine on rfl rfl rfl rfl ?_
      refine on rfl rfl rfl rfl ?_
      refine o1 rfl (o_pick_f rfl rfl rfl ?_)
      refine o1 rfl (o_p rfl ?_)
      refine on rfl rfl rfl rfl ?_
      refine on rfl rfl rfl rfl ?_
      refine on rfl rfl rfl rfl ?_
      refine o1 rfl (o_pick_f rfl rfl rfl ?_)
      refine o1 rfl (o_p rfl ?_)
      refine on rfl rfl rfl rfl ?_
      refine on rfl rfl rfl rfl ?_
      refine on rfl rfl rfl rfl ?_
      refine o1 rfl (o_pick_f rfl rfl rfl ?_)
      refine o1 rfl (o_p rfl ?_)
      refine on rfl rfl rfl rfl ?_
      refine on rfl rfl rfl rfl ?_
      refine on rfl rfl rfl rfl ?_
      refine on rfl rfl rfl rfl ?_
      refine o1 rfl (o_pick_f rfl rfl rfl ?_)
      refine o1 rfl (o_p rfl ?_)
      refine on rfl rfl rfl rfl ?_
      refine on rfl rfl rfl rfl ?_
      refine on rfl rfl rfl rfl ?_
      refine on rfl rfl rfl rfl ?_
      refine o1 rfl (o_pick_f rfl rfl rfl ?_)
      refine o1 rfl (o_p rfl (o_end ?_))
      obtain rfl := Option.some.inj h
      exact ej () () trivial (sc rfl sn) (kc rm1 (kd (kd (kd kr))))
    ·replace h := cond_f hb772 h
     refine on rfl rfl rfl hb772 ?_
     refine on rfl rfl rfl hb772 ?_
     refine o1 rfl (o_pick_f rfl hb772 rfl ?_)
     refine o1 rfl (o_p rfl ?_)
     refine on rfl rfl rfl rfl ?_
     refine on rfl rfl rfl rfl ?_
     refine o1 rfl (o_pick_f rfl rfl rfl ?_)
     refine o1 rfl (o_p rfl ?_)
     refine on rfl rfl rfl rfl ?_
     refine on rfl rfl rfl rfl ?_
     refine on rfl rfl rfl rfl ?_
     refine o1 rfl (o_pick_f rfl rfl rfl ?_)
     refine o1 rfl (o_p rfl ?_)
     refine on rfl rfl rfl rfl ?_
     refine on rfl rfl rfl rfl ?_
     refine on rfl rfl rfl rfl ?_
     refine o1 rfl (o_pick_f rfl rfl rfl ?_)
     refine o1 rfl (o_p rfl ?_)
     refine on rfl rfl rfl rfl ?_
     refine on rfl rfl rfl rfl ?_
     refine on rfl rfl rfl rfl ?_
     refine o1 rfl (o_pick_f rfl rfl rfl ?_)
     refine o1 rfl (o_p rfl ?_)
     refine on rfl rfl rfl rfl ?_
     refine on rfl rfl rfl rfl ?_
     refine on rfl rfl rfl rfl ?_
     refine on rfl rfl rfl rfl ?_
     refine o1 rfl (o_pick_f rfl rfl rfl ?_)
     refine o1 rfl (o_p rfl ?_)
     refine on rfl rfl rfl rfl ?_
     refine on rfl rfl rfl rfl ?_
     refine on rfl rfl rfl rfl ?_
     refine on rfl rfl rfl rfl ?_
     refine o1 rfl (o_pick_f rfl rfl rfl ?_)
     refine o1 rfl (o_p rfl (o_end ?_))
     obtain rfl := Option.some.inj h
     exact ej () () trivial (sc rfl sn) (kc rm1 (kd (kd (kd kr))))
   ·replace h := cond_f hb771 h
    refine on rfl rfl rfl hb771 ?_
    refine on rfl rfl rfl hb771 ?_
    refine on rfl rfl rfl hb771 ?_
    refine o1 rfl (o_pick_f rfl hb771 rfl ?_)
    refine o1 rfl (o_p rfl ?_)
    refine on rfl rfl rfl rfl ?_
    refine on rfl rfl rfl rfl ?_
    refine o1 rfl (o_pick_f rfl rfl rfl ?_)
    refine o1 rfl (o_p rfl ?_)
    refine on rfl rfl rfl rfl ?_
    refine on rfl rfl rfl rfl ?_
    refine o1 rfl (o_pick_f rfl rfl rfl ?_)
    refine o1 rfl (o_p rfl ?_)
    refine on rfl rfl rfl rfl ?_
    refine on rfl rfl rfl rfl ?_
    refine on rfl rfl rfl rfl ?_
    refine o1 rfl (o_pick_f rfl rfl rfl ?_)
    refine o1 rfl (o_p rfl ?_)
    refine on rfl rfl rfl rfl ?_
    refine on rfl rfl rfl rfl ?_
    refine on rfl rfl rfl rfl ?_
    refine o1 rfl (o_pick_f rfl rfl rfl ?_)
    refine o1 rfl (o_p rfl ?_)
    refine on rfl rfl rfl rfl ?_
    refine on rfl rfl rfl rfl ?_
    refine on rfl rfl rfl rfl ?_
    refine o1 rfl (o_pick_f rfl rfl rfl ?_)
    refine o1 rfl (o_p rfl ?_)
    refine on rfl rfl rfl rfl ?_
    refine on rfl rfl rfl rfl ?_
    refine on rfl rfl rfl rfl ?_
    refine on rfl rfl rfl rfl ?_
    refine o1 rfl (o_pick_f rfl rfl rfl ?_)
    refine o1 rfl (o_p rfl ?_)
    refine on rfl rfl rfl rfl ?_
    refine on rfl rfl rfl rfl ?_
    refine on rfl rfl rfl rfl ?_
    refine on rfl rfl rfl rfl ?_
    refine o1 rfl (o_pick_f rfl rfl rfl ?_)
    refine o1 rfl (o_p rfl (o_end ?_))
    obtain rfl := Option.some.inj h
    exact ej () () trivial (sc rfl sn) (kc rm1 (kd (kd (kd kr))))
  ·rintro _ i4 _
   replace h := hk4
   clear hk4
   refine e_seq (c_ret (e_ret ?_))
   refine r_endt rfl rfl (kc rm0 kr) ?_
   obtain rfl := Option.some.inj h
   exact hk i3.1 (Ext.trans hx34 f3_1)

theorem c_vitrineref04_Model {g : Gw} (hg : GK g) (X : HP) (p0 : Int) (r : Vvitrineref04_Size × Bool) (h : m_vitrineref04_Model p0 = some r) : Tri env g 94 (List.toArray [(.int .i64 p0)]) [X] (fun K R => K (.tuple (List.toArray [(.agg (List.toArray [(.int .i64 r.1.Rows), (.int .i64 r.1.Cols)])), (.bool r.2)])) (X :: R)) := by
 refine tri_of (fn := Tryz.f94) (N := 20) Tryz.func94 rfl rfl rfl ?_
 intro R K hk
 unfold m_vitrineref04_Model at h
 change GC _ none _ [] [(0, (.int .i64 p0))] (X :: R) g _ _
 refine c_seq (c_region ?_)
 refine o1 rfl (o_alloc (cs := [(.int .i64 0), (.int .i64 0)]) rfl rfl (fun b782 => ?_))
 refine o1 rfl (o_p rfl (o_end (e_seq (c_seq (c_seq ?_)))))
 replace h := bsome h
 obtain ⟨d1, h, hk1⟩ := h
 refine cj (D := Unit) (ι := Unit) (fun _ i1 => True) (fun _ i1 => [(9, (.bool d1)), (2, (.pointer (some ⟨b782, 0, none⟩))), (0, (.int .i64 p0))]) (fun _ i1 => X :: blk b782 (.cells (List.toArray [(.int .i64 0), (.int .i64 0)]) 37 (0, 0)) :: R) ?_ ?_
 ·refine c_region (o1 rfl (o_p rfl ?_))
  refine o1 rfl (o_p (v := (.bool (decide (p0 < 2)))) rfl ?_)
  refine o1 rfl (o_p rfl ?_)
  rcases bool_or ((decide (p0 < 2))) with hb784 | hb784
  ·replace h := cond_t hb784 h
   refine on rfl rfl rfl hb784 ?_
   refine on rfl rfl rfl hb784 ?_
   refine o1 rfl (o_pick_t rfl hb784 rfl ?_)
   refine o_end ?_
   obtain rfl := Option.some.inj h
   exact ej () () trivial (sc rfl (sc rfl (sc rfl sn))) (kc rm1 (kc rm0 kr))
  ·replace h := cond_f hb784 h
   refine oy rfl rfl rfl hb784 (o_p rfl ?_)
   refine oy rfl rfl rfl hb784 (o_p (v := (.bool (decide (p0 > 5)))) rfl ?_)
   refine o1 rfl (o_pick_f rfl hb784 rfl ?_)
   refine o_end ?_
   obtain rfl := Option.some.inj h
   exact ej () () trivial (sc rfl (sc rfl (sc rfl sn))) (kc rm1 (kc rm0 kr))
 ·rintro _ i1 _
  replace h := hk1
  clear hk1
  refine e_seq ?_
  refine c_cond (b := d1) rfl (fun hb785 => ?_) (fun hb785 => ?_)
  ·replace h := cond_t hb785 h
   refine c_seq (c_region ?_)
   refine o1 rfl (o_build (fs := [⟨ "Rows", 3, 0, false, "", "", 0⟩, ⟨ "Cols", 3, 1, false, "", "", 8⟩]) (ps := [(0, 1), (1, 1)]) (cs := [(.int .i64 0), (.int .i64 0)]) rfl rfl rfl rfl rfl ?_)
   refine o0 (o_st (b := b782) (off := 0) (vs := [(.int .i64 0), (.int .i64 0)]) (cs' := [(.int .i64 0), (.int .i64 0)]) rfl rfl rp1 rfl rfl rfl rfl rfl rfl ?_)
   refine o1 rfl (o_p rfl (o_end (e_seq (c_ret (e_then_ret (e_ret ?_))))))
   refine r_endc (B := [[(.int .i64 0), (.int .i64 0)]]) rfl ⟨⟨_, _, _, _, rfl, rm1⟩, trivial⟩ rfl (kc rm0 (kd kr)) ?_
   obtain rfl := Option.some.inj h
   exact hk
  ·replace h := cond_f hb785 h
   refine c_skip (e_seq (c_seq (c_region ?_)))
   refine o1 rfl (o_build (fs := [⟨ "Rows", 3, 0, false, "", "", 0⟩, ⟨ "Cols", 3, 1, false, "", "", 8⟩]) (ps := [(0, 1), (1, 1)]) (cs := [(.int .i64 24), (.int .i64 80)]) rfl rfl rfl rfl rfl ?_)
   refine o1 rfl (o_build (fs := [⟨ "Rows", 3, 0, false, "", "", 0⟩, ⟨ "Cols", 3, 1, false, "", "", 8⟩]) (ps := [(0, 1), (1, 1)]) (cs := [(.int .i64 32), (.int .i64 80)]) rfl rfl rfl rfl rfl ?_)
   refine o1 rfl (o_build (fs := [⟨ "Rows", 3, 0, false, "", "", 0⟩, ⟨ "Cols", 3, 1, false, "", "", 8⟩]) (ps := [(0, 1), (1, 1)]) (cs := [(.int .i64 43), (.int .i64 80)]) rfl rfl rfl rfl rfl ?_)
   refine o1 rfl (o_build (fs := [⟨ "Rows", 3, 0, false, "", "", 0⟩, ⟨ "Cols", 3, 1, false, "", "", 8⟩]) (ps := [(0, 1), (1, 1)]) (cs := [(.int .i64 27), (.int .i64 132)]) rfl rfl rfl rfl rfl ?_)
   refine o1 rfl (o_bs (e := en_Vvitrineref04_Size) (l := [(⟨24, 80⟩ : Vvitrineref04_Size), (⟨32, 80⟩ : Vvitrineref04_Size), (⟨43, 80⟩ : Vvitrineref04_Size), (⟨27, 132⟩ : Vvitrineref04_Size)]) (zs := [(.int .i64 0), (.int .i64 0)]) rfl rfl rfl rfl rfl rfl rfl rfl rfl rfl (fun s786 => ?_))
   refine o1 rfl (o_p rfl ?_)
   refine o1 rfl (o_p (v := (.int .i64 (w64 (p0 - 2)))) rfl ?_)
   replace h := gsome h
   obtain ⟨hg788, h⟩ := h
   refine o1 rfl (o_ix (s := s786) (n := w64 (p0 - 2)) (e := en_Vvitrineref04_Size) rfl rfl rfl rfl rfl rfl rm0 (rd_own _ _ _ _) hg788 ?_)
   refine o1 rfl (o_ldE (s := s786) (e := en_Vvitrineref04_Size) (n := w64 (p0 - 2)) (f := 0) (v := (.agg (List.toArray [(.int .i64 ((rd [(⟨24, 80⟩ : Vvitrineref04_Size), (⟨32, 80⟩ : Vvitrineref04_Size), (⟨43, 80⟩ : Vvitrineref04_Size), (⟨27, 132⟩ : Vvitrineref04_Size)] (w64 (p0 - 2))).Rows)), (.int .i64 ((rd [(⟨24, 80⟩ : Vvitrineref04_Size), (⟨32, 80⟩ : Vvitrineref04_Size), (⟨43, 80⟩ : Vvitrineref04_Size), (⟨27, 132⟩ : Vvitrineref04_Size)] (w64 (p0 - 2))).Cols))]))) rfl rm0 (rd_own _ _ _ _) hg788 rfl rfl ?_)
   refine o0 (o_st (b := b782) (off := 0) (vs := [(.int .i64 ((rd [(⟨24, 80⟩ : Vvitrineref04_Size), (⟨32, 80⟩ : Vvitrineref04_Size), (⟨43, 80⟩ : Vvitrineref04_Size), (⟨27, 132⟩ : Vvitrineref04_Size)] (w64 (p0 - 2))).Rows)), (.int .i64 ((rd [(⟨24, 80⟩ : Vvitrineref04_Size), (⟨32, 80⟩ : Vvitrineref04_Size), (⟨43, 80⟩ : Vvitrineref04_Size), (⟨27, 132⟩ : Vvitrineref04_Size)] (w64 (p0 - 2))).Cols))]) (cs' := [(.int .i64 ((rd [(⟨24, 80⟩ : Vvitrineref04_Size), (⟨32, 80⟩ : Vvitrineref04_Size), (⟨43, 80⟩ : Vvitrineref04_Size), (⟨27, 132⟩ : Vvitrineref04_Size)] (w64 (p0 - 2))).Rows)), (.int .i64 ((rd [(⟨24, 80⟩ : Vvitrineref04_Size), (⟨32, 80⟩ : Vvitrineref04_Size), (⟨43, 80⟩ : Vvitrineref04_Size), (⟨27, 132⟩ : Vvitrineref04_Size)] (w64 (p0 - 2))).Cols))]) rfl rfl rp2 rfl rfl rfl rfl rfl rfl ?_)
   refine o1 rfl (o_p rfl (o_end (e_seq (c_ret (e_ret ?_)))))
   refine r_endc (B := [[(.int .i64 ((rd [(⟨24, 80⟩ : Vvitrineref04_Size), (⟨32, 80⟩ : Vvitrineref04_Size), (⟨43, 80⟩ : Vvitrineref04_Size), (⟨27, 132⟩ : Vvitrineref04_Size)] (w64 (p0 - 2))).Rows)), (.int .i64 ((rd [(⟨24, 80⟩ : Vvitrineref04_Size), (⟨32, 80⟩ : Vvitrineref04_Size), (⟨43, 80⟩ : Vvitrineref04_Size), (⟨27, 132⟩ : Vvitrineref04_Size)] (w64 (p0 - 2))).Cols))]]) rfl ⟨⟨_, _, _, _, rfl, rm2⟩, trivial⟩ rfl (kc rm1 (kd (kd kr))) ?_
   obtain rfl := Option.some.inj h
   exact hk

theorem c_vitrineref04_Valid {g : Gw} (hg : GK g) (X : HP) (p0 : Vvitrineref04_Size) (r : Bool) (h : m_vitrineref04_Valid p0 = some r) : Tri env g 166 (List.toArray [(.agg (List.toArray [(.int .i64 p0.Rows), (.int .i64 p0.Cols)]))]) [X] (fun K R => K (.bool r) (X :: R)) := by
 refine tri_of (fn := Tryz.f166) (N := 29) Tryz.func166 rfl rfl rfl ?_
 intro R K hk
 unfold m_vitrineref04_Valid at h
 change GC _ none _ [] [(0, (.agg (List.toArray [(.int .i64 p0.Rows), (.int .i64 p0.Cols)])))] (X :: R) g _ _
 refine c_seq (c_region ?_)
 refine o1 rfl (o_box (cs := [(.int .i64 p0.Rows), (.int .i64 p0.Cols)]) rfl rfl (fun b797 => ?_))
 refine o1 rfl (o_p rfl (o_end (e_seq (c_seq ?_))))
 replace h := bsome h
 obtain ⟨d1, h, hk1⟩ := h
 refine cj (D := Unit) (ι := Unit) (fun _ i1 => True) (fun _ i1 => [(2, (.bool d1))]) (fun _ i1 => X :: R) ?_ ?_
 ·refine c_region ?_
  refine o1 rfl (o_fa (fd := ⟨ "Rows", 3, 0, false, "", "", 0⟩) rfl rfl rfl rfl rfl ?_)
  refine o1 rfl (o_ld (b := b797) (off := 0) (v := (.int .i64 p0.Rows)) rfl rm0 rfl rfl ?_)
  refine o1 rfl (o_p (v := (.bool (decide (p0.Rows ≥ 1)))) rfl ?_)
  refine o1 rfl (o_p rfl ?_)
  rcases bool_or ((decide (p0.Rows ≥ 1))) with hb799 | hb799
  ·replace h := cond_t hb799 h
   refine oy rfl rfl rfl hb799 (o_fa (fd := ⟨ "Rows", 3, 0, false, "", "", 0⟩) rfl rfl rfl rfl rfl ?_)
   refine oy rfl rfl rfl hb799 (o_ld (b := b797) (off := 0) (v := (.int .i64 p0.Rows)) rfl rm0 rfl rfl ?_)
   refine oy rfl rfl rfl hb799 (o_p (v := (.bool (decide (p0.Rows ≤ 43)))) rfl ?_)
   refine o1 rfl (o_pick_t rfl hb799 rfl ?_)
   refine o1 rfl (o_p rfl ?_)
   rcases bool_or ((decide (p0.Rows ≤ 43))) with hb800 | hb800
   ·replace h := cond_t hb800 h
    refine oy rfl rfl rfl hb800 (o_fa (fd := ⟨ "Cols", 3, 1, false, "", "", 8⟩) rfl rfl rfl rfl rfl ?_)
    refine oy rfl rfl rfl hb800 (o_ld (b := b797) (off := 1) (v := (.int .i64 p0.Cols)) rfl rm0 rfl rfl ?_)
    refine oy rfl rfl rfl hb800 (o_p (v := (.bool (decide (p0.Cols ≥ 1)))) rfl ?_)
    refine o1 rfl (o_pick_t rfl hb800 rfl ?_)
    refine o1 rfl (o_p rfl ?_)
    rcases bool_or ((decide (p0.Cols ≥ 1))) with hb801 | hb801
    ·replace h := cond_t hb801 h
     refine oy rfl rfl rfl hb801 (o_fa (fd := ⟨ "Cols", 3, 1, false, "", "", 8⟩) rfl rfl rfl rfl rfl ?_)
     refine oy rfl rfl rfl hb801 (o_ld (b := b797) (off := 1) (v := (.int .i64 p0.Cols)) rfl rm0 rfl rfl ?_)
     refine oy rfl rfl rfl hb801 (o_p (v := (.bool (decide (p0.Cols ≤ 132)))) rfl ?_)
     refine o1 rfl (o_pick_t rfl hb801 rfl ?_)
     refine o1 rfl (o_p rfl ?_)
     rcases bool_or ((decide (p0.Cols ≤ 132))) with hb802 | hb802
     ·replace h := cond_t hb802 h
      refine oy rfl rfl rfl hb802 (o_fa (fd := ⟨ "Rows", 3, 0, false, "", "", 0⟩) rfl rfl rfl rfl rfl ?_)
      refine oy rfl rfl rfl hb802 (o_ld (b := b797) (off := 0) (v := (.int .i64 p0.Rows)) rfl rm0 rfl rfl ?_)
      refine oy rfl rfl rfl hb802 (o_fa (fd := ⟨ "Cols", 3, 1, false, "", "", 8⟩) rfl rfl rfl rfl rfl ?_)
      refine oy rfl rfl rfl hb802 (o_ld (b := b797) (off := 1) (v := (.int .i64 p0.Cols)) rfl rm0 rfl rfl ?_)
      refine oy rfl rfl rfl hb802 (o_p (v := (.int .i64 (w64 (p0.Rows * p0.Cols)))) rfl ?_)
      refine oy rfl rfl rfl hb802 (o_p (v := (.bool (decide ((w64 (p0.Rows * p0.Cols)) ≤ 3564)))) rfl ?_)
      refine o1 rfl (o_pick_t rfl hb802 rfl ?_)
      refine o1 rfl (o_p rfl (o_end ?_))
      obtain rfl := Option.some.inj h
      exact ej () () trivial (sc rfl sn) (kc rm1 (kd kr))
     ·replace h := cond_f hb802 h
      refine on rfl rfl rfl hb802 ?_
      refine on rfl rfl rfl hb802 ?_
      refine on rfl rfl rfl hb802 ?_
      refine on rfl rfl rfl hb802 ?_
      refine on rfl rfl rfl hb802 ?_
      refine on rfl rfl rfl hb802 ?_
      refine o1 rfl (o_pick_f rfl hb802 rfl ?_)
      refine o1 rfl (o_p rfl (o_end ?_))
      obtain rfl := Option.some.inj h
      exact ej () () trivial (sc rfl sn) (kc rm1 (kd kr))
    ·replace h := cond_f hb801 h
     refine on rfl rfl rfl hb801 ?_
     refine on rfl rfl rfl hb801 ?_
     refine on rfl rfl rfl hb801 ?_
     refine o1 rfl (o_pick_f rfl hb801 rfl ?_)
     refine o1 rfl (o_p rfl ?_)
     refine on rfl rfl rfl rfl ?_
     refine on rfl rfl rfl rfl ?_
     refine on rfl rfl rfl rfl ?_
     refine on rfl rfl rfl rfl ?_
     refine on rfl rfl rfl rfl ?_
     refine on rfl rfl rfl rfl ?_
     refine o1 rfl (o_pick_f rfl rfl rfl ?_)
     refine o1 rfl (o_p rfl (o_end ?_))
     obtain rfl := Option.some.inj h
     exact ej () () trivial (sc rfl sn) (kc rm1 (kd kr))
   ·replace h := cond_f hb800 h
    refine on rfl rfl rfl hb800 ?_
    refine on rfl rfl rfl hb800 ?_
    refine on rfl rfl rfl hb800 ?_
    refine o1 rfl (o_pick_f rfl hb800 rfl ?_)
    refine o1 rfl (o_p rfl ?_)
    refine on rfl rfl rfl rfl ?_
    refine on rfl rfl rfl rfl ?_
    refine on rfl rfl rfl rfl ?_
    refine o1 rfl (o_pick_f rfl rfl rfl ?_)
    refine o1 rfl (o_p rfl ?_)
    refine on rfl rfl rfl rfl ?_
    refine on rfl rfl rfl rfl ?_
    refine on rfl rfl rfl rfl ?_
    refine on rfl rfl rfl rfl ?_
    refine on rfl rfl rfl rfl ?_
    refine on rfl rfl rfl rfl ?_
    refine o1 rfl (o_pick_f rfl rfl rfl ?_)
    refine o1 rfl (o_p rfl (o_end ?_))
    obtain rfl := Option.some.inj h
    exact ej () () trivial (sc rfl sn) (kc rm1 (kd kr))
  ·replace h := cond_f hb799 h
   refine on rfl rfl rfl hb799 ?_
   refine on rfl rfl rfl hb799 ?_
   refine on rfl rfl rfl hb799 ?_
   refine o1 rfl (o_pick_f rfl hb799 rfl ?_)
   refine o1 rfl (o_p rfl ?_)
   refine on rfl rfl rfl rfl ?_
   refine on rfl rfl rfl rfl ?_
   refine on rfl rfl rfl rfl ?_
   refine o1 rfl (o_pick_f rfl rfl rfl ?_)
   refine o1 rfl (o_p rfl ?_)
   refine on rfl rfl rfl rfl ?_
   refine on rfl rfl rfl rfl ?_
   refine on rfl rfl rfl rfl ?_
   refine o1 rfl (o_pick_f rfl rfl rfl ?_)
   refine o1 rfl (o_p rfl ?_)
   refine on rfl rfl rfl rfl ?_
   refine on rfl rfl rfl rfl ?_
   refine on rfl rfl rfl rfl ?_
   refine on rfl rfl rfl rfl ?_
   refine on rfl rfl rfl rfl ?_
   refine on rfl rfl rfl rfl ?_
   refine o1 rfl (o_pick_f rfl rfl rfl ?_)
   refine o1 rfl (o_p rfl (o_end ?_))
   obtain rfl := Option.some.inj h
   exact ej () () trivial (sc rfl sn) (kc rm1 (kd kr))
 ·rintro _ i1 _
  replace h := hk1
  clear hk1
  refine e_seq (c_ret (e_ret ?_))
  refine r_endt rfl rfl (kc rm0 kr) ?_
  obtain rfl := Option.some.inj h
  exact hk

theorem c_vitrineref04_Cells {g : Gw} (hg : GK g) (X : HP) (p0 : Vvitrineref04_Size) (r : Int) (h : m_vitrineref04_Cells p0 = some r) : Tri env g 127 (List.toArray [(.agg (List.toArray [(.int .i64 p0.Rows), (.int .i64 p0.Cols)]))]) [X] (fun K R => K (.int .i64 r) (X :: R)) := by
 refine tri_of (fn := Tryz.f127) (N := 11) Tryz.func127 rfl rfl rfl ?_
 intro R K hk
 unfold m_vitrineref04_Cells at h
 change GC _ none _ [] [(0, (.agg (List.toArray [(.int .i64 p0.Rows), (.int .i64 p0.Cols)])))] (X :: R) g _ _
 refine c_seq (c_region ?_)
 refine o1 rfl (o_box (cs := [(.int .i64 p0.Rows), (.int .i64 p0.Cols)]) rfl rfl (fun b795 => ?_))
 refine o1 rfl (o_p rfl (o_end (e_seq (c_seq (c_seq (c_region ?_))))))
 refine o1 rfl (o_ld (b := b795) (off := 0) (v := (.agg (List.toArray [(.int .i64 p0.Rows), (.int .i64 p0.Cols)]))) rfl rm0 rfl rfl ?_)
 replace h := bsome h
 obtain ⟨d1, h1, h⟩ := h
 refine o1 rfl (o_call has166 rfl (c_vitrineref04_Valid hg X p0 _ h1) (pc rm1 pn) ?_)
 refine o1 rfl (o_p (v := (.bool (!d1))) rfl ?_)
 refine o_end (e_seq ?_)
 refine c_cond (b := (!d1)) rfl (fun hb803 => ?_) (fun hb803 => ?_)
 ·replace h := cond_t hb803 h
  refine c_seq (c_region (o1 rfl (o_p rfl (o_end (e_seq (c_ret ?_))))))
  refine e_then_ret (e_ret ?_)
  refine r_endt rfl rfl (kc rm0 (kd kr)) ?_
  obtain rfl := Option.some.inj h
  exact hk
 ·replace h := cond_f hb803 h
  refine c_skip (e_seq (c_seq (c_region ?_)))
  refine o1 rfl (o_fa (fd := ⟨ "Rows", 3, 0, false, "", "", 0⟩) rfl rfl rfl rfl rfl ?_)
  refine o1 rfl (o_ld (b := b795) (off := 0) (v := (.int .i64 p0.Rows)) rfl rm1 rfl rfl ?_)
  refine o1 rfl (o_fa (fd := ⟨ "Cols", 3, 1, false, "", "", 8⟩) rfl rfl rfl rfl rfl ?_)
  refine o1 rfl (o_ld (b := b795) (off := 1) (v := (.int .i64 p0.Cols)) rfl rm1 rfl rfl ?_)
  refine o1 rfl (o_p (v := (.int .i64 (w64 (p0.Rows * p0.Cols)))) rfl ?_)
  refine o1 rfl (o_p rfl (o_end (e_seq (c_ret (e_ret ?_)))))
  refine r_endt rfl rfl (kc rm0 (kd kr)) ?_
  obtain rfl := Option.some.inj h
  exact hk

theorem c_vitrineref12_Clear {g : Gw} (hg : GK g) (X : HP) (p0 : Vvitrineref12_Space) (b0 : Nat) (s0 : SV) (q0 : Rd X s0 80 en_Vapi_Cell p0.L) (p1 : Bool) (r : Vvitrineref12_Space) (h : m_vitrineref12_Clear p0 p1 = some r) : Tri env g 95 (List.toArray [(.pointer (some ⟨b0, 0, none⟩)), (.bool p1)]) [X, blk b0 (.cells (List.toArray [(.int .i64 p0.Model), (.bool p0.Alt), (.int .i64 p0.Size.Rows), (.int .i64 p0.Size.Cols), (SV.val s0), (.int .i64 p0.Cursor)]) 40 (0, 0))] (fun K R => ∀ (i0 : SV), K (.tuple (List.toArray [])) (X :: blk b0 (.cells (List.toArray [(.int .i64 r.Model), (.bool r.Alt), (.int .i64 r.Size.Rows), (.int .i64 r.Size.Cols), (SV.val i0), (.int .i64 r.Cursor)]) 40 (0, 0)) :: slO i0 80 en_Vapi_Cell r.L :: R)) := by
 refine tri_of (fn := Tryz.f95) (N := 39) Tryz.func95 rfl rfl rfl ?_
 intro R K hk
 unfold m_vitrineref12_Clear at h
 change GC _ none _ [] [(0, (.pointer (some ⟨b0, 0, none⟩))), (1, (.bool p1))] (X :: blk b0 (.cells (List.toArray [(.int .i64 p0.Model), (.bool p0.Alt), (.int .i64 p0.Size.Rows), (.int .i64 p0.Size.Cols), (SV.val s0), (.int .i64 p0.Cursor)]) 40 (0, 0)) :: R) g _ _
 refine c_seq (c_region (o1 rfl (o_p rfl (o1 rfl (o_p rfl (o1 rfl (o_p rfl ?_)))))))
 refine o1 rfl (o_fa (fd := ⟨ "Alt", 4, 1, false, "", "", 8⟩) rfl rfl rfl rfl rfl ?_)
 refine o0 (o_st (b := b0) (off := 1) (vs := [(.bool p1)]) (cs' := [(.int .i64 p0.Model), (.bool p1), (.int .i64 p0.Size.Rows), (.int .i64 p0.Size.Cols), (SV.val s0), (.int .i64 p0.Cursor)]) rfl rfl rp1 rfl rfl rfl rfl rfl rfl ?_)
 refine o_end (e_seq (c_seq (c_region (o1 rfl (o_p rfl ?_)))))
 replace h := bsome h
 obtain ⟨d1, h1, h⟩ := h
 refine o1 rfl (o_call has94 rfl (c_vitrineref04_Model hg X 2 _ h1) (pc rm0 pn) ?_)
 refine o1 rfl (o_p rfl (o1 rfl (o_p rfl (o1 rfl (o_p rfl (o1 rfl (o_p rfl ?_)))))))
 refine o1 rfl (o_fa (fd := ⟨ "Size", 37, 2, false, "", "", 16⟩) rfl rfl rfl rfl rfl ?_)
 refine o0 (o_st (b := b0) (off := 2) (vs := [(.int .i64 d1.1.Rows), (.int .i64 d1.1.Cols)]) (cs' := [(.int .i64 p0.Model), (.bool p1), (.int .i64 d1.1.Rows), (.int .i64 d1.1.Cols), (SV.val s0), (.int .i64 p0.Cursor)]) rfl rfl rp1 rfl rfl rfl rfl rfl rfl ?_)
 refine o_end (e_seq (c_seq (c_seq (c_region (o1 rfl (o_p rfl ?_))))))
 refine o_end (e_seq ?_)
 replace h := bsome h
 obtain ⟨d2, h, hk2⟩ := h
 refine cj (D := Unit) (ι := Unit) (fun _ i2 => True) (fun _ i2 => [(0, (.pointer (some ⟨b0, 0, none⟩)))]) (fun _ i2 => X :: blk b0 (.cells (List.toArray [(.int .i64 p0.Model), (.bool p1), (.int .i64 d2.1), (.int .i64 d2.2), (SV.val s0), (.int .i64 p0.Cursor)]) 40 (0, 0)) :: R) ?_ ?_
 ·refine c_cond (b := p1) rfl (fun hb794 => ?_) (fun hb794 => ?_)
  ·replace h := cond_t hb794 h
   refine c_region (o1 rfl (o_p rfl (o1 rfl (o_p rfl (o1 rfl (o_p rfl ?_))))))
   refine o1 rfl (o_fa (fd := ⟨ "Model", 3, 0, false, "", "", 0⟩) rfl rfl rfl rfl rfl ?_)
   refine o1 rfl (o_ld (b := b0) (off := 0) (v := (.int .i64 p0.Model)) rfl rm1 rfl rfl ?_)
   replace h := bsome h
   obtain ⟨d3, h3, h⟩ := h
   refine o1 rfl (o_call has94 rfl (c_vitrineref04_Model hg X p0.Model _ h3) (pc rm0 pn) ?_)
   refine o1 rfl (o_p rfl (o1 rfl (o_p rfl (o1 rfl (o_p rfl (o1 rfl (o_p rfl ?_)))))))
   refine o1 rfl (o_fa (fd := ⟨ "Size", 37, 2, false, "", "", 16⟩) rfl rfl rfl rfl rfl ?_)
   refine o0 (o_st (b := b0) (off := 2) (vs := [(.int .i64 d3.1.Rows), (.int .i64 d3.1.Cols)]) (cs' := [(.int .i64 p0.Model), (.bool p1), (.int .i64 d3.1.Rows), (.int .i64 d3.1.Cols), (SV.val s0), (.int .i64 p0.Cursor)]) rfl rfl rp1 rfl rfl rfl rfl rfl rfl ?_)
   refine o_end ?_
   obtain rfl := Option.some.inj h
   exact ej () () trivial (sc rfl sn) (kc rm0 (kc rm0 kr))
  ·replace h := cond_f hb794 h
   refine c_skip ?_
   obtain rfl := Option.some.inj h
   exact ej () () trivial (sc rfl sn) (kc rm0 (kc rm0 kr))
 ·rintro _ i2 _
  replace h := hk2
  clear hk2
  refine e_seq (c_seq (c_region (o1 rfl (o_p rfl (o1 rfl (o_p rfl (o1 rfl (o_p rfl ?_))))))))
  refine o1 rfl (o_fa (fd := ⟨ "Size", 37, 2, false, "", "", 16⟩) rfl rfl rfl rfl rfl ?_)
  refine o1 rfl (o_ld (b := b0) (off := 2) (v := (.agg (List.toArray [(.int .i64 d2.1), (.int .i64 d2.2)]))) rfl rm1 rfl rfl ?_)
  replace h := bsome h
  obtain ⟨d4, h4, h⟩ := h
  refine o1 rfl (o_call has127 rfl (c_vitrineref04_Cells hg X (⟨d2.1, d2.2⟩ : Vvitrineref04_Size) _ h4) (pc rm0 pn) ?_)
  replace h := gsome h
  obtain ⟨hg804, h⟩ := h
  refine o1 rfl (o_mk (e := en_Vapi_Cell) (z := (⟨0, false, 0, 0, 0, 0⟩ : Vapi_Cell)) (zs := [(.int .u8 0), (.bool false), (.int .u8 0), (.int .u8 0), (.int .u8 0), (.int .u8 0)]) rfl rfl rfl rfl rfl rfl rfl rfl rfl hg804 (fun s805 => ?_))
  refine o1 rfl (o_p rfl ?_)
  refine o1 rfl (o_fa (fd := ⟨ "L", 38, 4, false, "", "", 32⟩) rfl rfl rfl rfl rfl ?_)
  refine o0 (o_st (b := b0) (off := 4) (vs := [(SV.val s805)]) (cs' := [(.int .i64 p0.Model), (.bool p1), (.int .i64 d2.1), (.int .i64 d2.2), (SV.val s805), (.int .i64 p0.Cursor)]) rfl rfl rp2 rfl rfl rfl rfl rfl rfl ?_)
  refine o_end (e_seq (c_region (o1 rfl (o_p rfl (o1 rfl (o_p rfl ?_))))))
  refine o1 rfl (o_fa (fd := ⟨ "Cursor", 3, 5, false, "", "", 56⟩) rfl rfl rfl rfl rfl ?_)
  refine o0 (o_st (b := b0) (off := 5) (vs := [(.int .i64 0)]) (cs' := [(.int .i64 p0.Model), (.bool p1), (.int .i64 d2.1), (.int .i64 d2.2), (SV.val s805), (.int .i64 0)]) rfl rfl rp2 rfl rfl rfl rfl rfl rfl ?_)
  refine o_end (e_fall ?_)
  refine r_endt rfl rfl (kc rm1 (kc rm1 (kc rm0 kr))) ?_
  obtain rfl := Option.some.inj h
  exact hk s805

theorem c_vitrineref12_New {g : Gw} (hg : GK g) (X : HP) (p0 : Int) (r : (Unit) ⊕ (Vvitrineref12_Space)) (h : m_vitrineref12_New p0 = some r) : Tri env g 45 (List.toArray [(.int .i64 p0)]) [X] (fun K R => match r with | .inl r => K (.pointer none) (X :: R) | .inr r => ∀ (i0 : Nat × SV), K (.pointer (some ⟨i0.1, 0, none⟩)) (X :: blk i0.1 (.cells (List.toArray [(.int .i64 r.Model), (.bool r.Alt), (.int .i64 r.Size.Rows), (.int .i64 r.Size.Cols), (SV.val i0.2), (.int .i64 r.Cursor)]) 40 (0, 0)) :: slO i0.2 80 en_Vapi_Cell r.L :: R)) := by
 refine tri_of (fn := Tryz.f45) (N := 19) Tryz.func45 rfl rfl rfl ?_
 intro R K hk
 unfold m_vitrineref12_New at h
 change GC _ none _ [] [(0, (.int .i64 p0))] (X :: R) g _ _
 refine c_seq (c_region (o1 rfl (o_p rfl (o_end (e_seq (c_seq ?_))))))
 refine c_seq (c_region (o1 rfl (o_p rfl ?_)))
 replace h := bsome h
 obtain ⟨d1, h1, h⟩ := h
 refine o1 rfl (o_call has94 rfl (c_vitrineref04_Model hg X p0 _ h1) (pc rm0 pn) ?_)
 refine o1 rfl (o_p rfl (o1 rfl (o_p rfl (o1 rfl (o_p rfl ?_)))))
 refine o1 rfl (o_alloc (cs := [(.int .i64 0), (.int .i64 0)]) rfl rfl (fun b789 => ?_))
 refine o0 (o_st (b := b789) (off := 0) (vs := [(.int .i64 d1.1.Rows), (.int .i64 d1.1.Cols)]) (cs' := [(.int .i64 d1.1.Rows), (.int .i64 d1.1.Cols)]) rfl rfl rp0 rfl rfl rfl rfl rfl rfl ?_)
 refine o1 rfl (o_p rfl (o_end (e_seq (c_seq (c_region (o1 rfl (o_p rfl ?_)))))))
 refine o1 rfl (o_p (v := (.bool (!d1.2))) rfl ?_)
 refine o_end (e_seq ?_)
 refine c_cond (b := (!d1.2)) rfl (fun hb791 => ?_) (fun hb791 => ?_)
 ·replace h := cond_t hb791 h
  refine c_seq (c_region (o1 rfl (o_p rfl (o_end (e_seq (c_ret ?_))))))
  refine e_then_ret (e_ret ?_)
  refine r_endt rfl rfl (kc rm1 (kd kr)) ?_
  obtain rfl := Option.some.inj h
  exact hk
 ·replace h := cond_f hb791 h
  refine c_skip (e_seq (c_seq (c_region (o1 rfl (o_p rfl ?_)))))
  refine o1 rfl (o_build (fs := [⟨ "Model", 3, 0, false, "", "", 0⟩, ⟨ "Alt", 4, 1, false, "", "", 8⟩, ⟨ "Size", 37, 2, false, "", "", 16⟩, ⟨ "L", 38, 4, false, "", "", 32⟩, ⟨ "Cursor", 3, 5, false, "", "", 56⟩]) (ps := [(0, 1), (1, 1), (2, 2), (4, 1), (5, 1)]) (cs := [(.int .i64 p0), (.bool false), (.int .i64 0), (.int .i64 0), (SV.val SV.nil), (.int .i64 0)]) rfl rfl rfl rfl rfl ?_)
  refine o1 rfl (o_box (cs := [(.int .i64 p0), (.bool false), (.int .i64 0), (.int .i64 0), (SV.val SV.nil), (.int .i64 0)]) rfl rfl (fun b792 => ?_))
  refine o1 rfl (o_p rfl (o_end (e_seq (c_seq (c_region (o1 rfl (o_p rfl ?_)))))))
  replace h := bsome h
  obtain ⟨d3, h3, h⟩ := h
  refine o1 rfl (o_call has95 rfl (c_vitrineref12_Clear hg X (⟨p0, false, (⟨0, 0⟩ : Vvitrineref04_Size), ([] : List Vapi_Cell), 0⟩ : Vvitrineref12_Space) b792 SV.nil (rd_nil _ _ _) false _ h3) (pc rm2 (pc rm0 pn)) (fun i3 => ?_))
  refine o_end (e_seq (c_seq (c_region (o1 rfl (o_p rfl (o1 rfl (o_p rfl ?_)))))))
  refine o_end (e_seq (c_ret (e_ret ?_)))
  refine r_endt rfl rfl (kc rm0 (kc rm0 (kc rm0 (kd kr)))) ?_
  obtain rfl := Option.some.inj h
  exact hk (b792, i3)

theorem c_vitrineref12_Clear_2 {g : Gw} (hg : GK g) (X : HP) (p0 : Vvitrineref12_Space) (b0 : Nat) (s0 : SV) (p1 : Bool) (r : Vvitrineref12_Space) (h : m_vitrineref12_Clear_2 p0 p1 = some r) : Tri env g 95 (List.toArray [(.pointer (some ⟨b0, 0, none⟩)), (.bool p1)]) [X, blk b0 (.cells (List.toArray [(.int .i64 p0.Model), (.bool p0.Alt), (.int .i64 p0.Size.Rows), (.int .i64 p0.Size.Cols), (SV.val s0), (.int .i64 p0.Cursor)]) 40 (0, 0)), slO s0 80 en_Vapi_Cell p0.L] (fun K R => ∀ (i0 : SV), K (.tuple (List.toArray [])) (X :: blk b0 (.cells (List.toArray [(.int .i64 r.Model), (.bool r.Alt), (.int .i64 r.Size.Rows), (.int .i64 r.Size.Cols), (SV.val i0), (.int .i64 r.Cursor)]) 40 (0, 0)) :: slO i0 80 en_Vapi_Cell r.L :: slO s0 80 en_Vapi_Cell p0.L :: R)) := by
 refine tri_of (fn := Tryz.f95) (N := 39) Tryz.func95 rfl rfl rfl ?_
 intro R K hk
 unfold m_vitrineref12_Clear_2 at h
 change GC _ none _ [] [(0, (.pointer (some ⟨b0, 0, none⟩))), (1, (.bool p1))] (X :: blk b0 (.cells (List.toArray [(.int .i64 p0.Model), (.bool p0.Alt), (.int .i64 p0.Size.Rows), (.int .i64 p0.Size.Cols), (SV.val s0), (.int .i64 p0.Cursor)]) 40 (0, 0)) :: slO s0 80 en_Vapi_Cell p0.L :: R) g _ _
 refine c_seq (c_region (o1 rfl (o_p rfl (o1 rfl (o_p rfl (o1 rfl (o_p rfl ?_)))))))
 refine o1 rfl (o_fa (fd := ⟨ "Alt", 4, 1, false, "", "", 8⟩) rfl rfl rfl rfl rfl ?_)
 refine o0 (o_st (b := b0) (off := 1) (vs := [(.bool p1)]) (cs' := [(.int .i64 p0.Model), (.bool p1), (.int .i64 p0.Size.Rows), (.int .i64 p0.Size.Cols), (SV.val s0), (.int .i64 p0.Cursor)]) rfl rfl rp1 rfl rfl rfl rfl rfl rfl ?_)
 refine o_end (e_seq (c_seq (c_region (o1 rfl (o_p rfl ?_)))))
 replace h := bsome h
 obtain ⟨d1, h1, h⟩ := h
 refine o1 rfl (o_call has94 rfl (c_vitrineref04_Model hg X 2 _ h1) (pc rm0 pn) ?_)
 refine o1 rfl (o_p rfl (o1 rfl (o_p rfl (o1 rfl (o_p rfl (o1 rfl (o_p rfl ?_)))))))
 refine o1 rfl (o_fa (fd := ⟨ "Size", 37, 2, false, "", "", 16⟩) rfl rfl rfl rfl rfl ?_)
 refine o0 (o_st (b := b0) (off := 2) (vs := [(.int .i64 d1.1.Rows), (.int .i64 d1.1.Cols)]) (cs' := [(.int .i64 p0.Model), (.bool p1), (.int .i64 d1.1.Rows), (.int .i64 d1.1.Cols), (SV.val s0), (.int .i64 p0.Cursor)]) rfl rfl rp1 rfl rfl rfl rfl rfl rfl ?_)
 refine o_end (e_seq (c_seq (c_seq (c_region (o1 rfl (o_p rfl ?_))))))
 refine o_end (e_seq ?_)
 replace h := bsome h
 obtain ⟨d2, h, hk2⟩ := h
 refine cj (D := Unit) (ι := Unit) (fun _ i2 => True) (fun _ i2 => [(0, (.pointer (some ⟨b0, 0, none⟩)))]) (fun _ i2 => X :: blk b0 (.cells (List.toArray [(.int .i64 p0.Model), (.bool p1), (.int .i64 d2.1), (.int .i64 d2.2), (SV.val s0), (.int .i64 p0.Cursor)]) 40 (0, 0)) :: slO s0 80 en_Vapi_Cell p0.L :: R) ?_ ?_
 ·refine c_cond (b := p1) rfl (fun hb824 => ?_) (fun hb824 => ?_)
  ·replace h := cond_t hb824 h
   refine c_region (o1 rfl (o_p rfl (o1 rfl (o_p rfl (o1 rfl (o_p rfl ?_))))))
   refine o1 rfl (o_fa (fd := ⟨ "Model", 3, 0, false, "", "", 0⟩) rfl rfl rfl rfl rfl ?_)
   refine o1 rfl (o_ld (b := b0) (off := 0) (v := (.int .i64 p0.Model)) rfl rm1 rfl rfl ?_)
   replace h := bsome h
   obtain ⟨d3, h3, h⟩ := h
   refine o1 rfl (o_call has94 rfl (c_vitrineref04_Model hg X p0.Model _ h3) (pc rm0 pn) ?_)
   refine o1 rfl (o_p rfl (o1 rfl (o_p rfl (o1 rfl (o_p rfl (o1 rfl (o_p rfl ?_)))))))
   refine o1 rfl (o_fa (fd := ⟨ "Size", 37, 2, false, "", "", 16⟩) rfl rfl rfl rfl rfl ?_)
   refine o0 (o_st (b := b0) (off := 2) (vs := [(.int .i64 d3.1.Rows), (.int .i64 d3.1.Cols)]) (cs' := [(.int .i64 p0.Model), (.bool p1), (.int .i64 d3.1.Rows), (.int .i64 d3.1.Cols), (SV.val s0), (.int .i64 p0.Cursor)]) rfl rfl rp1 rfl rfl rfl rfl rfl rfl ?_)
   refine o_end ?_
   obtain rfl := Option.some.inj h
   exact ej () () trivial (sc rfl sn) (kc rm0 (kc rm0 (kc rm0 kr)))
  ·replace h := cond_f hb824 h
   refine c_skip ?_
   obtain rfl := Option.some.inj h
   exact ej () () trivial (sc rfl sn) (kc rm0 (kc rm0 (kc rm0 kr)))
 ·rintro _ i2 _
  replace h := hk2
  clear hk2
  refine e_seq (c_seq (c_region (o1 rfl (o_p rfl (o1 rfl (o_p rfl (o1 rfl (o_p rfl ?_))))))))
  refine o1 rfl (o_fa (fd := ⟨ "Size", 37, 2, false, "", "", 16⟩) rfl rfl rfl rfl rfl ?_)
  refine o1 rfl (o_ld (b := b0) (off := 2) (v := (.agg (List.toArray [(.int .i64 d2.1), (.int .i64 d2.2)]))) rfl rm1 rfl rfl ?_)
  replace h := bsome h
  obtain ⟨d4, h4, h⟩ := h
  refine o1 rfl (o_call has127 rfl (c_vitrineref04_Cells hg X (⟨d2.1, d2.2⟩ : Vvitrineref04_Size) _ h4) (pc rm0 pn) ?_)
  replace h := gsome h
  obtain ⟨hg825, h⟩ := h
  refine o1 rfl (o_mk (e := en_Vapi_Cell) (z := (⟨0, false, 0, 0, 0, 0⟩ : Vapi_Cell)) (zs := [(.int .u8 0), (.bool false), (.int .u8 0), (.int .u8 0), (.int .u8 0), (.int .u8 0)]) rfl rfl rfl rfl rfl rfl rfl rfl rfl hg825 (fun s826 => ?_))
  refine o1 rfl (o_p rfl ?_)
  refine o1 rfl (o_fa (fd := ⟨ "L", 38, 4, false, "", "", 32⟩) rfl rfl rfl rfl rfl ?_)
  refine o0 (o_st (b := b0) (off := 4) (vs := [(SV.val s826)]) (cs' := [(.int .i64 p0.Model), (.bool p1), (.int .i64 d2.1), (.int .i64 d2.2), (SV.val s826), (.int .i64 p0.Cursor)]) rfl rfl rp2 rfl rfl rfl rfl rfl rfl ?_)
  refine o_end (e_seq (c_region (o1 rfl (o_p rfl (o1 rfl (o_p rfl ?_))))))
  refine o1 rfl (o_fa (fd := ⟨ "Cursor", 3, 5, false, "", "", 56⟩) rfl rfl rfl rfl rfl ?_)
  refine o0 (o_st (b := b0) (off := 5) (vs := [(.int .i64 0)]) (cs' := [(.int .i64 p0.Model), (.bool p1), (.int .i64 d2.1), (.int .i64 d2.2), (SV.val s826), (.int .i64 0)]) rfl rfl rp2 rfl rfl rfl rfl rfl rfl ?_)
  refine o_end (e_fall ?_)
  refine r_endt rfl rfl (kc rm1 (kc rm1 (kc rm0 (kc rm0 kr)))) ?_
  obtain rfl := Option.some.inj h
  exact hk s826

theorem c_vitrineref04_Mod {g : Gw} (hg : GK g) (X : HP) (p0 : Int) (p1 : Int) (r : Int) (h : m_vitrineref04_Mod p0 p1 = some r) : Tri env g 126 (List.toArray [(.int .i64 p0), (.int .i64 p1)]) [X] (fun K R => K (.int .i64 r) (X :: R)) := by
 refine tri_of (fn := Tryz.f126) (N := 14) Tryz.func126 rfl rfl rfl ?_
 intro R K hk
 unfold m_vitrineref04_Mod at h
 change GC _ none _ [] [(0, (.int .i64 p0)), (1, (.int .i64 p1))] (X :: R) g _ _
 refine c_seq (c_region (o1 rfl (o_p rfl (o_end (e_seq (c_seq ?_))))))
 refine c_seq (c_region (o1 rfl (o_p rfl ?_)))
 refine o1 rfl (o_p (v := (.bool (decide (p1 < 1)))) rfl ?_)
 refine o_end (e_seq ?_)
 refine c_cond (b := (decide (p1 < 1))) rfl (fun hb833 => ?_) (fun hb833 => ?_)
 ·replace h := cond_t hb833 h
  refine c_seq (c_region (o1 rfl (o_p rfl (o_end (e_seq (c_ret ?_))))))
  refine e_then_ret (e_ret ?_)
  refine r_endt rfl rfl (kc rm0 kr) ?_
  obtain rfl := Option.some.inj h
  exact hk
 ·replace h := cond_f hb833 h
  refine c_skip (e_seq (c_seq (c_region (o1 rfl (o_p rfl (o1 rfl (o_p rfl ?_)))))))
  replace h := gsome h
  obtain ⟨hg834, h⟩ := h
  refine o1 rfl (o_rem (m := p0) (n := p1) rfl rfl hg834 ?_)
  refine o1 rfl (o_p rfl ?_)
  refine o1 rfl (o_p (v := (.int .i64 (w64 ((Int.tmod p0 p1) + p1)))) rfl ?_)
  refine o1 rfl (o_p rfl ?_)
  replace h := gsome h
  obtain ⟨hg835, h⟩ := h
  refine o1 rfl (o_rem (m := w64 ((Int.tmod p0 p1) + p1)) (n := p1) rfl rfl hg835 ?_)
  refine o1 rfl (o_p rfl (o_end (e_seq (c_ret (e_ret ?_)))))
  refine r_endt rfl rfl (kc rm0 kr) ?_
  obtain rfl := Option.some.inj h
  exact hk

theorem c_vitrineref04_Wrap {g : Gw} (hg : GK g) (X : HP) (p0 : Vvitrineref04_Size) (p1 : Int) (r : Int) (h : m_vitrineref04_Wrap p0 p1 = some r) : Tri env g 75 (List.toArray [(.agg (List.toArray [(.int .i64 p0.Rows), (.int .i64 p0.Cols)])), (.int .i64 p1)]) [X] (fun K R => K (.int .i64 r) (X :: R)) := by
 refine tri_of (fn := Tryz.f75) (N := 9) Tryz.func75 rfl rfl rfl ?_
 intro R K hk
 unfold m_vitrineref04_Wrap at h
 change GC _ none _ [] [(0, (.agg (List.toArray [(.int .i64 p0.Rows), (.int .i64 p0.Cols)]))), (1, (.int .i64 p1))] (X :: R) g _ _
 refine c_seq (c_region ?_)
 refine o1 rfl (o_box (cs := [(.int .i64 p0.Rows), (.int .i64 p0.Cols)]) rfl rfl (fun b831 => ?_))
 refine o1 rfl (o_p rfl (o_end (e_seq (c_seq (c_region (o1 rfl (o_p rfl ?_)))))))
 refine o1 rfl (o_ld (b := b831) (off := 0) (v := (.agg (List.toArray [(.int .i64 p0.Rows), (.int .i64 p0.Cols)]))) rfl rm0 rfl rfl ?_)
 replace h := bsome h
 obtain ⟨d1, h1, h⟩ := h
 refine o1 rfl (o_call has127 rfl (c_vitrineref04_Cells hg X p0 _ h1) (pc rm1 pn) ?_)
 replace h := bsome h
 obtain ⟨d2, h2, h⟩ := h
 refine o1 rfl (o_call has126 rfl (c_vitrineref04_Mod hg X p1 d1 _ h2) (pc rm0 pn) ?_)
 refine o1 rfl (o_p rfl (o_end (e_seq (c_ret (e_ret ?_)))))
 refine r_endt rfl rfl (kc rm0 (kd kr)) ?_
 obtain rfl := Option.some.inj h
 exact hk

theorem c_vitrineref12_Wrap {g : Gw} (hg : GK g) (X : HP) (p0 : Vvitrineref12_Space) (b0 : Nat) (s0 : SV) (p1 : Int) (r : Int) (h : m_vitrineref12_Wrap p0 p1 = some r) : Tri env g 32 (List.toArray [(.pointer (some ⟨b0, 0, none⟩)), (.int .i64 p1)]) [X, blk b0 (.cells (List.toArray [(.int .i64 p0.Model), (.bool p0.Alt), (.int .i64 p0.Size.Rows), (.int .i64 p0.Size.Cols), (SV.val s0), (.int .i64 p0.Cursor)]) 40 (0, 0)), slO s0 80 en_Vapi_Cell p0.L] (fun K R => K (.int .i64 r) (X :: blk b0 (.cells (List.toArray [(.int .i64 p0.Model), (.bool p0.Alt), (.int .i64 p0.Size.Rows), (.int .i64 p0.Size.Cols), (SV.val s0), (.int .i64 p0.Cursor)]) 40 (0, 0)) :: slO s0 80 en_Vapi_Cell p0.L :: R)) := by
 refine tri_of (fn := Tryz.f32) (N := 11) Tryz.func32 rfl rfl rfl ?_
 intro R K hk
 unfold m_vitrineref12_Wrap at h
 change GC _ none _ [] [(0, (.pointer (some ⟨b0, 0, none⟩))), (1, (.int .i64 p1))] (X :: blk b0 (.cells (List.toArray [(.int .i64 p0.Model), (.bool p0.Alt), (.int .i64 p0.Size.Rows), (.int .i64 p0.Size.Cols), (SV.val s0), (.int .i64 p0.Cursor)]) 40 (0, 0)) :: slO s0 80 en_Vapi_Cell p0.L :: R) g _ _
 refine c_seq (c_region (o1 rfl (o_p rfl (o_end (e_seq (c_seq ?_))))))
 refine c_region (o1 rfl (o_p rfl (o1 rfl (o_p rfl ?_))))
 refine o1 rfl (o_fa (fd := ⟨ "Size", 37, 2, false, "", "", 16⟩) rfl rfl rfl rfl rfl ?_)
 refine o1 rfl (o_ld (b := b0) (off := 2) (v := (.agg (List.toArray [(.int .i64 p0.Size.Rows), (.int .i64 p0.Size.Cols)]))) rfl rm1 rfl rfl ?_)
 refine o1 rfl (o_p rfl ?_)
 replace h := bsome h
 obtain ⟨d1, h1, h⟩ := h
 refine o1 rfl (o_call has75 rfl (c_vitrineref04_Wrap hg X p0.Size p1 _ h1) (pc rm0 pn) ?_)
 refine o1 rfl (o_p rfl (o_end (e_seq (c_ret (e_ret ?_)))))
 refine r_endt rfl rfl (kc rm0 (kc rm0 (kc rm0 kr))) ?_
 obtain rfl := Option.some.inj h
 exact hk

theorem c_vitrineref12_At {g : Gw} (hg : GK g) (X : HP) (p0 : Vvitrineref12_Space) (b0 : Nat) (s0 : SV) (p1 : Int) (r : Vapi_Cell) (h : m_vitrineref12_At p0 p1 = some r) : Tri env g 138 (List.toArray [(.pointer (some ⟨b0, 0, none⟩)), (.int .i64 p1)]) [X, blk b0 (.cells (List.toArray [(.int .i64 p0.Model), (.bool p0.Alt), (.int .i64 p0.Size.Rows), (.int .i64 p0.Size.Cols), (SV.val s0), (.int .i64 p0.Cursor)]) 40 (0, 0)), slO s0 80 en_Vapi_Cell p0.L] (fun K R => K (.agg (List.toArray [(.int .u8 r.Char), (.bool r.Attr), (.int .u8 r.FA), (.int .u8 r.High), (.int .u8 r.Color), (.int .u8 r.f_Set)])) (X :: blk b0 (.cells (List.toArray [(.int .i64 p0.Model), (.bool p0.Alt), (.int .i64 p0.Size.Rows), (.int .i64 p0.Size.Cols), (SV.val s0), (.int .i64 p0.Cursor)]) 40 (0, 0)) :: slO s0 80 en_Vapi_Cell p0.L :: R)) := by
 refine tri_of (fn := Tryz.f138) (N := 14) Tryz.func138 rfl rfl rfl ?_
 intro R K hk
 unfold m_vitrineref12_At at h
 change GC _ none _ [] [(0, (.pointer (some ⟨b0, 0, none⟩))), (1, (.int .i64 p1))] (X :: blk b0 (.cells (List.toArray [(.int .i64 p0.Model), (.bool p0.Alt), (.int .i64 p0.Size.Rows), (.int .i64 p0.Size.Cols), (SV.val s0), (.int .i64 p0.Cursor)]) 40 (0, 0)) :: slO s0 80 en_Vapi_Cell p0.L :: R) g _ _
 refine c_seq (c_region ?_)
 refine o1 rfl (o_alloc (cs := [(.int .u8 0), (.bool false), (.int .u8 0), (.int .u8 0), (.int .u8 0), (.int .u8 0)]) rfl rfl (fun b837 => ?_))
 refine o_end (e_seq (c_seq ?_))
 refine c_draw (n := 2) (q := [(0, 5, (.pointer (some ⟨b0, 0, none⟩))), (1, 6, (.pointer (some ⟨b0, 0, none⟩))), (2, 7, (.pointer (some ⟨b0, 4, none⟩))), (3, 8, (SV.val s0)), (4, 9, (.pointer (some ⟨b0, 0, none⟩))), (5, 10, (.int .i64 p1))]) (pend := [0, 1, 2, 3, 4, 5]) rfl rfl rfl ?_
 replace h := bsome h
 obtain ⟨d2, h2, h⟩ := h
 refine ⟨⟨fun _ => ⟨rfl, rfl, rfl, .inl ⟨rfl, (o_p rfl ⟨rfl, rfl⟩)⟩⟩, fun _ => ⟨rfl, rfl, rfl, .inl ⟨rfl, (o_p rfl ⟨rfl, rfl⟩)⟩⟩, fun _ => ⟨rfl, rfl, rfl, .inl ⟨rfl, (o_fa (fd := ⟨ "L", 38, 4, false, "", "", 32⟩) rfl rfl rfl rfl rfl ⟨rfl, rfl⟩)⟩⟩, fun _ => ⟨rfl, rfl, rfl, .inl ⟨rfl, (o_ld (b := b0) (off := 4) (v := (SV.val s0)) rfl rm2 rfl rfl ⟨rfl, rfl⟩)⟩⟩, fun _ => ⟨rfl, rfl, rfl, .inl ⟨rfl, (o_p rfl ⟨rfl, rfl⟩)⟩⟩, fun _ => ⟨rfl, rfl, rfl, .inl ⟨rfl, (o_p rfl ⟨rfl, rfl⟩)⟩⟩, trivial⟩, rfl, .inr ⟨[6], rfl, rfl, ⟨rfl, .inl rfl, ?_⟩, trivial⟩⟩
 refine (o_call has32 rfl (c_vitrineref12_Wrap hg X p0 b0 s0 p1 _ h2) (pc rm1 (pc rm1 (pc rm1 pn))) ?_)
 replace h := gsome h
 obtain ⟨hg839, h⟩ := h
 refine ⟨[(7, 12, (.pointer (some ⟨SV.blk s0, SV.off s0 + Int.toNat d2 * 6, none⟩))), (8, 13, (.agg (List.toArray [(.int .u8 ((rd p0.L d2).Char)), (.bool ((rd p0.L d2).Attr)), (.int .u8 ((rd p0.L d2).FA)), (.int .u8 ((rd p0.L d2).High)), (.int .u8 ((rd p0.L d2).Color)), (.int .u8 ((rd p0.L d2).f_Set))])))], [0, 1, 2, 3, 7, 8], rfl, rfl, rfl, rfl, ?_⟩
 refine ⟨⟨fun _ => ⟨rfl, rfl, rfl, .inl ⟨rfl, (o_ix (s := s0) (n := d2) (e := en_Vapi_Cell) rfl rfl rfl rfl rfl rfl rm2 (rd_own _ _ _ _) hg839 ⟨rfl, rfl⟩)⟩⟩, fun _ => ⟨rfl, rfl, rfl, .inl ⟨rfl, (o_ldE (s := s0) (e := en_Vapi_Cell) (n := d2) (f := 0) (v := (.agg (List.toArray [(.int .u8 ((rd p0.L d2).Char)), (.bool ((rd p0.L d2).Attr)), (.int .u8 ((rd p0.L d2).FA)), (.int .u8 ((rd p0.L d2).High)), (.int .u8 ((rd p0.L d2).Color)), (.int .u8 ((rd p0.L d2).f_Set))]))) rfl rm2 (rd_own _ _ _ _) hg839 rfl rfl ⟨rfl, rfl⟩)⟩⟩, fun _ => ⟨rfl, rfl, rfl, .inl ⟨rfl, (o_p rfl ⟨rfl, rfl⟩)⟩⟩, fun _ => ⟨rfl, rfl, rfl, .inl ⟨rfl, (o_p rfl ⟨rfl, rfl⟩)⟩⟩, fun _ => ⟨rfl, rfl, rfl, .inl ⟨rfl, (o_fa (fd := ⟨ "L", 38, 4, false, "", "", 32⟩) rfl rfl rfl rfl rfl ⟨rfl, rfl⟩)⟩⟩, fun _ => ⟨rfl, rfl, rfl, .inl ⟨rfl, (o_ld (b := b0) (off := 4) (v := (SV.val s0)) rfl rm1 rfl rfl ⟨rfl, rfl⟩)⟩⟩, (fun h => nomatch h), (fun h => nomatch h), trivial⟩, rfl, .inr ⟨[9], rfl, rfl, ⟨rfl, .inl rfl, ?_⟩, trivial⟩⟩
 refine (o_st (b := b837) (off := 0) (vs := [(.int .u8 ((rd p0.L d2).Char)), (.bool ((rd p0.L d2).Attr)), (.int .u8 ((rd p0.L d2).FA)), (.int .u8 ((rd p0.L d2).High)), (.int .u8 ((rd p0.L d2).Color)), (.int .u8 ((rd p0.L d2).f_Set))]) (cs' := [(.int .u8 ((rd p0.L d2).Char)), (.bool ((rd p0.L d2).Attr)), (.int .u8 ((rd p0.L d2).FA)), (.int .u8 ((rd p0.L d2).High)), (.int .u8 ((rd p0.L d2).Color)), (.int .u8 ((rd p0.L d2).f_Set))]) rfl rfl rp3 rfl rfl rfl rfl rfl rfl ?_)
 refine ⟨[], [], rfl, rfl, ?_⟩
 refine ⟨⟨(fun h => nomatch h), (fun h => nomatch h), (fun h => nomatch h), (fun h => nomatch h), (fun h => nomatch h), (fun h => nomatch h), (fun h => nomatch h), (fun h => nomatch h), trivial⟩, rfl, rfl, rfl, ?_⟩
 refine e_seq (c_ret (e_ret ?_))
 refine r_endc (B := [[(.int .u8 ((rd p0.L d2).Char)), (.bool ((rd p0.L d2).Attr)), (.int .u8 ((rd p0.L d2).FA)), (.int .u8 ((rd p0.L d2).High)), (.int .u8 ((rd p0.L d2).Color)), (.int .u8 ((rd p0.L d2).f_Set))]]) rfl ⟨⟨_, _, _, _, rfl, rm3⟩, trivial⟩ rfl (kc rm0 (kc rm0 (kc rm0 (kd kr)))) ?_
 obtain rfl := Option.some.inj h
 exact hk

theorem c_vitrineref05_Of {g : Gw} (hg : GK g) (X : HP) (p0 : Int) (r : Vvitrineref05_Field) (h : m_vitrineref05_Of p0 = some r) : Tri env g 89 (List.toArray [(.int .u8 p0)]) [X] (fun K R => K (.agg (List.toArray [(.bool r.Protected), (.bool r.Numeric), (.int .i64 r.Display), (.bool r.Modified)])) (X :: R)) := by
 refine tri_of (fn := Tryz.f89) (N := 20) Tryz.func89 rfl rfl rfl ?_
 intro R K hk
 unfold m_vitrineref05_Of at h
 change GC _ none _ [] [(0, (.int .u8 p0))] (X :: R) g _ _
 refine c_seq (c_region ?_)
 refine o1 rfl (o_alloc (cs := [(.bool false), (.bool false), (.int .i64 0), (.bool false)]) rfl rfl (fun b850 => ?_))
 refine o_end (e_seq (c_seq (c_region (o1 rfl (o_p rfl ?_)))))
 refine o1 rfl (o_p (v := (.int .i64 (w64 (p0)))) rfl ?_)
 refine o1 rfl (o_rem (m := w64 (p0)) (n := 64) rfl rfl (by decide) ?_)
 refine o1 rfl (o_p rfl (o_end (e_seq (c_seq (c_region (o1 rfl (o_p rfl ?_)))))))
 refine o1 rfl (o_p (v := (.bool (decide ((Int.tmod (w64 (p0)) 64) ≥ 32)))) rfl ?_)
 refine o1 rfl (o_p rfl ?_)
 refine o1 rfl (o_quo (m := Int.tmod (w64 (p0)) 64) (n := 16) rfl rfl (by decide) ?_)
 refine o1 rfl (o_rem (m := w64 (Int.tdiv (Int.tmod (w64 (p0)) 64) 16)) (n := 2) rfl rfl (by decide) ?_)
 refine o1 rfl (o_p (v := (.bool ((Int.tmod (w64 (Int.tdiv (Int.tmod (w64 (p0)) 64) 16)) 2) == 1))) rfl ?_)
 refine o1 rfl (o_p rfl ?_)
 refine o1 rfl (o_quo (m := Int.tmod (w64 (p0)) 64) (n := 4) rfl rfl (by decide) ?_)
 refine o1 rfl (o_rem (m := w64 (Int.tdiv (Int.tmod (w64 (p0)) 64) 4)) (n := 4) rfl rfl (by decide) ?_)
 refine o1 rfl (o_p rfl ?_)
 refine o1 rfl (o_rem (m := Int.tmod (w64 (p0)) 64) (n := 2) rfl rfl (by decide) ?_)
 refine o1 rfl (o_p (v := (.bool ((Int.tmod (Int.tmod (w64 (p0)) 64) 2) == 1))) rfl ?_)
 refine o1 rfl (o_build (fs := [⟨ "Protected", 4, 0, false, "", "", 0⟩, ⟨ "Numeric", 4, 1, false, "", "", 1⟩, ⟨ "Display", 3, 2, false, "", "", 8⟩, ⟨ "Modified", 4, 3, false, "", "", 16⟩]) (ps := [(0, 1), (1, 1), (2, 1), (3, 1)]) (cs := [(.bool (decide ((Int.tmod (w64 (p0)) 64) ≥ 32))), (.bool ((Int.tmod (w64 (Int.tdiv (Int.tmod (w64 (p0)) 64) 16)) 2) == 1)), (.int .i64 (Int.tmod (w64 (Int.tdiv (Int.tmod (w64 (p0)) 64) 4)) 4)), (.bool ((Int.tmod (Int.tmod (w64 (p0)) 64) 2) == 1))]) rfl rfl rfl rfl rfl ?_)
 refine o0 (o_st (b := b850) (off := 0) (vs := [(.bool (decide ((Int.tmod (w64 (p0)) 64) ≥ 32))), (.bool ((Int.tmod (w64 (Int.tdiv (Int.tmod (w64 (p0)) 64) 16)) 2) == 1)), (.int .i64 (Int.tmod (w64 (Int.tdiv (Int.tmod (w64 (p0)) 64) 4)) 4)), (.bool ((Int.tmod (Int.tmod (w64 (p0)) 64) 2) == 1))]) (cs' := [(.bool (decide ((Int.tmod (w64 (p0)) 64) ≥ 32))), (.bool ((Int.tmod (w64 (Int.tdiv (Int.tmod (w64 (p0)) 64) 16)) 2) == 1)), (.int .i64 (Int.tmod (w64 (Int.tdiv (Int.tmod (w64 (p0)) 64) 4)) 4)), (.bool ((Int.tmod (Int.tmod (w64 (p0)) 64) 2) == 1))]) rfl rfl rp0 rfl rfl rfl rfl rfl rfl ?_)
 refine o_end (e_seq (c_ret (e_ret ?_)))
 refine r_endc (B := [[(.bool (decide ((Int.tmod (w64 (p0)) 64) ≥ 32))), (.bool ((Int.tmod (w64 (Int.tdiv (Int.tmod (w64 (p0)) 64) 16)) 2) == 1)), (.int .i64 (Int.tmod (w64 (Int.tdiv (Int.tmod (w64 (p0)) 64) 4)) 4)), (.bool ((Int.tmod (Int.tmod (w64 (p0)) 64) 2) == 1))]]) rfl ⟨⟨_, _, _, _, rfl, rm0⟩, trivial⟩ rfl (kc rm1 (kd kr)) ?_
 obtain rfl := Option.some.inj h
 exact hk

theorem c_vitrineref05_Bits {g : Gw} (hg : GK g) (X : HP) (p0 : Vvitrineref05_Field) (r : Int × Int) (h : m_vitrineref05_Bits p0 = some r) : Tri env g 193 (List.toArray [(.agg (List.toArray [(.bool p0.Protected), (.bool p0.Numeric), (.int .i64 p0.Display), (.bool p0.Modified)]))]) [X] (fun K R => K (.tuple (List.toArray [(.int .u8 r.1), (.int .i64 r.2)])) (X :: R)) := by
 refine tri_of (fn := Tryz.f193) (N := 30) Tryz.func193 rfl rfl rfl ?_
 intro R K hk
 unfold m_vitrineref05_Bits at h
 change GC _ none _ [] [(0, (.agg (List.toArray [(.bool p0.Protected), (.bool p0.Numeric), (.int .i64 p0.Display), (.bool p0.Modified)])))] (X :: R) g _ _
 refine c_seq (c_region ?_)
 refine o1 rfl (o_box (cs := [(.bool p0.Protected), (.bool p0.Numeric), (.int .i64 p0.Display), (.bool p0.Modified)]) rfl rfl (fun b852 => ?_))
 refine o1 rfl (o_p rfl (o1 rfl (o_p rfl (o_end (e_seq (c_seq (c_seq ?_)))))))
 replace h := bsome h
 obtain ⟨d1, h, hk1⟩ := h
 refine cj (D := Unit) (ι := Unit) (fun _ i1 => True) (fun _ i1 => [(12, (.bool d1)), (1, (.pointer (some ⟨b852, 0, none⟩)))]) (fun _ i1 => X :: blk b852 (.cells (List.toArray [(.bool p0.Protected), (.bool p0.Numeric), (.int .i64 p0.Display), (.bool p0.Modified)]) 77 (0, 0)) :: R) ?_ ?_
 ·refine c_region ?_
  refine o1 rfl (o_fa (fd := ⟨ "Display", 3, 2, false, "", "", 8⟩) rfl rfl rfl rfl rfl ?_)
  refine o1 rfl (o_ld (b := b852) (off := 2) (v := (.int .i64 p0.Display)) rfl rm0 rfl rfl ?_)
  refine o1 rfl (o_p (v := (.bool (decide (p0.Display < 0)))) rfl ?_)
  refine o1 rfl (o_p rfl ?_)
  rcases bool_or ((decide (p0.Display < 0))) with hb854 | hb854
  ·replace h := cond_t hb854 h
   refine on rfl rfl rfl hb854 ?_
   refine on rfl rfl rfl hb854 ?_
   refine on rfl rfl rfl hb854 ?_
   refine o1 rfl (o_pick_t rfl hb854 rfl ?_)
   refine o_end ?_
   obtain rfl := Option.some.inj h
   exact ej () () trivial (sc rfl (sc rfl sn)) (kc rm1 (kc rm0 kr))
  ·replace h := cond_f hb854 h
   refine oy rfl rfl rfl hb854 (o_fa (fd := ⟨ "Display", 3, 2, false, "", "", 8⟩) rfl rfl rfl rfl rfl ?_)
   refine oy rfl rfl rfl hb854 (o_ld (b := b852) (off := 2) (v := (.int .i64 p0.Display)) rfl rm0 rfl rfl ?_)
   refine oy rfl rfl rfl hb854 (o_p (v := (.bool (decide (p0.Display > 3)))) rfl ?_)
   refine o1 rfl (o_pick_f rfl hb854 rfl ?_)
   refine o_end ?_
   obtain rfl := Option.some.inj h
   exact ej () () trivial (sc rfl (sc rfl sn)) (kc rm1 (kc rm0 kr))
 ·rintro _ i1 _
  replace h := hk1
  clear hk1
  refine e_seq ?_
  refine c_cond (b := d1) rfl (fun hb855 => ?_) (fun hb855 => ?_)
  ·replace h := cond_t hb855 h
   refine c_seq (c_region (o1 rfl (o_p rfl (o1 rfl (o_p rfl (o_end (e_seq ?_)))))))
   refine c_ret (e_then_ret (e_ret ?_))
   refine r_endt rfl rfl (kc rm0 (kd kr)) ?_
   obtain rfl := Option.some.inj h
   exact hk
  ·replace h := cond_f hb855 h
   refine c_skip (e_seq (c_seq (c_region ?_)))
   refine o1 rfl (o_fa (fd := ⟨ "Display", 3, 2, false, "", "", 8⟩) rfl rfl rfl rfl rfl ?_)
   refine o1 rfl (o_ld (b := b852) (off := 2) (v := (.int .i64 p0.Display)) rfl rm1 rfl rfl ?_)
   refine o1 rfl (o_p (v := (.int .i64 (w64 (4 * p0.Display)))) rfl ?_)
   refine o1 rfl (o_p rfl (o_end (e_seq (c_seq (c_seq (c_region ?_))))))
   refine o1 rfl (o_fa (fd := ⟨ "Protected", 4, 0, false, "", "", 0⟩) rfl rfl rfl rfl rfl ?_)
   refine o1 rfl (o_ld (b := b852) (off := 0) (v := (.bool p0.Protected)) rfl rm1 rfl rfl ?_)
   refine o_end (e_seq ?_)
   replace h := bsome h
   obtain ⟨d3, h, hk3⟩ := h
   refine cj (D := Unit) (ι := Unit) (fun _ i3 => True) (fun _ i3 => [(4, (.int .i64 d3)), (1, (.pointer (some ⟨b852, 0, none⟩)))]) (fun _ i3 => X :: blk b852 (.cells (List.toArray [(.bool p0.Protected), (.bool p0.Numeric), (.int .i64 p0.Display), (.bool p0.Modified)]) 77 (0, 0)) :: R) ?_ ?_
   ·refine c_cond (b := p0.Protected) rfl (fun hb856 => ?_) (fun hb856 => ?_)
    ·replace h := cond_t hb856 h
     refine c_region (o1 rfl (o_p rfl ?_))
     refine o1 rfl (o_p (v := (.int .i64 (w64 ((w64 (4 * p0.Display)) + 32)))) rfl ?_)
     refine o1 rfl (o_p rfl (o_end ?_))
     obtain rfl := Option.some.inj h
     exact ej () () trivial (sc rfl (sc rfl sn)) (kc rm0 (kc rm0 kr))
    ·replace h := cond_f hb856 h
     refine c_skip ?_
     obtain rfl := Option.some.inj h
     exact ej () () trivial (sc rfl (sc rfl sn)) (kc rm0 (kc rm0 kr))
   ·rintro _ i3 _
    replace h := hk3
    clear hk3
    refine e_seq (c_seq (c_seq (c_region ?_)))
    refine o1 rfl (o_fa (fd := ⟨ "Numeric", 4, 1, false, "", "", 1⟩) rfl rfl rfl rfl rfl ?_)
    refine o1 rfl (o_ld (b := b852) (off := 1) (v := (.bool p0.Numeric)) rfl rm1 rfl rfl ?_)
    refine o_end (e_seq ?_)
    replace h := bsome h
    obtain ⟨d4, h, hk4⟩ := h
    refine cj (D := Unit) (ι := Unit) (fun _ i4 => True) (fun _ i4 => [(4, (.int .i64 d4)), (1, (.pointer (some ⟨b852, 0, none⟩)))]) (fun _ i4 => X :: blk b852 (.cells (List.toArray [(.bool p0.Protected), (.bool p0.Numeric), (.int .i64 p0.Display), (.bool p0.Modified)]) 77 (0, 0)) :: R) ?_ ?_
    ·refine c_cond (b := p0.Numeric) rfl (fun hb857 => ?_) (fun hb857 => ?_)
     ·replace h := cond_t hb857 h
      refine c_region (o1 rfl (o_p rfl ?_))
      refine o1 rfl (o_p (v := (.int .i64 (w64 (d3 + 16)))) rfl ?_)
      refine o1 rfl (o_p rfl (o_end ?_))
      obtain rfl := Option.some.inj h
      exact ej () () trivial (sc rfl (sc rfl sn)) (kc rm0 (kc rm0 kr))
     ·replace h := cond_f hb857 h
      refine c_skip ?_
      obtain rfl := Option.some.inj h
      exact ej () () trivial (sc rfl (sc rfl sn)) (kc rm0 (kc rm0 kr))
    ·rintro _ i4 _
     replace h := hk4
     clear hk4
     refine e_seq (c_seq (c_seq (c_region ?_)))
     refine o1 rfl (o_fa (fd := ⟨ "Modified", 4, 3, false, "", "", 16⟩) rfl rfl rfl rfl rfl ?_)
     refine o1 rfl (o_ld (b := b852) (off := 3) (v := (.bool p0.Modified)) rfl rm1 rfl rfl ?_)
     refine o_end (e_seq ?_)
     replace h := bsome h
     obtain ⟨d5, h, hk5⟩ := h
     refine cj (D := Unit) (ι := Unit) (fun _ i5 => True) (fun _ i5 => [(4, (.int .i64 d5))]) (fun _ i5 => X :: R) ?_ ?_
     ·refine c_cond (b := p0.Modified) rfl (fun hb858 => ?_) (fun hb858 => ?_)
      ·replace h := cond_t hb858 h
       refine c_region (o1 rfl (o_p rfl ?_))
       refine o1 rfl (o_p (v := (.int .i64 (w64 (d4 + 1)))) rfl ?_)
       refine o1 rfl (o_p rfl (o_end ?_))
       obtain rfl := Option.some.inj h
       exact ej () () trivial (sc rfl sn) (kc rm0 (kd kr))
      ·replace h := cond_f hb858 h
       refine c_skip ?_
       obtain rfl := Option.some.inj h
       exact ej () () trivial (sc rfl sn) (kc rm0 (kd kr))
     ·rintro _ i5 _
      replace h := hk5
      clear hk5
      refine e_seq (c_seq (c_region (o1 rfl (o_p rfl ?_))))
      refine o1 rfl (o_p (v := (.int .u8 (IntKind.wrap .u8 (d5)))) rfl ?_)
      refine o1 rfl (o_p rfl (o1 rfl (o_p rfl (o_end (e_seq (c_ret (e_ret ?_)))))))
      refine r_endt rfl rfl (kc rm0 kr) ?_
      obtain rfl := Option.some.inj h
      exact hk

theorem c_vitrineref05_Six {g : Gw} (hg : GK g) (X : HP) (p0 : Int) (r : Int) (h : m_vitrineref05_Six p0 = some r) : Tri env g 174 (List.toArray [(.int .u8 p0)]) [X] (fun K R => K (.int .u8 r) (X :: R)) := by
 refine tri_of (fn := Tryz.f174) (N := 12) Tryz.func174 rfl rfl rfl ?_
 intro R K hk
 unfold m_vitrineref05_Six at h
 change GC _ none _ [] [(0, (.int .u8 p0))] (X :: R) g _ _
 refine c_seq (c_region (o1 rfl (o_p rfl (o_end (e_seq (c_seq ?_))))))
 refine c_region (o1 rfl (o_p rfl ?_))
 replace h := bsome h
 obtain ⟨d1, h1, h⟩ := h
 refine o1 rfl (o_call has89 rfl (c_vitrineref05_Of hg X p0 _ h1) (pc rm0 pn) ?_)
 replace h := bsome h
 obtain ⟨d2, h2, h⟩ := h
 refine o1 rfl (o_call has193 rfl (c_vitrineref05_Bits hg X d1 _ h2) (pc rm0 pn) ?_)
 refine o1 rfl (o_p rfl (o1 rfl (o_p rfl (o1 rfl (o_p rfl (o1 rfl (o_p rfl (o1 rfl (o_p rfl (o_end ?_))))))))))
 refine e_seq (c_seq (c_region (o1 rfl (o_p rfl (o1 rfl (o_p rfl (o_end ?_)))))))
 refine e_seq (c_ret (e_ret ?_))
 refine r_endt rfl rfl (kc rm0 kr) ?_
 obtain rfl := Option.some.inj h
 exact hk

theorem c_vitrineref12_Fit {g : Gw} (hg : GK g) (X : HP) (p0 : Vapi_Cell) (r : Vapi_Cell) (h : m_vitrineref12_Fit p0 = some r) : Tri env g 139 (List.toArray [(.agg (List.toArray [(.int .u8 p0.Char), (.bool p0.Attr), (.int .u8 p0.FA), (.int .u8 p0.High), (.int .u8 p0.Color), (.int .u8 p0.f_Set)]))]) [X] (fun K R => K (.agg (List.toArray [(.int .u8 r.Char), (.bool r.Attr), (.int .u8 r.FA), (.int .u8 r.High), (.int .u8 r.Color), (.int .u8 r.f_Set)])) (X :: R)) := by
 refine tri_of (fn := Tryz.f139) (N := 12) Tryz.func139 rfl rfl rfl ?_
 intro R K hk
 unfold m_vitrineref12_Fit at h
 change GC _ none _ [] [(0, (.agg (List.toArray [(.int .u8 p0.Char), (.bool p0.Attr), (.int .u8 p0.FA), (.int .u8 p0.High), (.int .u8 p0.Color), (.int .u8 p0.f_Set)])))] (X :: R) g _ _
 refine c_seq (c_region ?_)
 refine o1 rfl (o_box (cs := [(.int .u8 p0.Char), (.bool p0.Attr), (.int .u8 p0.FA), (.int .u8 p0.High), (.int .u8 p0.Color), (.int .u8 p0.f_Set)]) rfl rfl (fun b845 => ?_))
 refine o1 rfl (o_alloc (cs := [(.int .u8 0), (.bool false), (.int .u8 0), (.int .u8 0), (.int .u8 0), (.int .u8 0)]) rfl rfl (fun b847 => ?_))
 refine o_end (e_seq (c_seq (c_seq (c_region ?_))))
 refine o1 rfl (o_fa (fd := ⟨ "Attr", 4, 1, false, "", "", 1⟩) rfl rfl rfl rfl rfl ?_)
 refine o1 rfl (o_ld (b := b845) (off := 1) (v := (.bool p0.Attr)) rfl rm1 rfl rfl ?_)
 refine o_end (e_seq ?_)
 replace h := bsome h
 obtain ⟨d1, h, hk1⟩ := h
 refine cj (D := Unit) (ι := Unit) (fun _ i1 => True) (fun _ i1 => [(2, (.pointer (some ⟨b847, 0, none⟩))), (1, (.pointer (some ⟨b845, 0, none⟩)))]) (fun _ i1 => X :: blk b847 (.cells (List.toArray [(.int .u8 0), (.bool false), (.int .u8 0), (.int .u8 0), (.int .u8 0), (.int .u8 0)]) 80 (0, 0)) :: blk b845 (.cells (List.toArray [(.int .u8 d1.1), (.bool p0.Attr), (.int .u8 d1.2), (.int .u8 p0.High), (.int .u8 p0.Color), (.int .u8 p0.f_Set)]) 80 (0, 0)) :: R) ?_ ?_
 ·refine c_cond (b := p0.Attr) rfl (fun hb849 => ?_) (fun hb849 => ?_)
  ·replace h := cond_t hb849 h
   refine c_region ?_
   refine o1 rfl (o_fa (fd := ⟨ "FA", 5, 2, false, "", "", 2⟩) rfl rfl rfl rfl rfl ?_)
   refine o1 rfl (o_ld (b := b845) (off := 2) (v := (.int .u8 p0.FA)) rfl rm1 rfl rfl ?_)
   replace h := bsome h
   obtain ⟨d2, h2, h⟩ := h
   refine o1 rfl (o_call has174 rfl (c_vitrineref05_Six hg X p0.FA _ h2) (pc rm2 pn) ?_)
   refine o1 rfl (o_fa (fd := ⟨ "Char", 5, 0, false, "", "", 0⟩) rfl rfl rfl rfl rfl ?_)
   refine o0 (o_st (b := b845) (off := 0) (vs := [(.int .u8 0)]) (cs' := [(.int .u8 0), (.bool p0.Attr), (.int .u8 p0.FA), (.int .u8 p0.High), (.int .u8 p0.Color), (.int .u8 p0.f_Set)]) rfl rfl rp2 rfl rfl rfl rfl rfl rfl ?_)
   refine o1 rfl (o_fa (fd := ⟨ "FA", 5, 2, false, "", "", 2⟩) rfl rfl rfl rfl rfl ?_)
   refine o0 (o_st (b := b845) (off := 2) (vs := [(.int .u8 d2)]) (cs' := [(.int .u8 0), (.bool p0.Attr), (.int .u8 d2), (.int .u8 p0.High), (.int .u8 p0.Color), (.int .u8 p0.f_Set)]) rfl rfl rp2 rfl rfl rfl rfl rfl rfl ?_)
   refine o_end ?_
   obtain rfl := Option.some.inj h
   exact ej () () trivial (sc rfl (sc rfl sn)) (kc rm0 (kc rm0 (kc rm0 kr)))
  ·replace h := cond_f hb849 h
   refine c_region ?_
   refine o1 rfl (o_fa (fd := ⟨ "FA", 5, 2, false, "", "", 2⟩) rfl rfl rfl rfl rfl ?_)
   refine o0 (o_st (b := b845) (off := 2) (vs := [(.int .u8 0)]) (cs' := [(.int .u8 p0.Char), (.bool p0.Attr), (.int .u8 0), (.int .u8 p0.High), (.int .u8 p0.Color), (.int .u8 p0.f_Set)]) rfl rfl rp1 rfl rfl rfl rfl rfl rfl ?_)
   refine o_end ?_
   obtain rfl := Option.some.inj h
   exact ej () () trivial (sc rfl (sc rfl sn)) (kc rm2 (kc rm0 (kc rm0 kr)))
 ·rintro _ i1 _
  replace h := hk1
  clear hk1
  refine e_seq (c_seq (c_region ?_))
  refine o1 rfl (o_ld (b := b845) (off := 0) (v := (.agg (List.toArray [(.int .u8 d1.1), (.bool p0.Attr), (.int .u8 d1.2), (.int .u8 p0.High), (.int .u8 p0.Color), (.int .u8 p0.f_Set)]))) rfl rm2 rfl rfl ?_)
  refine o0 (o_st (b := b847) (off := 0) (vs := [(.int .u8 d1.1), (.bool p0.Attr), (.int .u8 d1.2), (.int .u8 p0.High), (.int .u8 p0.Color), (.int .u8 p0.f_Set)]) (cs' := [(.int .u8 d1.1), (.bool p0.Attr), (.int .u8 d1.2), (.int .u8 p0.High), (.int .u8 p0.Color), (.int .u8 p0.f_Set)]) rfl rfl rp1 rfl rfl rfl rfl rfl rfl ?_)
  refine o_end (e_seq (c_ret (e_ret ?_)))
  refine r_endc (B := [[(.int .u8 d1.1), (.bool p0.Attr), (.int .u8 d1.2), (.int .u8 p0.High), (.int .u8 p0.Color), (.int .u8 p0.f_Set)]]) rfl ⟨⟨_, _, _, _, rfl, rm1⟩, trivial⟩ rfl (kc rm0 (kd (kd kr))) ?_
  obtain rfl := Option.some.inj h
  exact hk

theorem c_vitrineref12_Set {g : Gw} (hg : GK g) (X : HP) (p0 : Vvitrineref12_Space) (b0 : Nat) (s0 : SV) (p1 : Int) (p2 : Vapi_Cell) (r : Vvitrineref12_Space) (h : m_vitrineref12_Set p0 p1 p2 = some r) : Tri env g 97 (List.toArray [(.pointer (some ⟨b0, 0, none⟩)), (.int .i64 p1), (.agg (List.toArray [(.int .u8 p2.Char), (.bool p2.Attr), (.int .u8 p2.FA), (.int .u8 p2.High), (.int .u8 p2.Color), (.int .u8 p2.f_Set)]))]) [X, blk b0 (.cells (List.toArray [(.int .i64 p0.Model), (.bool p0.Alt), (.int .i64 p0.Size.Rows), (.int .i64 p0.Size.Cols), (SV.val s0), (.int .i64 p0.Cursor)]) 40 (0, 0)), slO s0 80 en_Vapi_Cell p0.L] (fun K R => K (.tuple (List.toArray [])) (X :: blk b0 (.cells (List.toArray [(.int .i64 r.Model), (.bool r.Alt), (.int .i64 r.Size.Rows), (.int .i64 r.Size.Cols), (SV.val s0), (.int .i64 r.Cursor)]) 40 (0, 0)) :: slO s0 80 en_Vapi_Cell r.L :: R)) := by
 refine tri_of (fn := Tryz.f97) (N := 16) Tryz.func97 rfl rfl rfl ?_
 intro R K hk
 unfold m_vitrineref12_Set at h
 change GC _ none _ [] [(0, (.pointer (some ⟨b0, 0, none⟩))), (1, (.int .i64 p1)), (2, (.agg (List.toArray [(.int .u8 p2.Char), (.bool p2.Attr), (.int .u8 p2.FA), (.int .u8 p2.High), (.int .u8 p2.Color), (.int .u8 p2.f_Set)])))] (X :: blk b0 (.cells (List.toArray [(.int .i64 p0.Model), (.bool p0.Alt), (.int .i64 p0.Size.Rows), (.int .i64 p0.Size.Cols), (SV.val s0), (.int .i64 p0.Cursor)]) 40 (0, 0)) :: slO s0 80 en_Vapi_Cell p0.L :: R) g _ _
 refine c_seq (c_region ?_)
 refine o1 rfl (o_box (cs := [(.int .u8 p2.Char), (.bool p2.Attr), (.int .u8 p2.FA), (.int .u8 p2.High), (.int .u8 p2.Color), (.int .u8 p2.f_Set)]) rfl rfl (fun b843 => ?_))
 refine o_end (e_seq ?_)
 refine c_draw (n := 3) (q := [(0, 6, (.pointer (some ⟨b0, 0, none⟩))), (1, 7, (.pointer (some ⟨b0, 0, none⟩))), (2, 8, (.pointer (some ⟨b0, 4, none⟩))), (3, 9, (SV.val s0)), (4, 10, (.pointer (some ⟨b0, 0, none⟩))), (5, 11, (.int .i64 p1)), (7, 13, (.agg (List.toArray [(.int .u8 p2.Char), (.bool p2.Attr), (.int .u8 p2.FA), (.int .u8 p2.High), (.int .u8 p2.Color), (.int .u8 p2.f_Set)])))]) (pend := [0, 1, 2, 3, 4, 5, 7]) rfl rfl rfl ?_
 replace h := bsome h
 obtain ⟨d1, h1, h⟩ := h
 refine ⟨⟨fun _ => ⟨rfl, rfl, rfl, .inl ⟨rfl, (o_p rfl ⟨rfl, rfl⟩)⟩⟩, fun _ => ⟨rfl, rfl, rfl, .inl ⟨rfl, (o_p rfl ⟨rfl, rfl⟩)⟩⟩, fun _ => ⟨rfl, rfl, rfl, .inl ⟨rfl, (o_fa (fd := ⟨ "L", 38, 4, false, "", "", 32⟩) rfl rfl rfl rfl rfl ⟨rfl, rfl⟩)⟩⟩, fun _ => ⟨rfl, rfl, rfl, .inl ⟨rfl, (o_ld (b := b0) (off := 4) (v := (SV.val s0)) rfl rm2 rfl rfl ⟨rfl, rfl⟩)⟩⟩, fun _ => ⟨rfl, rfl, rfl, .inl ⟨rfl, (o_p rfl ⟨rfl, rfl⟩)⟩⟩, fun _ => ⟨rfl, rfl, rfl, .inl ⟨rfl, (o_p rfl ⟨rfl, rfl⟩)⟩⟩, fun _ => ⟨rfl, rfl, rfl, .inl ⟨rfl, (o_ld (b := b843) (off := 0) (v := (.agg (List.toArray [(.int .u8 p2.Char), (.bool p2.Attr), (.int .u8 p2.FA), (.int .u8 p2.High), (.int .u8 p2.Color), (.int .u8 p2.f_Set)]))) rfl rm0 rfl rfl ⟨rfl, rfl⟩)⟩⟩, trivial⟩, rfl, .inr ⟨[6], rfl, rfl, ⟨rfl, .inl rfl, ?_⟩, trivial⟩⟩
 refine (o_call has32 rfl (c_vitrineref12_Wrap hg X p0 b0 s0 p1 _ h1) (pc rm1 (pc rm1 (pc rm1 pn))) ?_)
 refine ⟨[], [0, 1, 2, 3, 7], rfl, rfl, rfl, rfl, ?_⟩
 replace h := bsome h
 obtain ⟨d2, h2, h⟩ := h
 refine ⟨⟨fun _ => ⟨rfl, rfl, rfl, .inl ⟨rfl, (o_p rfl ⟨rfl, rfl⟩)⟩⟩, fun _ => ⟨rfl, rfl, rfl, .inl ⟨rfl, (o_p rfl ⟨rfl, rfl⟩)⟩⟩, fun _ => ⟨rfl, rfl, rfl, .inl ⟨rfl, (o_fa (fd := ⟨ "L", 38, 4, false, "", "", 32⟩) rfl rfl rfl rfl rfl ⟨rfl, rfl⟩)⟩⟩, fun _ => ⟨rfl, rfl, rfl, .inl ⟨rfl, (o_ld (b := b0) (off := 4) (v := (SV.val s0)) rfl rm1 rfl rfl ⟨rfl, rfl⟩)⟩⟩, (fun h => nomatch h), (fun h => nomatch h), fun _ => ⟨rfl, rfl, rfl, .inl ⟨rfl, (o_ld (b := b843) (off := 0) (v := (.agg (List.toArray [(.int .u8 p2.Char), (.bool p2.Attr), (.int .u8 p2.FA), (.int .u8 p2.High), (.int .u8 p2.Color), (.int .u8 p2.f_Set)]))) rfl rm3 rfl rfl ⟨rfl, rfl⟩)⟩⟩, trivial⟩, rfl, .inr ⟨[8], rfl, rfl, ⟨rfl, .inl rfl, ?_⟩, trivial⟩⟩
 refine (o_call has139 rfl (c_vitrineref12_Fit hg X p2 _ h2) (pc rm0 pn) ?_)
 replace h := gsome h
 obtain ⟨hg859, h⟩ := h
 refine ⟨[(9, 15, (.pointer (some ⟨SV.blk s0, SV.off s0 + Int.toNat d1 * 6, none⟩)))], [0, 1, 2, 3, 9], rfl, rfl, rfl, rfl, ?_⟩
 refine ⟨⟨fun _ => ⟨rfl, rfl, rfl, .inl ⟨rfl, (o_ix (s := s0) (n := d1) (e := en_Vapi_Cell) rfl rfl rfl rfl rfl rfl rm2 (rd_own _ _ _ _) hg859 ⟨rfl, rfl⟩)⟩⟩, fun _ => ⟨rfl, rfl, rfl, .inl ⟨rfl, (o_p rfl ⟨rfl, rfl⟩)⟩⟩, fun _ => ⟨rfl, rfl, rfl, .inl ⟨rfl, (o_p rfl ⟨rfl, rfl⟩)⟩⟩, fun _ => ⟨rfl, rfl, rfl, .inl ⟨rfl, (o_fa (fd := ⟨ "L", 38, 4, false, "", "", 32⟩) rfl rfl rfl rfl rfl ⟨rfl, rfl⟩)⟩⟩, fun _ => ⟨rfl, rfl, rfl, .inl ⟨rfl, (o_ld (b := b0) (off := 4) (v := (SV.val s0)) rfl rm1 rfl rfl ⟨rfl, rfl⟩)⟩⟩, (fun h => nomatch h), (fun h => nomatch h), (fun h => nomatch h), trivial⟩, rfl, .inr ⟨[10], rfl, rfl, ⟨rfl, .inl rfl, ?_⟩, trivial⟩⟩
 refine (o_stE (s := s0) (e := en_Vapi_Cell) (n := d1) (f := 0) (vs := [(.int .u8 d2.Char), (.bool d2.Attr), (.int .u8 d2.FA), (.int .u8 d2.High), (.int .u8 d2.Color), (.int .u8 d2.f_Set)]) (u := d2) rfl rfl rp2 hg859 rfl rfl rfl rfl rfl rfl ?_)
 refine ⟨[], [], rfl, rfl, ?_⟩
 refine ⟨⟨(fun h => nomatch h), (fun h => nomatch h), (fun h => nomatch h), (fun h => nomatch h), (fun h => nomatch h), (fun h => nomatch h), (fun h => nomatch h), (fun h => nomatch h), trivial⟩, rfl, rfl, rfl, ?_⟩
 refine e_fall ?_
 refine r_endt rfl rfl (kc rm0 (kc rm0 (kc rm0 (kd kr)))) ?_
 obtain rfl := Option.some.inj h
 exact hk

theorem c_vitrineref12_Put {g : Gw} (hg : GK g) (X : HP) (p0 : Vvitrineref12_Space) (b0 : Nat) (s0 : SV) (p1 : Int) (p2 : Int) (r : Vvitrineref12_Space) (h : m_vitrineref12_Put p0 p1 p2 = some r) : Tri env g 96 (List.toArray [(.pointer (some ⟨b0, 0, none⟩)), (.int .i64 p1), (.int .u8 p2)]) [X, blk b0 (.cells (List.toArray [(.int .i64 p0.Model), (.bool p0.Alt), (.int .i64 p0.Size.Rows), (.int .i64 p0.Size.Cols), (SV.val s0), (.int .i64 p0.Cursor)]) 40 (0, 0)), slO s0 80 en_Vapi_Cell p0.L] (fun K R => K (.tuple (List.toArray [])) (X :: blk b0 (.cells (List.toArray [(.int .i64 r.Model), (.bool r.Alt), (.int .i64 r.Size.Rows), (.int .i64 r.Size.Cols), (SV.val s0), (.int .i64 r.Cursor)]) 40 (0, 0)) :: slO s0 80 en_Vapi_Cell r.L :: R)) := by
 refine tri_of (fn := Tryz.f96) (N := 19) Tryz.func96 rfl rfl rfl ?_
 intro R K hk
 unfold m_vitrineref12_Put at h
 change GC _ none _ [] [(0, (.pointer (some ⟨b0, 0, none⟩))), (1, (.int .i64 p1)), (2, (.int .u8 p2))] (X :: blk b0 (.cells (List.toArray [(.int .i64 p0.Model), (.bool p0.Alt), (.int .i64 p0.Size.Rows), (.int .i64 p0.Size.Cols), (SV.val s0), (.int .i64 p0.Cursor)]) 40 (0, 0)) :: slO s0 80 en_Vapi_Cell p0.L :: R) g _ _
 refine c_seq (c_region (o1 rfl (o_p rfl (o1 rfl (o_p rfl ?_)))))
 replace h := bsome h
 obtain ⟨d1, h1, h⟩ := h
 refine o1 rfl (o_call has138 rfl (c_vitrineref12_At hg X p0 b0 s0 p1 _ h1) (pc rm0 (pc rm0 (pc rm0 pn))) ?_)
 refine o1 rfl (o_alloc (cs := [(.int .u8 0), (.bool false), (.int .u8 0), (.int .u8 0), (.int .u8 0), (.int .u8 0)]) rfl rfl (fun b840 => ?_))
 refine o0 (o_st (b := b840) (off := 0) (vs := [(.int .u8 d1.Char), (.bool d1.Attr), (.int .u8 d1.FA), (.int .u8 d1.High), (.int .u8 d1.Color), (.int .u8 d1.f_Set)]) (cs' := [(.int .u8 d1.Char), (.bool d1.Attr), (.int .u8 d1.FA), (.int .u8 d1.High), (.int .u8 d1.Color), (.int .u8 d1.f_Set)]) rfl rfl rp0 rfl rfl rfl rfl rfl rfl ?_)
 refine o_end (e_seq (c_seq (c_region ?_)))
 refine o1 rfl (o_fa (fd := ⟨ "Attr", 4, 1, false, "", "", 1⟩) rfl rfl rfl rfl rfl ?_)
 refine o1 rfl (o_ld (b := b840) (off := 1) (v := (.bool d1.Attr)) rfl rm0 rfl rfl ?_)
 refine o1 rfl (o_p (v := (.bool (!d1.Attr))) rfl ?_)
 refine o_end (e_seq ?_)
 refine c_cond (b := (!d1.Attr)) rfl (fun hb842 => ?_) (fun hb842 => ?_)
 ·replace h := cond_t hb842 h
  refine c_seq (c_region (o1 rfl (o_p rfl ?_)))
  refine o1 rfl (o_fa (fd := ⟨ "Char", 5, 0, false, "", "", 0⟩) rfl rfl rfl rfl rfl ?_)
  refine o0 (o_st (b := b840) (off := 0) (vs := [(.int .u8 p2)]) (cs' := [(.int .u8 p2), (.bool d1.Attr), (.int .u8 d1.FA), (.int .u8 d1.High), (.int .u8 d1.Color), (.int .u8 d1.f_Set)]) rfl rfl rp0 rfl rfl rfl rfl rfl rfl ?_)
  refine o_end (e_seq (c_region (o1 rfl (o_p rfl (o1 rfl (o_p rfl ?_))))))
  refine o1 rfl (o_ld (b := b840) (off := 0) (v := (.agg (List.toArray [(.int .u8 p2), (.bool d1.Attr), (.int .u8 d1.FA), (.int .u8 d1.High), (.int .u8 d1.Color), (.int .u8 d1.f_Set)]))) rfl rm0 rfl rfl ?_)
  replace h := bsome h
  obtain ⟨d2, h2, h⟩ := h
  refine o1 rfl (o_call has97 rfl (c_vitrineref12_Set hg X (⟨p0.Model, p0.Alt, p0.Size, p0.L, p0.Cursor⟩ : Vvitrineref12_Space) b0 s0 p1 (⟨p2, d1.Attr, d1.FA, d1.High, d1.Color, d1.f_Set⟩ : Vapi_Cell) _ h2) (pc rm1 (pc rm1 (pc rm1 pn))) ?_)
  refine o_end (e_fall ?_)
  refine r_endt rfl rfl (kc rm0 (kc rm0 (kc rm0 (kd kr)))) ?_
  obtain rfl := Option.some.inj h
  exact hk
 ·replace h := cond_f hb842 h
  refine c_skip (e_fall ?_)
  refine r_endt rfl rfl (kc rm1 (kc rm1 (kc rm1 (kd kr)))) ?_
  obtain rfl := Option.some.inj h
  exact hk

theorem c_vitrineref12_Do {g : Gw} (hg : GK g) (X : HP) (p0 : Vvitrineref12_Space) (b0 : Nat) (s0 : SV) (p1 : Vvitrineref12_Act) (s1 : SV) (q0 : Rd X s1 5 (enI .u8) p1.Text) (r : Vvitrineref12_Space) (h : m_vitrineref12_Do p0 p1 = some r) : Tri env g 46 (List.toArray [(.pointer (some ⟨b0, 0, none⟩)), (.agg (List.toArray [(.int .u8 p1.Do), (.int .i64 p1.N), (.bool p1.On), (.int .u8 p1.Code), (.int .u8 p1.C.Char), (.bool p1.C.Attr), (.int .u8 p1.C.FA), (.int .u8 p1.C.High), (.int .u8 p1.C.Color), (.int .u8 p1.C.f_Set), (SV.val s1)]))]) [X, blk b0 (.cells (List.toArray [(.int .i64 p0.Model), (.bool p0.Alt), (.int .i64 p0.Size.Rows), (.int .i64 p0.Size.Cols), (SV.val s0), (.int .i64 p0.Cursor)]) 40 (0, 0)), slO s0 80 en_Vapi_Cell p0.L] (fun K R => ∀ (i0 : SV), K (.tuple (List.toArray [])) (X :: blk b0 (.cells (List.toArray [(.int .i64 r.Model), (.bool r.Alt), (.int .i64 r.Size.Rows), (.int .i64 r.Size.Cols), (SV.val i0), (.int .i64 r.Cursor)]) 40 (0, 0)) :: slO i0 80 en_Vapi_Cell r.L :: R)) := by
 refine tri_of (fn := Tryz.f46) (N := 69) Tryz.func46 rfl rfl rfl ?_
 intro R K hk
 unfold m_vitrineref12_Do at h
 change GC _ none _ [] [(0, (.pointer (some ⟨b0, 0, none⟩))), (1, (.agg (List.toArray [(.int .u8 p1.Do), (.int .i64 p1.N), (.bool p1.On), (.int .u8 p1.Code), (.int .u8 p1.C.Char), (.bool p1.C.Attr), (.int .u8 p1.C.FA), (.int .u8 p1.C.High), (.int .u8 p1.C.Color), (.int .u8 p1.C.f_Set), (SV.val s1)])))] (X :: blk b0 (.cells (List.toArray [(.int .i64 p0.Model), (.bool p0.Alt), (.int .i64 p0.Size.Rows), (.int .i64 p0.Size.Cols), (SV.val s0), (.int .i64 p0.Cursor)]) 40 (0, 0)) :: slO s0 80 en_Vapi_Cell p0.L :: R) g _ _
 refine c_seq (c_region ?_)
 refine o1 rfl (o_box (cs := [(.int .u8 p1.Do), (.int .i64 p1.N), (.bool p1.On), (.int .u8 p1.Code), (.int .u8 p1.C.Char), (.bool p1.C.Attr), (.int .u8 p1.C.FA), (.int .u8 p1.C.High), (.int .u8 p1.C.Color), (.int .u8 p1.C.f_Set), (SV.val s1)]) rfl rfl (fun b821 => ?_))
 refine o_end (e_seq (c_seq (c_region ?_)))
 refine o1 rfl (o_fa (fd := ⟨ "Do", 5, 0, false, "", "", 0⟩) rfl rfl rfl rfl rfl ?_)
 refine o1 rfl (o_ld (b := b821) (off := 0) (v := (.int .u8 p1.Do)) rfl rm0 rfl rfl ?_)
 refine o1 rfl (o_rem (m := p1.Do) (n := 6) rfl rfl (by decide) ?_)
 refine o_end (e_seq ?_)
 replace h := bsome h
 obtain ⟨d1, h, hk1⟩ := h
 refine cj (D := Unit) (ι := SV) (fun _ i1 => True) (fun _ i1 => []) (fun _ i1 => X :: blk b0 (.cells (List.toArray [(.int .i64 d1.1), (.bool d1.2.1), (.int .i64 d1.2.2.1), (.int .i64 d1.2.2.2.1), (SV.val i1), (.int .i64 d1.2.2.2.2.2)]) 40 (0, 0)) :: slO i1 80 en_Vapi_Cell d1.2.2.2.2.1 :: R) ?_ ?_
 ·refine c_block (c_seq (c_region ?_))
  refine o1 rfl (o_p (v := (.bool ((Int.tmod p1.Do 6) == 0))) rfl ?_)
  refine o1 rfl (o_p rfl (o_end (e_seq ?_)))
  replace h := bsome h
  obtain ⟨d2, h, hk2⟩ := h
  refine cj (D := Unit) (ι := SV) (fun _ i2 => True) (fun _ i2 => []) (fun _ i2 => X :: blk b0 (.cells (List.toArray [(.int .i64 d2.1), (.bool d2.2.1), (.int .i64 d2.2.2.1), (.int .i64 d2.2.2.2.1), (SV.val i2), (.int .i64 d2.2.2.2.2.2)]) 40 (0, 0)) :: slO i2 80 en_Vapi_Cell d2.2.2.2.2.1 :: R) ?_ ?_
  ·refine c_cond (b := ((Int.tmod p1.Do 6) == 0)) rfl (fun hb823 => ?_) (fun hb823 => ?_)
   ·replace h := cond_t hb823 h
    refine c_region (o1 rfl (o_p rfl ?_))
    refine o1 rfl (o_fa (fd := ⟨ "On", 4, 2, false, "", "", 16⟩) rfl rfl rfl rfl rfl ?_)
    refine o1 rfl (o_ld (b := b821) (off := 2) (v := (.bool p1.On)) rfl rm0 rfl rfl ?_)
    replace h := bsome h
    obtain ⟨d3, h3, h⟩ := h
    refine o1 rfl (o_call has95 rfl (c_vitrineref12_Clear_2 hg X p0 b0 s0 p1.On _ h3) (pc rm1 (pc rm1 (pc rm1 pn))) (fun i3 => ?_))
    refine o_end ?_
    obtain rfl := Option.some.inj h
    exact ej () i3 trivial sn (kc rm0 (kc rm0 (kc rm0 (kd (kd kr)))))
   ·replace h := cond_f hb823 h
    refine c_seq (c_region ?_)
    refine o1 rfl (o_p (v := (.bool ((Int.tmod p1.Do 6) == 1))) rfl ?_)
    refine o1 rfl (o_p rfl (o_end (e_seq ?_)))
    refine c_cond (b := ((Int.tmod p1.Do 6) == 1)) rfl (fun hb830 => ?_) (fun hb830 => ?_)
    ·replace h := cond_t hb830 h
     refine c_region (o1 rfl (o_p rfl (o1 rfl (o_p rfl ?_))))
     refine o1 rfl (o_fa (fd := ⟨ "N", 3, 1, false, "", "", 8⟩) rfl rfl rfl rfl rfl ?_)
     refine o1 rfl (o_ld (b := b821) (off := 1) (v := (.int .i64 p1.N)) rfl rm0 rfl rfl ?_)
     replace h := bsome h
     obtain ⟨d4, h4, h⟩ := h
     refine o1 rfl (o_call has32 rfl (c_vitrineref12_Wrap hg X (⟨p0.Model, p0.Alt, p0.Size, p0.L, p0.Cursor⟩ : Vvitrineref12_Space) b0 s0 p1.N _ h4) (pc rm1 (pc rm1 (pc rm1 pn))) ?_)
     refine o1 rfl (o_p rfl ?_)
     refine o1 rfl (o_fa (fd := ⟨ "Cursor", 3, 5, false, "", "", 56⟩) rfl rfl rfl rfl rfl ?_)
     refine o0 (o_st (b := b0) (off := 5) (vs := [(.int .i64 d4)]) (cs' := [(.int .i64 p0.Model), (.bool p0.Alt), (.int .i64 p0.Size.Rows), (.int .i64 p0.Size.Cols), (SV.val s0), (.int .i64 d4)]) rfl rfl rp1 rfl rfl rfl rfl rfl rfl ?_)
     refine o_end ?_
     obtain rfl := Option.some.inj h
     exact ej () s0 trivial sn (kc rm0 (kc rm0 (kc rm0 (kd kr))))
    ·replace h := cond_f hb830 h
     refine c_seq (c_region ?_)
     refine o1 rfl (o_p (v := (.bool ((Int.tmod p1.Do 6) == 2))) rfl ?_)
     refine o1 rfl (o_p rfl (o_end (e_seq ?_)))
     refine c_cond (b := ((Int.tmod p1.Do 6) == 2)) rfl (fun hb836 => ?_) (fun hb836 => ?_)
     ·replace h := cond_t hb836 h
      refine c_region (o1 rfl (o_p rfl ?_))
      refine o1 rfl (o_fa (fd := ⟨ "N", 3, 1, false, "", "", 8⟩) rfl rfl rfl rfl rfl ?_)
      refine o1 rfl (o_ld (b := b821) (off := 1) (v := (.int .i64 p1.N)) rfl rm0 rfl rfl ?_)
      refine o1 rfl (o_fa (fd := ⟨ "Code", 5, 3, false, "", "", 17⟩) rfl rfl rfl rfl rfl ?_)
      refine o1 rfl (o_ld (b := b821) (off := 3) (v := (.int .u8 p1.Code)) rfl rm0 rfl rfl ?_)
      replace h := bsome h
      obtain ⟨d5, h5, h⟩ := h
      refine o1 rfl (o_call has96 rfl (c_vitrineref12_Put hg X (⟨p0.Model, p0.Alt, p0.Size, p0.L, p0.Cursor⟩ : Vvitrineref12_Space) b0 s0 p1.N p1.Code _ h5) (pc rm1 (pc rm1 (pc rm1 pn))) ?_)
      refine o_end ?_
      obtain rfl := Option.some.inj h
      exact ej () s0 trivial sn (kc rm0 (kc rm0 (kc rm0 (kd kr))))
     ·replace h := cond_f hb836 h
      refine c_seq (c_region ?_)
      refine o1 rfl (o_p (v := (.bool ((Int.tmod p1.Do 6) == 3))) rfl ?_)
      refine o1 rfl (o_p rfl (o_end (e_seq ?_)))
      refine c_cond (b := ((Int.tmod p1.Do 6) == 3)) rfl (fun hb864 => ?_) (fun hb864 => ?_)
      ·replace h := cond_t hb864 h
       refine c_region (o1 rfl (o_p rfl ?_))
       refine o1 rfl (o_fa (fd := ⟨ "N", 3, 1, false, "", "", 8⟩) rfl rfl rfl rfl rfl ?_)
       refine o1 rfl (o_ld (b := b821) (off := 1) (v := (.int .i64 p1.N)) rfl rm0 rfl rfl ?_)
       refine o1 rfl (o_fa (fd := ⟨ "Code", 5, 3, false, "", "", 17⟩) rfl rfl rfl rfl rfl ?_)
       refine o1 rfl (o_ld (b := b821) (off := 3) (v := (.int .u8 p1.Code)) rfl rm0 rfl rfl ?_)
       refine o1 rfl (o_build (fs := [⟨ "Char", 5, 0, false, "", "", 0⟩, ⟨ "Attr", 4, 1, false, "", "", 1⟩, ⟨ "FA", 5, 2, false, "", "", 2⟩, ⟨ "High", 5, 3, false, "", "", 3⟩, ⟨ "Color", 5, 4, false, "", "", 4⟩, ⟨ "Set", 5, 5, false, "", "", 5⟩]) (ps := [(0, 1), (1, 1), (2, 1), (3, 1), (4, 1), (5, 1)]) (cs := [(.int .u8 0), (.bool true), (.int .u8 p1.Code), (.int .u8 0), (.int .u8 0), (.int .u8 0)]) rfl rfl rfl rfl rfl ?_)
       replace h := bsome h
       obtain ⟨d6, h6, h⟩ := h
       refine o1 rfl (o_call has97 rfl (c_vitrineref12_Set hg X (⟨p0.Model, p0.Alt, p0.Size, p0.L, p0.Cursor⟩ : Vvitrineref12_Space) b0 s0 p1.N (⟨0, true, p1.Code, 0, 0, 0⟩ : Vapi_Cell) _ h6) (pc rm1 (pc rm1 (pc rm1 pn))) ?_)
       refine o_end ?_
       obtain rfl := Option.some.inj h
       exact ej () s0 trivial sn (kc rm0 (kc rm0 (kc rm0 (kd kr))))
      ·replace h := cond_f hb864 h
       refine c_seq (c_region ?_)
       refine o1 rfl (o_p (v := (.bool ((Int.tmod p1.Do 6) == 4))) rfl ?_)
       refine o1 rfl (o_p rfl (o_end (e_seq ?_)))
       refine c_cond (b := ((Int.tmod p1.Do 6) == 4)) rfl (fun hb866 => ?_) (fun hb866 => ?_)
       ·replace h := cond_t hb866 h
        refine c_region (o1 rfl (o_p rfl ?_))
        refine o1 rfl (o_fa (fd := ⟨ "N", 3, 1, false, "", "", 8⟩) rfl rfl rfl rfl rfl ?_)
        refine o1 rfl (o_ld (b := b821) (off := 1) (v := (.int .i64 p1.N)) rfl rm0 rfl rfl ?_)
        refine o1 rfl (o_fa (fd := ⟨ "C", 80, 4, false, "", "", 18⟩) rfl rfl rfl rfl rfl ?_)
        refine o1 rfl (o_ld (b := b821) (off := 4) (v := (.agg (List.toArray [(.int .u8 p1.C.Char), (.bool p1.C.Attr), (.int .u8 p1.C.FA), (.int .u8 p1.C.High), (.int .u8 p1.C.Color), (.int .u8 p1.C.f_Set)]))) rfl rm0 rfl rfl ?_)
        replace h := bsome h
        obtain ⟨d7, h7, h⟩ := h
        refine o1 rfl (o_call has97 rfl (c_vitrineref12_Set hg X (⟨p0.Model, p0.Alt, p0.Size, p0.L, p0.Cursor⟩ : Vvitrineref12_Space) b0 s0 p1.N p1.C _ h7) (pc rm1 (pc rm1 (pc rm1 pn))) ?_)
        refine o_end ?_
        obtain rfl := Option.some.inj h
        exact ej () s0 trivial sn (kc rm0 (kc rm0 (kc rm0 (kd kr))))
       ·replace h := cond_f hb866 h
        refine c_seq (c_region ?_)
        refine o1 rfl (o_fa (fd := ⟨ "Text", 46, 10, false, "", "", 24⟩) rfl rfl rfl rfl rfl ?_)
        refine o1 rfl (o_ld (b := b821) (off := 10) (v := (SV.val s1)) rfl rm0 rfl rfl ?_)
        refine o1 rfl (o_len (s := s1) rfl rfl rfl rm1 q0 ?_)
        refine o1 rfl (o_p rfl (o_end (e_seq ?_)))
        replace h := bsome h
        obtain ⟨d8, h, hk8⟩ := h
        refine cj (D := Unit) (ι := Unit) (fun _ i8 => True) (fun _ i8 => []) (fun _ i8 => X :: blk b0 (.cells (List.toArray [(.int .i64 d8.1), (.bool d8.2.1), (.int .i64 d8.2.2.1), (.int .i64 d8.2.2.2.1), (SV.val s0), (.int .i64 d8.2.2.2.2.2)]) 40 (0, 0)) :: slO s0 80 en_Vapi_Cell d8.2.2.2.2.1 :: R) ?_ ?_
        ·refine c_block ?_
         refine c_loop (l_sub (sc rfl (sc rfl (sc rfl (sc rfl (sc rfl sn))))) (l_keep (kc rm1 (kc rm0 (kc rm0 (kc rm0 kr)))) (lf (X := Int × Int × Bool × Int × Int × (List Vapi_Cell) × Int) (ι := Unit) (fun k x => vitrineref12_Do_l9 p1 k x) _ (fun x9 i9 => True) (fun x9 i9 => [(12, (.int .i64 x9.1)), (11, (.int .i64 (p1.Text.length : Int))), (10, (SV.val s1)), (3, (.pointer (some ⟨b821, 0, none⟩))), (0, (.pointer (some ⟨b0, 0, none⟩)))]) (fun x9 i9 => X :: blk b821 (.cells (List.toArray [(.int .u8 p1.Do), (.int .i64 p1.N), (.bool p1.On), (.int .u8 p1.Code), (.int .u8 p1.C.Char), (.bool p1.C.Attr), (.int .u8 p1.C.FA), (.int .u8 p1.C.High), (.int .u8 p1.C.Color), (.int .u8 p1.C.f_Set), (SV.val s1)]) 92 (0, 0)) :: blk b0 (.cells (List.toArray [(.int .i64 x9.2.1), (.bool x9.2.2.1), (.int .i64 x9.2.2.2.1), (.int .i64 x9.2.2.2.2.1), (SV.val s0), (.int .i64 x9.2.2.2.2.2.2)]) 40 (0, 0)) :: slO s0 80 en_Vapi_Cell x9.2.2.2.2.2.1 :: R) (fun _ => rfl) ?_ fuel (0, p0.Model, p0.Alt, p0.Size.Rows, p0.Size.Cols, p0.L, p0.Cursor) () trivial h)))
         clear h
         rintro k9 ih9 x9 i9 _ h
         rw [vitrineref12_Do_l9.eq_2] at h
         refine l_round (c_seq (c_region ?_))
         refine o1 rfl (o_p (v := (.bool (decide (x9.1 < (p1.Text.length : Int))))) rfl ?_)
         refine o_end (e_seq (c_seq ?_))
         refine c_cond (b := (decide (x9.1 < (p1.Text.length : Int)))) rfl (fun hb878 => ?_) (fun hb878 => ?_)
         ·replace h := cond_t hb878 h
          refine c_skip (e_seq (c_seq (c_block (c_seq (c_region ?_)))))
          refine o1 rfl (o_p rfl ?_)
          replace h := gsome h
          obtain ⟨hg879, h⟩ := h
          refine o1 rfl (o_ix (s := s1) (n := x9.1) (e := (enI .u8)) rfl rfl rfl rfl rfl rfl rm0 q0 hg879 ?_)
          refine o1 rfl (o_ldE (s := s1) (e := (enI .u8)) (n := x9.1) (f := 0) (v := (.int .u8 (rd p1.Text x9.1))) rfl rm0 q0 hg879 rfl rfl ?_)
          refine o1 rfl (o_p rfl (o1 rfl (o_p rfl (o_end (e_seq (c_seq (c_region ?_)))))))
          refine o1 rfl (o_p rfl ?_)
          refine o1 rfl (o_p (v := (.bool (decide (x9.1 < 200)))) rfl ?_)
          refine o_end (e_seq ?_)
          replace h := bsome h
          obtain ⟨d12, h, hk12⟩ := h
          refine cj (D := Unit) (ι := Unit) (fun _ i12 => True) (fun _ i12 => [(12, (.int .i64 x9.1)), (11, (.int .i64 (p1.Text.length : Int))), (10, (SV.val s1)), (3, (.pointer (some ⟨b821, 0, none⟩))), (0, (.pointer (some ⟨b0, 0, none⟩)))]) (fun _ i12 => X :: blk b821 (.cells (List.toArray [(.int .u8 p1.Do), (.int .i64 p1.N), (.bool p1.On), (.int .u8 p1.Code), (.int .u8 p1.C.Char), (.bool p1.C.Attr), (.int .u8 p1.C.FA), (.int .u8 p1.C.High), (.int .u8 p1.C.Color), (.int .u8 p1.C.f_Set), (SV.val s1)]) 92 (0, 0)) :: blk b0 (.cells (List.toArray [(.int .i64 d12.1), (.bool d12.2.1), (.int .i64 d12.2.2.1), (.int .i64 d12.2.2.2.1), (SV.val s0), (.int .i64 d12.2.2.2.2.2)]) 40 (0, 0)) :: slO s0 80 en_Vapi_Cell d12.2.2.2.2.1 :: R) ?_ ?_
          ·refine c_cond (b := (decide (x9.1 < 200))) rfl (fun hb880 => ?_) (fun hb880 => ?_)
           ·replace h := cond_t hb880 h
            refine c_region (o1 rfl (o_p rfl (o1 rfl (o_p rfl ?_))))
            refine o1 rfl (o_fa (fd := ⟨ "N", 3, 1, false, "", "", 8⟩) rfl rfl rfl rfl rfl ?_)
            refine o1 rfl (o_ld (b := b821) (off := 1) (v := (.int .i64 p1.N)) rfl rm1 rfl rfl ?_)
            replace h := bsome h
            obtain ⟨d13, h13, h⟩ := h
            refine o1 rfl (o_call has32 rfl (c_vitrineref12_Wrap hg X (⟨x9.2.1, x9.2.2.1, (⟨x9.2.2.2.1, x9.2.2.2.2.1⟩ : Vvitrineref04_Size), x9.2.2.2.2.2.1, x9.2.2.2.2.2.2⟩ : Vvitrineref12_Space) b0 s0 p1.N _ h13) (pc rm0 (pc rm1 (pc rm1 pn))) ?_)
            refine o1 rfl (o_p rfl ?_)
            refine o1 rfl (o_p (v := (.int .i64 (w64 (d13 + x9.1)))) rfl ?_)
            refine o1 rfl (o_p rfl ?_)
            replace h := bsome h
            obtain ⟨d14, h14, h⟩ := h
            refine o1 rfl (o_call has96 rfl (c_vitrineref12_Put hg X (⟨x9.2.1, x9.2.2.1, (⟨x9.2.2.2.1, x9.2.2.2.2.1⟩ : Vvitrineref04_Size), x9.2.2.2.2.2.1, x9.2.2.2.2.2.2⟩ : Vvitrineref12_Space) b0 s0 (w64 (d13 + x9.1)) (rd p1.Text x9.1) _ h14) (pc rm0 (pc rm0 (pc rm0 pn))) ?_)
            refine o_end ?_
            obtain rfl := Option.some.inj h
            exact ej () () trivial (sc rfl (sc rfl (sc rfl (sc rfl (sc rfl sn))))) (kc rm0 (kc rm2 (kc rm0 (kc rm0 kr))))
           ·replace h := cond_f hb880 h
            refine c_skip ?_
            obtain rfl := Option.some.inj h
            exact ej () () trivial (sc rfl (sc rfl (sc rfl (sc rfl (sc rfl sn))))) (kc rm0 (kc rm0 (kc rm0 (kc rm0 kr))))
          ·rintro _ i12 _
           replace h := hk12
           clear hk12
           refine e_blk (e_seq (c_region ?_))
           refine o1 rfl (o_p (v := (.int .i64 (w64 (x9.1 + 1)))) rfl ?_)
           refine o1 rfl (o_p rfl (o_end ?_))
           exact e_loop (l_sub (sc rfl (sc rfl (sc rfl (sc rfl (sc rfl sn))))) (l_keep (kc rm0 (kc rm0 (kc rm0 (kc rm0 kr)))) (ih9 (w64 (x9.1 + 1), d12.1, d12.2.1, d12.2.2.1, d12.2.2.2.1, d12.2.2.2.2.1, d12.2.2.2.2.2) () trivial h)))
         ·replace h := cond_f hb878 h
          refine c_exit (e_then_exit (e_then_exit (e_blk_exit ?_)))
          obtain rfl := Option.some.inj h
          exact ej () () trivial sn (kc rm0 (kc rm1 (kc rm1 (kd kr))))
        ·rintro _ i8 _
         replace h := hk8
         clear hk8
         obtain rfl := Option.some.inj h
         exact ej () s0 trivial sn (kc rm0 (kc rm0 (kc rm0 kr)))
  ·rintro _ i2 _
   replace h := hk2
   clear hk2
   refine e_blk ?_
   obtain rfl := Option.some.inj h
   exact ej () i2 trivial sn (kc rm0 (kc rm0 (kc rm0 kr)))
 ·rintro _ i1 _
  replace h := hk1
  clear hk1
  refine e_fall ?_
  refine r_endt rfl rfl (kc rm0 (kc rm0 (kc rm0 kr))) ?_
  obtain rfl := Option.some.inj h
  exact hk i1

end Go.Vt
