/- The walks: each function does what its model says. No conditions. -/
import Derived.Test.YtmemmonmlbfopaaDoorVwWNb
set_option linter.unusedVariables false
set_option maxRecDepth 100000
set_option maxHeartbeats 4000000
namespace Go.Vt
open Go.Proofs
theorem c_write_Orders {g : Gw} (hg : GK g) (X : HP) (p0 : Vspace_Space) (b0 : Nat) (s0 : SV) (p1 : List Int) (s1 : SV) (q0 : Rd X s1 5 (enI .u8) p1) (p2 : Int) (r : Vspace_Space × Int × Int × Int) (h : m_write_Orders p0 p1 p2 = some r) : Tri env g 15 (List.toArray [(.pointer (some ⟨b0, 0, none⟩)), (SV.val s1), (.int .i64 p2)]) [X, blk b0 (.cells (List.toArray [(.int .i64 p0.model), (.bool p0.alternate), (.int .i64 p0.size.Rows), (.int .i64 p0.size.Cols), (SV.val s0), (.int .i64 p0.cursor), (.int .i64 p0.attrs)]) 76 (0, 0)), slO s0 42 en_Vapi_Cell p0.cells] (fun K R => ∀ (i0 : HP), (Ext X i0) → K (.tuple (List.toArray [(.int .i64 r.2.1), (.int .i64 r.2.2.1), (.int .i64 r.2.2.2)])) (i0 :: blk b0 (.cells (List.toArray [(.int .i64 r.1.model), (.bool r.1.alternate), (.int .i64 r.1.size.Rows), (.int .i64 r.1.size.Cols), (SV.val s0), (.int .i64 r.1.cursor), (.int .i64 r.1.attrs)]) 76 (0, 0)) :: slO s0 42 en_Vapi_Cell r.1.cells :: R)) := by
  refine tri_of (fn := Tryd.f15) (N := 57) Tryd.func15 rfl rfl rfl ?_
  intro R K hk
  unfold m_write_Orders at h
  change GC _ none _ [] [(0, (.pointer (some ⟨b0, 0, none⟩))), (1, (SV.val s1)), (2, (.int .i64 p2))] (X :: blk b0 (.cells (List.toArray [(.int .i64 p0.model), (.bool p0.alternate), (.int .i64 p0.size.Rows), (.int .i64 p0.size.Cols), (SV.val s0), (.int .i64 p0.cursor), (.int .i64 p0.attrs)]) 76 (0, 0)) :: slO s0 42 en_Vapi_Cell p0.cells :: R) g _ _
  refine c_seq ?_
  refine c_region ?_
  refine o1 rfl (o_alloc (cs := [(.int .i64 0)]) rfl rfl (fun b144 => ?_))
  refine o1 rfl (o_alloc (cs := [(.int .i64 0)]) rfl rfl (fun b146 => ?_))
  refine o1 rfl (o_alloc (cs := [(.int .i64 0)]) rfl rfl (fun b148 => ?_))
  refine o_end ?_
  refine e_seq ?_
  refine c_seq ?_
  refine c_seq ?_
  refine c_region ?_
  refine o1 rfl (o_p rfl ?_)
  refine o1 rfl (o_p (v := (.bool false)) rfl ?_)
  refine o_end ?_
  refine e_seq ?_
  refine c_cond_f rfl rfl ?_
  refine c_skip ?_
  refine e_seq ?_
  refine c_seq ?_
  refine c_region ?_
  refine o1 rfl (o_p rfl ?_)
  refine o1 rfl (o_p rfl ?_)
  replace h := bsome h
  obtain ⟨d1, h1, h⟩ := h
  refine o1 rfl (o_call has39 rfl (c_space_Space_Size hg X p0 b0 s0 _ h1) (pc rm3 (pc rm3 (pc rm3 pn))) ?_)
  refine o1 rfl (o_p rfl ?_)
  replace h := bsome h
  obtain ⟨d2, h2, h⟩ := h
  refine o1 rfl (o_call has35 rfl (c_addr_Size_Wrap hg X (⟨d1.Rows, d1.Cols⟩ : Vaddr_Size) p2 _ h2) (pc rm0 pn) ?_)
  refine o1 rfl (o_build (fs := [⟨ "s", 24, 0, false, "", "vitrine/write", 0⟩, ⟨ "n", 3, 1, false, "", "vitrine/write", 8⟩, ⟨ "look", 42, 2, false, "", "vitrine/write", 16⟩, ⟨ "texts", 4, 8, false, "", "vitrine/write", 22⟩]) (ps := [(0, 1), (1, 1), (2, 6), (8, 1)]) (cs := [(.pointer (some ⟨b0, 0, none⟩)), (.int .i64 d2), (.int .u8 0), (.bool false), (.int .u8 0), (.int .u8 0), (.int .u8 0), (.int .u8 0), (.bool false)]) rfl rfl rfl rfl rfl ?_)
  refine o1 rfl (o_box (cs := [(.pointer (some ⟨b0, 0, none⟩)), (.int .i64 d2), (.int .u8 0), (.bool false), (.int .u8 0), (.int .u8 0), (.int .u8 0), (.int .u8 0), (.bool false)]) rfl rfl (fun b150 => ?_))
  refine o1 rfl (o_alloc (cs := [(.pointer none)]) rfl rfl (fun b152 => ?_))
  refine o0 (o_st (b := b152) (off := 0) (vs := [(.pointer (some ⟨b150, 0, none⟩))]) (cs' := [(.pointer (some ⟨b150, 0, none⟩))]) rfl rfl rp0 rfl rfl rfl rfl rfl rfl ?_)
  refine o_end ?_
  refine e_seq ?_
  refine c_seq ?_
  refine c_region ?_
  refine o1 rfl (o_alloc (cs := [(.int .i64 0)]) rfl rfl (fun b154 => ?_))
  refine o0 (o_st (b := b154) (off := 0) (vs := [(.int .i64 0)]) (cs' := [(.int .i64 0)]) rfl rfl rp0 rfl rfl rfl rfl rfl rfl ?_)
  refine o_end ?_
  refine e_seq ?_
  refine c_seq ?_
  refine c_seq ?_
  refine c_region ?_
  refine o1 rfl (o_p rfl ?_)
  replace h := bsome h
  obtain ⟨d3, h3, h⟩ := h
  refine o1 rfl (o_call has40 rfl (c_order_Parse hg X p1 s1 q0 _ h3) (pc rm3 pn) (fun i3 => ?_))
  refine o_end ?_
  refine e_seq ?_
  replace h := jn_some h
  obtain ⟨y4, h, hk4⟩ := h
  refine cjd (D := Int × Int × Bool × Int × Int × (List Vapi_Cell) × Int × Int × Int × Int × Bool × Int × Int × Int × Int × Bool) (ι := HP × Nat) (fun d4 i4 => [mk i4.2]) (fun d4 i4 => (y4 = Sum.inl d4) ∧ (Ext X i4.1)) (fun d4 i4 => [(10, (.pointer (some ⟨b154, 0, none⟩))), (9, (.pointer (some ⟨b152, 0, none⟩))), (8, (.pointer (some ⟨b148, 0, none⟩))), (7, (.pointer (some ⟨b146, 0, none⟩))), (6, (.pointer (some ⟨b144, 0, none⟩)))]) (fun d4 i4 => i4.1 :: blk b154 (.cells (List.toArray [(.int .i64 d4.1)]) 3 (0, 0)) :: blk b152 (.cells (List.toArray [(.pointer (some ⟨b150, 0, none⟩))]) 83 (0, 0)) :: blk b148 (.cells (List.toArray [(.int .i64 0)]) 31 (0, 0)) :: blk b146 (.cells (List.toArray [(.int .i64 0)]) 3 (0, 0)) :: blk b144 (.cells (List.toArray [(.int .i64 0)]) 3 (0, 0)) :: blk b0 (.cells (List.toArray [(.int .i64 d4.2.1), (.bool d4.2.2.1), (.int .i64 d4.2.2.2.1), (.int .i64 d4.2.2.2.2.1), (SV.val s0), (.int .i64 d4.2.2.2.2.2.2.1), (.int .i64 d4.2.2.2.2.2.2.2.1)]) 76 (0, 0)) :: blk b150 (.cells (List.toArray [(.pointer (some ⟨b0, 0, none⟩)), (.int .i64 d4.2.2.2.2.2.2.2.2.1), (.int .u8 d4.2.2.2.2.2.2.2.2.2.1), (.bool d4.2.2.2.2.2.2.2.2.2.2.1), (.int .u8 d4.2.2.2.2.2.2.2.2.2.2.2.1), (.int .u8 d4.2.2.2.2.2.2.2.2.2.2.2.2.1), (.int .u8 d4.2.2.2.2.2.2.2.2.2.2.2.2.2.1), (.int .u8 d4.2.2.2.2.2.2.2.2.2.2.2.2.2.2.1), (.bool d4.2.2.2.2.2.2.2.2.2.2.2.2.2.2.2)]) 86 (0, 0)) :: slO s0 42 en_Vapi_Cell d4.2.2.2.2.2.1 :: blk i4.2 (.deferred (some [])) :: R) ?_ ?_
  · refine c_block ?_
    replace h := jn_some h
    obtain ⟨y5, h, hk5⟩ := h
    refine cjd (D := Int × Int × Bool × Int × Int × (List Vapi_Cell) × Int × Int × Int × Int × Bool × Int × Int × Int × Int × Bool) (ι := HP × Nat) (fun d5 i5 => [mk i5.2]) (fun d5 i5 => (y5 = Sum.inl d5) ∧ (Ext X i5.1)) (fun d5 i5 => [(10, (.pointer (some ⟨b154, 0, none⟩))), (9, (.pointer (some ⟨b152, 0, none⟩))), (8, (.pointer (some ⟨b148, 0, none⟩))), (7, (.pointer (some ⟨b146, 0, none⟩))), (6, (.pointer (some ⟨b144, 0, none⟩)))]) (fun d5 i5 => i5.1 :: blk b154 (.cells (List.toArray [(.int .i64 d5.1)]) 3 (0, 0)) :: blk b152 (.cells (List.toArray [(.pointer (some ⟨b150, 0, none⟩))]) 83 (0, 0)) :: blk b148 (.cells (List.toArray [(.int .i64 0)]) 31 (0, 0)) :: blk b146 (.cells (List.toArray [(.int .i64 0)]) 3 (0, 0)) :: blk b144 (.cells (List.toArray [(.int .i64 0)]) 3 (0, 0)) :: blk b0 (.cells (List.toArray [(.int .i64 d5.2.1), (.bool d5.2.2.1), (.int .i64 d5.2.2.2.1), (.int .i64 d5.2.2.2.2.1), (SV.val s0), (.int .i64 d5.2.2.2.2.2.2.1), (.int .i64 d5.2.2.2.2.2.2.2.1)]) 76 (0, 0)) :: blk b150 (.cells (List.toArray [(.pointer (some ⟨b0, 0, none⟩)), (.int .i64 d5.2.2.2.2.2.2.2.2.1), (.int .u8 d5.2.2.2.2.2.2.2.2.2.1), (.bool d5.2.2.2.2.2.2.2.2.2.2.1), (.int .u8 d5.2.2.2.2.2.2.2.2.2.2.2.1), (.int .u8 d5.2.2.2.2.2.2.2.2.2.2.2.2.1), (.int .u8 d5.2.2.2.2.2.2.2.2.2.2.2.2.2.1), (.int .u8 d5.2.2.2.2.2.2.2.2.2.2.2.2.2.2.1), (.bool d5.2.2.2.2.2.2.2.2.2.2.2.2.2.2.2)]) 86 (0, 0)) :: slO s0 42 en_Vapi_Cell d5.2.2.2.2.2.1 :: blk i5.2 (.deferred (some [])) :: R) ?_ ?_
    · refine c_range' (fn := Tryd.f63) (M := 32) rfl has63 Tryd.func63 rfl rfl rfl (fun l6 D6 a6 fc6 rc6 hrc6 ht6 => ?_)
      change GC _ none _ [] [(0, (.func (.yield l6) #[] #[])), (1, (.pointer (some ⟨i3, 0, none⟩)))] (blk l6 (.loop (rc6 .ready none)) :: blk D6 (.deferred (some [])) :: X :: blk i3 (.cells (List.toArray [(SV.val s1)]) 28 (0, 0)) :: blk b154 (.cells (List.toArray [(.int .i64 0)]) 3 (0, 0)) :: blk b152 (.cells (List.toArray [(.pointer (some ⟨b150, 0, none⟩))]) 83 (0, 0)) :: blk b150 (.cells (List.toArray [(.pointer (some ⟨b0, 0, none⟩)), (.int .i64 d2), (.int .u8 0), (.bool false), (.int .u8 0), (.int .u8 0), (.int .u8 0), (.int .u8 0), (.bool false)]) 86 (0, 0)) :: blk b0 (.cells (List.toArray [(.int .i64 p0.model), (.bool p0.alternate), (.int .i64 p0.size.Rows), (.int .i64 p0.size.Cols), (SV.val s0), (.int .i64 p0.cursor), (.int .i64 p0.attrs)]) 76 (0, 0)) :: slO s0 42 en_Vapi_Cell p0.cells :: blk b148 (.cells (List.toArray [(.int .i64 0)]) 31 (0, 0)) :: blk b146 (.cells (List.toArray [(.int .i64 0)]) 3 (0, 0)) :: blk b144 (.cells (List.toArray [(.int .i64 0)]) 3 (0, 0)) :: R) g _ _
      refine c_seq ?_
      refine c_region ?_
      refine o1 rfl (o_ld (b := i3) (off := 0) (v := (SV.val s1)) rfl rm3 rfl rfl ?_)
      refine o1 rfl (o_build (fs := [⟨ "p", 28, 0, false, "", "vitrine/order", 0⟩, ⟨ "code", 31, 1, false, "", "vitrine/order", 24⟩]) (ps := [(0, 1), (1, 1)]) (cs := [(SV.val s1), (.int .i64 0)]) rfl rfl rfl rfl rfl ?_)
      refine o1 rfl (o_box (cs := [(SV.val s1), (.int .i64 0)]) rfl rfl (fun b159 => ?_))
      refine o1 rfl (o_p rfl ?_)
      refine o_end ?_
      refine e_seq ?_
      replace h := jn_some h
      obtain ⟨y7, h, hk7⟩ := h
      refine cj (D := Int × Bool × Int × Int × (List Vapi_Cell) × Int × Int × Int × Int × Int × Bool × Int × Int × Int × Int × Bool) (ι := HP) (fun d7 i7 => (y7 = Sum.inl d7) ∧ (Rd i7 s1 5 (enI .u8) p1) ∧ (Ext X i7)) (fun d7 i7 => []) (fun d7 i7 => i7 :: blk b0 (.cells (List.toArray [(.int .i64 d7.1), (.bool d7.2.1), (.int .i64 d7.2.2.1), (.int .i64 d7.2.2.2.1), (SV.val s0), (.int .i64 d7.2.2.2.2.2.1), (.int .i64 d7.2.2.2.2.2.2.1)]) 76 (0, 0)) :: blk i3 (.cells (List.toArray [(SV.val s1)]) 28 (0, 0)) :: blk b154 (.cells (List.toArray [(.int .i64 d7.2.2.2.2.2.2.2.1)]) 3 (0, 0)) :: blk b152 (.cells (List.toArray [(.pointer (some ⟨b150, 0, none⟩))]) 83 (0, 0)) :: blk b150 (.cells (List.toArray [(.pointer (some ⟨b0, 0, none⟩)), (.int .i64 d7.2.2.2.2.2.2.2.2.1), (.int .u8 d7.2.2.2.2.2.2.2.2.2.1), (.bool d7.2.2.2.2.2.2.2.2.2.2.1), (.int .u8 d7.2.2.2.2.2.2.2.2.2.2.2.1), (.int .u8 d7.2.2.2.2.2.2.2.2.2.2.2.2.1), (.int .u8 d7.2.2.2.2.2.2.2.2.2.2.2.2.2.1), (.int .u8 d7.2.2.2.2.2.2.2.2.2.2.2.2.2.2.1), (.bool d7.2.2.2.2.2.2.2.2.2.2.2.2.2.2.2)]) 86 (0, 0)) :: blk b148 (.cells (List.toArray [(.int .i64 0)]) 31 (0, 0)) :: blk b146 (.cells (List.toArray [(.int .i64 0)]) 3 (0, 0)) :: blk b144 (.cells (List.toArray [(.int .i64 0)]) 3 (0, 0)) :: slO s0 42 en_Vapi_Cell d7.2.2.2.2.1 :: blk l6 (.loop (rc6 .ready none)) :: blk D6 (.deferred (some [])) :: R) ?_ ?_
      · refine c_block ?_
        refine c_loop (l_sub (sc rfl (sc rfl sn)) (l_keep (kc rm3 (kc rm0 (kc rm6 (kc rm2 (kc rm2 (kc rm2 (kc rm2 (kc rm3 (kc rm3 (kc rm3 (kc rm2 (kc rm0 (kc rm0 kr))))))))))))) (lf (X := (List Int) × Int × Int × Bool × Int × Int × (List Vapi_Cell) × Int × Int × Int × Int × Int × Bool × Int × Int × Int × Int × Bool) (ι := HP × SV) (fun k x => write_Orders_l8 k x) _ (fun x8 i8 => (Rd i8.1 i8.2 5 (enI .u8) x8.1) ∧ (Rd i8.1 s1 5 (enI .u8) p1) ∧ (Ext X i8.1)) (fun x8 i8 => [(3, (.pointer (some ⟨b159, 0, none⟩))), (0, (.func (.yield l6) #[] #[]))]) (fun x8 i8 => i8.1 :: blk b159 (.cells (List.toArray [(SV.val i8.2), (.int .i64 x8.2.1)]) 122 (0, 0)) :: blk b0 (.cells (List.toArray [(.int .i64 x8.2.2.1), (.bool x8.2.2.2.1), (.int .i64 x8.2.2.2.2.1), (.int .i64 x8.2.2.2.2.2.1), (SV.val s0), (.int .i64 x8.2.2.2.2.2.2.2.1), (.int .i64 x8.2.2.2.2.2.2.2.2.1)]) 76 (0, 0)) :: blk i3 (.cells (List.toArray [(SV.val s1)]) 28 (0, 0)) :: blk b154 (.cells (List.toArray [(.int .i64 x8.2.2.2.2.2.2.2.2.2.1)]) 3 (0, 0)) :: blk b152 (.cells (List.toArray [(.pointer (some ⟨b150, 0, none⟩))]) 83 (0, 0)) :: blk b150 (.cells (List.toArray [(.pointer (some ⟨b0, 0, none⟩)), (.int .i64 x8.2.2.2.2.2.2.2.2.2.2.1), (.int .u8 x8.2.2.2.2.2.2.2.2.2.2.2.1), (.bool x8.2.2.2.2.2.2.2.2.2.2.2.2.1), (.int .u8 x8.2.2.2.2.2.2.2.2.2.2.2.2.2.1), (.int .u8 x8.2.2.2.2.2.2.2.2.2.2.2.2.2.2.1), (.int .u8 x8.2.2.2.2.2.2.2.2.2.2.2.2.2.2.2.1), (.int .u8 x8.2.2.2.2.2.2.2.2.2.2.2.2.2.2.2.2.1), (.bool x8.2.2.2.2.2.2.2.2.2.2.2.2.2.2.2.2.2)]) 86 (0, 0)) :: blk b148 (.cells (List.toArray [(.int .i64 0)]) 31 (0, 0)) :: blk b146 (.cells (List.toArray [(.int .i64 0)]) 3 (0, 0)) :: blk b144 (.cells (List.toArray [(.int .i64 0)]) 3 (0, 0)) :: slO s0 42 en_Vapi_Cell x8.2.2.2.2.2.2.1 :: blk l6 (.loop (rc6 .ready none)) :: blk D6 (.deferred (some [])) :: R) (fun _ => rfl) ?_ fuel (p1, 0, p0.model, p0.alternate, p0.size.Rows, p0.size.Cols, p0.cells, p0.cursor, p0.attrs, 0, d2, 0, false, 0, 0, 0, 0, false) (X, s1) ⟨q0, q0, (Ext.refl _)⟩ h)))
        clear h
        rintro k8 ih8 x8 i8 ⟨f8_0, f8_1, f8_2⟩ h
        rw [write_Orders_l8.eq_2] at h
        refine l_round ?_
        refine c_seq ?_
        refine c_seq ?_
        refine c_region ?_
        refine o1 rfl (o_p rfl ?_)
        refine o1 rfl (o_p rfl ?_)
        refine o1 rfl (o_fa (fd := ⟨ "p", 28, 0, false, "", "vitrine/order", 0⟩) rfl rfl rfl rfl rfl ?_)
        refine o1 rfl (o_ld (b := b159) (off := 0) (v := (SV.val i8.2)) rfl rm1 rfl rfl ?_)
        refine o1 rfl (o_len (s := i8.2) rfl rfl rfl rm0 f8_0 ?_)
        refine o1 rfl (o_p (v := (.bool (decide ((x8.1.length : Int) > 0)))) rfl ?_)
        refine o_end ?_
        refine e_seq ?_
        refine c_cond (b := (decide ((x8.1.length : Int) > 0))) rfl (fun hb592 => ?_) (fun hb592 => ?_)
        · replace h := cond_t hb592 h
          refine c_skip ?_
          refine e_seq ?_
          refine c_block ?_
          refine c_seq ?_
          refine c_region ?_
          refine o1 rfl (o_p rfl ?_)
          replace h := bsome h
          obtain ⟨d10, h10, h⟩ := h
          refine o1 rfl (o_call has64 rfl (c_order_scanner_op hg i8.1 (⟨x8.1, x8.2.1⟩ : Vorder_scanner) b159 i8.2 f8_0 _ h10) (pc rm0 (pc rm0 pn)) (fun i10 f10_0 f10_1 => ?_))
          refine o1 rfl (o_alloc (cs := [(.int .i64 0), (.int .i64 0), (.int .u8 0), (.bool false), (.int .u8 0), (SV.val SV.nil), (SV.val SV.nil)]) rfl rfl (fun b595 => ?_))
          refine o0 (o_st (b := b595) (off := 0) (vs := [(.int .i64 d10.2.Kind), (.int .i64 d10.2.Addr), (.int .u8 d10.2.Code), (.bool d10.2.Graph), (.int .u8 d10.2.FA), (SV.val i10.2.2.1), (SV.val i10.2.2.2)]) (cs' := [(.int .i64 d10.2.Kind), (.int .i64 d10.2.Addr), (.int .u8 d10.2.Code), (.bool d10.2.Graph), (.int .u8 d10.2.FA), (SV.val i10.2.2.1), (SV.val i10.2.2.2)]) rfl rfl rp0 rfl rfl rfl rfl rfl rfl ?_)
          refine o_end ?_
          refine e_seq ?_
          refine c_seq ?_
          refine c_seq ?_
          refine c_region ?_
          refine o1 rfl (o_p rfl ?_)
          refine o1 rfl (o_p rfl ?_)
          refine o1 rfl (o_fa (fd := ⟨ "code", 31, 1, false, "", "vitrine/order", 24⟩) rfl rfl rfl rfl rfl ?_)
          refine o1 rfl (o_ld (b := b159) (off := 1) (v := (.int .i64 d10.1.code)) rfl rm2 rfl rfl ?_)
          refine o1 rfl (o_p (v := (.bool (d10.1.code != 0))) rfl ?_)
          refine o_end ?_
          refine e_seq ?_
          refine c_cond (b := (d10.1.code != 0)) rfl (fun hb597 => ?_) (fun hb597 => ?_)
          · replace h := cond_t hb597 h
            refine c_seq ?_
            refine c_region ?_
            refine o1 rfl (o_p rfl ?_)
            refine o1 rfl (o_build (fs := [⟨ "Kind", 3, 0, false, "", "", 0⟩, ⟨ "Addr", 3, 1, false, "", "", 8⟩, ⟨ "Code", 5, 2, false, "", "", 16⟩, ⟨ "Graph", 4, 3, false, "", "", 17⟩, ⟨ "FA", 5, 4, false, "", "", 18⟩, ⟨ "Pairs", 90, 5, false, "", "", 24⟩, ⟨ "Text", 28, 6, false, "", "", 48⟩]) (ps := [(0, 1), (1, 1), (2, 1), (3, 1), (4, 1), (5, 1), (6, 1)]) (cs := [(.int .i64 0), (.int .i64 0), (.int .u8 0), (.bool false), (.int .u8 0), (SV.val SV.nil), (SV.val SV.nil)]) rfl rfl rfl rfl rfl ?_)
            refine o1 rfl (o_p rfl ?_)
            refine o1 rfl (o_p rfl ?_)
            refine o1 rfl (o_fa (fd := ⟨ "code", 31, 1, false, "", "vitrine/order", 24⟩) rfl rfl rfl rfl rfl ?_)
            refine o1 rfl (o_ld (b := b159) (off := 1) (v := (.int .i64 d10.1.code)) rfl rm2 rfl rfl ?_)
            refine o1 rfl (o_yield' hrc6 ht6 rfl rfl rfl rfl rm14 ?_)
            refine c_seq ?_
            refine c_region ?_
            refine o1 rfl (o_alloc (cs := [(.int .i64 0), (.int .i64 0), (.int .u8 0), (.bool false), (.int .u8 0), (SV.val SV.nil), (SV.val SV.nil)]) rfl rfl (fun b598 => ?_))
            refine o0 (o_st (b := b598) (off := 0) (vs := [(.int .i64 0), (.int .i64 0), (.int .u8 0), (.bool false), (.int .u8 0), (SV.val SV.nil), (SV.val SV.nil)]) (cs' := [(.int .i64 0), (.int .i64 0), (.int .u8 0), (.bool false), (.int .u8 0), (SV.val SV.nil), (SV.val SV.nil)]) rfl rfl rp0 rfl rfl rfl rfl rfl rfl ?_)
            refine o_end ?_
            refine e_seq ?_
            refine c_region ?_
            refine o1 rfl (o_p rfl ?_)
            refine o_end ?_
            refine e_begin' hrc6 rm1 ?_
            refine c_block ?_
            refine c_seq ?_
            refine c_seq ?_
            refine c_region ?_
            refine o1 rfl (o_p rfl ?_)
            refine o1 rfl (o_p (v := (.bool (d10.1.code == 0))) rfl ?_)
            refine o_end ?_
            refine e_seq ?_
            replace h := bsome h
            obtain ⟨d13, h, hk13⟩ := h
            refine cj (D := Unit) (ι := Unit) (fun _ i13 => True) (fun _ i13 => [(12, (.int .i64 d13.1)), (11, (.pointer (some ⟨b598, 0, none⟩))), (10, (.pointer (some ⟨b154, 0, none⟩))), (9, (.pointer (some ⟨b152, 0, none⟩))), (8, (.pointer (some ⟨b148, 0, none⟩))), (7, (.pointer (some ⟨b146, 0, none⟩))), (6, (.pointer (some ⟨b144, 0, none⟩)))]) (fun _ i13 => i10.1 :: blk b598 (.cells (List.toArray [(.int .i64 0), (.int .i64 0), (.int .u8 0), (.bool false), (.int .u8 0), (SV.val SV.nil), (SV.val SV.nil)]) 92 (0, 0)) :: blk b154 (.cells (List.toArray [(.int .i64 x8.2.2.2.2.2.2.2.2.2.1)]) 3 (0, 0)) :: blk b152 (.cells (List.toArray [(.pointer (some ⟨b150, 0, none⟩))]) 83 (0, 0)) :: blk b148 (.cells (List.toArray [(.int .i64 0)]) 31 (0, 0)) :: blk b146 (.cells (List.toArray [(.int .i64 0)]) 3 (0, 0)) :: blk b144 (.cells (List.toArray [(.int .i64 0)]) 3 (0, 0)) :: blk b0 (.cells (List.toArray [(.int .i64 d13.2.1), (.bool d13.2.2.1), (.int .i64 d13.2.2.2.1), (.int .i64 d13.2.2.2.2.1), (SV.val s0), (.int .i64 d13.2.2.2.2.2.2.1), (.int .i64 d13.2.2.2.2.2.2.2.1)]) 76 (0, 0)) :: blk i3 (.cells (List.toArray [(SV.val s1)]) 28 (0, 0)) :: blk b150 (.cells (List.toArray [(.pointer (some ⟨b0, 0, none⟩)), (.int .i64 d13.2.2.2.2.2.2.2.2.1), (.int .u8 d13.2.2.2.2.2.2.2.2.2.1), (.bool d13.2.2.2.2.2.2.2.2.2.2.1), (.int .u8 d13.2.2.2.2.2.2.2.2.2.2.2.1), (.int .u8 d13.2.2.2.2.2.2.2.2.2.2.2.2.1), (.int .u8 d13.2.2.2.2.2.2.2.2.2.2.2.2.2.1), (.int .u8 d13.2.2.2.2.2.2.2.2.2.2.2.2.2.2.1), (.bool d13.2.2.2.2.2.2.2.2.2.2.2.2.2.2.2)]) 86 (0, 0)) :: blk b159 (.cells (List.toArray [(SV.val i10.2.1), (.int .i64 d10.1.code)]) 122 (0, 0)) :: blk b595 (.cells (List.toArray [(.int .i64 d10.2.Kind), (.int .i64 d10.2.Addr), (.int .u8 d10.2.Code), (.bool d10.2.Graph), (.int .u8 d10.2.FA), (SV.val i10.2.2.1), (SV.val i10.2.2.2)]) 92 (0, 0)) :: slO s0 42 en_Vapi_Cell d13.2.2.2.2.2.1 :: slO i10.2.2.1 148 en_Vattr_Pair d10.2.Pairs :: slO i10.2.2.2 5 (enI .u8) d10.2.Text :: blk l6 (.loop (rc6 .busy none)) :: blk D6 (.deferred (some [])) :: R) ?_ ?_
            · refine c_cond (b := (d10.1.code == 0)) rfl (fun hb600 => ?_) (fun hb600 => ?_)
              · replace h := cond_t hb600 h
                refine c_region ?_
                refine o1 rfl (o_ld (b := b152) (off := 0) (v := (.pointer (some ⟨b150, 0, none⟩))) rfl rm10 rfl rfl ?_)
                refine o1 rfl (o_ld (b := b598) (off := 0) (v := (.agg (List.toArray [(.int .i64 0), (.int .i64 0), (.int .u8 0), (.bool false), (.int .u8 0), (SV.val SV.nil), (SV.val SV.nil)]))) rfl rm1 rfl rfl ?_)
                replace h := bsome h
                obtain ⟨d14, h14, h⟩ := h
                refine o1 rfl (o_call has41 rfl (c_write_pen_do hg i10.1 (⟨x8.2.2.2.2.2.2.2.2.2.2.1, (⟨x8.2.2.2.2.2.2.2.2.2.2.2.1, x8.2.2.2.2.2.2.2.2.2.2.2.2.1, x8.2.2.2.2.2.2.2.2.2.2.2.2.2.1, x8.2.2.2.2.2.2.2.2.2.2.2.2.2.2.1, x8.2.2.2.2.2.2.2.2.2.2.2.2.2.2.2.1, x8.2.2.2.2.2.2.2.2.2.2.2.2.2.2.2.2.1⟩ : Vapi_Cell), x8.2.2.2.2.2.2.2.2.2.2.2.2.2.2.2.2.2⟩ : Vwrite_pen) b150 (⟨x8.2.2.1, x8.2.2.2.1, (⟨x8.2.2.2.2.1, x8.2.2.2.2.2.1⟩ : Vaddr_Size), x8.2.2.2.2.2.2.1, x8.2.2.2.2.2.2.2.1, x8.2.2.2.2.2.2.2.2.1⟩ : Vspace_Space) b0 s0 (⟨0, 0, 0, false, 0, ([] : List Vattr_Pair), ([] : List Int)⟩ : Vorder_Op) SV.nil (rd_nil _ _ _) SV.nil (rd_nil _ _ _) _ h14) (pc rm3 (pc rm10 (pc rm6 (pc rm12 pn)))) ?_)
                refine o1 rfl (o_p rfl ?_)
                refine o_end ?_
                have hd := Option.some.inj h
                subst hd
                exact ej () () trivial (sc rfl (sc rfl (sc rfl (sc rfl (sc rfl (sc rfl (sc rfl sn))))))) (kc rm0 (kc rm4 (kc rm9 (kc rm9 (kc rm9 (kc rm9 (kc rm9 (kc rm0 (kc rm7 (kc rm1 (kc rm3 (kc rm2 (kc rm0 (kc rm1 (kc rm1 (kc rm0 (kc rm0 kr)))))))))))))))))
              · replace h := cond_f hb600 h
                refine c_skip ?_
                have hd := Option.some.inj h
                subst hd
                exact ej () () trivial (sc rfl (sc rfl (sc rfl (sc rfl (sc rfl (sc rfl (sc rfl sn))))))) (kc rm3 (kc rm1 (kc rm7 (kc rm7 (kc rm8 (kc rm8 (kc rm8 (kc rm5 (kc rm5 (kc rm5 (kc rm2 (kc rm1 (kc rm3 (kc rm1 (kc rm1 (kc rm0 (kc rm0 kr)))))))))))))))))
            · rintro _ i13 _
              replace h := hk13
              clear hk13
              refine e_seq ?_
              refine c_seq ?_
              refine c_seq ?_
              refine c_region ?_
              refine o1 rfl (o_p rfl ?_)
              refine o1 rfl (o_p (v := (.bool (d13.1 != 0))) rfl ?_)
              refine o_end ?_
              refine e_seq ?_
              refine c_cond (b := (d13.1 != 0)) rfl (fun hb603 => ?_) (fun hb603 => ?_)
              · replace h := cond_t hb603 h
                refine c_seq ?_
                refine c_draw (n := 3) (q := [(0, 33, (.pointer (some ⟨b150, 0, none⟩))), (1, 34, (.pointer (some ⟨b150, 0, none⟩))), (2, 35, (.pointer (some ⟨b150, 1, none⟩))), (3, 36, (.int .i64 d13.2.2.2.2.2.2.2.2.1)), (4, 37, (.int .i64 x8.2.2.2.2.2.2.2.2.2.1)), (5, 38, (.int .i64 d13.1))]) (pend := [0, 1, 2, 3, 4, 5]) rfl rfl rfl ?_
                refine ⟨⟨fun _ => ⟨rfl, rfl, rfl, .inl ⟨rfl, (o_ld (b := b152) (off := 0) (v := (.pointer (some ⟨b150, 0, none⟩))) rfl rm3 rfl rfl ⟨rfl, rfl⟩)⟩⟩, fun _ => ⟨rfl, rfl, rfl, .inl ⟨rfl, (o_p rfl ⟨rfl, rfl⟩)⟩⟩, fun _ => ⟨rfl, rfl, rfl, .inl ⟨rfl, (o_fa (fd := ⟨ "n", 3, 1, false, "", "vitrine/write", 8⟩) rfl rfl rfl rfl rfl ⟨rfl, rfl⟩)⟩⟩, fun _ => ⟨rfl, rfl, rfl, .inl ⟨rfl, (o_ld (b := b150) (off := 1) (v := (.int .i64 d13.2.2.2.2.2.2.2.2.1)) rfl rm9 rfl rfl ⟨rfl, rfl⟩)⟩⟩, fun _ => ⟨rfl, rfl, rfl, .inl ⟨rfl, (o_ld (b := b154) (off := 0) (v := (.int .i64 x8.2.2.2.2.2.2.2.2.2.1)) rfl rm2 rfl rfl ⟨rfl, rfl⟩)⟩⟩, fun _ => ⟨rfl, rfl, rfl, .inl ⟨rfl, (o_p rfl ⟨rfl, rfl⟩)⟩⟩, trivial⟩, rfl, .inr ⟨[6], rfl, rfl, ⟨rfl, .inl rfl, ?_⟩, trivial⟩⟩
                refine (o_st (b := b144) (off := 0) (vs := [(.int .i64 d13.2.2.2.2.2.2.2.2.1)]) (cs' := [(.int .i64 d13.2.2.2.2.2.2.2.2.1)]) rfl rfl rp6 rfl rfl rfl rfl rfl rfl ?_)
                refine ⟨[], [4, 5], rfl, rfl, ?_⟩
                refine ⟨⟨(fun h => nomatch h), (fun h => nomatch h), (fun h => nomatch h), (fun h => nomatch h), fun _ => ⟨rfl, rfl, rfl, .inl ⟨rfl, (o_ld (b := b154) (off := 0) (v := (.int .i64 x8.2.2.2.2.2.2.2.2.2.1)) rfl rm2 rfl rfl ⟨rfl, rfl⟩)⟩⟩, fun _ => ⟨rfl, rfl, rfl, .inl ⟨rfl, (o_p rfl ⟨rfl, rfl⟩)⟩⟩, trivial⟩, rfl, .inr ⟨[7], rfl, rfl, ⟨rfl, .inl rfl, ?_⟩, trivial⟩⟩
                refine (o_st (b := b146) (off := 0) (vs := [(.int .i64 x8.2.2.2.2.2.2.2.2.2.1)]) (cs' := [(.int .i64 x8.2.2.2.2.2.2.2.2.2.1)]) rfl rfl rp5 rfl rfl rfl rfl rfl rfl ?_)
                refine ⟨[], [5], rfl, rfl, ?_⟩
                refine ⟨⟨(fun h => nomatch h), (fun h => nomatch h), (fun h => nomatch h), (fun h => nomatch h), (fun h => nomatch h), fun _ => ⟨rfl, rfl, rfl, .inl ⟨rfl, (o_p rfl ⟨rfl, rfl⟩)⟩⟩, trivial⟩, rfl, .inr ⟨[8], rfl, rfl, ⟨rfl, .inl rfl, ?_⟩, trivial⟩⟩
                refine (o_st (b := b148) (off := 0) (vs := [(.int .i64 d13.1)]) (cs' := [(.int .i64 d13.1)]) rfl rfl rp4 rfl rfl rfl rfl rfl rfl ?_)
                refine ⟨[], [], rfl, rfl, ?_⟩
                refine ⟨⟨(fun h => nomatch h), (fun h => nomatch h), (fun h => nomatch h), (fun h => nomatch h), (fun h => nomatch h), (fun h => nomatch h), trivial⟩, rfl, rfl, rfl, ?_⟩
                refine e_seq ?_
                refine c_ret ?_
                refine e_then_ret ?_
                refine e_blk_ret ?_
                refine e_round_ret' hrc6 rm15 ?_
                refine o_end ?_
                refine e_seq ?_
                refine c_ret ?_
                refine e_then_ret ?_
                refine e_blk_ret ?_
                refine e_then_ret ?_
                refine e_blk_ret ?_
                refine ej_ret ?_
                replace h := esc_some h
                obtain ⟨z7, h, rfl⟩ := h
                obtain rfl := (hk7 : z7 = _)
                refine e_ret ?_
                refine r_end (rs := []) (vs := []) rfl rfl ?_
                refine ke_jump' hrc6 rm0 (by simp) ?_
                refine c_ret ?_
                refine ejd_ret ?_
                replace h := esc_some h
                obtain ⟨z5, h, rfl⟩ := h
                obtain rfl := (hk5 : z5 = _)
                refine e_blk_ret ?_
                refine ejd_ret ?_
                replace h := esc_some h
                obtain ⟨z4, h, rfl⟩ := h
                obtain rfl := (hk4 : z4 = _)
                refine e_then_ret ?_
                refine e_ret ?_
                refine r_mark rm15 ?_
                refine r_endc (B := [[(.int .i64 d13.2.2.2.2.2.2.2.2.1)], [(.int .i64 x8.2.2.2.2.2.2.2.2.2.1)], [(.int .i64 d13.1)]]) rfl ⟨⟨_, _, _, _, rfl, rm6⟩, ⟨⟨_, _, _, _, rfl, rm5⟩, ⟨⟨_, _, _, _, rfl, rm4⟩, trivial⟩⟩⟩ rfl (kc rm0 (kc rm6 (kc rm10 (kd (kd (kd (kd (kd (kd (kd (kd (kd (kd (kd (kd kr))))))))))))))) ?_
                have hr := Option.some.inj h
                subst hr
                exact hk i10.1 (Ext.trans f8_2 f10_1)
              · replace h := cond_f hb603 h
                refine c_skip ?_
                refine e_seq ?_
                refine c_seq ?_
                refine c_region ?_
                refine o1 rfl (o_ld (b := b152) (off := 0) (v := (.pointer (some ⟨b150, 0, none⟩))) rfl rm3 rfl rfl ?_)
                refine o1 rfl (o_fa (fd := ⟨ "Kind", 3, 0, false, "", "", 0⟩) rfl rfl rfl rfl rfl ?_)
                refine o1 rfl (o_ld (b := b598) (off := 0) (v := (.int .i64 0)) rfl rm1 rfl rfl ?_)
                refine o1 rfl (o_p (v := (.bool true)) rfl ?_)
                refine o1 rfl (o_p rfl ?_)
                refine on rfl rfl rfl rfl ?_
                refine on rfl rfl rfl rfl ?_
                refine on rfl rfl rfl rfl ?_
                refine o1 rfl (o_pick_t rfl rfl rfl ?_)
                refine o1 rfl (o_p rfl ?_)
                refine o1 rfl (o_fa (fd := ⟨ "texts", 4, 8, false, "", "vitrine/write", 22⟩) rfl rfl rfl rfl rfl ?_)
                refine o0 (o_st (b := b150) (off := 8) (vs := [(.bool true)]) (cs' := [(.pointer (some ⟨b0, 0, none⟩)), (.int .i64 d13.2.2.2.2.2.2.2.2.1), (.int .u8 d13.2.2.2.2.2.2.2.2.2.1), (.bool d13.2.2.2.2.2.2.2.2.2.2.1), (.int .u8 d13.2.2.2.2.2.2.2.2.2.2.2.1), (.int .u8 d13.2.2.2.2.2.2.2.2.2.2.2.2.1), (.int .u8 d13.2.2.2.2.2.2.2.2.2.2.2.2.2.1), (.int .u8 d13.2.2.2.2.2.2.2.2.2.2.2.2.2.2.1), (.bool true)]) rfl rfl rp9 rfl rfl rfl rfl rfl rfl ?_)
                refine o_end ?_
                refine e_seq ?_
                refine c_region ?_
                refine o1 rfl (o_ld (b := b154) (off := 0) (v := (.int .i64 x8.2.2.2.2.2.2.2.2.2.1)) rfl rm2 rfl rfl ?_)
                refine o1 rfl (o_p (v := (.int .i64 (w64 (x8.2.2.2.2.2.2.2.2.2.1 + 1)))) rfl ?_)
                refine o0 (o_st (b := b154) (off := 0) (vs := [(.int .i64 (w64 (x8.2.2.2.2.2.2.2.2.2.1 + 1)))]) (cs' := [(.int .i64 (w64 (x8.2.2.2.2.2.2.2.2.2.1 + 1)))]) rfl rfl rp2 rfl rfl rfl rfl rfl rfl ?_)
                refine o_end ?_
                refine e_blk ?_
                refine e_on' hrc6 rm15 ?_
                refine o_end ?_
                refine e_seq ?_
                refine c_ret ?_
                refine e_then_ret ?_
                refine e_blk_ret ?_
                refine e_then_ret ?_
                refine e_blk_ret ?_
                refine ej_ret ?_
                replace h := esc_some h
                obtain ⟨z7, h, rfl⟩ := h
                obtain rfl := (hk7 : z7 = _)
                refine e_ret ?_
                refine r_end (rs := []) (vs := []) rfl rfl ?_
                refine ke' hrc6 rm0 (by simp) ?_
                have hd := Option.some.inj h
                subst hd
                exact ejd (w64 (x8.2.2.2.2.2.2.2.2.2.1 + 1), d13.2.1, d13.2.2.1, d13.2.2.2.1, d13.2.2.2.2.1, d13.2.2.2.2.2.1, d13.2.2.2.2.2.2.1, d13.2.2.2.2.2.2.2.1, d13.2.2.2.2.2.2.2.2.1, d13.2.2.2.2.2.2.2.2.2.1, d13.2.2.2.2.2.2.2.2.2.2.1, d13.2.2.2.2.2.2.2.2.2.2.2.1, d13.2.2.2.2.2.2.2.2.2.2.2.2.1, d13.2.2.2.2.2.2.2.2.2.2.2.2.2.1, d13.2.2.2.2.2.2.2.2.2.2.2.2.2.2.1, true) (i10.1, D6) ⟨rfl, (Ext.trans f8_2 f10_1)⟩ rfl (sc rfl (sc rfl (sc rfl (sc rfl (sc rfl sn))))) (kc rm0 (kc rm1 (kc rm1 (kc rm1 (kc rm1 (kc rm1 (kc rm1 (kc rm2 (kc rm4 (kc rm6 (kd (kd (kd (kd (kd (kd kr))))))))))))))))
          · replace h := cond_f hb597 h
            refine c_skip ?_
            refine e_seq ?_
            refine c_seq ?_
            refine c_region ?_
            refine o1 rfl (o_p rfl ?_)
            refine o1 rfl (o_ld (b := b595) (off := 0) (v := (.agg (List.toArray [(.int .i64 d10.2.Kind), (.int .i64 d10.2.Addr), (.int .u8 d10.2.Code), (.bool d10.2.Graph), (.int .u8 d10.2.FA), (SV.val i10.2.2.1), (SV.val i10.2.2.2)]))) rfl rm0 rfl rfl ?_)
            refine o1 rfl (o_yield' hrc6 ht6 rfl rfl rfl rfl rm14 ?_)
            refine c_seq ?_
            refine c_region ?_
            refine o1 rfl (o_alloc (cs := [(.int .i64 0), (.int .i64 0), (.int .u8 0), (.bool false), (.int .u8 0), (SV.val SV.nil), (SV.val SV.nil)]) rfl rfl (fun b604 => ?_))
            refine o0 (o_st (b := b604) (off := 0) (vs := [(.int .i64 d10.2.Kind), (.int .i64 d10.2.Addr), (.int .u8 d10.2.Code), (.bool d10.2.Graph), (.int .u8 d10.2.FA), (SV.val i10.2.2.1), (SV.val i10.2.2.2)]) (cs' := [(.int .i64 d10.2.Kind), (.int .i64 d10.2.Addr), (.int .u8 d10.2.Code), (.bool d10.2.Graph), (.int .u8 d10.2.FA), (SV.val i10.2.2.1), (SV.val i10.2.2.2)]) rfl rfl rp0 rfl rfl rfl rfl rfl rfl ?_)
            refine o_end ?_
            refine e_seq ?_
            refine c_region ?_
            refine o1 rfl (o_p rfl ?_)
            refine o_end ?_
            refine e_begin' hrc6 rm1 ?_
            refine c_block ?_
            refine c_seq ?_
            refine c_seq ?_
            refine c_region ?_
            refine o1 rfl (o_p rfl ?_)
            refine o1 rfl (o_p (v := (.bool true)) rfl ?_)
            refine o_end ?_
            refine e_seq ?_
            refine c_cond_t rfl rfl ?_
            refine c_region ?_
            refine o1 rfl (o_ld (b := b152) (off := 0) (v := (.pointer (some ⟨b150, 0, none⟩))) rfl rm10 rfl rfl ?_)
            refine o1 rfl (o_ld (b := b604) (off := 0) (v := (.agg (List.toArray [(.int .i64 d10.2.Kind), (.int .i64 d10.2.Addr), (.int .u8 d10.2.Code), (.bool d10.2.Graph), (.int .u8 d10.2.FA), (SV.val i10.2.2.1), (SV.val i10.2.2.2)]))) rfl rm1 rfl rfl ?_)
            refine o_fz rm5 rm3 (fun X606 hx607 hs608 => ?_)
            refine o_fz rm5 rm0 (fun X609 hx610 hs611 => ?_)
            replace h := bsome h
            obtain ⟨d19, h19, h⟩ := h
            refine o1 rfl (o_call has41 rfl (c_write_pen_do hg X609 (⟨x8.2.2.2.2.2.2.2.2.2.2.1, (⟨x8.2.2.2.2.2.2.2.2.2.2.2.1, x8.2.2.2.2.2.2.2.2.2.2.2.2.1, x8.2.2.2.2.2.2.2.2.2.2.2.2.2.1, x8.2.2.2.2.2.2.2.2.2.2.2.2.2.2.1, x8.2.2.2.2.2.2.2.2.2.2.2.2.2.2.2.1, x8.2.2.2.2.2.2.2.2.2.2.2.2.2.2.2.2.1⟩ : Vapi_Cell), x8.2.2.2.2.2.2.2.2.2.2.2.2.2.2.2.2.2⟩ : Vwrite_pen) b150 (⟨x8.2.2.1, x8.2.2.2.1, (⟨x8.2.2.2.2.1, x8.2.2.2.2.2.1⟩ : Vaddr_Size), x8.2.2.2.2.2.2.1, x8.2.2.2.2.2.2.2.1, x8.2.2.2.2.2.2.2.2.1⟩ : Vspace_Space) b0 s0 (⟨d10.2.Kind, d10.2.Addr, d10.2.Code, d10.2.Graph, d10.2.FA, d10.2.Pairs, d10.2.Text⟩ : Vorder_Op) i10.2.2.1 (Rd.ext hs608 hx610) i10.2.2.2 hs611 _ h19) (pc rm0 (pc rm8 (pc rm4 (pc rm10 pn)))) ?_)
            refine o1 rfl (o_p rfl ?_)
            refine o_end ?_
            refine e_seq ?_
            refine c_seq ?_
            refine c_seq ?_
            refine c_region ?_
            refine o1 rfl (o_p rfl ?_)
            refine o1 rfl (o_p (v := (.bool (d19.2.2 != 0))) rfl ?_)
            refine o_end ?_
            refine e_seq ?_
            refine c_cond (b := (d19.2.2 != 0)) rfl (fun hb613 => ?_) (fun hb613 => ?_)
            · replace h := cond_t hb613 h
              refine c_seq ?_
              refine c_draw (n := 3) (q := [(0, 33, (.pointer (some ⟨b150, 0, none⟩))), (1, 34, (.pointer (some ⟨b150, 0, none⟩))), (2, 35, (.pointer (some ⟨b150, 1, none⟩))), (3, 36, (.int .i64 d19.2.1.n)), (4, 37, (.int .i64 x8.2.2.2.2.2.2.2.2.2.1)), (5, 38, (.int .i64 d19.2.2))]) (pend := [0, 1, 2, 3, 4, 5]) rfl rfl rfl ?_
              refine ⟨⟨fun _ => ⟨rfl, rfl, rfl, .inl ⟨rfl, (o_ld (b := b152) (off := 0) (v := (.pointer (some ⟨b150, 0, none⟩))) rfl rm10 rfl rfl ⟨rfl, rfl⟩)⟩⟩, fun _ => ⟨rfl, rfl, rfl, .inl ⟨rfl, (o_p rfl ⟨rfl, rfl⟩)⟩⟩, fun _ => ⟨rfl, rfl, rfl, .inl ⟨rfl, (o_fa (fd := ⟨ "n", 3, 1, false, "", "vitrine/write", 8⟩) rfl rfl rfl rfl rfl ⟨rfl, rfl⟩)⟩⟩, fun _ => ⟨rfl, rfl, rfl, .inl ⟨rfl, (o_ld (b := b150) (off := 1) (v := (.int .i64 d19.2.1.n)) rfl rm3 rfl rfl ⟨rfl, rfl⟩)⟩⟩, fun _ => ⟨rfl, rfl, rfl, .inl ⟨rfl, (o_ld (b := b154) (off := 0) (v := (.int .i64 x8.2.2.2.2.2.2.2.2.2.1)) rfl rm9 rfl rfl ⟨rfl, rfl⟩)⟩⟩, fun _ => ⟨rfl, rfl, rfl, .inl ⟨rfl, (o_p rfl ⟨rfl, rfl⟩)⟩⟩, trivial⟩, rfl, .inr ⟨[6], rfl, rfl, ⟨rfl, .inl rfl, ?_⟩, trivial⟩⟩
              refine (o_st (b := b144) (off := 0) (vs := [(.int .i64 d19.2.1.n)]) (cs' := [(.int .i64 d19.2.1.n)]) rfl rfl rp13 rfl rfl rfl rfl rfl rfl ?_)
              refine ⟨[], [4, 5], rfl, rfl, ?_⟩
              refine ⟨⟨(fun h => nomatch h), (fun h => nomatch h), (fun h => nomatch h), (fun h => nomatch h), fun _ => ⟨rfl, rfl, rfl, .inl ⟨rfl, (o_ld (b := b154) (off := 0) (v := (.int .i64 x8.2.2.2.2.2.2.2.2.2.1)) rfl rm9 rfl rfl ⟨rfl, rfl⟩)⟩⟩, fun _ => ⟨rfl, rfl, rfl, .inl ⟨rfl, (o_p rfl ⟨rfl, rfl⟩)⟩⟩, trivial⟩, rfl, .inr ⟨[7], rfl, rfl, ⟨rfl, .inl rfl, ?_⟩, trivial⟩⟩
              refine (o_st (b := b146) (off := 0) (vs := [(.int .i64 x8.2.2.2.2.2.2.2.2.2.1)]) (cs' := [(.int .i64 x8.2.2.2.2.2.2.2.2.2.1)]) rfl rfl rp12 rfl rfl rfl rfl rfl rfl ?_)
              refine ⟨[], [5], rfl, rfl, ?_⟩
              refine ⟨⟨(fun h => nomatch h), (fun h => nomatch h), (fun h => nomatch h), (fun h => nomatch h), (fun h => nomatch h), fun _ => ⟨rfl, rfl, rfl, .inl ⟨rfl, (o_p rfl ⟨rfl, rfl⟩)⟩⟩, trivial⟩, rfl, .inr ⟨[8], rfl, rfl, ⟨rfl, .inl rfl, ?_⟩, trivial⟩⟩
              refine (o_st (b := b148) (off := 0) (vs := [(.int .i64 d19.2.2)]) (cs' := [(.int .i64 d19.2.2)]) rfl rfl rp11 rfl rfl rfl rfl rfl rfl ?_)
              refine ⟨[], [], rfl, rfl, ?_⟩
              refine ⟨⟨(fun h => nomatch h), (fun h => nomatch h), (fun h => nomatch h), (fun h => nomatch h), (fun h => nomatch h), (fun h => nomatch h), trivial⟩, rfl, rfl, rfl, ?_⟩
              refine e_seq ?_
              refine c_ret ?_
              refine e_then_ret ?_
              refine e_blk_ret ?_
              refine e_round_ret' hrc6 rm4 ?_
              refine o1 rfl (o_p (v := (.bool true)) rfl ?_)
              refine o_end ?_
              refine e_seq ?_
              refine c_cond_t rfl rfl ?_
              refine c_ret ?_
              refine e_blk_ret ?_
              refine e_then_ret ?_
              refine e_blk_ret ?_
              refine ej_ret ?_
              replace h := esc_some h
              obtain ⟨z7, h, rfl⟩ := h
              obtain rfl := (hk7 : z7 = _)
              refine e_ret ?_
              refine r_end (rs := []) (vs := []) rfl rfl ?_
              refine ke_jump' hrc6 rm0 (by simp) ?_
              refine c_ret ?_
              refine ejd_ret ?_
              replace h := esc_some h
              obtain ⟨z5, h, rfl⟩ := h
              obtain rfl := (hk5 : z5 = _)
              refine e_blk_ret ?_
              refine ejd_ret ?_
              replace h := esc_some h
              obtain ⟨z4, h, rfl⟩ := h
              obtain rfl := (hk4 : z4 = _)
              refine e_then_ret ?_
              refine e_ret ?_
              refine r_mark rm13 ?_
              refine r_endc (B := [[(.int .i64 d19.2.1.n)], [(.int .i64 x8.2.2.2.2.2.2.2.2.2.1)], [(.int .i64 d19.2.2)]]) rfl ⟨⟨_, _, _, _, rfl, rm12⟩, ⟨⟨_, _, _, _, rfl, rm11⟩, ⟨⟨_, _, _, _, rfl, rm10⟩, trivial⟩⟩⟩ rfl (kc rm0 (kc rm0 (kc rm0 (kd (kd (kd (kd (kd (kd (kd (kd (kd (kd kr))))))))))))) ?_
              have hr := Option.some.inj h
              subst hr
              exact hk X609 (Ext.trans (Ext.trans (Ext.trans f8_2 f10_1) hx607) hx610)
            · replace h := cond_f hb613 h
              refine c_skip ?_
              refine e_seq ?_
              refine c_seq ?_
              replace h := bsome h
              obtain ⟨d22, h, hk22⟩ := h
              refine cj (D := Unit) (ι := Unit) (fun _ i22 => True) (fun _ i22 => [(10, (.pointer (some ⟨b154, 0, none⟩)))]) (fun _ i22 => X609 :: blk b154 (.cells (List.toArray [(.int .i64 x8.2.2.2.2.2.2.2.2.2.1)]) 3 (0, 0)) :: blk b0 (.cells (List.toArray [(.int .i64 d19.1.model), (.bool d19.1.alternate), (.int .i64 d19.1.size.Rows), (.int .i64 d19.1.size.Cols), (SV.val s0), (.int .i64 d19.1.cursor), (.int .i64 d19.1.attrs)]) 76 (0, 0)) :: blk i3 (.cells (List.toArray [(SV.val s1)]) 28 (0, 0)) :: blk b152 (.cells (List.toArray [(.pointer (some ⟨b150, 0, none⟩))]) 83 (0, 0)) :: blk b150 (.cells (List.toArray [(.pointer (some ⟨b0, 0, none⟩)), (.int .i64 d19.2.1.n), (.int .u8 d19.2.1.look.Char), (.bool d19.2.1.look.Attr), (.int .u8 d19.2.1.look.FA), (.int .u8 d19.2.1.look.High), (.int .u8 d19.2.1.look.Color), (.int .u8 d19.2.1.look.f_Set), (.bool d22)]) 86 (0, 0)) :: blk b148 (.cells (List.toArray [(.int .i64 0)]) 31 (0, 0)) :: blk b146 (.cells (List.toArray [(.int .i64 0)]) 3 (0, 0)) :: blk b144 (.cells (List.toArray [(.int .i64 0)]) 3 (0, 0)) :: blk b159 (.cells (List.toArray [(SV.val i10.2.1), (.int .i64 d10.1.code)]) 122 (0, 0)) :: blk b595 (.cells (List.toArray [(.int .i64 d10.2.Kind), (.int .i64 d10.2.Addr), (.int .u8 d10.2.Code), (.bool d10.2.Graph), (.int .u8 d10.2.FA), (SV.val i10.2.2.1), (SV.val i10.2.2.2)]) 92 (0, 0)) :: slO s0 42 en_Vapi_Cell d19.1.cells :: blk l6 (.loop (rc6 .busy none)) :: blk D6 (.deferred (some [])) :: R) ?_ ?_
              · refine c_region ?_
                refine o1 rfl (o_ld (b := b152) (off := 0) (v := (.pointer (some ⟨b150, 0, none⟩))) rfl rm10 rfl rfl ?_)
                refine o1 rfl (o_fa (fd := ⟨ "Kind", 3, 0, false, "", "", 0⟩) rfl rfl rfl rfl rfl ?_)
                refine o1 rfl (o_ld (b := b604) (off := 0) (v := (.int .i64 d10.2.Kind)) rfl rm5 rfl rfl ?_)
                refine o1 rfl (o_p (v := (.bool (d10.2.Kind == 0))) rfl ?_)
                refine o1 rfl (o_p rfl ?_)
                rcases bool_or ((d10.2.Kind == 0)) with hb614 | hb614
                · replace h := cond_t hb614 h
                  refine on rfl rfl rfl hb614 ?_
                  refine on rfl rfl rfl hb614 ?_
                  refine on rfl rfl rfl hb614 ?_
                  refine o1 rfl (o_pick_t rfl hb614 rfl ?_)
                  refine o1 rfl (o_p rfl ?_)
                  refine o1 rfl (o_fa (fd := ⟨ "texts", 4, 8, false, "", "vitrine/write", 22⟩) rfl rfl rfl rfl rfl ?_)
                  refine o0 (o_st (b := b150) (off := 8) (vs := [(.bool true)]) (cs' := [(.pointer (some ⟨b0, 0, none⟩)), (.int .i64 d19.2.1.n), (.int .u8 d19.2.1.look.Char), (.bool d19.2.1.look.Attr), (.int .u8 d19.2.1.look.FA), (.int .u8 d19.2.1.look.High), (.int .u8 d19.2.1.look.Color), (.int .u8 d19.2.1.look.f_Set), (.bool true)]) rfl rfl rp3 rfl rfl rfl rfl rfl rfl ?_)
                  refine o_end ?_
                  have hd := Option.some.inj h
                  subst hd
                  exact ej () () trivial (sc rfl sn) (kc rm0 (kc rm8 (kc rm0 (kc rm6 (kc rm6 (kc rm1 (kc rm5 (kc rm5 (kc rm5 (kc rm4 (kc rm3 (kc rm0 (kc rm0 (kc rm1 (kd kr)))))))))))))))
                · replace h := cond_f hb614 h
                  refine oy rfl rfl rfl hb614 (o_fa (fd := ⟨ "Kind", 3, 0, false, "", "", 0⟩) rfl rfl rfl rfl rfl ?_)
                  refine oy rfl rfl rfl hb614 (o_ld (b := b604) (off := 0) (v := (.int .i64 d10.2.Kind)) rfl rm5 rfl rfl ?_)
                  refine oy rfl rfl rfl hb614 (o_p (v := (.bool (d10.2.Kind == 8))) rfl ?_)
                  refine o1 rfl (o_pick_f rfl hb614 rfl ?_)
                  refine o1 rfl (o_p rfl ?_)
                  refine o1 rfl (o_fa (fd := ⟨ "texts", 4, 8, false, "", "vitrine/write", 22⟩) rfl rfl rfl rfl rfl ?_)
                  refine o0 (o_st (b := b150) (off := 8) (vs := [(.bool (d10.2.Kind == 8))]) (cs' := [(.pointer (some ⟨b0, 0, none⟩)), (.int .i64 d19.2.1.n), (.int .u8 d19.2.1.look.Char), (.bool d19.2.1.look.Attr), (.int .u8 d19.2.1.look.FA), (.int .u8 d19.2.1.look.High), (.int .u8 d19.2.1.look.Color), (.int .u8 d19.2.1.look.f_Set), (.bool (d10.2.Kind == 8))]) rfl rfl rp3 rfl rfl rfl rfl rfl rfl ?_)
                  refine o_end ?_
                  have hd := Option.some.inj h
                  subst hd
                  exact ej () () trivial (sc rfl sn) (kc rm0 (kc rm8 (kc rm0 (kc rm6 (kc rm6 (kc rm1 (kc rm5 (kc rm5 (kc rm5 (kc rm4 (kc rm3 (kc rm0 (kc rm0 (kc rm1 (kd kr)))))))))))))))
              · rintro _ i22 _
                replace h := hk22
                clear hk22
                refine e_seq ?_
                refine c_region ?_
                refine o1 rfl (o_ld (b := b154) (off := 0) (v := (.int .i64 x8.2.2.2.2.2.2.2.2.2.1)) rfl rm1 rfl rfl ?_)
                refine o1 rfl (o_p (v := (.int .i64 (w64 (x8.2.2.2.2.2.2.2.2.2.1 + 1)))) rfl ?_)
                refine o0 (o_st (b := b154) (off := 0) (vs := [(.int .i64 (w64 (x8.2.2.2.2.2.2.2.2.2.1 + 1)))]) (cs' := [(.int .i64 (w64 (x8.2.2.2.2.2.2.2.2.2.1 + 1)))]) rfl rfl rp1 rfl rfl rfl rfl rfl rfl ?_)
                refine o_end ?_
                refine e_blk ?_
                refine e_on' hrc6 rm12 ?_
                refine o1 rfl (o_p (v := (.bool false)) rfl ?_)
                refine o_end ?_
                refine e_seq ?_
                refine c_cond_f rfl rfl ?_
                refine c_skip ?_
                refine e_blk ?_
                exact e_loop (l_sub (sc rfl (sc rfl sn)) (l_keep (kc rm1 (kc rm9 (kc rm2 (kc rm2 (kc rm1 (kc rm1 (kc rm1 (kc rm1 (kc rm1 (kc rm1 (kc rm2 (kc rm0 (kc rm1 (kd kr)))))))))))))) (ih8 (d10.1.p, d10.1.code, d19.1.model, d19.1.alternate, d19.1.size.Rows, d19.1.size.Cols, d19.1.cells, d19.1.cursor, d19.1.attrs, w64 (x8.2.2.2.2.2.2.2.2.2.1 + 1), d19.2.1.n, d19.2.1.look.Char, d19.2.1.look.Attr, d19.2.1.look.FA, d19.2.1.look.High, d19.2.1.look.Color, d19.2.1.look.f_Set, d22) (X609, i10.2.1) ⟨(Rd.ext f10_0 (Ext.trans hx607 hx610)), (Rd.ext f8_1 (Ext.trans (Ext.trans f10_1 hx607) hx610)), (Ext.trans (Ext.trans (Ext.trans f8_2 f10_1) hx607) hx610)⟩ h)))
        · replace h := cond_f hb592 h
          refine c_exit ?_
          refine e_then_exit ?_
          refine e_then_exit ?_
          refine e_blk_exit ?_
          have hd := Option.some.inj h
          subst hd
          exact ej (x8.2.2.1, x8.2.2.2.1, x8.2.2.2.2.1, x8.2.2.2.2.2.1, x8.2.2.2.2.2.2.1, x8.2.2.2.2.2.2.2.1, x8.2.2.2.2.2.2.2.2.1, x8.2.2.2.2.2.2.2.2.2.1, x8.2.2.2.2.2.2.2.2.2.2.1, x8.2.2.2.2.2.2.2.2.2.2.2.1, x8.2.2.2.2.2.2.2.2.2.2.2.2.1, x8.2.2.2.2.2.2.2.2.2.2.2.2.2.1, x8.2.2.2.2.2.2.2.2.2.2.2.2.2.2.1, x8.2.2.2.2.2.2.2.2.2.2.2.2.2.2.2.1, x8.2.2.2.2.2.2.2.2.2.2.2.2.2.2.2.2.1, x8.2.2.2.2.2.2.2.2.2.2.2.2.2.2.2.2.2) i8.1 ⟨rfl, f8_1, f8_2⟩ sn (kc rm0 (kc rm1 (kc rm1 (kc rm1 (kc rm1 (kc rm1 (kc rm1 (kc rm1 (kc rm1 (kc rm1 (kc rm1 (kc rm1 (kd kr)))))))))))))
      · rintro d7 i7 ⟨rfl, f7_0, f7_1⟩
        replace h := JK_inl hk7
        clear hk7
        refine e_fall ?_
        refine r_end (rs := []) (vs := []) rfl rfl ?_
        refine ke' hrc6 rm10 (by simp) ?_
        have hd := Option.some.inj h
        subst hd
        exact ejd (d7.2.2.2.2.2.2.2.1, d7.1, d7.2.1, d7.2.2.1, d7.2.2.2.1, d7.2.2.2.2.1, d7.2.2.2.2.2.1, d7.2.2.2.2.2.2.1, d7.2.2.2.2.2.2.2.2.1, d7.2.2.2.2.2.2.2.2.2.1, d7.2.2.2.2.2.2.2.2.2.2.1, d7.2.2.2.2.2.2.2.2.2.2.2.1, d7.2.2.2.2.2.2.2.2.2.2.2.2.1, d7.2.2.2.2.2.2.2.2.2.2.2.2.2.1, d7.2.2.2.2.2.2.2.2.2.2.2.2.2.2.1, d7.2.2.2.2.2.2.2.2.2.2.2.2.2.2.2) (i7, D6) ⟨rfl, f7_1⟩ rfl (sc rfl (sc rfl (sc rfl (sc rfl (sc rfl sn))))) (kc rm0 (kc rm2 (kc rm2 (kc rm3 (kc rm3 (kc rm3 (kc rm0 (kc rm1 (kc rm1 (kc rm1 (kd kr)))))))))))
    · rintro d5 i5 ⟨rfl, f5_0⟩
      replace h := JK_inl hk5
      clear hk5
      refine e_blk ?_
      have hd := Option.some.inj h
      subst hd
      exact ejd (d5.1, d5.2.1, d5.2.2.1, d5.2.2.2.1, d5.2.2.2.2.1, d5.2.2.2.2.2.1, d5.2.2.2.2.2.2.1, d5.2.2.2.2.2.2.2.1, d5.2.2.2.2.2.2.2.2.1, d5.2.2.2.2.2.2.2.2.2.1, d5.2.2.2.2.2.2.2.2.2.2.1, d5.2.2.2.2.2.2.2.2.2.2.2.1, d5.2.2.2.2.2.2.2.2.2.2.2.2.1, d5.2.2.2.2.2.2.2.2.2.2.2.2.2.1, d5.2.2.2.2.2.2.2.2.2.2.2.2.2.2.1, d5.2.2.2.2.2.2.2.2.2.2.2.2.2.2.2) (i5.1, i5.2) ⟨rfl, f5_0⟩ rfl (sc rfl (sc rfl (sc rfl (sc rfl (sc rfl sn))))) (kc rm0 (kc rm0 (kc rm0 (kc rm0 (kc rm0 (kc rm0 (kc rm0 (kc rm0 (kc rm0 (kc rm0 kr))))))))))
  · rintro d4 i4 ⟨rfl, f4_0⟩
    replace h := JK_inl hk4
    clear hk4
    refine e_seq ?_
    refine c_seq ?_
    refine c_draw (n := 3) (q := [(0, 52, (.pointer (some ⟨b150, 0, none⟩))), (1, 53, (.pointer (some ⟨b150, 0, none⟩))), (2, 54, (.pointer (some ⟨b150, 1, none⟩))), (3, 55, (.int .i64 d4.2.2.2.2.2.2.2.2.1)), (4, 56, (.int .i64 d4.1))]) (pend := [0, 1, 2, 3, 4]) rfl rfl rfl ?_
    refine ⟨⟨fun _ => ⟨rfl, rfl, rfl, .inl ⟨rfl, (o_ld (b := b152) (off := 0) (v := (.pointer (some ⟨b150, 0, none⟩))) rfl rm2 rfl rfl ⟨rfl, rfl⟩)⟩⟩, fun _ => ⟨rfl, rfl, rfl, .inl ⟨rfl, (o_p rfl ⟨rfl, rfl⟩)⟩⟩, fun _ => ⟨rfl, rfl, rfl, .inl ⟨rfl, (o_fa (fd := ⟨ "n", 3, 1, false, "", "vitrine/write", 8⟩) rfl rfl rfl rfl rfl ⟨rfl, rfl⟩)⟩⟩, fun _ => ⟨rfl, rfl, rfl, .inl ⟨rfl, (o_ld (b := b150) (off := 1) (v := (.int .i64 d4.2.2.2.2.2.2.2.2.1)) rfl rm7 rfl rfl ⟨rfl, rfl⟩)⟩⟩, fun _ => ⟨rfl, rfl, rfl, .inl ⟨rfl, (o_ld (b := b154) (off := 0) (v := (.int .i64 d4.1)) rfl rm1 rfl rfl ⟨rfl, rfl⟩)⟩⟩, trivial⟩, rfl, .inr ⟨[5], rfl, rfl, ⟨rfl, .inl rfl, ?_⟩, trivial⟩⟩
    refine (o_st (b := b144) (off := 0) (vs := [(.int .i64 d4.2.2.2.2.2.2.2.2.1)]) (cs' := [(.int .i64 d4.2.2.2.2.2.2.2.2.1)]) rfl rfl rp5 rfl rfl rfl rfl rfl rfl ?_)
    refine ⟨[], [4], rfl, rfl, ?_⟩
    refine ⟨⟨(fun h => nomatch h), (fun h => nomatch h), (fun h => nomatch h), (fun h => nomatch h), fun _ => ⟨rfl, rfl, rfl, .inl ⟨rfl, (o_ld (b := b154) (off := 0) (v := (.int .i64 d4.1)) rfl rm1 rfl rfl ⟨rfl, rfl⟩)⟩⟩, trivial⟩, rfl, .inr ⟨[6], rfl, rfl, ⟨rfl, .inl rfl, ?_⟩, trivial⟩⟩
    refine (o_st (b := b146) (off := 0) (vs := [(.int .i64 d4.1)]) (cs' := [(.int .i64 d4.1)]) rfl rfl rp4 rfl rfl rfl rfl rfl rfl ?_)
    refine ⟨[], [], rfl, rfl, ?_⟩
    refine ⟨⟨(fun h => nomatch h), (fun h => nomatch h), (fun h => nomatch h), (fun h => nomatch h), (fun h => nomatch h), trivial⟩, rfl, .inr ⟨[7], rfl, rfl, ⟨rfl, .inl rfl, ?_⟩, trivial⟩⟩
    refine (o_st (b := b148) (off := 0) (vs := [(.int .i64 0)]) (cs' := [(.int .i64 0)]) rfl rfl rp3 rfl rfl rfl rfl rfl rfl ?_)
    refine ⟨[], [], rfl, rfl, ?_⟩
    refine ⟨⟨(fun h => nomatch h), (fun h => nomatch h), (fun h => nomatch h), (fun h => nomatch h), (fun h => nomatch h), trivial⟩, rfl, rfl, rfl, ?_⟩
    refine e_seq ?_
    refine c_ret ?_
    refine e_ret ?_
    refine r_mark rm9 ?_
    refine r_endc (B := [[(.int .i64 d4.2.2.2.2.2.2.2.2.1)], [(.int .i64 d4.1)], [(.int .i64 0)]]) rfl ⟨⟨_, _, _, _, rfl, rm5⟩, ⟨⟨_, _, _, _, rfl, rm4⟩, ⟨⟨_, _, _, _, rfl, rm3⟩, trivial⟩⟩⟩ rfl (kc rm0 (kc rm5 (kc rm6 (kd (kd (kd (kd (kd (kd kr))))))))) ?_
    have hr := Option.some.inj h
    subst hr
    exact hk i4.1 f4_0

theorem c_write_written {g : Gw} (hg : GK g) (X : HP) (p0 : Vspace_Space) (b0 : Nat) (s0 : SV) (p1 : Vwrite_Result) (s1 : SV) (q0 : Rd X s1 5 (enI .u8) p1.Fields) (p2 : List Int) (s2 : SV) (q1 : Rd X s2 5 (enI .u8) p2) (r : Vspace_Space × Vwrite_Result × Int) (h : m_write_written p0 p1 p2 = some r) : Tri env g 31 (List.toArray [(.pointer (some ⟨b0, 0, none⟩)), (.agg (List.toArray [(.int .i64 p1.Command), (.bool p1.Restore), (.bool p1.Alarm), (.bool p1.Reset), (.int .i64 p1.Pieces), (SV.val s1)])), (SV.val s2)]) [X, blk b0 (.cells (List.toArray [(.int .i64 p0.model), (.bool p0.alternate), (.int .i64 p0.size.Rows), (.int .i64 p0.size.Cols), (SV.val s0), (.int .i64 p0.cursor), (.int .i64 p0.attrs)]) 76 (0, 0)), slO s0 42 en_Vapi_Cell p0.cells] (fun K R => ∀ (i0 : HP × SV), (Rd i0.1 s1 5 (enI .u8) r.2.1.Fields) → (Ext X i0.1) → K (.tuple (List.toArray [(.agg (List.toArray [(.int .i64 r.2.1.Command), (.bool r.2.1.Restore), (.bool r.2.1.Alarm), (.bool r.2.1.Reset), (.int .i64 r.2.1.Pieces), (SV.val s1)])), (.int .i64 r.2.2)])) (i0.1 :: blk b0 (.cells (List.toArray [(.int .i64 r.1.model), (.bool r.1.alternate), (.int .i64 r.1.size.Rows), (.int .i64 r.1.size.Cols), (SV.val i0.2), (.int .i64 r.1.cursor), (.int .i64 r.1.attrs)]) 76 (0, 0)) :: slO i0.2 42 en_Vapi_Cell r.1.cells :: R)) := by
  refine tri_of (fn := Tryd.f31) (N := 59) Tryd.func31 rfl rfl rfl ?_
  intro R K hk
  unfold m_write_written at h
  change GC _ none _ [] [(0, (.pointer (some ⟨b0, 0, none⟩))), (1, (.agg (List.toArray [(.int .i64 p1.Command), (.bool p1.Restore), (.bool p1.Alarm), (.bool p1.Reset), (.int .i64 p1.Pieces), (SV.val s1)]))), (2, (SV.val s2))] (X :: blk b0 (.cells (List.toArray [(.int .i64 p0.model), (.bool p0.alternate), (.int .i64 p0.size.Rows), (.int .i64 p0.size.Cols), (SV.val s0), (.int .i64 p0.cursor), (.int .i64 p0.attrs)]) 76 (0, 0)) :: slO s0 42 en_Vapi_Cell p0.cells :: R) g _ _
  refine c_seq ?_
  refine c_region ?_
  refine o1 rfl (o_box (cs := [(.int .i64 p1.Command), (.bool p1.Restore), (.bool p1.Alarm), (.bool p1.Reset), (.int .i64 p1.Pieces), (SV.val s1)]) rfl rfl (fun b64 => ?_))
  refine o1 rfl (o_alloc (cs := [(.int .i64 0), (.bool false), (.bool false), (.bool false), (.int .i64 0), (SV.val SV.nil)]) rfl rfl (fun b66 => ?_))
  refine o1 rfl (o_p rfl ?_)
  refine o_end ?_
  refine e_seq ?_
  refine c_seq ?_
  refine c_region ?_
  refine o1 rfl (o_p rfl ?_)
  refine o_end ?_
  refine e_seq ?_
  refine c_seq ?_
  refine c_seq ?_
  refine c_region ?_
  refine o1 rfl (o_p rfl ?_)
  refine o1 rfl (o_len (s := s2) rfl rfl rfl rm2 q1 ?_)
  refine o1 rfl (o_p (v := (.bool (decide ((p2.length : Int) > 0)))) rfl ?_)
  refine o_end ?_
  refine e_seq ?_
  replace h := bsome h
  obtain ⟨d1, h, hk1⟩ := h
  refine cj (D := Unit) (ι := SV) (fun _ i1 => Rd X i1 5 (enI .u8) d1.1) (fun _ i1 => [(2, (SV.val i1)), (8, (.int .u8 d1.2)), (6, (.pointer (some ⟨b66, 0, none⟩))), (4, (.pointer (some ⟨b64, 0, none⟩))), (0, (.pointer (some ⟨b0, 0, none⟩)))]) (fun _ i1 => X :: blk b66 (.cells (List.toArray [(.int .i64 0), (.bool false), (.bool false), (.bool false), (.int .i64 0), (SV.val SV.nil)]) 30 (0, 0)) :: blk b64 (.cells (List.toArray [(.int .i64 p1.Command), (.bool p1.Restore), (.bool p1.Alarm), (.bool p1.Reset), (.int .i64 p1.Pieces), (SV.val s1)]) 30 (0, 0)) :: blk b0 (.cells (List.toArray [(.int .i64 p0.model), (.bool p0.alternate), (.int .i64 p0.size.Rows), (.int .i64 p0.size.Cols), (SV.val s0), (.int .i64 p0.cursor), (.int .i64 p0.attrs)]) 76 (0, 0)) :: slO s0 42 en_Vapi_Cell p0.cells :: R) ?_ ?_
  · refine c_cond (b := (decide ((p2.length : Int) > 0))) rfl (fun hb68 => ?_) (fun hb68 => ?_)
    · replace h := cond_t hb68 h
      refine c_sub (T' := [(12, (.bool (decide ((p2.length : Int) > 0)))), (11, (.int .i64 (p2.length : Int))), (10, (SV.val s2)), (7, (.int .i64 0)), (6, (.pointer (some ⟨b66, 0, none⟩))), (4, (.pointer (some ⟨b64, 0, none⟩))), (0, (.pointer (some ⟨b0, 0, none⟩))), (1, (.agg (List.toArray [(.int .i64 p1.Command), (.bool p1.Restore), (.bool p1.Alarm), (.bool p1.Reset), (.int .i64 p1.Pieces), (SV.val s1)]))), (2, (SV.val s2))]) (sc rfl (sc rfl (sc rfl (sc rfl (sc rfl (sc rfl (sc rfl (sc rfl (sc rfl sn))))))))) ?_
      replace h := gsome h
      obtain ⟨hg69, h⟩ := h
      replace h := gsome h
      obtain ⟨hg70, h⟩ := h
      have hr71 : Rd X (SV.cut s2 1 (Int.toNat 1) (Int.toNat (p2.length : Int)) (mxv s2 none)) 5 (enI .u8) (List.drop 1 p2) := rd_tk (Rd.cutv q1 hg70 mx_none)
      refine c_draw (n := 1) (q := [(0, 13, (SV.val s2)), (1, 14, (.pointer (some ⟨SV.blk s2, SV.off s2 + Int.toNat 0 * 1, none⟩))), (2, 15, (.int .u8 (rd p2 0))), (3, 16, (SV.val s2)), (4, 17, (SV.val (SV.cut s2 1 (Int.toNat 1) (Int.toNat (p2.length : Int)) (mxv s2 none)))), (5, 8, (.int .u8 (rd p2 0)))]) (pend := [0, 1, 2, 3, 4, 5]) rfl rfl rfl ?_
      refine ⟨⟨fun _ => ⟨rfl, rfl, rfl, .inl ⟨rfl, (o_p rfl ⟨rfl, rfl⟩)⟩⟩, fun _ => ⟨rfl, rfl, rfl, .inl ⟨rfl, (o_ix (s := s2) (n := 0) (e := (enI .u8)) rfl rfl rfl rfl rfl rfl rm2 q1 hg69 ⟨rfl, rfl⟩)⟩⟩, fun _ => ⟨rfl, rfl, rfl, .inl ⟨rfl, (o_ldE (s := s2) (e := (enI .u8)) (n := 0) (f := 0) (v := (.int .u8 (rd p2 0))) rfl rm2 q1 hg69 rfl rfl ⟨rfl, rfl⟩)⟩⟩, fun _ => ⟨rfl, rfl, rfl, .inl ⟨rfl, (o_p rfl ⟨rfl, rfl⟩)⟩⟩, fun _ => ⟨rfl, rfl, rfl, .inl ⟨rfl, (o_slx (a := 1) (b := (p2.length : Int)) (m := none) rfl rfl rfl rfl rfl rm2 q1 rfl rfl rfl (by decide) hg70 mx_none ⟨rfl, rfl⟩)⟩⟩, fun _ => ⟨rfl, rfl, rfl, .inl ⟨rfl, (o_p rfl ⟨rfl, rfl⟩)⟩⟩, trivial⟩, rfl, .inr ⟨[6], rfl, rfl, ⟨rfl, .inl rfl, ?_⟩, trivial⟩⟩
      refine (o_p rfl ?_)
      refine ⟨[], [], rfl, rfl, rfl, rfl, ?_⟩
      refine ⟨⟨(fun h => nomatch h), (fun h => nomatch h), (fun h => nomatch h), (fun h => nomatch h), (fun h => nomatch h), (fun h => nomatch h), trivial⟩, rfl, rfl, rfl, ?_⟩
      have hd := Option.some.inj h
      subst hd
      exact ej () (SV.cut s2 1 (Int.toNat 1) (Int.toNat (p2.length : Int)) (mxv s2 none)) hr71 (sc rfl (sc rfl (sc rfl (sc rfl (sc rfl sn))))) (kc rm2 (kc rm0 (kc rm0 (kc rm0 (kc rm0 kr)))))
    · replace h := cond_f hb68 h
      refine c_skip ?_
      have hd := Option.some.inj h
      subst hd
      exact ej () s2 q1 (sc rfl (sc rfl (sc rfl (sc rfl (sc rfl sn))))) (kc rm2 (kc rm0 (kc rm0 (kc rm0 (kc rm0 kr)))))
  · rintro _ i1 f1_0
    replace h := hk1
    clear hk1
    refine e_seq ?_
    refine c_seq ?_
    refine c_block ?_
    refine c_seq ?_
    refine c_region ?_
    refine o1 rfl (o_fa (fd := ⟨ "Command", 3, 0, false, "", "", 0⟩) rfl rfl rfl rfl rfl ?_)
    refine o1 rfl (o_ld (b := b64) (off := 0) (v := (.int .i64 p1.Command)) rfl rm2 rfl rfl ?_)
    refine o1 rfl (o_p (v := (.bool (p1.Command != 1))) rfl ?_)
    refine o1 rfl (o_p rfl ?_)
    refine o_end ?_
    refine e_seq ?_
    replace h := bsome h
    obtain ⟨d3, h, hk3⟩ := h
    refine cj (D := Unit) (ι := SV) (fun _ i3 => True) (fun _ i3 => [(2, (SV.val i1)), (8, (.int .u8 d1.2)), (6, (.pointer (some ⟨b66, 0, none⟩))), (4, (.pointer (some ⟨b64, 0, none⟩))), (0, (.pointer (some ⟨b0, 0, none⟩)))]) (fun _ i3 => X :: blk b66 (.cells (List.toArray [(.int .i64 0), (.bool false), (.bool false), (.bool false), (.int .i64 0), (SV.val SV.nil)]) 30 (0, 0)) :: blk b64 (.cells (List.toArray [(.int .i64 p1.Command), (.bool p1.Restore), (.bool p1.Alarm), (.bool p1.Reset), (.int .i64 p1.Pieces), (SV.val s1)]) 30 (0, 0)) :: blk b0 (.cells (List.toArray [(.int .i64 d3.1), (.bool d3.2.1), (.int .i64 d3.2.2.1), (.int .i64 d3.2.2.2.1), (SV.val i3), (.int .i64 d3.2.2.2.2.2.1), (.int .i64 d3.2.2.2.2.2.2)]) 76 (0, 0)) :: slO i3 42 en_Vapi_Cell d3.2.2.2.2.1 :: R) ?_ ?_
    · refine c_cond (b := (p1.Command != 1)) rfl (fun hb72 => ?_) (fun hb72 => ?_)
      · replace h := cond_t hb72 h
        refine c_region ?_
        refine o1 rfl (o_p rfl ?_)
        refine o1 rfl (o_fa (fd := ⟨ "Command", 3, 0, false, "", "", 0⟩) rfl rfl rfl rfl rfl ?_)
        refine o1 rfl (o_ld (b := b64) (off := 0) (v := (.int .i64 p1.Command)) rfl rm2 rfl rfl ?_)
        refine o1 rfl (o_p (v := (.bool (p1.Command == 3))) rfl ?_)
        replace h := bsome h
        obtain ⟨d4, h4, h⟩ := h
        refine o1 rfl (o_call has28 rfl (c_space_Space_Clear_2 hg X p0 b0 s0 (p1.Command == 3) _ h4) (pc rm0 (pc rm2 (pc rm2 pn))) (fun i4 => ?_))
        refine o_end ?_
        have hd := Option.some.inj h
        subst hd
        exact ej () i4 trivial (sc rfl (sc rfl (sc rfl (sc rfl (sc rfl sn))))) (kc rm0 (kc rm3 (kc rm3 (kc rm0 (kc rm0 (kd kr))))))
      · replace h := cond_f hb72 h
        refine c_seq ?_
        refine c_region ?_
        refine o1 rfl (o_p rfl ?_)
        refine o1 rfl (o_p (v := (.int .u8 (iband .u8 d1.2 1))) rfl ?_)
        refine o1 rfl (o_p (v := (.bool ((iband .u8 d1.2 1) != 0))) rfl ?_)
        refine o1 rfl (o_p rfl ?_)
        refine o_end ?_
        refine e_seq ?_
        refine c_cond (b := ((iband .u8 d1.2 1) != 0)) rfl (fun hb79 => ?_) (fun hb79 => ?_)
        · replace h := cond_t hb79 h
          refine c_region ?_
          refine o1 rfl (o_p rfl ?_)
          replace h := bsome h
          obtain ⟨d5, h5, h⟩ := h
          refine o1 rfl (o_call has53 rfl (c_field_Unmodify hg X (⟨p0.model, p0.alternate, p0.size, p0.cells, p0.cursor, p0.attrs⟩ : Vspace_Space) b0 s0 _ h5) (pc rm0 (pc rm2 (pc rm2 pn))) ?_)
          refine o_end ?_
          have hd := Option.some.inj h
          subst hd
          exact ej () s0 trivial (sc rfl (sc rfl (sc rfl (sc rfl (sc rfl sn))))) (kc rm0 (kc rm2 (kc rm2 (kc rm0 (kc rm0 kr)))))
        · replace h := cond_f hb79 h
          refine c_skip ?_
          have hd := Option.some.inj h
          subst hd
          exact ej () s0 trivial (sc rfl (sc rfl (sc rfl (sc rfl (sc rfl sn))))) (kc rm0 (kc rm0 (kc rm0 (kc rm0 (kc rm0 kr)))))
    · rintro _ i3 _
      replace h := hk3
      clear hk3
      refine e_blk ?_
      refine e_seq ?_
      refine c_seq ?_
      refine c_region ?_
      refine o1 rfl (o_p rfl ?_)
      refine o_end ?_
      refine e_seq ?_
      refine c_seq ?_
      refine c_region ?_
      refine o1 rfl (o_p rfl ?_)
      refine o1 rfl (o_p rfl ?_)
      refine o1 rfl (o_p rfl ?_)
      replace h := bsome h
      obtain ⟨d6, h6, h⟩ := h
      refine o1 rfl (o_call has54 rfl (c_space_Space_Cursor hg X (⟨d3.1, d3.2.1, (⟨d3.2.2.1, d3.2.2.2.1⟩ : Vaddr_Size), d3.2.2.2.2.1, d3.2.2.2.2.2.1, d3.2.2.2.2.2.2⟩ : Vspace_Space) b0 i3 _ h6) (pc rm0 (pc rm2 (pc rm2 pn))) ?_)
      replace h := bsome h
      obtain ⟨d7, h7, h⟩ := h
      refine o1 rfl (o_call has15 rfl (c_write_Orders hg X (⟨d3.1, d3.2.1, (⟨d3.2.2.1, d3.2.2.2.1⟩ : Vaddr_Size), d3.2.2.2.2.1, d3.2.2.2.2.2.1, d3.2.2.2.2.2.2⟩ : Vspace_Space) b0 i3 d1.1 i1 f1_0 d6 _ h7) (pc rm0 (pc rm0 (pc rm0 pn))) (fun i7 f7_0 => ?_))
      refine o1 rfl (o_p rfl ?_)
      refine o1 rfl (o_p rfl ?_)
      refine o1 rfl (o_p rfl ?_)
      refine o1 rfl (o_p rfl ?_)
      refine o1 rfl (o_fa (fd := ⟨ "Pieces", 3, 4, false, "", "", 16⟩) rfl rfl rfl rfl rfl ?_)
      refine o0 (o_st (b := b64) (off := 4) (vs := [(.int .i64 d7.2.2.1)]) (cs' := [(.int .i64 p1.Command), (.bool p1.Restore), (.bool p1.Alarm), (.bool p1.Reset), (.int .i64 d7.2.2.1), (SV.val s1)]) rfl rfl rp4 rfl rfl rfl rfl rfl rfl ?_)
      refine o1 rfl (o_p rfl ?_)
      refine o_end ?_
      refine e_seq ?_
      refine c_seq ?_
      refine c_seq ?_
      refine c_region ?_
      refine o1 rfl (o_p rfl ?_)
      refine o1 rfl (o_p (v := (.bool (d7.2.2.2 == 0))) rfl ?_)
      refine o_end ?_
      refine e_seq ?_
      replace h := bsome h
      obtain ⟨d8, h, hk8⟩ := h
      refine cj (D := Unit) (ι := Unit) (fun _ i8 => True) (fun _ i8 => [(9, (.int .i64 d7.2.2.2)), (6, (.pointer (some ⟨b66, 0, none⟩))), (4, (.pointer (some ⟨b64, 0, none⟩)))]) (fun _ i8 => i7 :: blk b66 (.cells (List.toArray [(.int .i64 0), (.bool false), (.bool false), (.bool false), (.int .i64 0), (SV.val SV.nil)]) 30 (0, 0)) :: blk b64 (.cells (List.toArray [(.int .i64 p1.Command), (.bool d8.1), (.bool d8.2.1), (.bool d8.2.2), (.int .i64 d7.2.2.1), (SV.val s1)]) 30 (0, 0)) :: blk b0 (.cells (List.toArray [(.int .i64 d7.1.model), (.bool d7.1.alternate), (.int .i64 d7.1.size.Rows), (.int .i64 d7.1.size.Cols), (SV.val i3), (.int .i64 d7.1.cursor), (.int .i64 d7.1.attrs)]) 76 (0, 0)) :: slO i3 42 en_Vapi_Cell d7.1.cells :: R) ?_ ?_
      · refine c_cond (b := (d7.2.2.2 == 0)) rfl (fun hb621 => ?_) (fun hb621 => ?_)
        · replace h := cond_t hb621 h
          refine c_region ?_
          refine o1 rfl (o_p rfl ?_)
          refine o1 rfl (o_p (v := (.int .u8 (iband .u8 d1.2 2))) rfl ?_)
          refine o1 rfl (o_p (v := (.bool ((iband .u8 d1.2 2) != 0))) rfl ?_)
          refine o1 rfl (o_p rfl ?_)
          refine o1 rfl (o_p (v := (.int .u8 (iband .u8 d1.2 4))) rfl ?_)
          refine o1 rfl (o_p (v := (.bool ((iband .u8 d1.2 4) != 0))) rfl ?_)
          refine o1 rfl (o_p rfl ?_)
          refine o1 rfl (o_p (v := (.int .u8 (iband .u8 d1.2 64))) rfl ?_)
          refine o1 rfl (o_p (v := (.bool ((iband .u8 d1.2 64) != 0))) rfl ?_)
          refine o1 rfl (o_fa (fd := ⟨ "Restore", 4, 1, false, "", "", 8⟩) rfl rfl rfl rfl rfl ?_)
          refine o0 (o_st (b := b64) (off := 1) (vs := [(.bool ((iband .u8 d1.2 2) != 0))]) (cs' := [(.int .i64 p1.Command), (.bool ((iband .u8 d1.2 2) != 0)), (.bool p1.Alarm), (.bool p1.Reset), (.int .i64 d7.2.2.1), (SV.val s1)]) rfl rfl rp4 rfl rfl rfl rfl rfl rfl ?_)
          refine o1 rfl (o_fa (fd := ⟨ "Alarm", 4, 2, false, "", "", 9⟩) rfl rfl rfl rfl rfl ?_)
          refine o0 (o_st (b := b64) (off := 2) (vs := [(.bool ((iband .u8 d1.2 4) != 0))]) (cs' := [(.int .i64 p1.Command), (.bool ((iband .u8 d1.2 2) != 0)), (.bool ((iband .u8 d1.2 4) != 0)), (.bool p1.Reset), (.int .i64 d7.2.2.1), (SV.val s1)]) rfl rfl rp4 rfl rfl rfl rfl rfl rfl ?_)
          refine o1 rfl (o_fa (fd := ⟨ "Reset", 4, 3, false, "", "", 10⟩) rfl rfl rfl rfl rfl ?_)
          refine o0 (o_st (b := b64) (off := 3) (vs := [(.bool ((iband .u8 d1.2 64) != 0))]) (cs' := [(.int .i64 p1.Command), (.bool ((iband .u8 d1.2 2) != 0)), (.bool ((iband .u8 d1.2 4) != 0)), (.bool ((iband .u8 d1.2 64) != 0)), (.int .i64 d7.2.2.1), (SV.val s1)]) rfl rfl rp4 rfl rfl rfl rfl rfl rfl ?_)
          refine o_end ?_
          have hd := Option.some.inj h
          subst hd
          exact ej () () trivial (sc rfl (sc rfl (sc rfl sn))) (kc rm0 (kc rm2 (kc rm2 (kc rm0 (kc rm0 kr)))))
        · replace h := cond_f hb621 h
          refine c_skip ?_
          have hd := Option.some.inj h
          subst hd
          exact ej () () trivial (sc rfl (sc rfl (sc rfl sn))) (kc rm0 (kc rm2 (kc rm2 (kc rm0 (kc rm0 kr)))))
      · rintro _ i8 _
        replace h := hk8
        clear hk8
        refine e_seq ?_
        refine c_seq ?_
        refine c_region ?_
        refine o1 rfl (o_ld (b := b64) (off := 0) (v := (.agg (List.toArray [(.int .i64 p1.Command), (.bool d8.1), (.bool d8.2.1), (.bool d8.2.2), (.int .i64 d7.2.2.1), (SV.val s1)]))) rfl rm2 rfl rfl ?_)
        refine o1 rfl (o_p rfl ?_)
        refine o0 (o_st (b := b66) (off := 0) (vs := [(.int .i64 p1.Command), (.bool d8.1), (.bool d8.2.1), (.bool d8.2.2), (.int .i64 d7.2.2.1), (SV.val s1)]) (cs' := [(.int .i64 p1.Command), (.bool d8.1), (.bool d8.2.1), (.bool d8.2.2), (.int .i64 d7.2.2.1), (SV.val s1)]) rfl rfl rp1 rfl rfl rfl rfl rfl rfl ?_)
        refine o1 rfl (o_p rfl ?_)
        refine o_end ?_
        refine e_seq ?_
        refine c_ret ?_
        refine e_ret ?_
        refine r_endc (B := [[(.int .i64 p1.Command), (.bool d8.1), (.bool d8.2.1), (.bool d8.2.2), (.int .i64 d7.2.2.1), (SV.val s1)]]) rfl ⟨⟨_, _, _, _, rfl, rm1⟩, trivial⟩ rfl (kc rm0 (kc rm2 (kc rm2 (kd (kd kr))))) ?_
        have hr := Option.some.inj h
        subst hr
        exact hk (i7, i3) (Rd.ext q0 f7_0) f7_0

theorem c_erase_all {g : Gw} (hg : GK g) (X : HP) (p0 : Vspace_Space) (b0 : Nat) (s0 : SV) (r : Vspace_Space) (h : m_erase_all p0 = some r) : Tri env g 56 (List.toArray [(.pointer (some ⟨b0, 0, none⟩))]) [X, blk b0 (.cells (List.toArray [(.int .i64 p0.model), (.bool p0.alternate), (.int .i64 p0.size.Rows), (.int .i64 p0.size.Cols), (SV.val s0), (.int .i64 p0.cursor), (.int .i64 p0.attrs)]) 76 (0, 0)), slO s0 42 en_Vapi_Cell p0.cells] (fun K R => K (.tuple (List.toArray [])) (X :: blk b0 (.cells (List.toArray [(.int .i64 r.model), (.bool r.alternate), (.int .i64 r.size.Rows), (.int .i64 r.size.Cols), (SV.val s0), (.int .i64 r.cursor), (.int .i64 r.attrs)]) 76 (0, 0)) :: slO s0 42 en_Vapi_Cell r.cells :: R)) := by
  refine tri_of (fn := Tryd.f56) (N := 13) Tryd.func56 rfl rfl rfl ?_
  intro R K hk
  unfold m_erase_all at h
  change GC _ none _ [] [(0, (.pointer (some ⟨b0, 0, none⟩)))] (X :: blk b0 (.cells (List.toArray [(.int .i64 p0.model), (.bool p0.alternate), (.int .i64 p0.size.Rows), (.int .i64 p0.size.Cols), (SV.val s0), (.int .i64 p0.cursor), (.int .i64 p0.attrs)]) 76 (0, 0)) :: slO s0 42 en_Vapi_Cell p0.cells :: R) g _ _
  refine c_seq ?_
  refine c_region ?_
  refine o1 rfl (o_p rfl ?_)
  replace h := bsome h
  obtain ⟨d1, h1, h⟩ := h
  refine o1 rfl (o_call has39 rfl (c_space_Space_Size hg X p0 b0 s0 _ h1) (pc rm0 (pc rm0 (pc rm0 pn))) ?_)
  replace h := bsome h
  obtain ⟨d2, h2, h⟩ := h
  refine o1 rfl (o_call has51 rfl (c_addr_Size_Cells hg X (⟨d1.Rows, d1.Cols⟩ : Vaddr_Size) _ h2) (pc rm0 pn) ?_)
  refine o1 rfl (o_p rfl ?_)
  refine o_end ?_
  refine e_seq ?_
  replace h := bsome h
  obtain ⟨d3, h, hk3⟩ := h
  refine cj (D := Unit) (ι := Unit) (fun _ i3 => True) (fun _ i3 => []) (fun _ i3 => X :: blk b0 (.cells (List.toArray [(.int .i64 d3.1), (.bool d3.2.1), (.int .i64 d3.2.2.1), (.int .i64 d3.2.2.2.1), (SV.val s0), (.int .i64 d3.2.2.2.2.2.1), (.int .i64 d3.2.2.2.2.2.2)]) 76 (0, 0)) :: slO s0 42 en_Vapi_Cell d3.2.2.2.2.1 :: R) ?_ ?_
  · refine c_block ?_
    refine c_loop (l_sub (sc rfl (sc rfl (sc rfl sn))) (l_keep (kc rm0 (kc rm0 (kc rm0 kr))) (lf (X := Int × Int × Bool × Int × Int × (List Vapi_Cell) × Int × Int) (ι := Unit) (fun k x => erase_all_l4 d2 k x) _ (fun x4 i4 => True) (fun x4 i4 => [(6, (.int .i64 x4.1)), (5, (.int .i64 d2)), (0, (.pointer (some ⟨b0, 0, none⟩)))]) (fun x4 i4 => X :: blk b0 (.cells (List.toArray [(.int .i64 x4.2.1), (.bool x4.2.2.1), (.int .i64 x4.2.2.2.1), (.int .i64 x4.2.2.2.2.1), (SV.val s0), (.int .i64 x4.2.2.2.2.2.2.1), (.int .i64 x4.2.2.2.2.2.2.2)]) 76 (0, 0)) :: slO s0 42 en_Vapi_Cell x4.2.2.2.2.2.1 :: R) (fun _ => rfl) ?_ fuel (0, p0.model, p0.alternate, p0.size.Rows, p0.size.Cols, p0.cells, p0.cursor, p0.attrs) () trivial h)))
    clear h
    rintro k4 ih4 x4 i4 _ h
    rw [erase_all_l4.eq_2] at h
    refine l_round ?_
    refine c_seq ?_
    refine c_region ?_
    refine o1 rfl (o_p (v := (.bool (decide (x4.1 < d2)))) rfl ?_)
    refine o_end ?_
    refine e_seq ?_
    refine c_seq ?_
    refine c_cond (b := (decide (x4.1 < d2))) rfl (fun hb634 => ?_) (fun hb634 => ?_)
    · replace h := cond_t hb634 h
      refine c_skip ?_
      refine e_seq ?_
      refine c_seq ?_
      refine c_block ?_
      refine c_seq ?_
      refine c_region ?_
      refine o1 rfl (o_p rfl ?_)
      refine o1 rfl (o_p rfl ?_)
      refine o_end ?_
      refine e_seq ?_
      refine c_region ?_
      refine o1 rfl (o_p rfl ?_)
      refine o1 rfl (o_p rfl ?_)
      replace h := bsome h
      obtain ⟨d7, h7, h⟩ := h
      refine o1 rfl (o_call has59 rfl (c_space_Space_Put hg X (⟨x4.2.1, x4.2.2.1, (⟨x4.2.2.2.1, x4.2.2.2.2.1⟩ : Vaddr_Size), x4.2.2.2.2.2.1, x4.2.2.2.2.2.2.1, x4.2.2.2.2.2.2.2⟩ : Vspace_Space) b0 s0 x4.1 0 _ h7) (pc rm0 (pc rm0 (pc rm0 pn))) ?_)
      refine o_end ?_
      refine e_blk ?_
      refine e_seq ?_
      refine c_region ?_
      refine o1 rfl (o_p (v := (.int .i64 (w64 (x4.1 + 1)))) rfl ?_)
      refine o1 rfl (o_p rfl ?_)
      refine o_end ?_
      exact e_loop (l_sub (sc rfl (sc rfl (sc rfl sn))) (l_keep (kc rm0 (kc rm0 (kc rm0 kr))) (ih4 (w64 (x4.1 + 1), d7.model, d7.alternate, d7.size.Rows, d7.size.Cols, d7.cells, d7.cursor, d7.attrs) () trivial h)))
    · replace h := cond_f hb634 h
      refine c_exit ?_
      refine e_then_exit ?_
      refine e_then_exit ?_
      refine e_blk_exit ?_
      have hd := Option.some.inj h
      subst hd
      exact ej () () trivial sn (kc rm0 (kc rm0 (kc rm0 kr)))
  · rintro _ i3 _
    replace h := hk3
    clear hk3
    refine e_fall ?_
    refine r_endt rfl rfl (kc rm0 (kc rm0 (kc rm0 kr))) ?_
    have hr := Option.some.inj h
    subst hr
    exact hk

theorem c_field_Fields {g : Gw} (hg : GK g) (X : HP) (p0 : Vspace_Space) (b0 : Nat) (s0 : SV) (r : Unit) (h : m_field_Fields p0 = some r) : Tri env g 57 (List.toArray [(.pointer (some ⟨b0, 0, none⟩))]) [X, blk b0 (.cells (List.toArray [(.int .i64 p0.model), (.bool p0.alternate), (.int .i64 p0.size.Rows), (.int .i64 p0.size.Cols), (SV.val s0), (.int .i64 p0.cursor), (.int .i64 p0.attrs)]) 76 (0, 0)), slO s0 42 en_Vapi_Cell p0.cells] (fun K R => ∀ (i0 : Nat), K (.func (.func 76) #[] (List.toArray [(.pointer (some ⟨i0, 0, none⟩))])) (X :: blk b0 (.cells (List.toArray [(.int .i64 p0.model), (.bool p0.alternate), (.int .i64 p0.size.Rows), (.int .i64 p0.size.Cols), (SV.val s0), (.int .i64 p0.cursor), (.int .i64 p0.attrs)]) 76 (0, 0)) :: slO s0 42 en_Vapi_Cell p0.cells :: blk i0 (.cells (List.toArray [(.pointer (some ⟨b0, 0, none⟩))]) 24 (0, 0)) :: R)) := by
  refine tri_of (fn := Tryd.f57) (N := 4) Tryd.func57 rfl rfl rfl ?_
  intro R K hk
  unfold m_field_Fields at h
  change GC _ none _ [] [(0, (.pointer (some ⟨b0, 0, none⟩)))] (X :: blk b0 (.cells (List.toArray [(.int .i64 p0.model), (.bool p0.alternate), (.int .i64 p0.size.Rows), (.int .i64 p0.size.Cols), (SV.val s0), (.int .i64 p0.cursor), (.int .i64 p0.attrs)]) 76 (0, 0)) :: slO s0 42 en_Vapi_Cell p0.cells :: R) g _ _
  refine c_seq ?_
  refine c_region ?_
  refine o1 rfl (o_box (cs := [(.pointer (some ⟨b0, 0, none⟩))]) rfl rfl (fun b641 => ?_))
  refine o1 rfl (o_p rfl ?_)
  refine o_end ?_
  refine e_seq ?_
  refine c_seq ?_
  refine c_region ?_
  refine o1 rfl (o_p rfl ?_)
  refine o1 rfl (o_p rfl ?_)
  refine o_end ?_
  refine e_seq ?_
  refine c_ret ?_
  refine e_ret ?_
  refine r_endt rfl rfl (kc rm1 (kc rm1 (kc rm1 (kc rm0 kr)))) ?_
  have hr := Option.some.inj h
  subst hr
  exact hk b641

theorem c_field_Places {g : Gw} (hg : GK g) (X : HP) (p0 : Vspace_Space) (b0 : Nat) (s0 : SV) (p1 : Int) (r : Unit) (h : m_field_Places p0 p1 = some r) : Tri env g 58 (List.toArray [(.pointer (some ⟨b0, 0, none⟩)), (.int .i64 p1)]) [X, blk b0 (.cells (List.toArray [(.int .i64 p0.model), (.bool p0.alternate), (.int .i64 p0.size.Rows), (.int .i64 p0.size.Cols), (SV.val s0), (.int .i64 p0.cursor), (.int .i64 p0.attrs)]) 76 (0, 0)), slO s0 42 en_Vapi_Cell p0.cells] (fun K R => ∀ (i0 : Nat × Nat), K (.func (.func 78) #[] (List.toArray [(.pointer (some ⟨i0.1, 0, none⟩)), (.pointer (some ⟨i0.2, 0, none⟩))])) (X :: blk b0 (.cells (List.toArray [(.int .i64 p0.model), (.bool p0.alternate), (.int .i64 p0.size.Rows), (.int .i64 p0.size.Cols), (SV.val s0), (.int .i64 p0.cursor), (.int .i64 p0.attrs)]) 76 (0, 0)) :: slO s0 42 en_Vapi_Cell p0.cells :: blk i0.1 (.cells (List.toArray [(.pointer (some ⟨b0, 0, none⟩))]) 24 (0, 0)) :: blk i0.2 (.cells (List.toArray [(.int .i64 p1)]) 3 (0, 0)) :: R)) := by
  refine tri_of (fn := Tryd.f58) (N := 6) Tryd.func58 rfl rfl rfl ?_
  intro R K hk
  unfold m_field_Places at h
  change GC _ none _ [] [(0, (.pointer (some ⟨b0, 0, none⟩))), (1, (.int .i64 p1))] (X :: blk b0 (.cells (List.toArray [(.int .i64 p0.model), (.bool p0.alternate), (.int .i64 p0.size.Rows), (.int .i64 p0.size.Cols), (SV.val s0), (.int .i64 p0.cursor), (.int .i64 p0.attrs)]) 76 (0, 0)) :: slO s0 42 en_Vapi_Cell p0.cells :: R) g _ _
  refine c_seq ?_
  refine c_region ?_
  refine o1 rfl (o_box (cs := [(.pointer (some ⟨b0, 0, none⟩))]) rfl rfl (fun b657 => ?_))
  refine o1 rfl (o_box (cs := [(.int .i64 p1)]) rfl rfl (fun b659 => ?_))
  refine o1 rfl (o_p rfl ?_)
  refine o_end ?_
  refine e_seq ?_
  refine c_seq ?_
  refine c_region ?_
  refine o1 rfl (o_p rfl ?_)
  refine o1 rfl (o_p rfl ?_)
  refine o_end ?_
  refine e_seq ?_
  refine c_ret ?_
  refine e_ret ?_
  refine r_endt rfl rfl (kc rm2 (kc rm2 (kc rm2 (kc rm1 (kc rm0 kr))))) ?_
  have hr := Option.some.inj h
  subst hr
  exact hk (b657, b659)

theorem c_erase_Unprotected {g : Gw} (hg : GK g) (X : HP) (p0 : Vspace_Space) (b0 : Nat) (s0 : SV) (r : Vspace_Space) (h : m_erase_Unprotected p0 = some r) : Tri env g 32 (List.toArray [(.pointer (some ⟨b0, 0, none⟩))]) [X, blk b0 (.cells (List.toArray [(.int .i64 p0.model), (.bool p0.alternate), (.int .i64 p0.size.Rows), (.int .i64 p0.size.Cols), (SV.val s0), (.int .i64 p0.cursor), (.int .i64 p0.attrs)]) 76 (0, 0)), slO s0 42 en_Vapi_Cell p0.cells] (fun K R => K (.tuple (List.toArray [])) (X :: blk b0 (.cells (List.toArray [(.int .i64 r.model), (.bool r.alternate), (.int .i64 r.size.Rows), (.int .i64 r.size.Cols), (SV.val s0), (.int .i64 r.cursor), (.int .i64 r.attrs)]) 76 (0, 0)) :: slO s0 42 en_Vapi_Cell r.cells :: R)) := by
  refine tri_of (fn := Tryd.f32) (N := 42) Tryd.func32 rfl rfl rfl ?_
  intro R K hk
  unfold m_erase_Unprotected at h
  change GC _ none _ [] [(0, (.pointer (some ⟨b0, 0, none⟩)))] (X :: blk b0 (.cells (List.toArray [(.int .i64 p0.model), (.bool p0.alternate), (.int .i64 p0.size.Rows), (.int .i64 p0.size.Cols), (SV.val s0), (.int .i64 p0.cursor), (.int .i64 p0.attrs)]) 76 (0, 0)) :: slO s0 42 en_Vapi_Cell p0.cells :: R) g _ _
  refine c_seq ?_
  refine c_region ?_
  refine o1 rfl (o_box (cs := [(.pointer (some ⟨b0, 0, none⟩))]) rfl rfl (fun b625 => ?_))
  refine o_end ?_
  refine e_seq ?_
  refine c_seq ?_
  refine c_seq ?_
  refine c_region ?_
  refine o1 rfl (o_ld (b := b625) (off := 0) (v := (.pointer (some ⟨b0, 0, none⟩))) rfl rm0 rfl rfl ?_)
  replace h := bsome h
  obtain ⟨d1, h1, h⟩ := h
  refine o1 rfl (o_call has55 rfl (c_space_Space_Formatted hg X p0 b0 s0 _ h1) (pc rm1 (pc rm1 (pc rm1 pn))) ?_)
  refine o1 rfl (o_p (v := (.bool (!d1))) rfl ?_)
  refine o_end ?_
  refine e_seq ?_
  refine c_cond (b := (!d1)) rfl (fun hb627 => ?_) (fun hb627 => ?_)
  · replace h := cond_t hb627 h
    refine c_seq ?_
    refine c_region ?_
    refine o1 rfl (o_ld (b := b625) (off := 0) (v := (.pointer (some ⟨b0, 0, none⟩))) rfl rm3 rfl rfl ?_)
    replace h := bsome h
    obtain ⟨d3, h3, h⟩ := h
    refine o1 rfl (o_call has56 rfl (c_erase_all hg X p0 b0 s0 _ h3) (pc rm0 (pc rm0 (pc rm0 pn))) ?_)
    refine o_end ?_
    refine e_seq ?_
    refine c_seq ?_
    refine c_region ?_
    refine o1 rfl (o_ld (b := b625) (off := 0) (v := (.pointer (some ⟨b0, 0, none⟩))) rfl rm3 rfl rfl ?_)
    replace h := bsome h
    obtain ⟨d4, h4, h⟩ := h
    refine o1 rfl (o_call has30 rfl (c_space_Space_Place hg X d3 b0 s0 0 _ h4) (pc rm0 (pc rm0 (pc rm0 pn))) ?_)
    refine o_end ?_
    refine e_seq ?_
    refine c_ret ?_
    refine e_then_ret ?_
    refine e_ret ?_
    refine r_endt rfl rfl (kc rm0 (kc rm0 (kc rm0 (kd kr)))) ?_
    have hr := Option.some.inj h
    subst hr
    exact hk
  · replace h := cond_f hb627 h
    refine c_skip ?_
    refine e_seq ?_
    refine c_seq ?_
    refine c_seq ?_
    refine c_region ?_
    refine o1 rfl (o_ld (b := b625) (off := 0) (v := (.pointer (some ⟨b0, 0, none⟩))) rfl rm3 rfl rfl ?_)
    replace h := bsome h
    obtain ⟨d5, h5, h⟩ := h
    refine o1 rfl (o_call has57 rfl (c_field_Fields hg X p0 b0 s0 _ h5) (pc rm0 (pc rm0 (pc rm0 pn))) (fun i5 => ?_))
    refine o_end ?_
    refine e_seq ?_
    replace h := bsome h
    obtain ⟨d6, h, hk6⟩ := h
    refine cjd (D := Unit) (ι := Nat) (fun _ i6 => [mk i6]) (fun _ i6 => True) (fun _ i6 => [(1, (.pointer (some ⟨b625, 0, none⟩)))]) (fun _ i6 => X :: blk b625 (.cells (List.toArray [(.pointer (some ⟨b0, 0, none⟩))]) 24 (0, 0)) :: blk b0 (.cells (List.toArray [(.int .i64 d6.1), (.bool d6.2.1), (.int .i64 d6.2.2.1), (.int .i64 d6.2.2.2.1), (SV.val s0), (.int .i64 d6.2.2.2.2.2.1), (.int .i64 d6.2.2.2.2.2.2)]) 76 (0, 0)) :: slO s0 42 en_Vapi_Cell d6.2.2.2.2.1 :: blk i6 (.deferred (some [])) :: R) ?_ ?_
    · refine c_block ?_
      replace h := bsome h
      obtain ⟨d7, h, hk7⟩ := h
      refine cjd (D := Unit) (ι := Nat) (fun _ i7 => [mk i7]) (fun _ i7 => True) (fun _ i7 => [(1, (.pointer (some ⟨b625, 0, none⟩)))]) (fun _ i7 => X :: blk b625 (.cells (List.toArray [(.pointer (some ⟨b0, 0, none⟩))]) 24 (0, 0)) :: blk b0 (.cells (List.toArray [(.int .i64 d7.1), (.bool d7.2.1), (.int .i64 d7.2.2.1), (.int .i64 d7.2.2.2.1), (SV.val s0), (.int .i64 d7.2.2.2.2.2.1), (.int .i64 d7.2.2.2.2.2.2)]) 76 (0, 0)) :: slO s0 42 en_Vapi_Cell d7.2.2.2.2.1 :: blk i7 (.deferred (some [])) :: R) ?_ ?_
      · refine c_range' (fn := Tryd.f76) (M := 16) rfl has76 Tryd.func76 rfl rfl rfl (fun l8 D8 a8 fc8 rc8 hrc8 ht8 => ?_)
        change GC _ none _ [] [(0, (.func (.yield l8) #[] #[])), (1, (.pointer (some ⟨i5, 0, none⟩)))] (blk l8 (.loop (rc8 .ready none)) :: blk D8 (.deferred (some [])) :: X :: blk b0 (.cells (List.toArray [(.int .i64 p0.model), (.bool p0.alternate), (.int .i64 p0.size.Rows), (.int .i64 p0.size.Cols), (SV.val s0), (.int .i64 p0.cursor), (.int .i64 p0.attrs)]) 76 (0, 0)) :: slO s0 42 en_Vapi_Cell p0.cells :: blk i5 (.cells (List.toArray [(.pointer (some ⟨b0, 0, none⟩))]) 24 (0, 0)) :: blk b625 (.cells (List.toArray [(.pointer (some ⟨b0, 0, none⟩))]) 24 (0, 0)) :: R) g _ _
        refine c_seq ?_
        refine c_region ?_
        refine o1 rfl (o_box (cs := [(.func (.yield l8) #[] #[])]) rfl rfl (fun b644 => ?_))
        refine o_end ?_
        refine e_seq ?_
        refine c_seq ?_
        refine c_region ?_
        refine o1 rfl (o_ld (b := i5) (off := 0) (v := (.pointer (some ⟨b0, 0, none⟩))) rfl rm6 rfl rfl ?_)
        replace h := bsome h
        obtain ⟨d9, h9, h⟩ := h
        refine o1 rfl (o_call has75 rfl (c_space_Space_Attrs hg X p0 b0 s0 _ h9) (pc rm3 (pc rm3 (pc rm3 pn))) (fun i9 => ?_))
        refine o_end ?_
        refine e_seq ?_
        replace h := bsome h
        obtain ⟨d10, h, hk10⟩ := h
        refine cjd (D := Unit) (ι := Nat) (fun _ i10 => [mk i10]) (fun _ i10 => True) (fun _ i10 => []) (fun _ i10 => X :: blk b0 (.cells (List.toArray [(.int .i64 d10.1), (.bool d10.2.1), (.int .i64 d10.2.2.1), (.int .i64 d10.2.2.2.1), (SV.val s0), (.int .i64 d10.2.2.2.2.2.1), (.int .i64 d10.2.2.2.2.2.2)]) 76 (0, 0)) :: blk i5 (.cells (List.toArray [(.pointer (some ⟨b0, 0, none⟩))]) 24 (0, 0)) :: blk b625 (.cells (List.toArray [(.pointer (some ⟨b0, 0, none⟩))]) 24 (0, 0)) :: slO s0 42 en_Vapi_Cell d10.2.2.2.2.1 :: blk i10 (.deferred (some [])) :: blk l8 (.loop (rc8 .ready none)) :: blk D8 (.deferred (some [])) :: R) ?_ ?_
        · refine c_block ?_
          replace h := bsome h
          obtain ⟨d11, h, hk11⟩ := h
          refine cjd (D := Unit) (ι := Nat) (fun _ i11 => [mk i11]) (fun _ i11 => True) (fun _ i11 => []) (fun _ i11 => X :: blk b0 (.cells (List.toArray [(.int .i64 d11.1), (.bool d11.2.1), (.int .i64 d11.2.2.1), (.int .i64 d11.2.2.2.1), (SV.val s0), (.int .i64 d11.2.2.2.2.2.1), (.int .i64 d11.2.2.2.2.2.2)]) 76 (0, 0)) :: blk i5 (.cells (List.toArray [(.pointer (some ⟨b0, 0, none⟩))]) 24 (0, 0)) :: blk b625 (.cells (List.toArray [(.pointer (some ⟨b0, 0, none⟩))]) 24 (0, 0)) :: slO s0 42 en_Vapi_Cell d11.2.2.2.2.1 :: blk i11 (.deferred (some [])) :: blk l8 (.loop (rc8 .ready none)) :: blk D8 (.deferred (some [])) :: R) ?_ ?_
          · refine c_range' (fn := Tryd.f95) (M := 17) rfl has95 Tryd.func95 rfl rfl rfl (fun l12 D12 a12 fc12 rc12 hrc12 ht12 => ?_)
            change GC _ none _ [] [(0, (.func (.yield l12) #[] #[])), (1, (.pointer (some ⟨i9, 0, none⟩)))] (blk l12 (.loop (rc12 .ready none)) :: blk D12 (.deferred (some [])) :: X :: blk b0 (.cells (List.toArray [(.int .i64 p0.model), (.bool p0.alternate), (.int .i64 p0.size.Rows), (.int .i64 p0.size.Cols), (SV.val s0), (.int .i64 p0.cursor), (.int .i64 p0.attrs)]) 76 (0, 0)) :: slO s0 42 en_Vapi_Cell p0.cells :: blk i9 (.cells (List.toArray [(.pointer (some ⟨b0, 0, none⟩))]) 24 (0, 0)) :: blk b644 (.cells (List.toArray [(.func (.yield l8) #[] #[])]) 135 (0, 0)) :: blk l8 (.loop (rc8 .ready none)) :: blk D8 (.deferred (some [])) :: blk i5 (.cells (List.toArray [(.pointer (some ⟨b0, 0, none⟩))]) 24 (0, 0)) :: blk b625 (.cells (List.toArray [(.pointer (some ⟨b0, 0, none⟩))]) 24 (0, 0)) :: R) g _ _
            refine c_seq ?_
            refine c_region ?_
            refine o1 rfl (o_box (cs := [(.func (.yield l12) #[] #[])]) rfl rfl (fun b647 => ?_))
            refine o_end ?_
            refine e_seq ?_
            refine c_seq ?_
            refine c_region ?_
            refine o1 rfl (o_ld (b := i9) (off := 0) (v := (.pointer (some ⟨b0, 0, none⟩))) rfl rm6 rfl rfl ?_)
            replace h := bsome h
            obtain ⟨d13, h13, h⟩ := h
            refine o1 rfl (o_call has96 rfl (c_space_Space_All hg X p0 b0 s0 _ h13) (pc rm3 (pc rm3 (pc rm3 pn))) (fun i13 => ?_))
            refine o_end ?_
            refine e_seq ?_
            replace h := bsome h
            obtain ⟨d14, h, hk14⟩ := h
            refine cjd (D := Unit) (ι := Nat) (fun _ i14 => [mk i14]) (fun _ i14 => True) (fun _ i14 => []) (fun _ i14 => X :: blk b0 (.cells (List.toArray [(.int .i64 d14.1), (.bool d14.2.1), (.int .i64 d14.2.2.1), (.int .i64 d14.2.2.2.1), (SV.val s0), (.int .i64 d14.2.2.2.2.2.1), (.int .i64 d14.2.2.2.2.2.2)]) 76 (0, 0)) :: blk i5 (.cells (List.toArray [(.pointer (some ⟨b0, 0, none⟩))]) 24 (0, 0)) :: blk b625 (.cells (List.toArray [(.pointer (some ⟨b0, 0, none⟩))]) 24 (0, 0)) :: blk i9 (.cells (List.toArray [(.pointer (some ⟨b0, 0, none⟩))]) 24 (0, 0)) :: blk b644 (.cells (List.toArray [(.func (.yield l8) #[] #[])]) 135 (0, 0)) :: slO s0 42 en_Vapi_Cell d14.2.2.2.2.1 :: blk i14 (.deferred (some [])) :: blk l12 (.loop (rc12 .ready none)) :: blk D12 (.deferred (some [])) :: blk l8 (.loop (rc8 .ready none)) :: blk D8 (.deferred (some [])) :: R) ?_ ?_
            · refine c_block ?_
              replace h := bsome h
              obtain ⟨d15, h, hk15⟩ := h
              refine cjd (D := Unit) (ι := Nat) (fun _ i15 => [mk i15]) (fun _ i15 => True) (fun _ i15 => []) (fun _ i15 => X :: blk b0 (.cells (List.toArray [(.int .i64 d15.1), (.bool d15.2.1), (.int .i64 d15.2.2.1), (.int .i64 d15.2.2.2.1), (SV.val s0), (.int .i64 d15.2.2.2.2.2.1), (.int .i64 d15.2.2.2.2.2.2)]) 76 (0, 0)) :: blk i5 (.cells (List.toArray [(.pointer (some ⟨b0, 0, none⟩))]) 24 (0, 0)) :: blk b625 (.cells (List.toArray [(.pointer (some ⟨b0, 0, none⟩))]) 24 (0, 0)) :: blk i9 (.cells (List.toArray [(.pointer (some ⟨b0, 0, none⟩))]) 24 (0, 0)) :: blk b644 (.cells (List.toArray [(.func (.yield l8) #[] #[])]) 135 (0, 0)) :: slO s0 42 en_Vapi_Cell d15.2.2.2.2.1 :: blk i15 (.deferred (some [])) :: blk l12 (.loop (rc12 .ready none)) :: blk D12 (.deferred (some [])) :: blk l8 (.loop (rc8 .ready none)) :: blk D8 (.deferred (some [])) :: R) ?_ ?_
              · refine c_range' (fn := Tryd.f106) (M := 18) rfl has106 Tryd.func106 rfl rfl rfl (fun l16 D16 a16 fc16 rc16 hrc16 ht16 => ?_)
                change GC _ none _ [] [(0, (.func (.yield l16) #[] #[])), (1, (.pointer (some ⟨i13, 0, none⟩)))] (blk l16 (.loop (rc16 .ready none)) :: blk D16 (.deferred (some [])) :: X :: blk b0 (.cells (List.toArray [(.int .i64 p0.model), (.bool p0.alternate), (.int .i64 p0.size.Rows), (.int .i64 p0.size.Cols), (SV.val s0), (.int .i64 p0.cursor), (.int .i64 p0.attrs)]) 76 (0, 0)) :: slO s0 42 en_Vapi_Cell p0.cells :: blk i13 (.cells (List.toArray [(.pointer (some ⟨b0, 0, none⟩))]) 24 (0, 0)) :: blk b647 (.cells (List.toArray [(.func (.yield l12) #[] #[])]) 56 (0, 0)) :: blk l12 (.loop (rc12 .ready none)) :: blk D12 (.deferred (some [])) :: blk i9 (.cells (List.toArray [(.pointer (some ⟨b0, 0, none⟩))]) 24 (0, 0)) :: blk b644 (.cells (List.toArray [(.func (.yield l8) #[] #[])]) 135 (0, 0)) :: blk l8 (.loop (rc8 .ready none)) :: blk D8 (.deferred (some [])) :: blk i5 (.cells (List.toArray [(.pointer (some ⟨b0, 0, none⟩))]) 24 (0, 0)) :: blk b625 (.cells (List.toArray [(.pointer (some ⟨b0, 0, none⟩))]) 24 (0, 0)) :: R) g _ _
                refine c_seq ?_
                refine c_region ?_
                refine o1 rfl (o_ld (b := i13) (off := 0) (v := (.pointer (some ⟨b0, 0, none⟩))) rfl rm5 rfl rfl ?_)
                replace h := bsome h
                obtain ⟨d17, h17, h⟩ := h
                refine o1 rfl (o_call has39 rfl (c_space_Space_Size hg X p0 b0 s0 _ h17) (pc rm2 (pc rm2 (pc rm2 pn))) ?_)
                replace h := bsome h
                obtain ⟨d18, h18, h⟩ := h
                refine o1 rfl (o_call has51 rfl (c_addr_Size_Cells hg X (⟨d17.Rows, d17.Cols⟩ : Vaddr_Size) _ h18) (pc rm0 pn) ?_)
                refine o1 rfl (o_p rfl ?_)
                refine o_end ?_
                refine e_seq ?_
                replace h := bsome h
                obtain ⟨d19, h, hk19⟩ := h
                refine cj (D := Unit) (ι := Unit) (fun _ i19 => True) (fun _ i19 => []) (fun _ i19 => X :: blk b0 (.cells (List.toArray [(.int .i64 d19.1), (.bool d19.2.1), (.int .i64 d19.2.2.1), (.int .i64 d19.2.2.2.1), (SV.val s0), (.int .i64 d19.2.2.2.2.2.1), (.int .i64 d19.2.2.2.2.2.2)]) 76 (0, 0)) :: blk i5 (.cells (List.toArray [(.pointer (some ⟨b0, 0, none⟩))]) 24 (0, 0)) :: blk b625 (.cells (List.toArray [(.pointer (some ⟨b0, 0, none⟩))]) 24 (0, 0)) :: blk i9 (.cells (List.toArray [(.pointer (some ⟨b0, 0, none⟩))]) 24 (0, 0)) :: blk b644 (.cells (List.toArray [(.func (.yield l8) #[] #[])]) 135 (0, 0)) :: blk i13 (.cells (List.toArray [(.pointer (some ⟨b0, 0, none⟩))]) 24 (0, 0)) :: blk b647 (.cells (List.toArray [(.func (.yield l12) #[] #[])]) 56 (0, 0)) :: slO s0 42 en_Vapi_Cell d19.2.2.2.2.1 :: blk l16 (.loop (rc16 .ready none)) :: blk D16 (.deferred (some [])) :: blk l12 (.loop (rc12 .ready none)) :: blk D12 (.deferred (some [])) :: blk l8 (.loop (rc8 .ready none)) :: blk D8 (.deferred (some [])) :: R) ?_ ?_
                · refine c_block ?_
                  refine c_loop (l_sub (sc rfl (sc rfl (sc rfl (sc rfl sn)))) (l_keep (kc rm0 (kc rm4 (kc rm0 (kc rm10 (kc rm10 (kc rm6 (kc rm6 (kc rm3 (kc rm0 (kc rm0 (kc rm0 (kc rm0 (kc rm0 (kc rm0 (kc rm0 kr))))))))))))))) (lf (X := Int × Int × Bool × Int × Int × (List Vapi_Cell) × Int × Int) (ι := Unit) (fun k x => erase_Unprotected_l20 d18 k x) _ (fun x20 i20 => True) (fun x20 i20 => [(7, (.int .i64 x20.1)), (6, (.int .i64 d18)), (0, (.func (.yield l16) #[] #[])), (1, (.pointer (some ⟨i13, 0, none⟩)))]) (fun x20 i20 => X :: blk i13 (.cells (List.toArray [(.pointer (some ⟨b0, 0, none⟩))]) 24 (0, 0)) :: blk b0 (.cells (List.toArray [(.int .i64 x20.2.1), (.bool x20.2.2.1), (.int .i64 x20.2.2.2.1), (.int .i64 x20.2.2.2.2.1), (SV.val s0), (.int .i64 x20.2.2.2.2.2.2.1), (.int .i64 x20.2.2.2.2.2.2.2)]) 76 (0, 0)) :: blk i5 (.cells (List.toArray [(.pointer (some ⟨b0, 0, none⟩))]) 24 (0, 0)) :: blk b625 (.cells (List.toArray [(.pointer (some ⟨b0, 0, none⟩))]) 24 (0, 0)) :: blk i9 (.cells (List.toArray [(.pointer (some ⟨b0, 0, none⟩))]) 24 (0, 0)) :: blk b644 (.cells (List.toArray [(.func (.yield l8) #[] #[])]) 135 (0, 0)) :: blk b647 (.cells (List.toArray [(.func (.yield l12) #[] #[])]) 56 (0, 0)) :: slO s0 42 en_Vapi_Cell x20.2.2.2.2.2.1 :: blk l16 (.loop (rc16 .ready none)) :: blk D16 (.deferred (some [])) :: blk l12 (.loop (rc12 .ready none)) :: blk D12 (.deferred (some [])) :: blk l8 (.loop (rc8 .ready none)) :: blk D8 (.deferred (some [])) :: R) (fun _ => rfl) ?_ fuel (0, p0.model, p0.alternate, p0.size.Rows, p0.size.Cols, p0.cells, p0.cursor, p0.attrs) () trivial h)))
                  clear h
                  rintro k20 ih20 x20 i20 _ h
                  rw [erase_Unprotected_l20.eq_2] at h
                  refine l_round ?_
                  refine c_seq ?_
                  refine c_region ?_
                  refine o1 rfl (o_p (v := (.bool (decide (x20.1 < d18)))) rfl ?_)
                  refine o_end ?_
                  refine e_seq ?_
                  refine c_seq ?_
                  refine c_cond (b := (decide (x20.1 < d18))) rfl (fun hb714 => ?_) (fun hb714 => ?_)
                  · replace h := cond_t hb714 h
                    refine c_skip ?_
                    refine e_seq ?_
                    refine c_seq ?_
                    refine c_block ?_
                    refine c_seq ?_
                    refine c_region ?_
                    refine o1 rfl (o_p rfl ?_)
                    refine o1 rfl (o_p rfl ?_)
                    refine o_end ?_
                    refine e_seq ?_
                    refine c_seq ?_
                    refine c_region ?_
                    refine o1 rfl (o_p rfl ?_)
                    refine o1 rfl (o_p rfl ?_)
                    refine o1 rfl (o_ld (b := i13) (off := 0) (v := (.pointer (some ⟨b0, 0, none⟩))) rfl rm1 rfl rfl ?_)
                    refine o1 rfl (o_p rfl ?_)
                    replace h := bsome h
                    obtain ⟨d23, h23, h⟩ := h
                    refine o1 rfl (o_call has10 rfl (c_space_Space_At hg X (⟨x20.2.1, x20.2.2.1, (⟨x20.2.2.2.1, x20.2.2.2.2.1⟩ : Vaddr_Size), x20.2.2.2.2.2.1, x20.2.2.2.2.2.2.1, x20.2.2.2.2.2.2.2⟩ : Vspace_Space) b0 s0 x20.1 _ h23) (pc rm0 (pc rm1 (pc rm6 pn))) ?_)
                    refine o1 rfl (o_yield' hrc16 ht16 rfl rfl rfl rfl rm9 ?_)
                    refine c_seq ?_
                    refine c_region ?_
                    refine o1 rfl (o_p rfl ?_)
                    refine o_end ?_
                    refine e_seq ?_
                    refine c_region ?_
                    refine o1 rfl (o_alloc (cs := [(.int .u8 0), (.bool false), (.int .u8 0), (.int .u8 0), (.int .u8 0), (.int .u8 0)]) rfl rfl (fun b715 => ?_))
                    refine o0 (o_st (b := b715) (off := 0) (vs := [(.int .u8 d23.Char), (.bool d23.Attr), (.int .u8 d23.FA), (.int .u8 d23.High), (.int .u8 d23.Color), (.int .u8 d23.f_Set)]) (cs' := [(.int .u8 d23.Char), (.bool d23.Attr), (.int .u8 d23.FA), (.int .u8 d23.High), (.int .u8 d23.Color), (.int .u8 d23.f_Set)]) rfl rfl rp0 rfl rfl rfl rfl rfl rfl ?_)
                    refine o_end ?_
                    refine e_begin' hrc16 rm1 ?_
                    refine c_block ?_
                    refine c_seq ?_
                    replace h := bsome h
                    obtain ⟨d25, h, hk25⟩ := h
                    refine cj (D := Unit) (ι := Unit) (fun _ i25 => True) (fun _ i25 => [(16, (.bool false))]) (fun _ i25 => X :: blk b0 (.cells (List.toArray [(.int .i64 d25.1), (.bool d25.2.1), (.int .i64 d25.2.2.1), (.int .i64 d25.2.2.2.1), (SV.val s0), (.int .i64 d25.2.2.2.2.2.1), (.int .i64 d25.2.2.2.2.2.2)]) 76 (0, 0)) :: blk i5 (.cells (List.toArray [(.pointer (some ⟨b0, 0, none⟩))]) 24 (0, 0)) :: blk b625 (.cells (List.toArray [(.pointer (some ⟨b0, 0, none⟩))]) 24 (0, 0)) :: blk i9 (.cells (List.toArray [(.pointer (some ⟨b0, 0, none⟩))]) 24 (0, 0)) :: blk b644 (.cells (List.toArray [(.func (.yield l8) #[] #[])]) 135 (0, 0)) :: blk i13 (.cells (List.toArray [(.pointer (some ⟨b0, 0, none⟩))]) 24 (0, 0)) :: blk b647 (.cells (List.toArray [(.func (.yield l12) #[] #[])]) 56 (0, 0)) :: slO s0 42 en_Vapi_Cell d25.2.2.2.2.1 :: blk l12 (.loop (rc12 .ready none)) :: blk l8 (.loop (rc8 .ready none)) :: blk l16 (.loop (rc16 .busy none)) :: blk D16 (.deferred (some [])) :: blk D12 (.deferred (some [])) :: blk D8 (.deferred (some [])) :: R) ?_ ?_
                    · refine c_region ?_
                      refine o1 rfl (o_fa (fd := ⟨ "Attr", 4, 1, false, "", "", 1⟩) rfl rfl rfl rfl rfl ?_)
                      refine o1 rfl (o_ld (b := b715) (off := 1) (v := (.bool d23.Attr)) rfl rm1 rfl rfl ?_)
                      refine o1 rfl (o_p rfl ?_)
                      rcases bool_or (d23.Attr) with hb717 | hb717
                      · replace h := cond_t hb717 h
                        refine oy rfl rfl rfl hb717 (o_ld (b := b647) (off := 0) (v := (.func (.yield l12) #[] #[])) rfl rm10 rfl rfl ?_)
                        refine oy rfl rfl rfl hb717 (o_p rfl ?_)
                        refine oy rfl rfl rfl hb717 (o_yield' hrc12 ht12 rfl rfl rfl rfl rm12 ?_)
                        refine c_region ?_
                        refine o1 rfl (o_p rfl ?_)
                        refine o_end ?_
                        refine e_begin' hrc12 rm0 ?_
                        refine c_block ?_
                        refine c_seq ?_
                        refine c_draw (n := 3) (q := [(0, 7, (.func (.yield l8) #[] #[])), (1, 8, (.int .i64 x20.1)), (2, 9, (.pointer (some ⟨b0, 0, none⟩))), (3, 10, (.int .i64 x20.1))]) (pend := [0, 1, 2, 3]) rfl rfl rfl ?_
                        replace h := bsome h
                        obtain ⟨d28, h28, h⟩ := h
                        refine ⟨⟨fun _ => ⟨rfl, rfl, rfl, .inl ⟨rfl, (o_ld (b := b644) (off := 0) (v := (.func (.yield l8) #[] #[])) rfl rm10 rfl rfl ⟨rfl, rfl⟩)⟩⟩, fun _ => ⟨rfl, rfl, rfl, .inl ⟨rfl, (o_p rfl ⟨rfl, rfl⟩)⟩⟩, fun _ => ⟨rfl, rfl, rfl, .inl ⟨rfl, (o_ld (b := i5) (off := 0) (v := (.pointer (some ⟨b0, 0, none⟩))) rfl rm7 rfl rfl ⟨rfl, rfl⟩)⟩⟩, fun _ => ⟨rfl, rfl, rfl, .inl ⟨rfl, (o_p rfl ⟨rfl, rfl⟩)⟩⟩, trivial⟩, rfl, .inr ⟨[4], rfl, rfl, ⟨rfl, .inl rfl, ?_⟩, trivial⟩⟩
                        refine (o_call has10 rfl (c_space_Space_At hg X (⟨x20.2.1, x20.2.2.1, (⟨x20.2.2.2.1, x20.2.2.2.2.1⟩ : Vaddr_Size), x20.2.2.2.2.2.1, x20.2.2.2.2.2.2.1, x20.2.2.2.2.2.2.2⟩ : Vspace_Space) b0 s0 x20.1 _ h28) (pc rm3 (pc rm3 (pc rm3 pn))) ?_)
                        refine ⟨[(5, 12, (.int .u8 d28.FA))], [0, 1, 5], rfl, rfl, rfl, rfl, ?_⟩
                        replace h := bsome h
                        obtain ⟨d29, h29, h⟩ := h
                        refine ⟨⟨fun _ => ⟨rfl, rfl, rfl, .inl ⟨rfl, (o_field (v := (.int .u8 d28.FA)) rfl rfl rfl ⟨rfl, rfl⟩)⟩⟩, fun _ => ⟨rfl, rfl, rfl, .inl ⟨rfl, (o_ld (b := b644) (off := 0) (v := (.func (.yield l8) #[] #[])) rfl rm10 rfl rfl ⟨rfl, rfl⟩)⟩⟩, fun _ => ⟨rfl, rfl, rfl, .inl ⟨rfl, (o_p rfl ⟨rfl, rfl⟩)⟩⟩, (fun h => nomatch h), (fun h => nomatch h), trivial⟩, rfl, .inr ⟨[6], rfl, rfl, ⟨rfl, .inl rfl, ?_⟩, trivial⟩⟩
                        refine (o_call has77 rfl (c_attr_Of hg X d28.FA _ h29) (pc rm0 pn) ?_)
                        refine ⟨[], [0, 1], rfl, rfl, rfl, rfl, ?_⟩
                        refine ⟨⟨(fun h => nomatch h), fun _ => ⟨rfl, rfl, rfl, .inl ⟨rfl, (o_ld (b := b644) (off := 0) (v := (.func (.yield l8) #[] #[])) rfl rm10 rfl rfl ⟨rfl, rfl⟩)⟩⟩, fun _ => ⟨rfl, rfl, rfl, .inl ⟨rfl, (o_p rfl ⟨rfl, rfl⟩)⟩⟩, (fun h => nomatch h), (fun h => nomatch h), trivial⟩, rfl, .inr ⟨[7], rfl, rfl, ⟨rfl, .inl rfl, ?_⟩, trivial⟩⟩
                        refine (o_yield' hrc8 ht8 rfl rfl rfl rfl rm14 ?_)
                        refine c_seq ?_
                        refine c_region ?_
                        refine o1 rfl (o_p rfl ?_)
                        refine o_end ?_
                        refine e_seq ?_
                        refine c_region ?_
                        refine o1 rfl (o_alloc (cs := [(.bool false), (.bool false), (.int .i64 0), (.bool false)]) rfl rfl (fun b718 => ?_))
                        refine o0 (o_st (b := b718) (off := 0) (vs := [(.bool d29.Protected), (.bool d29.Numeric), (.int .i64 d29.Display), (.bool d29.Modified)]) (cs' := [(.bool d29.Protected), (.bool d29.Numeric), (.int .i64 d29.Display), (.bool d29.Modified)]) rfl rfl rp0 rfl rfl rfl rfl rfl rfl ?_)
                        refine o_end ?_
                        refine e_begin' hrc8 rm1 ?_
                        replace h := bsome h
                        obtain ⟨d30, h, hk30⟩ := h
                        refine cj (D := Unit) (ι := Unit) (fun _ i30 => True) (fun _ i30 => []) (fun _ i30 => X :: blk b0 (.cells (List.toArray [(.int .i64 d30.1), (.bool d30.2.1), (.int .i64 d30.2.2.1), (.int .i64 d30.2.2.2.1), (SV.val s0), (.int .i64 d30.2.2.2.2.2.1), (.int .i64 d30.2.2.2.2.2.2)]) 76 (0, 0)) :: blk i5 (.cells (List.toArray [(.pointer (some ⟨b0, 0, none⟩))]) 24 (0, 0)) :: blk b625 (.cells (List.toArray [(.pointer (some ⟨b0, 0, none⟩))]) 24 (0, 0)) :: blk i9 (.cells (List.toArray [(.pointer (some ⟨b0, 0, none⟩))]) 24 (0, 0)) :: blk b644 (.cells (List.toArray [(.func (.yield l8) #[] #[])]) 135 (0, 0)) :: blk i13 (.cells (List.toArray [(.pointer (some ⟨b0, 0, none⟩))]) 24 (0, 0)) :: blk b647 (.cells (List.toArray [(.func (.yield l12) #[] #[])]) 56 (0, 0)) :: blk b715 (.cells (List.toArray [(.int .u8 d23.Char), (.bool d23.Attr), (.int .u8 d23.FA), (.int .u8 d23.High), (.int .u8 d23.Color), (.int .u8 d23.f_Set)]) 42 (0, 0)) :: slO s0 42 en_Vapi_Cell d30.2.2.2.2.1 :: blk l8 (.loop (rc8 .busy none)) :: blk l12 (.loop (rc12 .busy none)) :: blk l16 (.loop (rc16 .busy none)) :: blk D16 (.deferred (some [])) :: blk D12 (.deferred (some [])) :: blk D8 (.deferred (some [])) :: R) ?_ ?_
                        · refine c_block ?_
                          refine c_seq ?_
                          refine c_seq ?_
                          refine c_region ?_
                          refine o1 rfl (o_fa (fd := ⟨ "Protected", 4, 0, false, "", "", 0⟩) rfl rfl rfl rfl rfl ?_)
                          refine o1 rfl (o_ld (b := b718) (off := 0) (v := (.bool d29.Protected)) rfl rm1 rfl rfl ?_)
                          refine o_end ?_
                          refine e_seq ?_
                          refine c_cond (b := d29.Protected) rfl (fun hb720 => ?_) (fun hb720 => ?_)
                          · replace h := cond_t hb720 h
                            refine c_exit ?_
                            refine e_then_exit ?_
                            refine e_blk_exit ?_
                            have hd := Option.some.inj h
                            subst hd
                            exact ej () () trivial sn (kc rm2 (kc rm2 (kc rm7 (kc rm7 (kc rm7 (kc rm7 (kc rm6 (kc rm6 (kc rm5 (kc rm2 (kc rm0 (kc rm1 (kc rm1 (kc rm1 (kc rm1 (kc rm1 (kd kr)))))))))))))))))
                          · replace h := cond_f hb720 h
                            refine c_skip ?_
                            refine e_seq ?_
                            refine c_seq ?_
                            refine c_seq ?_
                            refine c_region ?_
                            refine o1 rfl (o_ld (b := b625) (off := 0) (v := (.pointer (some ⟨b0, 0, none⟩))) rfl rm10 rfl rfl ?_)
                            refine o1 rfl (o_p rfl ?_)
                            replace h := bsome h
                            obtain ⟨d32, h32, h⟩ := h
                            refine o1 rfl (o_call has58 rfl (c_field_Places hg X (⟨x20.2.1, x20.2.2.1, (⟨x20.2.2.2.1, x20.2.2.2.2.1⟩ : Vaddr_Size), x20.2.2.2.2.2.1, x20.2.2.2.2.2.2.1, x20.2.2.2.2.2.2.2⟩ : Vspace_Space) b0 s0 x20.1 _ h32) (pc rm2 (pc rm2 (pc rm2 pn))) (fun i32 => ?_))
                            refine o_end ?_
                            refine e_seq ?_
                            replace h := bsome h
                            obtain ⟨d33, h, hk33⟩ := h
                            refine cj (D := Unit) (ι := Unit) (fun _ i33 => True) (fun _ i33 => [(2, (.int .i64 x20.1)), (1, (.pointer (some ⟨b625, 0, none⟩)))]) (fun _ i33 => X :: blk b625 (.cells (List.toArray [(.pointer (some ⟨b0, 0, none⟩))]) 24 (0, 0)) :: blk b0 (.cells (List.toArray [(.int .i64 d33.1), (.bool d33.2.1), (.int .i64 d33.2.2.1), (.int .i64 d33.2.2.2.1), (SV.val s0), (.int .i64 d33.2.2.2.2.2.1), (.int .i64 d33.2.2.2.2.2.2)]) 76 (0, 0)) :: blk i5 (.cells (List.toArray [(.pointer (some ⟨b0, 0, none⟩))]) 24 (0, 0)) :: blk i9 (.cells (List.toArray [(.pointer (some ⟨b0, 0, none⟩))]) 24 (0, 0)) :: blk b644 (.cells (List.toArray [(.func (.yield l8) #[] #[])]) 135 (0, 0)) :: blk i13 (.cells (List.toArray [(.pointer (some ⟨b0, 0, none⟩))]) 24 (0, 0)) :: blk b647 (.cells (List.toArray [(.func (.yield l12) #[] #[])]) 56 (0, 0)) :: blk b715 (.cells (List.toArray [(.int .u8 d23.Char), (.bool d23.Attr), (.int .u8 d23.FA), (.int .u8 d23.High), (.int .u8 d23.Color), (.int .u8 d23.f_Set)]) 42 (0, 0)) :: slO s0 42 en_Vapi_Cell d33.2.2.2.2.1 :: blk l8 (.loop (rc8 .busy none)) :: blk l12 (.loop (rc12 .busy none)) :: blk l16 (.loop (rc16 .busy none)) :: blk D16 (.deferred (some [])) :: blk D12 (.deferred (some [])) :: blk D8 (.deferred (some [])) :: R) ?_ ?_
                            · refine c_block ?_
                              replace h := bsome h
                              obtain ⟨d34, h, hk34⟩ := h
                              refine cj (D := Unit) (ι := Unit) (fun _ i34 => True) (fun _ i34 => [(2, (.int .i64 x20.1)), (1, (.pointer (some ⟨b625, 0, none⟩)))]) (fun _ i34 => X :: blk b625 (.cells (List.toArray [(.pointer (some ⟨b0, 0, none⟩))]) 24 (0, 0)) :: blk b0 (.cells (List.toArray [(.int .i64 d34.1), (.bool d34.2.1), (.int .i64 d34.2.2.1), (.int .i64 d34.2.2.2.1), (SV.val s0), (.int .i64 d34.2.2.2.2.2.1), (.int .i64 d34.2.2.2.2.2.2)]) 76 (0, 0)) :: blk i5 (.cells (List.toArray [(.pointer (some ⟨b0, 0, none⟩))]) 24 (0, 0)) :: blk i9 (.cells (List.toArray [(.pointer (some ⟨b0, 0, none⟩))]) 24 (0, 0)) :: blk b644 (.cells (List.toArray [(.func (.yield l8) #[] #[])]) 135 (0, 0)) :: blk i13 (.cells (List.toArray [(.pointer (some ⟨b0, 0, none⟩))]) 24 (0, 0)) :: blk b647 (.cells (List.toArray [(.func (.yield l12) #[] #[])]) 56 (0, 0)) :: blk b715 (.cells (List.toArray [(.int .u8 d23.Char), (.bool d23.Attr), (.int .u8 d23.FA), (.int .u8 d23.High), (.int .u8 d23.Color), (.int .u8 d23.f_Set)]) 42 (0, 0)) :: slO s0 42 en_Vapi_Cell d34.2.2.2.2.1 :: blk l8 (.loop (rc8 .busy none)) :: blk l12 (.loop (rc12 .busy none)) :: blk l16 (.loop (rc16 .busy none)) :: blk D16 (.deferred (some [])) :: blk D12 (.deferred (some [])) :: blk D8 (.deferred (some [])) :: R) ?_ ?_
                              · refine c_range_in' (fn := Tryd.f78) (M := 33) hrc8 rm5 rfl has78 Tryd.func78 rfl rfl rfl (fun l35 a35 fc35 rc35 hrc35 ht35 => ?_)
                                change GC _ none _ [] [(0, (.func (.yield l35) #[] #[])), (1, (.pointer (some ⟨i32.1, 0, none⟩))), (2, (.pointer (some ⟨i32.2, 0, none⟩)))] (blk l35 (.loop (rc35 .ready none)) :: X :: blk b0 (.cells (List.toArray [(.int .i64 x20.2.1), (.bool x20.2.2.1), (.int .i64 x20.2.2.2.1), (.int .i64 x20.2.2.2.2.1), (SV.val s0), (.int .i64 x20.2.2.2.2.2.2.1), (.int .i64 x20.2.2.2.2.2.2.2)]) 76 (0, 0)) :: slO s0 42 en_Vapi_Cell x20.2.2.2.2.2.1 :: blk i32.1 (.cells (List.toArray [(.pointer (some ⟨b0, 0, none⟩))]) 24 (0, 0)) :: blk i32.2 (.cells (List.toArray [(.int .i64 x20.1)]) 3 (0, 0)) :: blk l8 (.loop (rc8 .busy none)) :: blk b718 (.cells (List.toArray [(.bool d29.Protected), (.bool d29.Numeric), (.int .i64 d29.Display), (.bool d29.Modified)]) 112 (0, 0)) :: blk l12 (.loop (rc12 .busy none)) :: blk l16 (.loop (rc16 .busy none)) :: blk b715 (.cells (List.toArray [(.int .u8 d23.Char), (.bool d23.Attr), (.int .u8 d23.FA), (.int .u8 d23.High), (.int .u8 d23.Color), (.int .u8 d23.f_Set)]) 42 (0, 0)) :: blk i13 (.cells (List.toArray [(.pointer (some ⟨b0, 0, none⟩))]) 24 (0, 0)) :: blk i5 (.cells (List.toArray [(.pointer (some ⟨b0, 0, none⟩))]) 24 (0, 0)) :: blk b625 (.cells (List.toArray [(.pointer (some ⟨b0, 0, none⟩))]) 24 (0, 0)) :: blk i9 (.cells (List.toArray [(.pointer (some ⟨b0, 0, none⟩))]) 24 (0, 0)) :: blk b644 (.cells (List.toArray [(.func (.yield l8) #[] #[])]) 135 (0, 0)) :: blk b647 (.cells (List.toArray [(.func (.yield l12) #[] #[])]) 56 (0, 0)) :: blk D16 (.deferred (some [])) :: blk D12 (.deferred (some [])) :: blk D8 (.deferred (some [])) :: R) g _ _
                                refine c_seq ?_
                                refine c_region ?_
                                refine o1 rfl (o_ld (b := i32.1) (off := 0) (v := (.pointer (some ⟨b0, 0, none⟩))) rfl rm4 rfl rfl ?_)
                                replace h := bsome h
                                obtain ⟨d36, h36, h⟩ := h
                                refine o1 rfl (o_call has39 rfl (c_space_Space_Size hg X (⟨x20.2.1, x20.2.2.1, (⟨x20.2.2.2.1, x20.2.2.2.2.1⟩ : Vaddr_Size), x20.2.2.2.2.2.1, x20.2.2.2.2.2.2.1, x20.2.2.2.2.2.2.2⟩ : Vspace_Space) b0 s0 _ h36) (pc rm1 (pc rm1 (pc rm1 pn))) ?_)
                                refine o1 rfl (o_alloc (cs := [(.int .i64 0), (.int .i64 0)]) rfl rfl (fun b723 => ?_))
                                refine o0 (o_st (b := b723) (off := 0) (vs := [(.int .i64 d36.Rows), (.int .i64 d36.Cols)]) (cs' := [(.int .i64 d36.Rows), (.int .i64 d36.Cols)]) rfl rfl rp0 rfl rfl rfl rfl rfl rfl ?_)
                                refine o_end ?_
                                refine e_seq ?_
                                refine c_seq ?_
                                refine c_region ?_
                                refine o1 rfl (o_ld (b := b723) (off := 0) (v := (.agg (List.toArray [(.int .i64 d36.Rows), (.int .i64 d36.Cols)]))) rfl rm0 rfl rfl ?_)
                                refine o1 rfl (o_ld (b := i32.2) (off := 0) (v := (.int .i64 x20.1)) rfl rm6 rfl rfl ?_)
                                replace h := bsome h
                                obtain ⟨d37, h37, h⟩ := h
                                refine o1 rfl (o_call has35 rfl (c_addr_Size_Wrap hg X (⟨d36.Rows, d36.Cols⟩ : Vaddr_Size) x20.1 _ h37) (pc rm1 pn) ?_)
                                refine o0 (o_st (b := i32.2) (off := 0) (vs := [(.int .i64 d37)]) (cs' := [(.int .i64 d37)]) rfl rfl rp6 rfl rfl rfl rfl rfl rfl ?_)
                                refine o_end ?_
                                refine e_seq ?_
                                refine c_seq ?_
                                refine c_seq ?_
                                refine c_region ?_
                                refine o1 rfl (o_ld (b := i32.1) (off := 0) (v := (.pointer (some ⟨b0, 0, none⟩))) rfl rm5 rfl rfl ?_)
                                refine o1 rfl (o_ld (b := i32.2) (off := 0) (v := (.int .i64 d37)) rfl rm6 rfl rfl ?_)
                                replace h := bsome h
                                obtain ⟨d38, h38, h⟩ := h
                                refine o1 rfl (o_call has10 rfl (c_space_Space_At hg X (⟨x20.2.1, x20.2.2.1, (⟨x20.2.2.2.1, x20.2.2.2.2.1⟩ : Vaddr_Size), x20.2.2.2.2.2.1, x20.2.2.2.2.2.2.1, x20.2.2.2.2.2.2.2⟩ : Vspace_Space) b0 s0 d37 _ h38) (pc rm0 (pc rm1 (pc rm1 pn))) ?_)
                                refine o1 rfl (o_field (v := (.bool d38.Attr)) rfl rfl rfl ?_)
                                refine o1 rfl (o_p (v := (.bool (!d38.Attr))) rfl ?_)
                                refine o_end ?_
                                refine e_seq ?_
                                refine c_cond (b := (!d38.Attr)) rfl (fun hb725 => ?_) (fun hb725 => ?_)
                                · replace h := cond_t hb725 h
                                  refine c_ret ?_
                                  refine e_then_ret ?_
                                  refine e_ret ?_
                                  refine r_end (rs := []) (vs := []) rfl rfl ?_
                                  refine ke' hrc35 rm4 (by simp) ?_
                                  have hd := Option.some.inj h
                                  subst hd
                                  exact ej () () trivial (sc rfl (sc rfl sn)) (kc rm0 (kc rm12 (kc rm0 (kc rm10 (kc rm10 (kc rm10 (kc rm9 (kc rm9 (kc rm8 (kc rm0 (kc rm3 (kc rm4 (kc rm4 (kc rm4 (kc rm4 (kc rm4 (kd (kd (kd (kd kr))))))))))))))))))))
                                · replace h := cond_f hb725 h
                                  refine c_skip ?_
                                  refine e_seq ?_
                                  refine c_seq ?_
                                  refine c_region ?_
                                  refine o1 rfl (o_ld (b := b723) (off := 0) (v := (.agg (List.toArray [(.int .i64 d36.Rows), (.int .i64 d36.Cols)]))) rfl rm3 rfl rfl ?_)
                                  refine o1 rfl (o_ld (b := i32.2) (off := 0) (v := (.int .i64 d37)) rfl rm6 rfl rfl ?_)
                                  refine o1 rfl (o_p (v := (.int .i64 (w64 (d37 + 1)))) rfl ?_)
                                  replace h := bsome h
                                  obtain ⟨d40, h40, h⟩ := h
                                  refine o1 rfl (o_call has35 rfl (c_addr_Size_Wrap hg X (⟨d36.Rows, d36.Cols⟩ : Vaddr_Size) (w64 (d37 + 1)) _ h40) (pc rm0 pn) ?_)
                                  refine o1 rfl (o_p rfl ?_)
                                  refine o_end ?_
                                  refine e_seq ?_
                                  replace h := bsome h
                                  obtain ⟨d41, h, hk41⟩ := h
                                  refine cj (D := Unit) (ι := Unit) (fun _ i41 => True) (fun _ i41 => []) (fun _ i41 => X :: blk b0 (.cells (List.toArray [(.int .i64 d41.1), (.bool d41.2.1), (.int .i64 d41.2.2.1), (.int .i64 d41.2.2.2.1), (SV.val s0), (.int .i64 d41.2.2.2.2.2.1), (.int .i64 d41.2.2.2.2.2.2)]) 76 (0, 0)) :: blk i5 (.cells (List.toArray [(.pointer (some ⟨b0, 0, none⟩))]) 24 (0, 0)) :: blk b625 (.cells (List.toArray [(.pointer (some ⟨b0, 0, none⟩))]) 24 (0, 0)) :: blk i9 (.cells (List.toArray [(.pointer (some ⟨b0, 0, none⟩))]) 24 (0, 0)) :: blk b644 (.cells (List.toArray [(.func (.yield l8) #[] #[])]) 135 (0, 0)) :: blk i13 (.cells (List.toArray [(.pointer (some ⟨b0, 0, none⟩))]) 24 (0, 0)) :: blk b647 (.cells (List.toArray [(.func (.yield l12) #[] #[])]) 56 (0, 0)) :: blk b715 (.cells (List.toArray [(.int .u8 d23.Char), (.bool d23.Attr), (.int .u8 d23.FA), (.int .u8 d23.High), (.int .u8 d23.Color), (.int .u8 d23.f_Set)]) 42 (0, 0)) :: blk i32.1 (.cells (List.toArray [(.pointer (some ⟨b0, 0, none⟩))]) 24 (0, 0)) :: blk i32.2 (.cells (List.toArray [(.int .i64 d37)]) 3 (0, 0)) :: blk b718 (.cells (List.toArray [(.bool d29.Protected), (.bool d29.Numeric), (.int .i64 d29.Display), (.bool d29.Modified)]) 112 (0, 0)) :: slO s0 42 en_Vapi_Cell d41.2.2.2.2.1 :: blk l35 (.loop (rc35 .ready none)) :: blk l8 (.loop (rc8 .busy none)) :: blk l12 (.loop (rc12 .busy none)) :: blk l16 (.loop (rc16 .busy none)) :: blk D16 (.deferred (some [])) :: blk D12 (.deferred (some [])) :: blk D8 (.deferred (some [])) :: R) ?_ ?_
                                  · refine c_block ?_
                                    refine c_loop (l_sub (sc rfl (sc rfl (sc rfl (sc rfl sn)))) (l_keep (kc rm0 (kc rm2 (kc rm3 (kc rm0 (kc rm9 (kc rm9 (kc rm9 (kc rm9 (kc rm8 (kc rm8 (kc rm7 (kc rm2 (kc rm3 (kc rm0 (kc rm0 (kc rm0 (kc rm0 (kc rm0 (kc rm0 (kc rm0 (kc rm0 kr))))))))))))))))))))) (lf (X := Int × Int × Bool × Int × Int × (List Vapi_Cell) × Int × Int) (ι := Unit) (fun k x => erase_Unprotected_l42 d36 k x) _ (fun x42 i42 => True) (fun x42 i42 => [(5, (.int .i64 x42.1)), (4, (.pointer (some ⟨b723, 0, none⟩))), (0, (.func (.yield l35) #[] #[])), (1, (.pointer (some ⟨i32.1, 0, none⟩)))]) (fun x42 i42 => X :: blk b723 (.cells (List.toArray [(.int .i64 d36.Rows), (.int .i64 d36.Cols)]) 74 (0, 0)) :: blk i32.1 (.cells (List.toArray [(.pointer (some ⟨b0, 0, none⟩))]) 24 (0, 0)) :: blk b0 (.cells (List.toArray [(.int .i64 x42.2.1), (.bool x42.2.2.1), (.int .i64 x42.2.2.2.1), (.int .i64 x42.2.2.2.2.1), (SV.val s0), (.int .i64 x42.2.2.2.2.2.2.1), (.int .i64 x42.2.2.2.2.2.2.2)]) 76 (0, 0)) :: blk i5 (.cells (List.toArray [(.pointer (some ⟨b0, 0, none⟩))]) 24 (0, 0)) :: blk b625 (.cells (List.toArray [(.pointer (some ⟨b0, 0, none⟩))]) 24 (0, 0)) :: blk i9 (.cells (List.toArray [(.pointer (some ⟨b0, 0, none⟩))]) 24 (0, 0)) :: blk b644 (.cells (List.toArray [(.func (.yield l8) #[] #[])]) 135 (0, 0)) :: blk i13 (.cells (List.toArray [(.pointer (some ⟨b0, 0, none⟩))]) 24 (0, 0)) :: blk b647 (.cells (List.toArray [(.func (.yield l12) #[] #[])]) 56 (0, 0)) :: blk b715 (.cells (List.toArray [(.int .u8 d23.Char), (.bool d23.Attr), (.int .u8 d23.FA), (.int .u8 d23.High), (.int .u8 d23.Color), (.int .u8 d23.f_Set)]) 42 (0, 0)) :: blk i32.2 (.cells (List.toArray [(.int .i64 d37)]) 3 (0, 0)) :: blk b718 (.cells (List.toArray [(.bool d29.Protected), (.bool d29.Numeric), (.int .i64 d29.Display), (.bool d29.Modified)]) 112 (0, 0)) :: slO s0 42 en_Vapi_Cell x42.2.2.2.2.2.1 :: blk l35 (.loop (rc35 .ready none)) :: blk l8 (.loop (rc8 .busy none)) :: blk l12 (.loop (rc12 .busy none)) :: blk l16 (.loop (rc16 .busy none)) :: blk D16 (.deferred (some [])) :: blk D12 (.deferred (some [])) :: blk D8 (.deferred (some [])) :: R) (fun _ => rfl) ?_ fuel (d40, x20.2.1, x20.2.2.1, x20.2.2.2.1, x20.2.2.2.2.1, x20.2.2.2.2.2.1, x20.2.2.2.2.2.2.1, x20.2.2.2.2.2.2.2) () trivial h)))
                                    clear h
                                    rintro k42 ih42 x42 i42 _ h
                                    rw [erase_Unprotected_l42.eq_2] at h
                                    refine l_round ?_
                                    refine c_seq ?_
                                    refine c_seq ?_
                                    refine c_region ?_
                                    refine o1 rfl (o_ld (b := i32.1) (off := 0) (v := (.pointer (some ⟨b0, 0, none⟩))) rfl rm2 rfl rfl ?_)
                                    refine o1 rfl (o_p rfl ?_)
                                    replace h := bsome h
                                    obtain ⟨d43, h43, h⟩ := h
                                    refine o1 rfl (o_call has10 rfl (c_space_Space_At hg X (⟨x42.2.1, x42.2.2.1, (⟨x42.2.2.2.1, x42.2.2.2.2.1⟩ : Vaddr_Size), x42.2.2.2.2.2.1, x42.2.2.2.2.2.2.1, x42.2.2.2.2.2.2.2⟩ : Vspace_Space) b0 s0 x42.1 _ h43) (pc rm0 (pc rm2 (pc rm11 pn))) ?_)
                                    refine o1 rfl (o_field (v := (.bool d43.Attr)) rfl rfl rfl ?_)
                                    refine o1 rfl (o_p (v := (.bool (!d43.Attr))) rfl ?_)
                                    refine o_end ?_
                                    refine e_seq ?_
                                    refine c_cond (b := (!d43.Attr)) rfl (fun hb732 => ?_) (fun hb732 => ?_)
                                    · replace h := cond_t hb732 h
                                      refine c_skip ?_
                                      refine e_seq ?_
                                      refine c_seq ?_
                                      refine c_block ?_
                                      refine c_seq ?_
                                      refine c_region ?_
                                      refine o1 rfl (o_p rfl ?_)
                                      refine o1 rfl (o_p rfl ?_)
                                      refine o1 rfl (o_yield' hrc35 ht35 rfl rfl rfl rfl rm14 ?_)
                                      refine c_region ?_
                                      refine o1 rfl (o_p rfl ?_)
                                      refine o_end ?_
                                      refine e_begin' hrc35 rm0 ?_
                                      refine c_block ?_
                                      refine c_region ?_
                                      refine o1 rfl (o_ld (b := b625) (off := 0) (v := (.pointer (some ⟨b0, 0, none⟩))) rfl rm7 rfl rfl ?_)
                                      refine o1 rfl (o_p rfl ?_)
                                      replace h := bsome h
                                      obtain ⟨d47, h47, h⟩ := h
                                      refine o1 rfl (o_call has59 rfl (c_space_Space_Put hg X (⟨x42.2.1, x42.2.2.1, (⟨x42.2.2.2.1, x42.2.2.2.2.1⟩ : Vaddr_Size), x42.2.2.2.2.2.1, x42.2.2.2.2.2.2.1, x42.2.2.2.2.2.2.2⟩ : Vspace_Space) b0 s0 x42.1 0 _ h47) (pc rm1 (pc rm1 (pc rm1 pn))) ?_)
                                      refine o_end ?_
                                      refine e_blk ?_
                                      refine e_on' hrc35 rm3 ?_
                                      refine o1 rfl (o_p (v := (.bool false)) rfl ?_)
                                      refine o_end ?_
                                      refine e_seq ?_
                                      refine c_cond_f rfl rfl ?_
                                      refine c_skip ?_
                                      refine e_blk ?_
                                      refine e_seq ?_
                                      refine c_region ?_
                                      refine o1 rfl (o_ld (b := b723) (off := 0) (v := (.agg (List.toArray [(.int .i64 d36.Rows), (.int .i64 d36.Cols)]))) rfl rm4 rfl rfl ?_)
                                      refine o1 rfl (o_p rfl ?_)
                                      refine o1 rfl (o_p (v := (.int .i64 (w64 (x42.1 + 1)))) rfl ?_)
                                      replace h := bsome h
                                      obtain ⟨d48, h48, h⟩ := h
                                      refine o1 rfl (o_call has35 rfl (c_addr_Size_Wrap hg X (⟨d36.Rows, d36.Cols⟩ : Vaddr_Size) (w64 (x42.1 + 1)) _ h48) (pc rm1 pn) ?_)
                                      refine o1 rfl (o_p rfl ?_)
                                      refine o_end ?_
                                      exact e_loop (l_sub (sc rfl (sc rfl (sc rfl (sc rfl sn)))) (l_keep (kc rm0 (kc rm3 (kc rm3 (kc rm1 (kc rm2 (kc rm2 (kc rm2 (kc rm2 (kc rm2 (kc rm2 (kc rm2 (kc rm2 (kc rm2 (kc rm1 (kc rm0 (kc rm0 (kc rm0 (kc rm0 (kc rm0 (kc rm0 (kc rm0 kr))))))))))))))))))))) (ih42 (d48, d47.model, d47.alternate, d47.size.Rows, d47.size.Cols, d47.cells, d47.cursor, d47.attrs) () trivial h)))
                                    · replace h := cond_f hb732 h
                                      refine c_exit ?_
                                      refine e_then_exit ?_
                                      refine e_then_exit ?_
                                      refine e_blk_exit ?_
                                      have hd := Option.some.inj h
                                      subst hd
                                      exact ej () () trivial sn (kc rm0 (kc rm0 (kc rm3 (kc rm3 (kc rm3 (kc rm3 (kc rm3 (kc rm3 (kc rm3 (kc rm2 (kc rm2 (kc rm2 (kc rm0 (kc rm1 (kc rm1 (kc rm1 (kc rm1 (kc rm1 (kc rm1 (kc rm1 (kd kr)))))))))))))))))))))
                                  · rintro _ i41 _
                                    replace h := hk41
                                    clear hk41
                                    refine e_fall ?_
                                    refine r_end (rs := []) (vs := []) rfl rfl ?_
                                    refine ke' hrc35 rm13 (by simp) ?_
                                    have hd := Option.some.inj h
                                    subst hd
                                    exact ej () () trivial (sc rfl (sc rfl sn)) (kc rm0 (kc rm2 (kc rm0 (kc rm0 (kc rm0 (kc rm0 (kc rm0 (kc rm0 (kc rm0 (kc rm3 (kc rm3 (kc rm3 (kc rm3 (kc rm3 (kc rm3 (kc rm3 (kd (kd (kd kr)))))))))))))))))))
                              · rintro _ i34 _
                                replace h := hk34
                                clear hk34
                                refine e_blk ?_
                                have hd := Option.some.inj h
                                subst hd
                                exact ej () () trivial (sc rfl (sc rfl sn)) (kc rm0 (kc rm0 (kc rm0 (kc rm0 (kc rm0 (kc rm0 (kc rm0 (kc rm0 (kc rm0 (kc rm0 (kc rm0 (kc rm0 (kc rm0 (kc rm0 (kc rm0 (kc rm0 kr))))))))))))))))
                            · rintro _ i33 _
                              replace h := hk33
                              clear hk33
                              refine e_seq ?_
                              refine c_seq ?_
                              refine c_region ?_
                              refine o1 rfl (o_ld (b := b625) (off := 0) (v := (.pointer (some ⟨b0, 0, none⟩))) rfl rm1 rfl rfl ?_)
                              refine o1 rfl (o_p rfl ?_)
                              replace h := bsome h
                              obtain ⟨d49, h49, h⟩ := h
                              refine o1 rfl (o_call has10 rfl (c_space_Space_At hg X (⟨d33.1, d33.2.1, (⟨d33.2.2.1, d33.2.2.2.1⟩ : Vaddr_Size), d33.2.2.2.2.1, d33.2.2.2.2.2.1, d33.2.2.2.2.2.2⟩ : Vspace_Space) b0 s0 x20.1 _ h49) (pc rm0 (pc rm1 (pc rm7 pn))) ?_)
                              refine o1 rfl (o_alloc (cs := [(.int .u8 0), (.bool false), (.int .u8 0), (.int .u8 0), (.int .u8 0), (.int .u8 0)]) rfl rfl (fun b738 => ?_))
                              refine o0 (o_st (b := b738) (off := 0) (vs := [(.int .u8 d49.Char), (.bool d49.Attr), (.int .u8 d49.FA), (.int .u8 d49.High), (.int .u8 d49.Color), (.int .u8 d49.f_Set)]) (cs' := [(.int .u8 d49.Char), (.bool d49.Attr), (.int .u8 d49.FA), (.int .u8 d49.High), (.int .u8 d49.Color), (.int .u8 d49.f_Set)]) rfl rfl rp0 rfl rfl rfl rfl rfl rfl ?_)
                              refine o_end ?_
                              refine e_seq ?_
                              refine c_seq ?_
                              refine c_region ?_
                              refine o1 rfl (o_fa (fd := ⟨ "FA", 5, 2, false, "", "", 2⟩) rfl rfl rfl rfl rfl ?_)
                              refine o1 rfl (o_ld (b := b738) (off := 2) (v := (.int .u8 d49.FA)) rfl rm0 rfl rfl ?_)
                              refine o1 rfl (o_p (v := (.int .u8 (ibandn .u8 d49.FA 1))) rfl ?_)
                              refine o1 rfl (o_fa (fd := ⟨ "FA", 5, 2, false, "", "", 2⟩) rfl rfl rfl rfl rfl ?_)
                              refine o0 (o_st (b := b738) (off := 2) (vs := [(.int .u8 (ibandn .u8 d49.FA 1))]) (cs' := [(.int .u8 d49.Char), (.bool d49.Attr), (.int .u8 (ibandn .u8 d49.FA 1)), (.int .u8 d49.High), (.int .u8 d49.Color), (.int .u8 d49.f_Set)]) rfl rfl rp0 rfl rfl rfl rfl rfl rfl ?_)
                              refine o_end ?_
                              refine e_seq ?_
                              refine c_region ?_
                              refine o1 rfl (o_ld (b := b625) (off := 0) (v := (.pointer (some ⟨b0, 0, none⟩))) rfl rm4 rfl rfl ?_)
                              refine o1 rfl (o_p rfl ?_)
                              refine o1 rfl (o_ld (b := b738) (off := 0) (v := (.agg (List.toArray [(.int .u8 d49.Char), (.bool d49.Attr), (.int .u8 (ibandn .u8 d49.FA 1)), (.int .u8 d49.High), (.int .u8 d49.Color), (.int .u8 d49.f_Set)]))) rfl rm0 rfl rfl ?_)
                              replace h := bsome h
                              obtain ⟨d50, h50, h⟩ := h
                              refine o1 rfl (o_call has29 rfl (c_space_Space_Set hg X (⟨d33.1, d33.2.1, (⟨d33.2.2.1, d33.2.2.2.1⟩ : Vaddr_Size), d33.2.2.2.2.1, d33.2.2.2.2.2.1, d33.2.2.2.2.2.2⟩ : Vspace_Space) b0 s0 x20.1 (⟨d49.Char, d49.Attr, ibandn .u8 d49.FA 1, d49.High, d49.Color, d49.f_Set⟩ : Vapi_Cell) _ h50) (pc rm1 (pc rm1 (pc rm1 pn))) ?_)
                              refine o_end ?_
                              refine e_blk ?_
                              have hd := Option.some.inj h
                              subst hd
                              exact ej () () trivial sn (kc rm0 (kc rm0 (kc rm3 (kc rm2 (kc rm2 (kc rm2 (kc rm2 (kc rm2 (kc rm2 (kc rm0 (kc rm1 (kc rm1 (kc rm1 (kc rm1 (kc rm1 (kc rm1 (kd kr)))))))))))))))))
                        · rintro _ i30 _
                          replace h := hk30
                          clear hk30
                          refine e_on' hrc8 rm10 ?_
                          refine ⟨[(8, 15, (.bool false))], [8], rfl, rfl, rfl, rfl, ?_⟩
                          refine ⟨⟨fun _ => ⟨rfl, rfl, rfl, .inl ⟨rfl, (o_p (v := (.bool false)) rfl ⟨rfl, rfl⟩)⟩⟩, (fun h => nomatch h), (fun h => nomatch h), (fun h => nomatch h), (fun h => nomatch h), (fun h => nomatch h), trivial⟩, rfl, rfl, rfl, ?_⟩
                          refine e_seq ?_
                          refine c_cond_f rfl rfl ?_
                          refine c_skip ?_
                          refine e_blk ?_
                          refine e_on' hrc12 rm11 ?_
                          refine oy rfl rfl rfl hb717 (o_p (v := (.bool false)) rfl ?_)
                          refine o1 rfl (o_pick_t rfl hb717 rfl ?_)
                          refine o_end ?_
                          have hd := Option.some.inj h
                          subst hd
                          exact ej () () trivial (sc rfl sn) (kc rm2 (kc rm2 (kc rm2 (kc rm2 (kc rm2 (kc rm2 (kc rm2 (kc rm2 (kc rm3 (kc rm0 (kc rm0 (kc rm1 (kc rm1 (kc rm1 (kc rm1 (kd kr))))))))))))))))
                      · replace h := cond_f hb717 h
                        refine on rfl rfl rfl hb717 ?_
                        refine on rfl rfl rfl hb717 ?_
                        refine on rfl rfl rfl hb717 ?_
                        refine on rfl rfl rfl hb717 ?_
                        refine o1 rfl (o_pick_f rfl hb717 rfl ?_)
                        refine o_end ?_
                        have hd := Option.some.inj h
                        subst hd
                        exact ej () () trivial (sc rfl sn) (kc rm2 (kc rm2 (kc rm4 (kc rm4 (kc rm4 (kc rm4 (kc rm3 (kc rm3 (kc rm2 (kc rm3 (kc rm4 (kc rm0 (kc rm1 (kc rm1 (kc rm1 (kd kr))))))))))))))))
                    · rintro _ i25 _
                      replace h := hk25
                      clear hk25
                      refine e_seq ?_
                      refine c_cond_f rfl rfl ?_
                      refine c_skip ?_
                      refine e_blk ?_
                      refine e_on' hrc16 rm11 ?_
                      refine o1 rfl (o_p (v := (.bool false)) rfl ?_)
                      refine o_end ?_
                      refine e_seq ?_
                      refine c_cond_f rfl rfl ?_
                      refine c_skip ?_
                      refine e_blk ?_
                      refine e_seq ?_
                      refine c_region ?_
                      refine o1 rfl (o_p (v := (.int .i64 (w64 (x20.1 + 1)))) rfl ?_)
                      refine o1 rfl (o_p rfl ?_)
                      refine o_end ?_
                      exact e_loop (l_sub (sc rfl (sc rfl (sc rfl (sc rfl sn)))) (l_keep (kc rm1 (kc rm6 (kc rm1 (kc rm1 (kc rm1 (kc rm1 (kc rm1 (kc rm1 (kc rm1 (kc rm0 (kc rm2 (kc rm0 (kc rm1 (kc rm0 (kc rm0 kr))))))))))))))) (ih20 (w64 (x20.1 + 1), d25.1, d25.2.1, d25.2.2.1, d25.2.2.2.1, d25.2.2.2.2.1, d25.2.2.2.2.2.1, d25.2.2.2.2.2.2) () trivial h)))
                  · replace h := cond_f hb714 h
                    refine c_exit ?_
                    refine e_then_exit ?_
                    refine e_then_exit ?_
                    refine e_blk_exit ?_
                    have hd := Option.some.inj h
                    subst hd
                    exact ej () () trivial sn (kc rm0 (kc rm1 (kc rm1 (kc rm1 (kc rm1 (kc rm1 (kc rm0 (kc rm0 (kc rm0 (kc rm0 (kc rm0 (kc rm0 (kc rm0 (kc rm0 (kc rm0 kr)))))))))))))))
                · rintro _ i19 _
                  replace h := hk19
                  clear hk19
                  refine e_fall ?_
                  refine r_end (rs := []) (vs := []) rfl rfl ?_
                  refine ke' hrc16 rm9 (by simp) ?_
                  have hd := Option.some.inj h
                  subst hd
                  exact ejd () D16 trivial rfl sn (kc rm0 (kc rm0 (kc rm0 (kc rm0 (kc rm0 (kc rm0 (kc rm2 (kc rm2 (kc rm2 (kc rm2 (kc rm2 (kc rm2 (kd (kd kr))))))))))))))
              · rintro _ i15 _
                replace h := hk15
                clear hk15
                refine e_blk ?_
                have hd := Option.some.inj h
                subst hd
                exact ejd () i15 trivial rfl sn (kc rm0 (kc rm0 (kc rm0 (kc rm0 (kc rm0 (kc rm0 (kc rm0 (kc rm0 (kc rm0 (kc rm0 (kc rm0 (kc rm0 kr))))))))))))
            · rintro _ i14 _
              replace h := hk14
              clear hk14
              refine e_fall ?_
              refine r_mark rm7 ?_
              refine r_end (rs := []) (vs := []) rfl rfl ?_
              refine ke' hrc12 rm7 (by simp) ?_
              have hd := Option.some.inj h
              subst hd
              exact ejd () D12 trivial rfl sn (kc rm0 (kc rm0 (kc rm0 (kc rm0 (kc rm2 (kc rm2 (kc rm2 (kc rm2 (kd (kd kr))))))))))
          · rintro _ i11 _
            replace h := hk11
            clear hk11
            refine e_blk ?_
            have hd := Option.some.inj h
            subst hd
            exact ejd () i11 trivial rfl sn (kc rm0 (kc rm0 (kc rm0 (kc rm0 (kc rm0 (kc rm0 (kc rm0 (kc rm0 kr))))))))
        · rintro _ i10 _
          replace h := hk10
          clear hk10
          refine e_fall ?_
          refine r_mark rm5 ?_
          refine r_end (rs := []) (vs := []) rfl rfl ?_
          refine ke' hrc8 rm5 (by simp) ?_
          have hd := Option.some.inj h
          subst hd
          exact ejd () D8 trivial rfl (sc rfl sn) (kc rm0 (kc rm2 (kc rm0 (kc rm1 (kc rm1 (kd kr))))))
      · rintro _ i7 _
        replace h := hk7
        clear hk7
        refine e_blk ?_
        have hd := Option.some.inj h
        subst hd
        exact ejd () i7 trivial rfl (sc rfl sn) (kc rm0 (kc rm0 (kc rm0 (kc rm0 (kc rm0 kr)))))
    · rintro _ i6 _
      replace h := hk6
      clear hk6
      refine e_seq ?_
      refine c_draw (n := 2) (q := [(0, 37, (.pointer (some ⟨b0, 0, none⟩))), (1, 38, (.pointer (some ⟨b0, 0, none⟩)))]) (pend := [0, 1]) rfl rfl rfl ?_
      replace h := bsome h
      obtain ⟨d51, h51, h⟩ := h
      refine ⟨⟨fun _ => ⟨rfl, rfl, rfl, .inl ⟨rfl, (o_ld (b := b625) (off := 0) (v := (.pointer (some ⟨b0, 0, none⟩))) rfl rm1 rfl rfl ⟨rfl, rfl⟩)⟩⟩, fun _ => ⟨rfl, rfl, rfl, .inl ⟨rfl, (o_ld (b := b625) (off := 0) (v := (.pointer (some ⟨b0, 0, none⟩))) rfl rm1 rfl rfl ⟨rfl, rfl⟩)⟩⟩, trivial⟩, rfl, .inr ⟨[2], rfl, rfl, ⟨rfl, .inl rfl, ?_⟩, trivial⟩⟩
      refine (o_call has60 rfl (c_field_Next hg X (⟨d6.1, d6.2.1, (⟨d6.2.2.1, d6.2.2.2.1⟩ : Vaddr_Size), d6.2.2.2.2.1, d6.2.2.2.2.2.1, d6.2.2.2.2.2.2⟩ : Vspace_Space) b0 s0 (-1) _ h51) (pc rm0 (pc rm1 (pc rm1 pn))) ?_)
      refine ⟨[(3, 40, (.int .i64 (imax d51 0)))], [0, 3], rfl, rfl, rfl, rfl, ?_⟩
      replace h := bsome h
      obtain ⟨d52, h52, h⟩ := h
      refine ⟨⟨fun _ => ⟨rfl, rfl, rfl, .inl ⟨rfl, (o_max (m := d51) (n := 0) rfl rfl ⟨rfl, rfl⟩)⟩⟩, fun _ => ⟨rfl, rfl, rfl, .inl ⟨rfl, (o_ld (b := b625) (off := 0) (v := (.pointer (some ⟨b0, 0, none⟩))) rfl rm3 rfl rfl ⟨rfl, rfl⟩)⟩⟩, (fun h => nomatch h), trivial⟩, rfl, .inr ⟨[4], rfl, rfl, ⟨rfl, .inl rfl, ?_⟩, trivial⟩⟩
      refine (o_call has30 rfl (c_space_Space_Place hg X (⟨d6.1, d6.2.1, (⟨d6.2.2.1, d6.2.2.2.1⟩ : Vaddr_Size), d6.2.2.2.2.1, d6.2.2.2.2.2.1, d6.2.2.2.2.2.2⟩ : Vspace_Space) b0 s0 (imax d51 0) _ h52) (pc rm0 (pc rm0 (pc rm0 pn))) ?_)
      refine ⟨[], [], rfl, rfl, rfl, rfl, ?_⟩
      refine ⟨⟨(fun h => nomatch h), (fun h => nomatch h), (fun h => nomatch h), trivial⟩, rfl, rfl, rfl, ?_⟩
      refine e_fall ?_
      refine r_mark rm4 ?_
      refine r_endt rfl rfl (kc rm0 (kc rm0 (kc rm0 (kd kr)))) ?_
      have hr := Option.some.inj h
      subst hr
      exact hk

theorem c_write_Run {g : Gw} (hg : GK g) (X : HP) (p0 : Vspace_Space) (b0 : Nat) (s0 : SV) (p1 : List Int) (s1 : SV) (q0 : Rd X s1 5 (enI .u8) p1) (r : Vspace_Space × Vwrite_Result × Int) (h : m_write_Run p0 p1 = some r) : Tri env g 8 (List.toArray [(.pointer (some ⟨b0, 0, none⟩)), (SV.val s1)]) [X, blk b0 (.cells (List.toArray [(.int .i64 p0.model), (.bool p0.alternate), (.int .i64 p0.size.Rows), (.int .i64 p0.size.Cols), (SV.val s0), (.int .i64 p0.cursor), (.int .i64 p0.attrs)]) 76 (0, 0)), slO s0 42 en_Vapi_Cell p0.cells] (fun K R => ∀ (i0 : HP × SV × SV), (Rd i0.1 i0.2.2 5 (enI .u8) r.2.1.Fields) → (Ext X i0.1) → K (.tuple (List.toArray [(.agg (List.toArray [(.int .i64 r.2.1.Command), (.bool r.2.1.Restore), (.bool r.2.1.Alarm), (.bool r.2.1.Reset), (.int .i64 r.2.1.Pieces), (SV.val i0.2.2)])), (.int .i64 r.2.2)])) (i0.1 :: blk b0 (.cells (List.toArray [(.int .i64 r.1.model), (.bool r.1.alternate), (.int .i64 r.1.size.Rows), (.int .i64 r.1.size.Cols), (SV.val i0.2.1), (.int .i64 r.1.cursor), (.int .i64 r.1.attrs)]) 76 (0, 0)) :: slO i0.2.1 42 en_Vapi_Cell r.1.cells :: R)) := by
  refine tri_of (fn := Tryd.f8) (N := 54) Tryd.func8 rfl rfl rfl ?_
  intro R K hk
  unfold m_write_Run at h
  change GC _ none _ [] [(0, (.pointer (some ⟨b0, 0, none⟩))), (1, (SV.val s1))] (X :: blk b0 (.cells (List.toArray [(.int .i64 p0.model), (.bool p0.alternate), (.int .i64 p0.size.Rows), (.int .i64 p0.size.Cols), (SV.val s0), (.int .i64 p0.cursor), (.int .i64 p0.attrs)]) 76 (0, 0)) :: slO s0 42 en_Vapi_Cell p0.cells :: R) g _ _
  refine c_seq ?_
  refine c_region ?_
  refine o1 rfl (o_alloc (cs := [(.int .i64 0), (.bool false), (.bool false), (.bool false), (.int .i64 0), (SV.val SV.nil)]) rfl rfl (fun b36 => ?_))
  refine o1 rfl (o_p rfl ?_)
  refine o_end ?_
  refine e_seq ?_
  refine c_seq ?_
  refine c_block ?_
  refine c_seq ?_
  refine c_region ?_
  refine o1 rfl (o_p rfl ?_)
  refine o1 rfl (o_p (v := (.bool false)) rfl ?_)
  refine o1 rfl (o_p rfl ?_)
  refine o_end ?_
  refine e_seq ?_
  refine c_cond_f rfl rfl ?_
  refine c_seq ?_
  refine c_region ?_
  refine o1 rfl (o_p rfl ?_)
  refine o1 rfl (o_len (s := s1) rfl rfl rfl rm1 q0 ?_)
  refine o1 rfl (o_p (v := (.bool ((p1.length : Int) == 0))) rfl ?_)
  refine o1 rfl (o_p rfl ?_)
  refine o_end ?_
  refine e_seq ?_
  refine c_cond (b := ((p1.length : Int) == 0)) rfl (fun hb38 => ?_) (fun hb38 => ?_)
  · replace h := cond_t hb38 h
    refine c_seq ?_
    refine c_region ?_
    refine o1 rfl (o_build (fs := [⟨ "Command", 3, 0, false, "", "", 0⟩, ⟨ "Restore", 4, 1, false, "", "", 8⟩, ⟨ "Alarm", 4, 2, false, "", "", 9⟩, ⟨ "Reset", 4, 3, false, "", "", 10⟩, ⟨ "Pieces", 3, 4, false, "", "", 16⟩, ⟨ "Fields", 28, 5, false, "", "", 24⟩]) (ps := [(0, 1), (1, 1), (2, 1), (3, 1), (4, 1), (5, 1)]) (cs := [(.int .i64 0), (.bool false), (.bool false), (.bool false), (.int .i64 0), (SV.val SV.nil)]) rfl rfl rfl rfl rfl ?_)
    refine o0 (o_st (b := b36) (off := 0) (vs := [(.int .i64 0), (.bool false), (.bool false), (.bool false), (.int .i64 0), (SV.val SV.nil)]) (cs' := [(.int .i64 0), (.bool false), (.bool false), (.bool false), (.int .i64 0), (SV.val SV.nil)]) rfl rfl rp0 rfl rfl rfl rfl rfl rfl ?_)
    refine o1 rfl (o_p rfl ?_)
    refine o_end ?_
    refine e_seq ?_
    refine c_ret ?_
    refine e_blk_ret ?_
    refine e_then_ret ?_
    refine e_ret ?_
    refine r_endc (B := [[(.int .i64 0), (.bool false), (.bool false), (.bool false), (.int .i64 0), (SV.val SV.nil)]]) rfl ⟨⟨_, _, _, _, rfl, rm0⟩, trivial⟩ rfl (kc rm1 (kc rm1 (kc rm1 (kd kr)))) ?_
    have hr := Option.some.inj h
    subst hr
    exact hk (X, s0, SV.nil) (rd_nil _ _ _) (Ext.refl _)
  · replace h := cond_f hb38 h
    refine c_skip ?_
    refine e_blk ?_
    refine e_seq ?_
    refine c_seq ?_
    refine c_region ?_
    refine o1 rfl (o_p rfl ?_)
    replace h := gsome h
    obtain ⟨hg39, h⟩ := h
    refine o1 rfl (o_ix (s := s1) (n := 0) (e := (enI .u8)) rfl rfl rfl rfl rfl rfl rm1 q0 hg39 ?_)
    refine o1 rfl (o_ldE (s := s1) (e := (enI .u8)) (n := 0) (f := 0) (v := (.int .u8 (rd p1 0))) rfl rm1 q0 hg39 rfl rfl ?_)
    replace h := bsome h
    obtain ⟨d3, h3, h⟩ := h
    refine o1 rfl (o_call has12 rfl (c_write_Command hg X (rd p1 0) _ h3) (pc rm1 pn) ?_)
    refine o1 rfl (o_p rfl ?_)
    refine o1 rfl (o_p rfl ?_)
    refine o1 rfl (o_p rfl ?_)
    refine o1 rfl (o_p rfl ?_)
    refine o1 rfl (o_p rfl ?_)
    refine o_end ?_
    refine e_seq ?_
    refine c_seq ?_
    refine c_seq ?_
    refine c_region ?_
    refine o1 rfl (o_p rfl ?_)
    refine o1 rfl (o_p (v := (.bool (!d3.2))) rfl ?_)
    refine o_end ?_
    refine e_seq ?_
    refine c_cond (b := (!d3.2)) rfl (fun hb56 => ?_) (fun hb56 => ?_)
    · replace h := cond_t hb56 h
      refine c_seq ?_
      refine c_region ?_
      refine o1 rfl (o_build (fs := [⟨ "Command", 3, 0, false, "", "", 0⟩, ⟨ "Restore", 4, 1, false, "", "", 8⟩, ⟨ "Alarm", 4, 2, false, "", "", 9⟩, ⟨ "Reset", 4, 3, false, "", "", 10⟩, ⟨ "Pieces", 3, 4, false, "", "", 16⟩, ⟨ "Fields", 28, 5, false, "", "", 24⟩]) (ps := [(0, 1), (1, 1), (2, 1), (3, 1), (4, 1), (5, 1)]) (cs := [(.int .i64 0), (.bool false), (.bool false), (.bool false), (.int .i64 0), (SV.val SV.nil)]) rfl rfl rfl rfl rfl ?_)
      refine o0 (o_st (b := b36) (off := 0) (vs := [(.int .i64 0), (.bool false), (.bool false), (.bool false), (.int .i64 0), (SV.val SV.nil)]) (cs' := [(.int .i64 0), (.bool false), (.bool false), (.bool false), (.int .i64 0), (SV.val SV.nil)]) rfl rfl rp1 rfl rfl rfl rfl rfl rfl ?_)
      refine o1 rfl (o_p rfl ?_)
      refine o_end ?_
      refine e_seq ?_
      refine c_ret ?_
      refine e_then_ret ?_
      refine e_ret ?_
      refine r_endc (B := [[(.int .i64 0), (.bool false), (.bool false), (.bool false), (.int .i64 0), (SV.val SV.nil)]]) rfl ⟨⟨_, _, _, _, rfl, rm1⟩, trivial⟩ rfl (kc rm0 (kc rm1 (kc rm1 (kd kr)))) ?_
      have hr := Option.some.inj h
      subst hr
      exact hk (X, s0, SV.nil) (rd_nil _ _ _) (Ext.refl _)
    · replace h := cond_f hb56 h
      refine c_skip ?_
      refine e_seq ?_
      refine c_seq ?_
      refine c_region ?_
      refine o1 rfl (o_p rfl ?_)
      refine o1 rfl (o_build (fs := [⟨ "Command", 3, 0, false, "", "", 0⟩, ⟨ "Restore", 4, 1, false, "", "", 8⟩, ⟨ "Alarm", 4, 2, false, "", "", 9⟩, ⟨ "Reset", 4, 3, false, "", "", 10⟩, ⟨ "Pieces", 3, 4, false, "", "", 16⟩, ⟨ "Fields", 28, 5, false, "", "", 24⟩]) (ps := [(0, 1), (1, 1), (2, 1), (3, 1), (4, 1), (5, 1)]) (cs := [(.int .i64 d3.1), (.bool false), (.bool false), (.bool false), (.int .i64 0), (SV.val SV.nil)]) rfl rfl rfl rfl rfl ?_)
      refine o1 rfl (o_alloc (cs := [(.int .i64 0), (.bool false), (.bool false), (.bool false), (.int .i64 0), (SV.val SV.nil)]) rfl rfl (fun b57 => ?_))
      refine o0 (o_st (b := b57) (off := 0) (vs := [(.int .i64 d3.1), (.bool false), (.bool false), (.bool false), (.int .i64 0), (SV.val SV.nil)]) (cs' := [(.int .i64 d3.1), (.bool false), (.bool false), (.bool false), (.int .i64 0), (SV.val SV.nil)]) rfl rfl rp0 rfl rfl rfl rfl rfl rfl ?_)
      refine o_end ?_
      refine e_seq ?_
      refine c_seq ?_
      refine c_seq ?_
      refine c_region ?_
      refine o1 rfl (o_p rfl ?_)
      refine o_end ?_
      refine e_seq ?_
      refine c_block ?_
      refine c_seq ?_
      refine c_seq ?_
      refine c_region ?_
      refine o1 rfl (o_p (v := (.bool (d3.1 == 1))) rfl ?_)
      refine o1 rfl (o_p rfl ?_)
      refine o_end ?_
      refine e_seq ?_
      replace h := bsome h
      obtain ⟨d6, h, hk6⟩ := h
      refine cj (D := Unit) (ι := Unit) (fun _ i6 => True) (fun _ i6 => [(31, (.bool d6)), (30, (.int .i64 d3.1)), (8, (.pointer (some ⟨b57, 0, none⟩))), (4, (.pointer (some ⟨b36, 0, none⟩))), (0, (.pointer (some ⟨b0, 0, none⟩))), (1, (SV.val s1))]) (fun _ i6 => X :: blk b57 (.cells (List.toArray [(.int .i64 d3.1), (.bool false), (.bool false), (.bool false), (.int .i64 0), (SV.val SV.nil)]) 30 (0, 0)) :: blk b36 (.cells (List.toArray [(.int .i64 0), (.bool false), (.bool false), (.bool false), (.int .i64 0), (SV.val SV.nil)]) 30 (0, 0)) :: blk b0 (.cells (List.toArray [(.int .i64 p0.model), (.bool p0.alternate), (.int .i64 p0.size.Rows), (.int .i64 p0.size.Cols), (SV.val s0), (.int .i64 p0.cursor), (.int .i64 p0.attrs)]) 76 (0, 0)) :: slO s0 42 en_Vapi_Cell p0.cells :: R) ?_ ?_
      · refine c_cond (b := (d3.1 == 1)) rfl (fun hb59 => ?_) (fun hb59 => ?_)
        · replace h := cond_t hb59 h
          refine c_skip ?_
          have hd := Option.some.inj h
          subst hd
          exact ej () () trivial (sc rfl (sc rfl (sc rfl (sc rfl (sc rfl (sc rfl sn)))))) (kc rm1 (kc rm0 (kc rm0 (kc rm0 (kc rm0 kr)))))
        · replace h := cond_f hb59 h
          refine c_seq ?_
          refine c_region ?_
          refine o1 rfl (o_p (v := (.bool (d3.1 == 2))) rfl ?_)
          refine o1 rfl (o_p rfl ?_)
          refine o_end ?_
          refine e_seq ?_
          refine c_cond (b := (d3.1 == 2)) rfl (fun hb60 => ?_) (fun hb60 => ?_)
          · replace h := cond_t hb60 h
            refine c_skip ?_
            have hd := Option.some.inj h
            subst hd
            exact ej () () trivial (sc rfl (sc rfl (sc rfl (sc rfl (sc rfl (sc rfl sn)))))) (kc rm1 (kc rm0 (kc rm0 (kc rm0 (kc rm0 kr)))))
          · replace h := cond_f hb60 h
            refine c_region ?_
            refine o1 rfl (o_p (v := (.bool (d3.1 == 3))) rfl ?_)
            refine o1 rfl (o_p rfl ?_)
            refine o_end ?_
            have hd := Option.some.inj h
            subst hd
            exact ej () () trivial (sc rfl (sc rfl (sc rfl (sc rfl (sc rfl (sc rfl sn)))))) (kc rm1 (kc rm0 (kc rm0 (kc rm0 (kc rm0 kr)))))
      · rintro _ i6 _
        replace h := hk6
        clear hk6
        refine e_seq ?_
        replace h := jn_some h
        obtain ⟨y7, h, hk7⟩ := h
        refine cj (D := Bool × (List Int) × Int × Bool × Int × Int × (List Vapi_Cell) × Int × Int) (ι := SV) (fun d7 i7 => y7 = Sum.inl d7) (fun d7 i7 => [(8, (.pointer (some ⟨b57, 0, none⟩))), (4, (.pointer (some ⟨b36, 0, none⟩)))]) (fun d7 i7 => X :: blk b57 (.cells (List.toArray [(.int .i64 d3.1), (.bool d7.1), (.bool false), (.bool false), (.int .i64 0), (SV.val i7)]) 30 (0, 0)) :: blk b36 (.cells (List.toArray [(.int .i64 0), (.bool false), (.bool false), (.bool false), (.int .i64 0), (SV.val SV.nil)]) 30 (0, 0)) :: blk b0 (.cells (List.toArray [(.int .i64 d7.2.2.1), (.bool d7.2.2.2.1), (.int .i64 d7.2.2.2.2.1), (.int .i64 d7.2.2.2.2.2.1), (SV.val s0), (.int .i64 d7.2.2.2.2.2.2.2.1), (.int .i64 d7.2.2.2.2.2.2.2.2)]) 76 (0, 0)) :: slO i7 5 (enI .u8) d7.2.1 :: slO s0 42 en_Vapi_Cell d7.2.2.2.2.2.2.1 :: R) ?_ ?_
        · refine c_cond (b := d6) rfl (fun hb61 => ?_) (fun hb61 => ?_)
          · replace h := cond_t hb61 h
            refine c_seq ?_
            replace h := gsome h
            obtain ⟨hg62, h⟩ := h
            have hr63 : Rd X (SV.cut s1 1 (Int.toNat 1) (Int.toNat (p1.length : Int)) (mxv s1 none)) 5 (enI .u8) (List.drop 1 p1) := rd_tk (Rd.cutv q0 hg62 mx_none)
            refine c_draw (n := 2) (q := [(0, 35, (.pointer (some ⟨b0, 0, none⟩))), (1, 36, (.agg (List.toArray [(.int .i64 d3.1), (.bool false), (.bool false), (.bool false), (.int .i64 0), (SV.val SV.nil)]))), (2, 37, (SV.val s1)), (3, 38, (SV.val (SV.cut s1 1 (Int.toNat 1) (Int.toNat (p1.length : Int)) (mxv s1 none))))]) (pend := [0, 1, 2, 3]) rfl rfl rfl ?_
            replace h := bsome h
            obtain ⟨d9, h9, h⟩ := h
            refine ⟨⟨fun _ => ⟨rfl, rfl, rfl, .inl ⟨rfl, (o_p rfl ⟨rfl, rfl⟩)⟩⟩, fun _ => ⟨rfl, rfl, rfl, .inl ⟨rfl, (o_ld (b := b57) (off := 0) (v := (.agg (List.toArray [(.int .i64 d3.1), (.bool false), (.bool false), (.bool false), (.int .i64 0), (SV.val SV.nil)]))) rfl rm1 rfl rfl ⟨rfl, rfl⟩)⟩⟩, fun _ => ⟨rfl, rfl, rfl, .inl ⟨rfl, (o_p rfl ⟨rfl, rfl⟩)⟩⟩, fun _ => ⟨rfl, rfl, rfl, .inl ⟨rfl, (o_slx (a := 1) (b := (p1.length : Int)) (m := none) rfl rfl rfl rfl rfl rm0 q0 rfl rfl rfl (by decide) hg62 mx_none ⟨rfl, rfl⟩)⟩⟩, trivial⟩, rfl, .inr ⟨[4], rfl, rfl, ⟨rfl, .inl rfl, ?_⟩, trivial⟩⟩
            refine (o_call has31 rfl (c_write_written hg X p0 b0 s0 (⟨d3.1, false, false, false, 0, ([] : List Int)⟩ : Vwrite_Result) SV.nil (rd_nil _ _ _) (List.drop 1 p1) (SV.cut s1 1 (Int.toNat 1) (Int.toNat (p1.length : Int)) (mxv s1 none)) hr63 _ h9) (pc rm0 (pc rm2 (pc rm2 pn))) (fun i9 f9_0 f9_1 => ?_))
            refine ⟨[(5, 40, (.agg (List.toArray [(.int .i64 d9.2.1.Command), (.bool d9.2.1.Restore), (.bool d9.2.1.Alarm), (.bool d9.2.1.Reset), (.int .i64 d9.2.1.Pieces), (SV.val SV.nil)]))), (6, 41, (.int .i64 d9.2.2))], [5, 6], rfl, rfl, rfl, rfl, ?_⟩
            refine ⟨⟨fun _ => ⟨rfl, rfl, rfl, .inl ⟨rfl, (o_p rfl ⟨rfl, rfl⟩)⟩⟩, fun _ => ⟨rfl, rfl, rfl, .inl ⟨rfl, (o_p rfl ⟨rfl, rfl⟩)⟩⟩, (fun h => nomatch h), (fun h => nomatch h), (fun h => nomatch h), (fun h => nomatch h), trivial⟩, rfl, .inr ⟨[7], rfl, rfl, ⟨rfl, .inl rfl, ?_⟩, trivial⟩⟩
            refine (o_st (b := b36) (off := 0) (vs := [(.int .i64 d9.2.1.Command), (.bool d9.2.1.Restore), (.bool d9.2.1.Alarm), (.bool d9.2.1.Reset), (.int .i64 d9.2.1.Pieces), (SV.val SV.nil)]) (cs' := [(.int .i64 d9.2.1.Command), (.bool d9.2.1.Restore), (.bool d9.2.1.Alarm), (.bool d9.2.1.Reset), (.int .i64 d9.2.1.Pieces), (SV.val SV.nil)]) rfl rfl rp4 rfl rfl rfl rfl rfl rfl ?_)
            refine ⟨[(8, 5, (.int .i64 d9.2.2))], [8], rfl, rfl, ?_⟩
            refine ⟨⟨fun _ => ⟨rfl, rfl, rfl, .inl ⟨rfl, (o_p rfl ⟨rfl, rfl⟩)⟩⟩, (fun h => nomatch h), (fun h => nomatch h), (fun h => nomatch h), (fun h => nomatch h), (fun h => nomatch h), (fun h => nomatch h), trivial⟩, rfl, rfl, rfl, ?_⟩
            refine e_seq ?_
            refine c_ret ?_
            refine ej_ret ?_
            replace h := esc_some h
            obtain ⟨z7, h, rfl⟩ := h
            obtain rfl := (hk7 : z7 = _)
            refine e_blk_ret ?_
            refine e_then_ret ?_
            refine e_ret ?_
            refine r_endc (B := [[(.int .i64 d9.2.1.Command), (.bool d9.2.1.Restore), (.bool d9.2.1.Alarm), (.bool d9.2.1.Reset), (.int .i64 d9.2.1.Pieces), (SV.val SV.nil)]]) rfl ⟨⟨_, _, _, _, rfl, rm4⟩, trivial⟩ rfl (kc rm0 (kc rm0 (kc rm0 (kd (kd kr))))) ?_
            have hr := Option.some.inj h
            subst hr
            exact hk (i9.1, i9.2, SV.nil) f9_0 f9_1
          · replace h := cond_f hb61 h
            refine c_seq ?_
            refine c_region ?_
            refine o1 rfl (o_p (v := (.bool (d3.1 == 4))) rfl ?_)
            refine o1 rfl (o_p rfl ?_)
            refine o_end ?_
            refine e_seq ?_
            refine c_cond (b := (d3.1 == 4)) rfl (fun hb624 => ?_) (fun hb624 => ?_)
            · replace h := cond_t hb624 h
              refine c_seq ?_
              refine c_region ?_
              refine o1 rfl (o_p rfl ?_)
              replace h := bsome h
              obtain ⟨d10, h10, h⟩ := h
              refine o1 rfl (o_call has32 rfl (c_erase_Unprotected hg X p0 b0 s0 _ h10) (pc rm0 (pc rm2 (pc rm2 pn))) ?_)
              refine o_end ?_
              refine e_seq ?_
              refine c_region ?_
              refine o1 rfl (o_fa (fd := ⟨ "Restore", 4, 1, false, "", "", 8⟩) rfl rfl rfl rfl rfl ?_)
              refine o0 (o_st (b := b57) (off := 1) (vs := [(.bool true)]) (cs' := [(.int .i64 d3.1), (.bool true), (.bool false), (.bool false), (.int .i64 0), (SV.val SV.nil)]) rfl rfl rp3 rfl rfl rfl rfl rfl rfl ?_)
              refine o_end ?_
              refine e_add (slO SV.nil 5 (enI .u8) []) (slO_nil _ _ _) ?_
              have hd := Option.some.inj h
              subst hd
              exact ej (true, ([] : List Int), d10.model, d10.alternate, d10.size.Rows, d10.size.Cols, d10.cells, d10.cursor, d10.attrs) SV.nil rfl (sc rfl (sc rfl sn)) (kc rm1 (kc rm3 (kc rm3 (kc rm1 (kc rm0 (kc rm0 kr))))))
            · replace h := cond_f hb624 h
              refine c_seq ?_
              refine c_region ?_
              refine o1 rfl (o_p (v := (.bool (d3.1 == 8))) rfl ?_)
              refine o1 rfl (o_p rfl ?_)
              refine o_end ?_
              refine e_seq ?_
              refine c_cond (b := (d3.1 == 8)) rfl (fun hb754 => ?_) (fun hb754 => ?_)
              · replace h := cond_t hb754 h
                refine c_region ?_
                refine o1 rfl (o_p rfl ?_)
                replace h := gsome h
                obtain ⟨hg755, h⟩ := h
                refine o1 rfl (o_sl (a := 1) (b := (p1.length : Int)) (m := none) rfl rfl rfl rfl rfl rm0 q0 rfl rfl rfl (by decide) hg755 mx_none (fun s757 hr756 => ?_))
                replace hr756 := rd_tk hr756
                replace h := bsome h
                obtain ⟨d11, h11, h⟩ := h
                refine o1 rfl (o_call has33 rfl (c_bytes_Clone hg X (List.drop 1 p1) s757 hr756 _ h11) (pc rm0 pn) (fun i11 => ?_))
                refine o1 rfl (o_fa (fd := ⟨ "Fields", 28, 5, false, "", "", 24⟩) rfl rfl rfl rfl rfl ?_)
                refine o0 (o_st (b := b57) (off := 5) (vs := [(SV.val i11)]) (cs' := [(.int .i64 d3.1), (.bool false), (.bool false), (.bool false), (.int .i64 0), (SV.val i11)]) rfl rfl rp2 rfl rfl rfl rfl rfl rfl ?_)
                refine o_end ?_
                have hd := Option.some.inj h
                subst hd
                exact ej (false, d11, p0.model, p0.alternate, p0.size.Rows, p0.size.Cols, p0.cells, p0.cursor, p0.attrs) i11 rfl (sc rfl (sc rfl sn)) (kc rm0 (kc rm1 (kc rm1 (kc rm1 (kc rm0 (kc rm0 kr))))))
              · replace h := cond_f hb754 h
                refine c_skip ?_
                refine e_add (slO SV.nil 5 (enI .u8) []) (slO_nil _ _ _) ?_
                have hd := Option.some.inj h
                subst hd
                exact ej (false, ([] : List Int), p0.model, p0.alternate, p0.size.Rows, p0.size.Cols, p0.cells, p0.cursor, p0.attrs) SV.nil rfl (sc rfl (sc rfl sn)) (kc rm1 (kc rm1 (kc rm1 (kc rm1 (kc rm0 (kc rm0 kr))))))
        · rintro d7 i7 rfl
          replace h := JK_inl hk7
          clear hk7
          refine e_blk ?_
          refine e_seq ?_
          refine c_seq ?_
          refine c_region ?_
          refine o1 rfl (o_ld (b := b57) (off := 0) (v := (.agg (List.toArray [(.int .i64 d3.1), (.bool d7.1), (.bool false), (.bool false), (.int .i64 0), (SV.val i7)]))) rfl rm1 rfl rfl ?_)
          refine o0 (o_st (b := b36) (off := 0) (vs := [(.int .i64 d3.1), (.bool d7.1), (.bool false), (.bool false), (.int .i64 0), (SV.val i7)]) (cs' := [(.int .i64 d3.1), (.bool d7.1), (.bool false), (.bool false), (.int .i64 0), (SV.val i7)]) rfl rfl rp2 rfl rfl rfl rfl rfl rfl ?_)
          refine o1 rfl (o_p rfl ?_)
          refine o_end ?_
          refine e_seq ?_
          refine c_ret ?_
          refine e_ret ?_
          refine r_fz rm4 rm0 (fun X764 hx765 hs766 => ?_)
          refine r_endc (B := [[(.int .i64 d3.1), (.bool d7.1), (.bool false), (.bool false), (.int .i64 0), (SV.val i7)]]) rfl ⟨⟨_, _, _, _, rfl, rm2⟩, trivial⟩ rfl (kc rm0 (kc rm2 (kc rm2 (kd (kd kr))))) ?_
          have hr := Option.some.inj h
          subst hr
          exact hk (X764, s0, i7) hs766 hx765

theorem c_vitrinelaw17_awake {g : Gw} (hg : GK g) (X : HP) (r : Bool) (h : m_vitrinelaw17_awake = some r) : Tri env g 6 (List.toArray []) [X] (fun K R => ∀ (i0 : HP), (Ext X i0) → K (.bool r) (i0 :: R)) := by
  refine tri_of (fn := Tryd.f6) (N := 57) Tryd.func6 rfl rfl rfl ?_
  intro R K hk
  unfold m_vitrinelaw17_awake at h
  change GC _ none _ [] [] (X :: R) g _ _
  refine c_seq ?_
  refine c_region ?_
  refine o1 rfl (o_p rfl ?_)
  refine o_end ?_
  refine e_seq ?_
  refine c_seq ?_
  refine c_region ?_
  replace h := bsome h
  obtain ⟨d2, h2, h⟩ := h
  rcases d2 with d2 | d2
  · cases h
  · refine o1 rfl (o_call has25 rfl (c_space_New hg X 2 _ h2) (pc rm0 pn) (fun i2 => ?_))
    refine o1 rfl (o_p rfl ?_)
    refine o1 rfl (o_p rfl ?_)
    refine o1 rfl (o_p rfl ?_)
    refine o1 rfl (o_p rfl ?_)
    refine o1 rfl (o_p rfl ?_)
    refine o_end ?_
    refine e_seq ?_
    refine c_seq ?_
    refine c_region ?_
    refine o1 rfl (o_p rfl ?_)
    refine o1 rfl (o_bs (e := (enI .u8)) (l := [245, 195, 17, 64, 64, 29, 96, 193]) (zs := [(.int .u8 0)]) rfl rfl rfl rfl rfl rfl rfl rfl rfl rfl (fun s31 => ?_))
    refine o_fz rm0 rm0 (fun X33 hx34 hs35 => ?_)
    replace h := bsome h
    obtain ⟨d3, h3, h⟩ := h
    refine o1 rfl (o_call has8 rfl (c_write_Run hg X33 d2.1 i2.1 i2.2 [245, 195, 17, 64, 64, 29, 96, 193] s31 hs35 _ h3) (pc rm0 (pc rm0 (pc rm0 pn))) (fun i3 f3_0 f3_1 => ?_))
    refine o1 rfl (o_p rfl ?_)
    refine o1 rfl (o_p rfl ?_)
    refine o1 rfl (o_p rfl ?_)
    refine o1 rfl (o_alloc (cs := [(.int .i64 0), (.bool false), (.bool false), (.bool false), (.int .i64 0), (SV.val SV.nil)]) rfl rfl (fun b769 => ?_))
    refine o0 (o_st (b := b769) (off := 0) (vs := [(.int .i64 d3.2.1.Command), (.bool d3.2.1.Restore), (.bool d3.2.1.Alarm), (.bool d3.2.1.Reset), (.int .i64 d3.2.1.Pieces), (SV.val i3.2.2)]) (cs' := [(.int .i64 d3.2.1.Command), (.bool d3.2.1.Restore), (.bool d3.2.1.Alarm), (.bool d3.2.1.Reset), (.int .i64 d3.2.1.Pieces), (SV.val i3.2.2)]) rfl rfl rp0 rfl rfl rfl rfl rfl rfl ?_)
    refine o1 rfl (o_p rfl ?_)
    refine o_end ?_
    refine e_seq ?_
    refine c_seq ?_
    replace h := bsome h
    obtain ⟨d4, h, hk4⟩ := h
    refine cj (D := Unit) (ι := Unit) (fun _ i4 => True) (fun _ i4 => [(0, (.bool d4))]) (fun _ i4 => i3.1 :: R) ?_ ?_
    · refine c_region ?_
      refine o1 rfl (o_p rfl ?_)
      refine o1 rfl (o_p (v := (.bool (d3.2.2 == 0))) rfl ?_)
      refine o1 rfl (o_p rfl ?_)
      rcases bool_or ((d3.2.2 == 0)) with hb771 | hb771
      · replace h := cond_t hb771 h
        refine oy rfl rfl rfl hb771 (o_fa (fd := ⟨ "Command", 3, 0, false, "", "", 0⟩) rfl rfl rfl rfl rfl ?_)
        refine oy rfl rfl rfl hb771 (o_ld (b := b769) (off := 0) (v := (.int .i64 d3.2.1.Command)) rfl rm0 rfl rfl ?_)
        refine oy rfl rfl rfl hb771 (o_p (v := (.bool (d3.2.1.Command == 2))) rfl ?_)
        refine o1 rfl (o_pick_t rfl hb771 rfl ?_)
        refine o1 rfl (o_p rfl ?_)
        rcases bool_or ((d3.2.1.Command == 2)) with hb772 | hb772
        · replace h := cond_t hb772 h
          refine oy rfl rfl rfl hb772 (o_fa (fd := ⟨ "Restore", 4, 1, false, "", "", 8⟩) rfl rfl rfl rfl rfl ?_)
          refine oy rfl rfl rfl hb772 (o_ld (b := b769) (off := 1) (v := (.bool d3.2.1.Restore)) rfl rm0 rfl rfl ?_)
          refine o1 rfl (o_pick_t rfl hb772 rfl ?_)
          refine o1 rfl (o_p rfl ?_)
          rcases bool_or (d3.2.1.Restore) with hb773 | hb773
          · replace h := cond_t hb773 h
            refine oy rfl rfl rfl hb773 (o_fa (fd := ⟨ "Reset", 4, 3, false, "", "", 10⟩) rfl rfl rfl rfl rfl ?_)
            refine oy rfl rfl rfl hb773 (o_ld (b := b769) (off := 3) (v := (.bool d3.2.1.Reset)) rfl rm0 rfl rfl ?_)
            refine o1 rfl (o_pick_t rfl hb773 rfl ?_)
            refine o1 rfl (o_p rfl ?_)
            rcases bool_or (d3.2.1.Reset) with hb774 | hb774
            · replace h := cond_t hb774 h
              refine oy rfl rfl rfl hb774 (o_fa (fd := ⟨ "Alarm", 4, 2, false, "", "", 9⟩) rfl rfl rfl rfl rfl ?_)
              refine oy rfl rfl rfl hb774 (o_ld (b := b769) (off := 2) (v := (.bool d3.2.1.Alarm)) rfl rm0 rfl rfl ?_)
              refine oy rfl rfl rfl hb774 (o_p (v := (.bool (!d3.2.1.Alarm))) rfl ?_)
              refine o1 rfl (o_pick_t rfl hb774 rfl ?_)
              refine o1 rfl (o_p rfl ?_)
              rcases bool_or ((!d3.2.1.Alarm)) with hb775 | hb775
              · replace h := cond_t hb775 h
                refine oy rfl rfl rfl hb775 (o_fa (fd := ⟨ "Pieces", 3, 4, false, "", "", 16⟩) rfl rfl rfl rfl rfl ?_)
                refine oy rfl rfl rfl hb775 (o_ld (b := b769) (off := 4) (v := (.int .i64 d3.2.1.Pieces)) rfl rm0 rfl rfl ?_)
                refine oy rfl rfl rfl hb775 (o_p (v := (.bool (d3.2.1.Pieces == 3))) rfl ?_)
                refine o1 rfl (o_pick_t rfl hb775 rfl ?_)
                refine o1 rfl (o_p rfl ?_)
                rcases bool_or ((d3.2.1.Pieces == 3)) with hb776 | hb776
                · replace h := cond_t hb776 h
                  refine oy rfl rfl rfl hb776 (o_p rfl ?_)
                  replace h := bsome h
                  obtain ⟨d5, h5, h⟩ := h
                  refine oy rfl rfl rfl hb776 (o_call has10 rfl (c_space_Space_At hg i3.1 d3.1 i2.1 i3.2.1 0 _ h5) (pc rm1 (pc rm1 (pc rm1 pn))) ?_)
                  refine oy rfl rfl rfl hb776 (o_field (v := (.bool d5.Attr)) rfl rfl rfl ?_)
                  refine o1 rfl (o_pick_t rfl hb776 rfl ?_)
                  refine o1 rfl (o_p rfl ?_)
                  rcases bool_or (d5.Attr) with hb777 | hb777
                  · replace h := cond_t hb777 h
                    refine oy rfl rfl rfl hb777 (o_p rfl ?_)
                    replace h := bsome h
                    obtain ⟨d6, h6, h⟩ := h
                    refine oy rfl rfl rfl hb777 (o_call has10 rfl (c_space_Space_At hg i3.1 d3.1 i2.1 i3.2.1 0 _ h6) (pc rm0 (pc rm0 (pc rm0 pn))) ?_)
                    refine oy rfl rfl rfl hb777 (o_field (v := (.int .u8 d6.FA)) rfl rfl rfl ?_)
                    refine oy rfl rfl rfl hb777 (o_p (v := (.bool (d6.FA == 32))) rfl ?_)
                    refine o1 rfl (o_pick_t rfl hb777 rfl ?_)
                    refine o1 rfl (o_p rfl ?_)
                    rcases bool_or ((d6.FA == 32)) with hb778 | hb778
                    · replace h := cond_t hb778 h
                      refine oy rfl rfl rfl hb778 (o_p rfl ?_)
                      replace h := bsome h
                      obtain ⟨d7, h7, h⟩ := h
                      refine oy rfl rfl rfl hb778 (o_call has10 rfl (c_space_Space_At hg i3.1 d3.1 i2.1 i3.2.1 1 _ h7) (pc rm0 (pc rm0 (pc rm0 pn))) ?_)
                      refine oy rfl rfl rfl hb778 (o_field (v := (.int .u8 d7.Char)) rfl rfl rfl ?_)
                      refine oy rfl rfl rfl hb778 (o_p (v := (.bool (d7.Char == 193))) rfl ?_)
                      refine o1 rfl (o_pick_t rfl hb778 rfl ?_)
                      refine o1 rfl (o_p rfl ?_)
                      refine o_end ?_
                      have hd := Option.some.inj h
                      subst hd
                      exact ej () () trivial (sc rfl sn) (kc rm0 (kd (kd (kd kr))))
                    · replace h := cond_f hb778 h
                      refine on rfl rfl rfl hb778 ?_
                      refine on rfl rfl rfl hb778 ?_
                      refine on rfl rfl rfl hb778 ?_
                      refine on rfl rfl rfl hb778 ?_
                      refine o1 rfl (o_pick_f rfl hb778 rfl ?_)
                      refine o1 rfl (o_p rfl ?_)
                      refine o_end ?_
                      have hd := Option.some.inj h
                      subst hd
                      exact ej () () trivial (sc rfl sn) (kc rm0 (kd (kd (kd kr))))
                  · replace h := cond_f hb777 h
                    refine on rfl rfl rfl hb777 ?_
                    refine on rfl rfl rfl hb777 ?_
                    refine on rfl rfl rfl hb777 ?_
                    refine on rfl rfl rfl hb777 ?_
                    refine o1 rfl (o_pick_f rfl hb777 rfl ?_)
                    refine o1 rfl (o_p rfl ?_)
                    refine on rfl rfl rfl rfl ?_
                    refine on rfl rfl rfl rfl ?_
                    refine on rfl rfl rfl rfl ?_
                    refine on rfl rfl rfl rfl ?_
                    refine o1 rfl (o_pick_f rfl rfl rfl ?_)
                    refine o1 rfl (o_p rfl ?_)
                    refine o_end ?_
                    have hd := Option.some.inj h
                    subst hd
                    exact ej () () trivial (sc rfl sn) (kc rm0 (kd (kd (kd kr))))
                · replace h := cond_f hb776 h
                  refine on rfl rfl rfl hb776 ?_
                  refine on rfl rfl rfl hb776 ?_
                  refine on rfl rfl rfl hb776 ?_
                  refine o1 rfl (o_pick_f rfl hb776 rfl ?_)
                  refine o1 rfl (o_p rfl ?_)
                  refine on rfl rfl rfl rfl ?_
                  refine on rfl rfl rfl rfl ?_
                  refine on rfl rfl rfl rfl ?_
                  refine on rfl rfl rfl rfl ?_
                  refine o1 rfl (o_pick_f rfl rfl rfl ?_)
                  refine o1 rfl (o_p rfl ?_)
                  refine on rfl rfl rfl rfl ?_
                  refine on rfl rfl rfl rfl ?_
                  refine on rfl rfl rfl rfl ?_
                  refine on rfl rfl rfl rfl ?_
                  refine o1 rfl (o_pick_f rfl rfl rfl ?_)
                  refine o1 rfl (o_p rfl ?_)
                  refine o_end ?_
                  have hd := Option.some.inj h
                  subst hd
                  exact ej () () trivial (sc rfl sn) (kc rm1 (kd (kd (kd kr))))
              · replace h := cond_f hb775 h
                refine on rfl rfl rfl hb775 ?_
                refine on rfl rfl rfl hb775 ?_
                refine on rfl rfl rfl hb775 ?_
                refine o1 rfl (o_pick_f rfl hb775 rfl ?_)
                refine o1 rfl (o_p rfl ?_)
                refine on rfl rfl rfl rfl ?_
                refine on rfl rfl rfl rfl ?_
                refine on rfl rfl rfl rfl ?_
                refine o1 rfl (o_pick_f rfl rfl rfl ?_)
                refine o1 rfl (o_p rfl ?_)
                refine on rfl rfl rfl rfl ?_
                refine on rfl rfl rfl rfl ?_
                refine on rfl rfl rfl rfl ?_
                refine on rfl rfl rfl rfl ?_
                refine o1 rfl (o_pick_f rfl rfl rfl ?_)
                refine o1 rfl (o_p rfl ?_)
                refine on rfl rfl rfl rfl ?_
                refine on rfl rfl rfl rfl ?_
                refine on rfl rfl rfl rfl ?_
                refine on rfl rfl rfl rfl ?_
                refine o1 rfl (o_pick_f rfl rfl rfl ?_)
                refine o1 rfl (o_p rfl ?_)
                refine o_end ?_
                have hd := Option.some.inj h
                subst hd
                exact ej () () trivial (sc rfl sn) (kc rm1 (kd (kd (kd kr))))
            · replace h := cond_f hb774 h
              refine on rfl rfl rfl hb774 ?_
              refine on rfl rfl rfl hb774 ?_
              refine on rfl rfl rfl hb774 ?_
              refine o1 rfl (o_pick_f rfl hb774 rfl ?_)
              refine o1 rfl (o_p rfl ?_)
              refine on rfl rfl rfl rfl ?_
              refine on rfl rfl rfl rfl ?_
              refine on rfl rfl rfl rfl ?_
              refine o1 rfl (o_pick_f rfl rfl rfl ?_)
              refine o1 rfl (o_p rfl ?_)
              refine on rfl rfl rfl rfl ?_
              refine on rfl rfl rfl rfl ?_
              refine on rfl rfl rfl rfl ?_
              refine o1 rfl (o_pick_f rfl rfl rfl ?_)
              refine o1 rfl (o_p rfl ?_)
              refine on rfl rfl rfl rfl ?_
              refine on rfl rfl rfl rfl ?_
              refine on rfl rfl rfl rfl ?_
              refine on rfl rfl rfl rfl ?_
              refine o1 rfl (o_pick_f rfl rfl rfl ?_)
              refine o1 rfl (o_p rfl ?_)
              refine on rfl rfl rfl rfl ?_
              refine on rfl rfl rfl rfl ?_
              refine on rfl rfl rfl rfl ?_
              refine on rfl rfl rfl rfl ?_
              refine o1 rfl (o_pick_f rfl rfl rfl ?_)
              refine o1 rfl (o_p rfl ?_)
              refine o_end ?_
              have hd := Option.some.inj h
              subst hd
              exact ej () () trivial (sc rfl sn) (kc rm1 (kd (kd (kd kr))))
          · replace h := cond_f hb773 h
            refine on rfl rfl rfl hb773 ?_
            refine on rfl rfl rfl hb773 ?_
            refine o1 rfl (o_pick_f rfl hb773 rfl ?_)
            refine o1 rfl (o_p rfl ?_)
            refine on rfl rfl rfl rfl ?_
            refine on rfl rfl rfl rfl ?_
            refine on rfl rfl rfl rfl ?_
            refine o1 rfl (o_pick_f rfl rfl rfl ?_)
            refine o1 rfl (o_p rfl ?_)
            refine on rfl rfl rfl rfl ?_
            refine on rfl rfl rfl rfl ?_
            refine on rfl rfl rfl rfl ?_
            refine o1 rfl (o_pick_f rfl rfl rfl ?_)
            refine o1 rfl (o_p rfl ?_)
            refine on rfl rfl rfl rfl ?_
            refine on rfl rfl rfl rfl ?_
            refine on rfl rfl rfl rfl ?_
            refine o1 rfl (o_pick_f rfl rfl rfl ?_)
            refine o1 rfl (o_p rfl ?_)
            refine on rfl rfl rfl rfl ?_
            refine on rfl rfl rfl rfl ?_
            refine on rfl rfl rfl rfl ?_
            refine on rfl rfl rfl rfl ?_
            refine o1 rfl (o_pick_f rfl rfl rfl ?_)
            refine o1 rfl (o_p rfl ?_)
            refine on rfl rfl rfl rfl ?_
            refine on rfl rfl rfl rfl ?_
            refine on rfl rfl rfl rfl ?_
            refine on rfl rfl rfl rfl ?_
            refine o1 rfl (o_pick_f rfl rfl rfl ?_)
            refine o1 rfl (o_p rfl ?_)
            refine o_end ?_
            have hd := Option.some.inj h
            subst hd
            exact ej () () trivial (sc rfl sn) (kc rm1 (kd (kd (kd kr))))
        · replace h := cond_f hb772 h
          refine on rfl rfl rfl hb772 ?_
          refine on rfl rfl rfl hb772 ?_
          refine o1 rfl (o_pick_f rfl hb772 rfl ?_)
          refine o1 rfl (o_p rfl ?_)
          refine on rfl rfl rfl rfl ?_
          refine on rfl rfl rfl rfl ?_
          refine o1 rfl (o_pick_f rfl rfl rfl ?_)
          refine o1 rfl (o_p rfl ?_)
          refine on rfl rfl rfl rfl ?_
          refine on rfl rfl rfl rfl ?_
          refine on rfl rfl rfl rfl ?_
          refine o1 rfl (o_pick_f rfl rfl rfl ?_)
          refine o1 rfl (o_p rfl ?_)
          refine on rfl rfl rfl rfl ?_
          refine on rfl rfl rfl rfl ?_
          refine on rfl rfl rfl rfl ?_
          refine o1 rfl (o_pick_f rfl rfl rfl ?_)
          refine o1 rfl (o_p rfl ?_)
          refine on rfl rfl rfl rfl ?_
          refine on rfl rfl rfl rfl ?_
          refine on rfl rfl rfl rfl ?_
          refine o1 rfl (o_pick_f rfl rfl rfl ?_)
          refine o1 rfl (o_p rfl ?_)
          refine on rfl rfl rfl rfl ?_
          refine on rfl rfl rfl rfl ?_
          refine on rfl rfl rfl rfl ?_
          refine on rfl rfl rfl rfl ?_
          refine o1 rfl (o_pick_f rfl rfl rfl ?_)
          refine o1 rfl (o_p rfl ?_)
          refine on rfl rfl rfl rfl ?_
          refine on rfl rfl rfl rfl ?_
          refine on rfl rfl rfl rfl ?_
          refine on rfl rfl rfl rfl ?_
          refine o1 rfl (o_pick_f rfl rfl rfl ?_)
          refine o1 rfl (o_p rfl ?_)
          refine o_end ?_
          have hd := Option.some.inj h
          subst hd
          exact ej () () trivial (sc rfl sn) (kc rm1 (kd (kd (kd kr))))
      · replace h := cond_f hb771 h
        refine on rfl rfl rfl hb771 ?_
        refine on rfl rfl rfl hb771 ?_
        refine on rfl rfl rfl hb771 ?_
        refine o1 rfl (o_pick_f rfl hb771 rfl ?_)
        refine o1 rfl (o_p rfl ?_)
        refine on rfl rfl rfl rfl ?_
        refine on rfl rfl rfl rfl ?_
        refine o1 rfl (o_pick_f rfl rfl rfl ?_)
        refine o1 rfl (o_p rfl ?_)
        refine on rfl rfl rfl rfl ?_
        refine on rfl rfl rfl rfl ?_
        refine o1 rfl (o_pick_f rfl rfl rfl ?_)
        refine o1 rfl (o_p rfl ?_)
        refine on rfl rfl rfl rfl ?_
        refine on rfl rfl rfl rfl ?_
        refine on rfl rfl rfl rfl ?_
        refine o1 rfl (o_pick_f rfl rfl rfl ?_)
        refine o1 rfl (o_p rfl ?_)
        refine on rfl rfl rfl rfl ?_
        refine on rfl rfl rfl rfl ?_
        refine on rfl rfl rfl rfl ?_
        refine o1 rfl (o_pick_f rfl rfl rfl ?_)
        refine o1 rfl (o_p rfl ?_)
        refine on rfl rfl rfl rfl ?_
        refine on rfl rfl rfl rfl ?_
        refine on rfl rfl rfl rfl ?_
        refine o1 rfl (o_pick_f rfl rfl rfl ?_)
        refine o1 rfl (o_p rfl ?_)
        refine on rfl rfl rfl rfl ?_
        refine on rfl rfl rfl rfl ?_
        refine on rfl rfl rfl rfl ?_
        refine on rfl rfl rfl rfl ?_
        refine o1 rfl (o_pick_f rfl rfl rfl ?_)
        refine o1 rfl (o_p rfl ?_)
        refine on rfl rfl rfl rfl ?_
        refine on rfl rfl rfl rfl ?_
        refine on rfl rfl rfl rfl ?_
        refine on rfl rfl rfl rfl ?_
        refine o1 rfl (o_pick_f rfl rfl rfl ?_)
        refine o1 rfl (o_p rfl ?_)
        refine o_end ?_
        have hd := Option.some.inj h
        subst hd
        exact ej () () trivial (sc rfl sn) (kc rm1 (kd (kd (kd kr))))
    · rintro _ i4 _
      replace h := hk4
      clear hk4
      refine e_seq ?_
      refine c_ret ?_
      refine e_ret ?_
      refine r_endt rfl rfl (kc rm0 kr) ?_
      have hr := Option.some.inj h
      subst hr
      exact hk i3.1 (Ext.trans hx34 f3_1)

theorem c_vitrineref01_Num {g : Gw} (hg : GK g) (X : HP) (p0 : ByteArray) (r : Int) (h : m_vitrineref01_Num p0 = some r) : Tri env g 37 (List.toArray [(.string p0)]) [X] (fun K R => K (.int .i64 r) (X :: R)) := by
  refine tri_of (fn := Tryd.f37) (N := 32) Tryd.func37 rfl rfl rfl ?_
  intro R K hk
  unfold m_vitrineref01_Num at h
  change GC _ none _ [] [(0, (.string p0))] (X :: R) g _ _
  refine c_seq ?_
  refine c_region ?_
  refine o1 rfl (o_p rfl ?_)
  refine o_end ?_
  refine e_seq ?_
  refine c_seq ?_
  refine c_region ?_
  refine o1 rfl (o_p rfl ?_)
  refine o_end ?_
  refine e_seq ?_
  refine c_seq ?_
  refine c_seq ?_
  refine c_region ?_
  refine o1 rfl (o_p rfl ?_)
  refine o_end ?_
  refine e_seq ?_
  replace h := bsome h
  obtain ⟨d1, h, hk1⟩ := h
  refine cj (D := Unit) (ι := Unit) (fun _ i1 => True) (fun _ i1 => [(3, (.int .i64 d1))]) (fun _ i1 => X :: R) ?_ ?_
  · refine c_block ?_
    refine c_loop (l_sub (sc rfl (sc rfl (sc rfl sn))) (l_keep (kc rm0 kr) (lf (X := Int × Int) (ι := Unit) (fun k x => vitrineref01_Num_l2 p0 k x) _ (fun x2 i2 => True) (fun x2 i2 => [(4, (.int .i64 x2.1)), (3, (.int .i64 x2.2)), (0, (.string p0))]) (fun x2 i2 => X :: R) (fun _ => rfl) ?_ fuel (0, 0) () trivial h)))
    clear h
    rintro k2 ih2 x2 i2 _ h
    rw [vitrineref01_Num_l2.eq_2] at h
    refine l_round ?_
    refine c_seq ?_
    refine c_seq ?_
    refine c_region ?_
    refine o1 rfl (o_p rfl ?_)
    refine o1 rfl (o_p rfl ?_)
    refine o1 rfl (o_lens (s := p0) rfl rfl rfl ?_)
    refine o1 rfl (o_p (v := (.bool (decide (x2.1 < (p0.size : Int))))) rfl ?_)
    refine o_end ?_
    refine e_seq ?_
    refine c_cond (b := (decide (x2.1 < (p0.size : Int)))) rfl (fun hb1085 => ?_) (fun hb1085 => ?_)
    · replace h := cond_t hb1085 h
      refine c_skip ?_
      refine e_seq ?_
      refine c_seq ?_
      refine c_block ?_
      refine c_seq ?_
      refine c_region ?_
      refine o1 rfl (o_p rfl ?_)
      refine o1 rfl (o_p rfl ?_)
      replace h := gsome h
      obtain ⟨hg1086, h⟩ := h
      refine o1 rfl (o_sidx (s := p0) (n := x2.1) rfl rfl rfl rfl hg1086 ?_)
      refine o1 rfl (o_p (v := (.int .u8 (IntKind.wrap .u8 ((sbyte p0 x2.1) - 48)))) rfl ?_)
      refine o1 rfl (o_p (v := (.int .i64 (w64 (IntKind.wrap .u8 ((sbyte p0 x2.1) - 48))))) rfl ?_)
      refine o1 rfl (o_p rfl ?_)
      refine o_end ?_
      refine e_seq ?_
      refine c_seq ?_
      refine c_seq ?_
      refine c_region ?_
      refine o1 rfl (o_p rfl ?_)
      refine o1 rfl (o_p rfl ?_)
      replace h := gsome h
      obtain ⟨hg1087, h⟩ := h
      refine o1 rfl (o_sidx (s := p0) (n := x2.1) rfl rfl rfl rfl hg1087 ?_)
      refine o1 rfl (o_p (v := (.bool (decide ((sbyte p0 x2.1) ≥ 97)))) rfl ?_)
      refine o_end ?_
      refine e_seq ?_
      replace h := bsome h
      obtain ⟨d5, h, hk5⟩ := h
      refine cj (D := Unit) (ι := Unit) (fun _ i5 => True) (fun _ i5 => [(5, (.int .i64 d5)), (4, (.int .i64 x2.1)), (3, (.int .i64 x2.2)), (0, (.string p0))]) (fun _ i5 => X :: R) ?_ ?_
      · refine c_cond (b := (decide ((sbyte p0 x2.1) ≥ 97))) rfl (fun hb1088 => ?_) (fun hb1088 => ?_)
        · replace h := cond_t hb1088 h
          refine c_region ?_
          refine o1 rfl (o_p rfl ?_)
          refine o1 rfl (o_p rfl ?_)
          replace h := gsome h
          obtain ⟨hg1089, h⟩ := h
          refine o1 rfl (o_sidx (s := p0) (n := x2.1) rfl rfl rfl rfl hg1089 ?_)
          refine o1 rfl (o_p (v := (.int .u8 (IntKind.wrap .u8 ((sbyte p0 x2.1) - 97)))) rfl ?_)
          refine o1 rfl (o_p (v := (.int .i64 (w64 (IntKind.wrap .u8 ((sbyte p0 x2.1) - 97))))) rfl ?_)
          refine o1 rfl (o_p (v := (.int .i64 (w64 ((w64 (IntKind.wrap .u8 ((sbyte p0 x2.1) - 97))) + 10)))) rfl ?_)
          refine o1 rfl (o_p rfl ?_)
          refine o_end ?_
          have hd := Option.some.inj h
          subst hd
          exact ej () () trivial (sc rfl (sc rfl (sc rfl (sc rfl sn)))) (kc rm0 kr)
        · replace h := cond_f hb1088 h
          refine c_skip ?_
          have hd := Option.some.inj h
          subst hd
          exact ej () () trivial (sc rfl (sc rfl (sc rfl (sc rfl sn)))) (kc rm0 kr)
      · rintro _ i5 _
        replace h := hk5
        clear hk5
        refine e_seq ?_
        refine c_region ?_
        refine o1 rfl (o_p rfl ?_)
        refine o1 rfl (o_p (v := (.int .i64 (w64 (16 * x2.2)))) rfl ?_)
        refine o1 rfl (o_p rfl ?_)
        refine o1 rfl (o_p (v := (.int .i64 (w64 ((w64 (16 * x2.2)) + d5)))) rfl ?_)
        refine o1 rfl (o_p rfl ?_)
        refine o_end ?_
        refine e_blk ?_
        refine e_seq ?_
        refine c_region ?_
        refine o1 rfl (o_p rfl ?_)
        refine o1 rfl (o_p (v := (.int .i64 (w64 (x2.1 + 1)))) rfl ?_)
        refine o1 rfl (o_p rfl ?_)
        refine o_end ?_
        exact e_loop (l_sub (sc rfl (sc rfl (sc rfl sn))) (l_keep (kc rm0 kr) (ih2 (w64 (x2.1 + 1), w64 ((w64 (16 * x2.2)) + d5)) () trivial h)))
    · replace h := cond_f hb1085 h
      refine c_exit ?_
      refine e_then_exit ?_
      refine e_then_exit ?_
      refine e_blk_exit ?_
      have hd := Option.some.inj h
      subst hd
      exact ej () () trivial (sc rfl sn) (kc rm0 kr)
  · rintro _ i1 _
    replace h := hk1
    clear hk1
    refine e_seq ?_
    refine c_seq ?_
    refine c_region ?_
    refine o1 rfl (o_p rfl ?_)
    refine o1 rfl (o_p rfl ?_)
    refine o_end ?_
    refine e_seq ?_
    refine c_ret ?_
    refine e_ret ?_
    refine r_endt rfl rfl (kc rm0 kr) ?_
    have hr := Option.some.inj h
    subst hr
    exact hk

theorem c_vitrineref17_Command {g : Gw} (hg : GK g) (X : HP) (p0 : Int) (r : Int) (h : m_vitrineref17_Command p0 = some r) : Tri env g 13 (List.toArray [(.int .u8 p0)]) [X] (fun K R => K (.int .i64 r) (X :: R)) := by
  refine tri_of (fn := Tryd.f13) (N := 20) Tryd.func13 rfl rfl rfl ?_
  intro R K hk
  unfold m_vitrineref17_Command at h
  change GC _ none _ [] [(0, (.int .u8 p0))] (X :: R) g _ _
  refine c_seq ?_
  refine c_region ?_
  refine o1 rfl (o_p rfl ?_)
  refine o_end ?_
  refine e_seq ?_
  refine c_seq ?_
  refine c_seq ?_
  refine c_region ?_
  refine o1 rfl (o_p rfl ?_)
  refine o_end ?_
  refine e_seq ?_
  replace h := jn_some h
  obtain ⟨y1, h, hk1⟩ := h
  refine cj (D := Unit) (ι := Unit) (fun d1 i1 => y1 = Sum.inl d1) (fun d1 i1 => []) (fun d1 i1 => X :: R) ?_ ?_
  · refine c_block ?_
    refine c_loop (l_sub (sc rfl (sc rfl sn)) (l_keep (kc rm0 kr) (lf (X := Int) (ι := Unit) (fun k x => vitrineref17_Command_l2 p0 k x) _ (fun x2 i2 => True) (fun x2 i2 => [(3, (.int .i64 x2)), (0, (.int .u8 p0))]) (fun x2 i2 => X :: R) (fun _ => rfl) ?_ fuel 0 () trivial h)))
    clear h
    rintro k2 ih2 x2 i2 _ h
    rw [vitrineref17_Command_l2.eq_2] at h
    refine l_round ?_
    refine c_seq ?_
    refine c_seq ?_
    refine c_region ?_
    refine o1 rfl (o_p rfl ?_)
    refine o1 rfl (o_p (v := (.bool (decide (x2 < 18)))) rfl ?_)
    refine o_end ?_
    refine e_seq ?_
    refine c_cond (b := (decide (x2 < 18))) rfl (fun hb1094 => ?_) (fun hb1094 => ?_)
    · replace h := cond_t hb1094 h
      refine c_skip ?_
      refine e_seq ?_
      refine c_seq ?_
      refine c_block ?_
      refine c_seq ?_
      refine c_region ?_
      refine o1 rfl (o_p rfl ?_)
      refine o1 rfl (o_p (v := (.int .i64 (w64 (2 * x2)))) rfl ?_)
      refine o1 rfl (o_p rfl ?_)
      refine o1 rfl (o_p (v := (.int .i64 (w64 (2 * x2)))) rfl ?_)
      refine o1 rfl (o_p (v := (.int .i64 (w64 ((w64 (2 * x2)) + 2)))) rfl ?_)
      replace h := gsome h
      obtain ⟨hg1095, h⟩ := h
      refine o1 rfl (o_ssl (s := (ByteArray.mk (List.toArray [48, 51, 48, 49, 48, 53, 48, 100, 48, 102, 48, 50, 48, 54, 48, 101, 49, 49, 48, 51, 102, 49, 102, 53, 55, 101, 54, 102, 102, 50, 102, 54, 54, 101, 102, 51]))) (a := w64 (2 * x2)) (b := w64 ((w64 (2 * x2)) + 2)) rfl rfl rfl rfl rfl hg1095 ?_)
      replace h := bsome h
      obtain ⟨d5, h5, h⟩ := h
      refine o1 rfl (o_call has37 rfl (c_vitrineref01_Num hg X (ByteArray.extract (ByteArray.mk (List.toArray [48, 51, 48, 49, 48, 53, 48, 100, 48, 102, 48, 50, 48, 54, 48, 101, 49, 49, 48, 51, 102, 49, 102, 53, 55, 101, 54, 102, 102, 50, 102, 54, 54, 101, 102, 51])) (Int.toNat (w64 (2 * x2))) (Int.toNat (w64 ((w64 (2 * x2)) + 2)))) _ h5) (pc rm0 pn) ?_)
      refine o1 rfl (o_p rfl ?_)
      refine o1 rfl (o_p (v := (.int .i64 (w64 (p0)))) rfl ?_)
      refine o1 rfl (o_p (v := (.bool (d5 == (w64 (p0))))) rfl ?_)
      refine o_end ?_
      refine e_seq ?_
      refine c_cond (b := (d5 == (w64 (p0)))) rfl (fun hb1096 => ?_) (fun hb1096 => ?_)
      · replace h := cond_t hb1096 h
        refine c_seq ?_
        refine c_region ?_
        refine o1 rfl (o_p rfl ?_)
        refine o1 rfl (o_rem (m := x2) (n := 9) rfl rfl (by decide) ?_)
        refine o1 rfl (o_p rfl ?_)
        refine o_end ?_
        refine e_seq ?_
        refine c_ret ?_
        refine e_blk_ret ?_
        refine e_then_ret ?_
        refine e_then_ret ?_
        refine e_blk_ret ?_
        refine ej_ret ?_
        replace h := esc_some h
        obtain ⟨z1, h, rfl⟩ := h
        obtain rfl := (hk1 : z1 = _)
        refine e_then_ret ?_
        refine e_ret ?_
        refine r_endt rfl rfl (kc rm0 kr) ?_
        have hr := Option.some.inj h
        subst hr
        exact hk
      · replace h := cond_f hb1096 h
        refine c_skip ?_
        refine e_blk ?_
        refine e_seq ?_
        refine c_region ?_
        refine o1 rfl (o_p rfl ?_)
        refine o1 rfl (o_p (v := (.int .i64 (w64 (x2 + 1)))) rfl ?_)
        refine o1 rfl (o_p rfl ?_)
        refine o_end ?_
        exact e_loop (l_sub (sc rfl (sc rfl sn)) (l_keep (kc rm0 kr) (ih2 (w64 (x2 + 1)) () trivial h)))
    · replace h := cond_f hb1094 h
      refine c_exit ?_
      refine e_then_exit ?_
      refine e_then_exit ?_
      refine e_blk_exit ?_
      have hd := Option.some.inj h
      subst hd
      exact ej () () rfl sn (kc rm0 kr)
  · rintro d1 i1 rfl
    replace h := JK_inl hk1
    clear hk1
    refine e_seq ?_
    refine c_seq ?_
    refine c_region ?_
    refine o1 rfl (o_p rfl ?_)
    refine o_end ?_
    refine e_seq ?_
    refine c_ret ?_
    refine e_ret ?_
    refine r_endt rfl rfl (kc rm0 kr) ?_
    have hr := Option.some.inj h
    subst hr
    exact hk

theorem c_vitrineref01_Copy {g : Gw} (hg : GK g) (X : HP) (p0 : List Int) (s0 : SV) (q0 : Rd X s0 5 (enI .u8) p0) (r : (List Int)) (h : m_vitrineref01_Copy p0 = some r) : Tri env g 38 (List.toArray [(SV.val s0)]) [X] (fun K R => ∀ (i0 : SV), K (SV.val i0) (X :: slO i0 5 (enI .u8) r :: R)) := by
  refine tri_of (fn := Tryd.f38) (N := 6) Tryd.func38 rfl rfl rfl ?_
  intro R K hk
  unfold m_vitrineref01_Copy at h
  change GC _ none _ [] [(0, (SV.val s0))] (X :: R) g _ _
  refine c_seq ?_
  refine c_region ?_
  refine o1 rfl (o_p rfl ?_)
  refine o_end ?_
  refine e_seq ?_
  refine c_seq ?_
  refine c_region ?_
  refine o1 rfl (o_bs (e := (enI .u8)) (l := ([] : List Int)) (zs := [(.int .u8 0)]) rfl rfl rfl rfl rfl rfl rfl rfl rfl rfl (fun s1101 => ?_))
  refine o1 rfl (o_p rfl ?_)
  replace h := gsome h
  obtain ⟨hg1103, h⟩ := h
  refine o1 rfl (o_app (s := s1101) (r := s0) (e := (enI .u8)) (l := ([] : List Int)) (l2 := p0) (zs := [(.int .u8 0)]) rfl rfl rfl rfl rfl rfl rfl rfl rfl rfl rfl rm0 rm0 q0 hg1103 (fun s1104 => ?_))
  refine o1 rfl (o_p rfl ?_)
  refine o_end ?_
  refine e_seq ?_
  refine c_ret ?_
  refine e_ret ?_
  refine r_endt rfl rfl (kc rm1 (kc rm0 kr)) ?_
  have hr := Option.some.inj h
  subst hr
  exact hk s1104

theorem c_vitrineref01_Cut {g : Gw} (hg : GK g) (X : HP) (p0 : List Int) (s0 : SV) (q0 : Rd X s0 5 (enI .u8) p0) (p1 : Int) (r : (List Int)) (h : m_vitrineref01_Cut p0 p1 = some r) : Tri env g 14 (List.toArray [(SV.val s0), (.int .i64 p1)]) [X] (fun K R => ∀ (i0 : SV), K (SV.val i0) (X :: slO i0 5 (enI .u8) r :: R)) := by
  refine tri_of (fn := Tryd.f14) (N := 14) Tryd.func14 rfl rfl rfl ?_
  intro R K hk
  unfold m_vitrineref01_Cut at h
  change GC _ none _ [] [(0, (SV.val s0)), (1, (.int .i64 p1))] (X :: R) g _ _
  refine c_seq ?_
  refine c_region ?_
  refine o1 rfl (o_p rfl ?_)
  refine o_end ?_
  refine e_seq ?_
  refine c_seq ?_
  refine c_seq ?_
  refine c_region ?_
  refine o1 rfl (o_p rfl ?_)
  refine o1 rfl (o_len (s := s0) rfl rfl rfl rm0 q0 ?_)
  refine o1 rfl (o_p rfl ?_)
  refine o1 rfl (o_p (v := (.bool (decide ((p0.length : Int) > p1)))) rfl ?_)
  refine o_end ?_
  refine e_seq ?_
  replace h := bsome h
  obtain ⟨d1, h, hk1⟩ := h
  refine cj (D := Unit) (ι := SV) (fun _ i1 => Rd X i1 5 (enI .u8) d1) (fun _ i1 => [(0, (SV.val i1))]) (fun _ i1 => X :: R) ?_ ?_
  · refine c_cond (b := (decide ((p0.length : Int) > p1))) rfl (fun hb1097 => ?_) (fun hb1097 => ?_)
    · replace h := cond_t hb1097 h
      refine c_region ?_
      refine o1 rfl (o_p rfl ?_)
      refine o1 rfl (o_p rfl ?_)
      replace h := gsome h
      obtain ⟨hg1098, h⟩ := h
      refine o1 rfl (o_sl (a := 0) (b := p1) (m := none) rfl rfl rfl rfl rfl rm0 q0 rfl rfl rfl (by decide) hg1098 mx_none (fun s1100 hr1099 => ?_))
      refine o1 rfl (o_p rfl ?_)
      refine o_end ?_
      have hd := Option.some.inj h
      subst hd
      exact ej () s1100 hr1099 (sc rfl sn) (kc rm0 kr)
    · replace h := cond_f hb1097 h
      refine c_skip ?_
      have hd := Option.some.inj h
      subst hd
      exact ej () s0 q0 (sc rfl sn) (kc rm0 kr)
  · rintro _ i1 f1_0
    replace h := hk1
    clear hk1
    refine e_seq ?_
    refine c_seq ?_
    refine c_region ?_
    refine o1 rfl (o_p rfl ?_)
    replace h := bsome h
    obtain ⟨d2, h2, h⟩ := h
    refine o1 rfl (o_call has38 rfl (c_vitrineref01_Copy hg X d1 i1 f1_0 _ h2) (pc rm0 pn) (fun i2 => ?_))
    refine o1 rfl (o_p rfl ?_)
    refine o_end ?_
    refine e_seq ?_
    refine c_ret ?_
    refine e_ret ?_
    refine r_endt rfl rfl (kc rm0 (kc rm0 kr)) ?_
    have hr := Option.some.inj h
    subst hr
    exact hk i2

theorem c_write_Run_2 {g : Gw} (hg : GK g) (X : HP) (p0 : List Int) (s0 : SV) (q0 : Rd X s0 5 (enI .u8) p0) (r : Vwrite_Result × Int) (h : m_write_Run_2 p0 = some r) : Tri env g 8 (List.toArray [(.pointer none), (SV.val s0)]) [X] (fun K R => K (.tuple (List.toArray [(.agg (List.toArray [(.int .i64 r.1.Command), (.bool r.1.Restore), (.bool r.1.Alarm), (.bool r.1.Reset), (.int .i64 r.1.Pieces), (SV.val SV.nil)])), (.int .i64 r.2)])) (X :: R)) := by
  refine tri_of (fn := Tryd.f8) (N := 54) Tryd.func8 rfl rfl rfl ?_
  intro R K hk
  unfold m_write_Run_2 at h
  change GC _ none _ [] [(0, (.pointer none)), (1, (SV.val s0))] (X :: R) g _ _
  refine c_seq ?_
  refine c_region ?_
  refine o1 rfl (o_alloc (cs := [(.int .i64 0), (.bool false), (.bool false), (.bool false), (.int .i64 0), (SV.val SV.nil)]) rfl rfl (fun b1113 => ?_))
  refine o1 rfl (o_p rfl ?_)
  refine o_end ?_
  refine e_seq ?_
  refine c_seq ?_
  refine c_block ?_
  refine c_seq ?_
  refine c_region ?_
  refine o1 rfl (o_p rfl ?_)
  refine o1 rfl (o_p (v := (.bool true)) rfl ?_)
  refine o1 rfl (o_p rfl ?_)
  refine o_end ?_
  refine e_seq ?_
  refine c_cond_t rfl rfl ?_
  refine c_seq ?_
  refine c_region ?_
  refine o1 rfl (o_build (fs := [⟨ "Command", 3, 0, false, "", "", 0⟩, ⟨ "Restore", 4, 1, false, "", "", 8⟩, ⟨ "Alarm", 4, 2, false, "", "", 9⟩, ⟨ "Reset", 4, 3, false, "", "", 10⟩, ⟨ "Pieces", 3, 4, false, "", "", 16⟩, ⟨ "Fields", 28, 5, false, "", "", 24⟩]) (ps := [(0, 1), (1, 1), (2, 1), (3, 1), (4, 1), (5, 1)]) (cs := [(.int .i64 0), (.bool false), (.bool false), (.bool false), (.int .i64 0), (SV.val SV.nil)]) rfl rfl rfl rfl rfl ?_)
  refine o0 (o_st (b := b1113) (off := 0) (vs := [(.int .i64 0), (.bool false), (.bool false), (.bool false), (.int .i64 0), (SV.val SV.nil)]) (cs' := [(.int .i64 0), (.bool false), (.bool false), (.bool false), (.int .i64 0), (SV.val SV.nil)]) rfl rfl rp0 rfl rfl rfl rfl rfl rfl ?_)
  refine o1 rfl (o_p rfl ?_)
  refine o_end ?_
  refine e_seq ?_
  refine c_ret ?_
  refine e_blk_ret ?_
  refine e_then_ret ?_
  refine e_ret ?_
  refine r_endc (B := [[(.int .i64 0), (.bool false), (.bool false), (.bool false), (.int .i64 0), (SV.val SV.nil)]]) rfl ⟨⟨_, _, _, _, rfl, rm0⟩, trivial⟩ rfl (kc rm1 (kd kr)) ?_
  have hr := Option.some.inj h
  subst hr
  exact hk

theorem c_write_Orders_2 {g : Gw} (hg : GK g) (X : HP) (p0 : List Int) (s0 : SV) (q0 : Rd X s0 5 (enI .u8) p0) (p1 : Int) (r : Int × Int × Int) (h : m_write_Orders_2 p0 p1 = some r) : Tri env g 15 (List.toArray [(.pointer none), (SV.val s0), (.int .i64 p1)]) [X] (fun K R => K (.tuple (List.toArray [(.int .i64 r.1), (.int .i64 r.2.1), (.int .i64 r.2.2)])) (X :: R)) := by
  refine tri_of (fn := Tryd.f15) (N := 57) Tryd.func15 rfl rfl rfl ?_
  intro R K hk
  unfold m_write_Orders_2 at h
  change GC _ none _ [] [(0, (.pointer none)), (1, (SV.val s0)), (2, (.int .i64 p1))] (X :: R) g _ _
  refine c_seq ?_
  refine c_region ?_
  refine o1 rfl (o_alloc (cs := [(.int .i64 0)]) rfl rfl (fun b1121 => ?_))
  refine o1 rfl (o_alloc (cs := [(.int .i64 0)]) rfl rfl (fun b1123 => ?_))
  refine o1 rfl (o_alloc (cs := [(.int .i64 0)]) rfl rfl (fun b1125 => ?_))
  refine o_end ?_
  refine e_seq ?_
  refine c_seq ?_
  refine c_seq ?_
  refine c_region ?_
  refine o1 rfl (o_p rfl ?_)
  refine o1 rfl (o_p (v := (.bool true)) rfl ?_)
  refine o_end ?_
  refine e_seq ?_
  refine c_cond_t rfl rfl ?_
  refine c_seq ?_
  refine c_region ?_
  refine o0 (o_st (b := b1121) (off := 0) (vs := [(.int .i64 0)]) (cs' := [(.int .i64 0)]) rfl rfl rp2 rfl rfl rfl rfl rfl rfl ?_)
  refine o0 (o_st (b := b1123) (off := 0) (vs := [(.int .i64 0)]) (cs' := [(.int .i64 0)]) rfl rfl rp1 rfl rfl rfl rfl rfl rfl ?_)
  refine o0 (o_st (b := b1125) (off := 0) (vs := [(.int .i64 5)]) (cs' := [(.int .i64 5)]) rfl rfl rp0 rfl rfl rfl rfl rfl rfl ?_)
  refine o_end ?_
  refine e_seq ?_
  refine c_ret ?_
  refine e_then_ret ?_
  refine e_ret ?_
  refine r_endc (B := [[(.int .i64 0)], [(.int .i64 0)], [(.int .i64 5)]]) rfl ⟨⟨_, _, _, _, rfl, rm2⟩, ⟨⟨_, _, _, _, rfl, rm1⟩, ⟨⟨_, _, _, _, rfl, rm0⟩, trivial⟩⟩⟩ rfl (kc rm3 (kd (kd (kd kr)))) ?_
  have hr := Option.some.inj h
  subst hr
  exact hk

theorem c_write_of {g : Gw} (hg : GK g) (X : HP) (p0 : Int) (r : Vwrite_name × Bool) (h : m_write_of p0 = some r) : Tri env g 42 (List.toArray [(.int .i64 p0)]) [X] (fun K R => K (.tuple (List.toArray [(.agg (List.toArray [(.string r.1.word), (.int .u8 r.1.one), (.int .u8 r.1.other)])), (.bool r.2)])) (X :: R)) := by
  refine tri_of (fn := Tryd.f42) (N := 14) Tryd.func42 rfl rfl rfl ?_
  intro R K hk
  unfold m_write_of at h
  change GC _ none _ [] [(0, (.int .i64 p0))] (X :: R) g _ _
  refine c_seq ?_
  refine c_region ?_
  refine o1 rfl (o_alloc (cs := [(.string ByteArray.empty), (.int .u8 0), (.int .u8 0)]) rfl rfl (fun b1133 => ?_))
  refine o1 rfl (o_p rfl ?_)
  refine o_end ?_
  refine e_seq ?_
  refine c_seq ?_
  refine c_seq ?_
  replace h := bsome h
  obtain ⟨d1, h, hk1⟩ := h
  refine cj (D := Unit) (ι := Unit) (fun _ i1 => True) (fun _ i1 => [(9, (.bool d1)), (2, (.pointer (some ⟨b1133, 0, none⟩))), (0, (.int .i64 p0))]) (fun _ i1 => X :: blk b1133 (.cells (List.toArray [(.string ByteArray.empty), (.int .u8 0), (.int .u8 0)]) 80 (0, 0)) :: R) ?_ ?_
  · refine c_region ?_
    refine o1 rfl (o_p rfl ?_)
    refine o1 rfl (o_p (v := (.bool (decide (p0 < 0)))) rfl ?_)
    refine o1 rfl (o_p rfl ?_)
    rcases bool_or ((decide (p0 < 0))) with hb1135 | hb1135
    · replace h := cond_t hb1135 h
      refine on rfl rfl rfl hb1135 ?_
      refine on rfl rfl rfl hb1135 ?_
      refine o1 rfl (o_pick_t rfl hb1135 rfl ?_)
      refine o_end ?_
      have hd := Option.some.inj h
      subst hd
      exact ej () () trivial (sc rfl (sc rfl (sc rfl sn))) (kc rm1 (kc rm0 kr))
    · replace h := cond_f hb1135 h
      refine oy rfl rfl rfl hb1135 (o_p rfl ?_)
      refine oy rfl rfl rfl hb1135 (o_p (v := (.bool (decide (p0 ≥ 9)))) rfl ?_)
      refine o1 rfl (o_pick_f rfl hb1135 rfl ?_)
      refine o_end ?_
      have hd := Option.some.inj h
      subst hd
      exact ej () () trivial (sc rfl (sc rfl (sc rfl sn))) (kc rm1 (kc rm0 kr))
  · rintro _ i1 _
    replace h := hk1
    clear hk1
    refine e_seq ?_
    refine c_cond (b := d1) rfl (fun hb1136 => ?_) (fun hb1136 => ?_)
    · replace h := cond_t hb1136 h
      refine c_seq ?_
      refine c_region ?_
      refine o1 rfl (o_build (fs := [⟨ "word", 9, 0, false, "", "vitrine/write", 0⟩, ⟨ "one", 5, 1, false, "", "vitrine/write", 16⟩, ⟨ "other", 5, 2, false, "", "vitrine/write", 17⟩]) (ps := [(0, 1), (1, 1), (2, 1)]) (cs := [(.string ByteArray.empty), (.int .u8 0), (.int .u8 0)]) rfl rfl rfl rfl rfl ?_)
      refine o0 (o_st (b := b1133) (off := 0) (vs := [(.string ByteArray.empty), (.int .u8 0), (.int .u8 0)]) (cs' := [(.string ByteArray.empty), (.int .u8 0), (.int .u8 0)]) rfl rfl rp1 rfl rfl rfl rfl rfl rfl ?_)
      refine o1 rfl (o_p rfl ?_)
      refine o_end ?_
      refine e_seq ?_
      refine c_ret ?_
      refine e_then_ret ?_
      refine e_ret ?_
      refine r_endc (B := [[(.string ByteArray.empty), (.int .u8 0), (.int .u8 0)]]) rfl ⟨⟨_, _, _, _, rfl, rm1⟩, trivial⟩ rfl (kc rm0 (kd kr)) ?_
      have hr := Option.some.inj h
      subst hr
      exact hk
    · replace h := cond_f hb1136 h
      refine c_skip ?_
      refine e_seq ?_
      refine c_seq ?_
      refine c_region ?_
      refine o1 rfl (o_p rfl ?_)
      replace h := gsome h
      obtain ⟨hg1137, h⟩ := h
      refine o1 rfl (o_ixA (n := p0) (e := en_Vwrite_name) rfl rfl rfl rfl rfl rfl hg1137 ?_)
      refine o1 rfl (o_ldAG (e := en_Vwrite_name) (l := [(⟨(ByteArray.mk (List.toArray [78, 111, 116, 104, 105, 110, 103])), 3, 3⟩ : Vwrite_name), (⟨(ByteArray.mk (List.toArray [87, 114, 105, 116, 101])), 1, 241⟩ : Vwrite_name), (⟨(ByteArray.mk (List.toArray [69, 114, 97, 115, 101, 87, 114, 105, 116, 101])), 5, 245⟩ : Vwrite_name), (⟨(ByteArray.mk (List.toArray [69, 114, 97, 115, 101, 65, 108, 116, 101, 114, 110, 97, 116, 101])), 13, 126⟩ : Vwrite_name), (⟨(ByteArray.mk (List.toArray [69, 114, 97, 115, 101, 85, 110, 112, 114, 111, 116, 101, 99, 116, 101, 100])), 15, 111⟩ : Vwrite_name), (⟨(ByteArray.mk (List.toArray [82, 101, 97, 100, 66, 117, 102, 102, 101, 114])), 2, 242⟩ : Vwrite_name), (⟨(ByteArray.mk (List.toArray [82, 101, 97, 100, 77, 111, 100, 105, 102, 105, 101, 100])), 6, 246⟩ : Vwrite_name), (⟨(ByteArray.mk (List.toArray [82, 101, 97, 100, 65, 108, 108])), 14, 110⟩ : Vwrite_name), (⟨(ByteArray.mk (List.toArray [83, 116, 114, 117, 99, 116, 117, 114, 101, 100])), 17, 243⟩ : Vwrite_name)]) (n := p0) (f := 0) (off := 0) (b := 0) (c1 := []) (c2 := []) (v := (.agg (List.toArray [(.string ((rd [(⟨(ByteArray.mk (List.toArray [78, 111, 116, 104, 105, 110, 103])), 3, 3⟩ : Vwrite_name), (⟨(ByteArray.mk (List.toArray [87, 114, 105, 116, 101])), 1, 241⟩ : Vwrite_name), (⟨(ByteArray.mk (List.toArray [69, 114, 97, 115, 101, 87, 114, 105, 116, 101])), 5, 245⟩ : Vwrite_name), (⟨(ByteArray.mk (List.toArray [69, 114, 97, 115, 101, 65, 108, 116, 101, 114, 110, 97, 116, 101])), 13, 126⟩ : Vwrite_name), (⟨(ByteArray.mk (List.toArray [69, 114, 97, 115, 101, 85, 110, 112, 114, 111, 116, 101, 99, 116, 101, 100])), 15, 111⟩ : Vwrite_name), (⟨(ByteArray.mk (List.toArray [82, 101, 97, 100, 66, 117, 102, 102, 101, 114])), 2, 242⟩ : Vwrite_name), (⟨(ByteArray.mk (List.toArray [82, 101, 97, 100, 77, 111, 100, 105, 102, 105, 101, 100])), 6, 246⟩ : Vwrite_name), (⟨(ByteArray.mk (List.toArray [82, 101, 97, 100, 65, 108, 108])), 14, 110⟩ : Vwrite_name), (⟨(ByteArray.mk (List.toArray [83, 116, 114, 117, 99, 116, 117, 114, 101, 100])), 17, 243⟩ : Vwrite_name)] p0).word)), (.int .u8 ((rd [(⟨(ByteArray.mk (List.toArray [78, 111, 116, 104, 105, 110, 103])), 3, 3⟩ : Vwrite_name), (⟨(ByteArray.mk (List.toArray [87, 114, 105, 116, 101])), 1, 241⟩ : Vwrite_name), (⟨(ByteArray.mk (List.toArray [69, 114, 97, 115, 101, 87, 114, 105, 116, 101])), 5, 245⟩ : Vwrite_name), (⟨(ByteArray.mk (List.toArray [69, 114, 97, 115, 101, 65, 108, 116, 101, 114, 110, 97, 116, 101])), 13, 126⟩ : Vwrite_name), (⟨(ByteArray.mk (List.toArray [69, 114, 97, 115, 101, 85, 110, 112, 114, 111, 116, 101, 99, 116, 101, 100])), 15, 111⟩ : Vwrite_name), (⟨(ByteArray.mk (List.toArray [82, 101, 97, 100, 66, 117, 102, 102, 101, 114])), 2, 242⟩ : Vwrite_name), (⟨(ByteArray.mk (List.toArray [82, 101, 97, 100, 77, 111, 100, 105, 102, 105, 101, 100])), 6, 246⟩ : Vwrite_name), (⟨(ByteArray.mk (List.toArray [82, 101, 97, 100, 65, 108, 108])), 14, 110⟩ : Vwrite_name), (⟨(ByteArray.mk (List.toArray [83, 116, 114, 117, 99, 116, 117, 114, 101, 100])), 17, 243⟩ : Vwrite_name)] p0).one)), (.int .u8 ((rd [(⟨(ByteArray.mk (List.toArray [78, 111, 116, 104, 105, 110, 103])), 3, 3⟩ : Vwrite_name), (⟨(ByteArray.mk (List.toArray [87, 114, 105, 116, 101])), 1, 241⟩ : Vwrite_name), (⟨(ByteArray.mk (List.toArray [69, 114, 97, 115, 101, 87, 114, 105, 116, 101])), 5, 245⟩ : Vwrite_name), (⟨(ByteArray.mk (List.toArray [69, 114, 97, 115, 101, 65, 108, 116, 101, 114, 110, 97, 116, 101])), 13, 126⟩ : Vwrite_name), (⟨(ByteArray.mk (List.toArray [69, 114, 97, 115, 101, 85, 110, 112, 114, 111, 116, 101, 99, 116, 101, 100])), 15, 111⟩ : Vwrite_name), (⟨(ByteArray.mk (List.toArray [82, 101, 97, 100, 66, 117, 102, 102, 101, 114])), 2, 242⟩ : Vwrite_name), (⟨(ByteArray.mk (List.toArray [82, 101, 97, 100, 77, 111, 100, 105, 102, 105, 101, 100])), 6, 246⟩ : Vwrite_name), (⟨(ByteArray.mk (List.toArray [82, 101, 97, 100, 65, 108, 108])), 14, 110⟩ : Vwrite_name), (⟨(ByteArray.mk (List.toArray [83, 116, 114, 117, 99, 116, 117, 114, 101, 100])), 17, 243⟩ : Vwrite_name)] p0).other))]))) hg rfl rfl hg1137 rfl rfl ?_)
      refine o0 (o_st (b := b1133) (off := 0) (vs := [(.string ((rd [(⟨(ByteArray.mk (List.toArray [78, 111, 116, 104, 105, 110, 103])), 3, 3⟩ : Vwrite_name), (⟨(ByteArray.mk (List.toArray [87, 114, 105, 116, 101])), 1, 241⟩ : Vwrite_name), (⟨(ByteArray.mk (List.toArray [69, 114, 97, 115, 101, 87, 114, 105, 116, 101])), 5, 245⟩ : Vwrite_name), (⟨(ByteArray.mk (List.toArray [69, 114, 97, 115, 101, 65, 108, 116, 101, 114, 110, 97, 116, 101])), 13, 126⟩ : Vwrite_name), (⟨(ByteArray.mk (List.toArray [69, 114, 97, 115, 101, 85, 110, 112, 114, 111, 116, 101, 99, 116, 101, 100])), 15, 111⟩ : Vwrite_name), (⟨(ByteArray.mk (List.toArray [82, 101, 97, 100, 66, 117, 102, 102, 101, 114])), 2, 242⟩ : Vwrite_name), (⟨(ByteArray.mk (List.toArray [82, 101, 97, 100, 77, 111, 100, 105, 102, 105, 101, 100])), 6, 246⟩ : Vwrite_name), (⟨(ByteArray.mk (List.toArray [82, 101, 97, 100, 65, 108, 108])), 14, 110⟩ : Vwrite_name), (⟨(ByteArray.mk (List.toArray [83, 116, 114, 117, 99, 116, 117, 114, 101, 100])), 17, 243⟩ : Vwrite_name)] p0).word)), (.int .u8 ((rd [(⟨(ByteArray.mk (List.toArray [78, 111, 116, 104, 105, 110, 103])), 3, 3⟩ : Vwrite_name), (⟨(ByteArray.mk (List.toArray [87, 114, 105, 116, 101])), 1, 241⟩ : Vwrite_name), (⟨(ByteArray.mk (List.toArray [69, 114, 97, 115, 101, 87, 114, 105, 116, 101])), 5, 245⟩ : Vwrite_name), (⟨(ByteArray.mk (List.toArray [69, 114, 97, 115, 101, 65, 108, 116, 101, 114, 110, 97, 116, 101])), 13, 126⟩ : Vwrite_name), (⟨(ByteArray.mk (List.toArray [69, 114, 97, 115, 101, 85, 110, 112, 114, 111, 116, 101, 99, 116, 101, 100])), 15, 111⟩ : Vwrite_name), (⟨(ByteArray.mk (List.toArray [82, 101, 97, 100, 66, 117, 102, 102, 101, 114])), 2, 242⟩ : Vwrite_name), (⟨(ByteArray.mk (List.toArray [82, 101, 97, 100, 77, 111, 100, 105, 102, 105, 101, 100])), 6, 246⟩ : Vwrite_name), (⟨(ByteArray.mk (List.toArray [82, 101, 97, 100, 65, 108, 108])), 14, 110⟩ : Vwrite_name), (⟨(ByteArray.mk (List.toArray [83, 116, 114, 117, 99, 116, 117, 114, 101, 100])), 17, 243⟩ : Vwrite_name)] p0).one)), (.int .u8 ((rd [(⟨(ByteArray.mk (List.toArray [78, 111, 116, 104, 105, 110, 103])), 3, 3⟩ : Vwrite_name), (⟨(ByteArray.mk (List.toArray [87, 114, 105, 116, 101])), 1, 241⟩ : Vwrite_name), (⟨(ByteArray.mk (List.toArray [69, 114, 97, 115, 101, 87, 114, 105, 116, 101])), 5, 245⟩ : Vwrite_name), (⟨(ByteArray.mk (List.toArray [69, 114, 97, 115, 101, 65, 108, 116, 101, 114, 110, 97, 116, 101])), 13, 126⟩ : Vwrite_name), (⟨(ByteArray.mk (List.toArray [69, 114, 97, 115, 101, 85, 110, 112, 114, 111, 116, 101, 99, 116, 101, 100])), 15, 111⟩ : Vwrite_name), (⟨(ByteArray.mk (List.toArray [82, 101, 97, 100, 66, 117, 102, 102, 101, 114])), 2, 242⟩ : Vwrite_name), (⟨(ByteArray.mk (List.toArray [82, 101, 97, 100, 77, 111, 100, 105, 102, 105, 101, 100])), 6, 246⟩ : Vwrite_name), (⟨(ByteArray.mk (List.toArray [82, 101, 97, 100, 65, 108, 108])), 14, 110⟩ : Vwrite_name), (⟨(ByteArray.mk (List.toArray [83, 116, 114, 117, 99, 116, 117, 114, 101, 100])), 17, 243⟩ : Vwrite_name)] p0).other))]) (cs' := [(.string ((rd [(⟨(ByteArray.mk (List.toArray [78, 111, 116, 104, 105, 110, 103])), 3, 3⟩ : Vwrite_name), (⟨(ByteArray.mk (List.toArray [87, 114, 105, 116, 101])), 1, 241⟩ : Vwrite_name), (⟨(ByteArray.mk (List.toArray [69, 114, 97, 115, 101, 87, 114, 105, 116, 101])), 5, 245⟩ : Vwrite_name), (⟨(ByteArray.mk (List.toArray [69, 114, 97, 115, 101, 65, 108, 116, 101, 114, 110, 97, 116, 101])), 13, 126⟩ : Vwrite_name), (⟨(ByteArray.mk (List.toArray [69, 114, 97, 115, 101, 85, 110, 112, 114, 111, 116, 101, 99, 116, 101, 100])), 15, 111⟩ : Vwrite_name), (⟨(ByteArray.mk (List.toArray [82, 101, 97, 100, 66, 117, 102, 102, 101, 114])), 2, 242⟩ : Vwrite_name), (⟨(ByteArray.mk (List.toArray [82, 101, 97, 100, 77, 111, 100, 105, 102, 105, 101, 100])), 6, 246⟩ : Vwrite_name), (⟨(ByteArray.mk (List.toArray [82, 101, 97, 100, 65, 108, 108])), 14, 110⟩ : Vwrite_name), (⟨(ByteArray.mk (List.toArray [83, 116, 114, 117, 99, 116, 117, 114, 101, 100])), 17, 243⟩ : Vwrite_name)] p0).word)), (.int .u8 ((rd [(⟨(ByteArray.mk (List.toArray [78, 111, 116, 104, 105, 110, 103])), 3, 3⟩ : Vwrite_name), (⟨(ByteArray.mk (List.toArray [87, 114, 105, 116, 101])), 1, 241⟩ : Vwrite_name), (⟨(ByteArray.mk (List.toArray [69, 114, 97, 115, 101, 87, 114, 105, 116, 101])), 5, 245⟩ : Vwrite_name), (⟨(ByteArray.mk (List.toArray [69, 114, 97, 115, 101, 65, 108, 116, 101, 114, 110, 97, 116, 101])), 13, 126⟩ : Vwrite_name), (⟨(ByteArray.mk (List.toArray [69, 114, 97, 115, 101, 85, 110, 112, 114, 111, 116, 101, 99, 116, 101, 100])), 15, 111⟩ : Vwrite_name), (⟨(ByteArray.mk (List.toArray [82, 101, 97, 100, 66, 117, 102, 102, 101, 114])), 2, 242⟩ : Vwrite_name), (⟨(ByteArray.mk (List.toArray [82, 101, 97, 100, 77, 111, 100, 105, 102, 105, 101, 100])), 6, 246⟩ : Vwrite_name), (⟨(ByteArray.mk (List.toArray [82, 101, 97, 100, 65, 108, 108])), 14, 110⟩ : Vwrite_name), (⟨(ByteArray.mk (List.toArray [83, 116, 114, 117, 99, 116, 117, 114, 101, 100])), 17, 243⟩ : Vwrite_name)] p0).one)), (.int .u8 ((rd [(⟨(ByteArray.mk (List.toArray [78, 111, 116, 104, 105, 110, 103])), 3, 3⟩ : Vwrite_name), (⟨(ByteArray.mk (List.toArray [87, 114, 105, 116, 101])), 1, 241⟩ : Vwrite_name), (⟨(ByteArray.mk (List.toArray [69, 114, 97, 115, 101, 87, 114, 105, 116, 101])), 5, 245⟩ : Vwrite_name), (⟨(ByteArray.mk (List.toArray [69, 114, 97, 115, 101, 65, 108, 116, 101, 114, 110, 97, 116, 101])), 13, 126⟩ : Vwrite_name), (⟨(ByteArray.mk (List.toArray [69, 114, 97, 115, 101, 85, 110, 112, 114, 111, 116, 101, 99, 116, 101, 100])), 15, 111⟩ : Vwrite_name), (⟨(ByteArray.mk (List.toArray [82, 101, 97, 100, 66, 117, 102, 102, 101, 114])), 2, 242⟩ : Vwrite_name), (⟨(ByteArray.mk (List.toArray [82, 101, 97, 100, 77, 111, 100, 105, 102, 105, 101, 100])), 6, 246⟩ : Vwrite_name), (⟨(ByteArray.mk (List.toArray [82, 101, 97, 100, 65, 108, 108])), 14, 110⟩ : Vwrite_name), (⟨(ByteArray.mk (List.toArray [83, 116, 114, 117, 99, 116, 117, 114, 101, 100])), 17, 243⟩ : Vwrite_name)] p0).other))]) rfl rfl rp1 rfl rfl rfl rfl rfl rfl ?_)
      refine o1 rfl (o_p rfl ?_)
      refine o_end ?_
      refine e_seq ?_
      refine c_ret ?_
      refine e_ret ?_
      refine r_endc (B := [[(.string ((rd [(⟨(ByteArray.mk (List.toArray [78, 111, 116, 104, 105, 110, 103])), 3, 3⟩ : Vwrite_name), (⟨(ByteArray.mk (List.toArray [87, 114, 105, 116, 101])), 1, 241⟩ : Vwrite_name), (⟨(ByteArray.mk (List.toArray [69, 114, 97, 115, 101, 87, 114, 105, 116, 101])), 5, 245⟩ : Vwrite_name), (⟨(ByteArray.mk (List.toArray [69, 114, 97, 115, 101, 65, 108, 116, 101, 114, 110, 97, 116, 101])), 13, 126⟩ : Vwrite_name), (⟨(ByteArray.mk (List.toArray [69, 114, 97, 115, 101, 85, 110, 112, 114, 111, 116, 101, 99, 116, 101, 100])), 15, 111⟩ : Vwrite_name), (⟨(ByteArray.mk (List.toArray [82, 101, 97, 100, 66, 117, 102, 102, 101, 114])), 2, 242⟩ : Vwrite_name), (⟨(ByteArray.mk (List.toArray [82, 101, 97, 100, 77, 111, 100, 105, 102, 105, 101, 100])), 6, 246⟩ : Vwrite_name), (⟨(ByteArray.mk (List.toArray [82, 101, 97, 100, 65, 108, 108])), 14, 110⟩ : Vwrite_name), (⟨(ByteArray.mk (List.toArray [83, 116, 114, 117, 99, 116, 117, 114, 101, 100])), 17, 243⟩ : Vwrite_name)] p0).word)), (.int .u8 ((rd [(⟨(ByteArray.mk (List.toArray [78, 111, 116, 104, 105, 110, 103])), 3, 3⟩ : Vwrite_name), (⟨(ByteArray.mk (List.toArray [87, 114, 105, 116, 101])), 1, 241⟩ : Vwrite_name), (⟨(ByteArray.mk (List.toArray [69, 114, 97, 115, 101, 87, 114, 105, 116, 101])), 5, 245⟩ : Vwrite_name), (⟨(ByteArray.mk (List.toArray [69, 114, 97, 115, 101, 65, 108, 116, 101, 114, 110, 97, 116, 101])), 13, 126⟩ : Vwrite_name), (⟨(ByteArray.mk (List.toArray [69, 114, 97, 115, 101, 85, 110, 112, 114, 111, 116, 101, 99, 116, 101, 100])), 15, 111⟩ : Vwrite_name), (⟨(ByteArray.mk (List.toArray [82, 101, 97, 100, 66, 117, 102, 102, 101, 114])), 2, 242⟩ : Vwrite_name), (⟨(ByteArray.mk (List.toArray [82, 101, 97, 100, 77, 111, 100, 105, 102, 105, 101, 100])), 6, 246⟩ : Vwrite_name), (⟨(ByteArray.mk (List.toArray [82, 101, 97, 100, 65, 108, 108])), 14, 110⟩ : Vwrite_name), (⟨(ByteArray.mk (List.toArray [83, 116, 114, 117, 99, 116, 117, 114, 101, 100])), 17, 243⟩ : Vwrite_name)] p0).one)), (.int .u8 ((rd [(⟨(ByteArray.mk (List.toArray [78, 111, 116, 104, 105, 110, 103])), 3, 3⟩ : Vwrite_name), (⟨(ByteArray.mk (List.toArray [87, 114, 105, 116, 101])), 1, 241⟩ : Vwrite_name), (⟨(ByteArray.mk (List.toArray [69, 114, 97, 115, 101, 87, 114, 105, 116, 101])), 5, 245⟩ : Vwrite_name), (⟨(ByteArray.mk (List.toArray [69, 114, 97, 115, 101, 65, 108, 116, 101, 114, 110, 97, 116, 101])), 13, 126⟩ : Vwrite_name), (⟨(ByteArray.mk (List.toArray [69, 114, 97, 115, 101, 85, 110, 112, 114, 111, 116, 101, 99, 116, 101, 100])), 15, 111⟩ : Vwrite_name), (⟨(ByteArray.mk (List.toArray [82, 101, 97, 100, 66, 117, 102, 102, 101, 114])), 2, 242⟩ : Vwrite_name), (⟨(ByteArray.mk (List.toArray [82, 101, 97, 100, 77, 111, 100, 105, 102, 105, 101, 100])), 6, 246⟩ : Vwrite_name), (⟨(ByteArray.mk (List.toArray [82, 101, 97, 100, 65, 108, 108])), 14, 110⟩ : Vwrite_name), (⟨(ByteArray.mk (List.toArray [83, 116, 114, 117, 99, 116, 117, 114, 101, 100])), 17, 243⟩ : Vwrite_name)] p0).other))]]) rfl ⟨⟨_, _, _, _, rfl, rm1⟩, trivial⟩ rfl (kc rm0 (kd kr)) ?_
      have hr := Option.some.inj h
      subst hr
      exact hk

theorem c_write_Byte {g : Gw} (hg : GK g) (X : HP) (p0 : Int) (r : Int) (h : m_write_Byte p0 = some r) : Tri env g 16 (List.toArray [(.int .i64 p0)]) [X] (fun K R => K (.int .u8 r) (X :: R)) := by
  refine tri_of (fn := Tryd.f16) (N := 12) Tryd.func16 rfl rfl rfl ?_
  intro R K hk
  unfold m_write_Byte at h
  change GC _ none _ [] [(0, (.int .i64 p0))] (X :: R) g _ _
  refine c_seq ?_
  refine c_region ?_
  refine o1 rfl (o_p rfl ?_)
  refine o_end ?_
  refine e_seq ?_
  refine c_seq ?_
  refine c_region ?_
  refine o1 rfl (o_p rfl ?_)
  replace h := bsome h
  obtain ⟨d1, h1, h⟩ := h
  refine o1 rfl (o_call has42 rfl (c_write_of hg X p0 _ h1) (pc rm0 pn) ?_)
  refine o1 rfl (o_p rfl ?_)
  refine o1 rfl (o_p rfl ?_)
  refine o1 rfl (o_p rfl ?_)
  refine o1 rfl (o_alloc (cs := [(.string ByteArray.empty), (.int .u8 0), (.int .u8 0)]) rfl rfl (fun b1138 => ?_))
  refine o0 (o_st (b := b1138) (off := 0) (vs := [(.string d1.1.word), (.int .u8 d1.1.one), (.int .u8 d1.1.other)]) (cs' := [(.string d1.1.word), (.int .u8 d1.1.one), (.int .u8 d1.1.other)]) rfl rfl rp0 rfl rfl rfl rfl rfl rfl ?_)
  refine o1 rfl (o_p rfl ?_)
  refine o_end ?_
  refine e_seq ?_
  refine c_seq ?_
  refine c_region ?_
  refine o1 rfl (o_fa (fd := ⟨ "other", 5, 2, false, "", "vitrine/write", 17⟩) rfl rfl rfl rfl rfl ?_)
  refine o1 rfl (o_ld (b := b1138) (off := 2) (v := (.int .u8 d1.1.other)) rfl rm0 rfl rfl ?_)
  refine o1 rfl (o_p rfl ?_)
  refine o_end ?_
  refine e_seq ?_
  refine c_ret ?_
  refine e_ret ?_
  refine r_endt rfl rfl (kc rm1 (kd kr)) ?_
  have hr := Option.some.inj h
  subst hr
  exact hk

theorem c_vitrineref17_Byte {g : Gw} (hg : GK g) (X : HP) (p0 : Int) (r : Int) (h : m_vitrineref17_Byte p0 = some r) : Tri env g 17 (List.toArray [(.int .i64 p0)]) [X] (fun K R => K (.int .u8 r) (X :: R)) := by
  refine tri_of (fn := Tryd.f17) (N := 18) Tryd.func17 rfl rfl rfl ?_
  intro R K hk
  unfold m_vitrineref17_Byte at h
  change GC _ none _ [] [(0, (.int .i64 p0))] (X :: R) g _ _
  refine c_seq ?_
  refine c_region ?_
  refine o1 rfl (o_p rfl ?_)
  refine o_end ?_
  refine e_seq ?_
  refine c_seq ?_
  refine c_seq ?_
  replace h := bsome h
  obtain ⟨d1, h, hk1⟩ := h
  refine cj (D := Unit) (ι := Unit) (fun _ i1 => True) (fun _ i1 => [(8, (.bool d1)), (0, (.int .i64 p0))]) (fun _ i1 => X :: R) ?_ ?_
  · refine c_region ?_
    refine o1 rfl (o_p rfl ?_)
    refine o1 rfl (o_p (v := (.bool (decide (p0 < 0)))) rfl ?_)
    refine o1 rfl (o_p rfl ?_)
    rcases bool_or ((decide (p0 < 0))) with hb1140 | hb1140
    · replace h := cond_t hb1140 h
      refine on rfl rfl rfl hb1140 ?_
      refine on rfl rfl rfl hb1140 ?_
      refine o1 rfl (o_pick_t rfl hb1140 rfl ?_)
      refine o_end ?_
      have hd := Option.some.inj h
      subst hd
      exact ej () () trivial (sc rfl (sc rfl sn)) (kc rm0 kr)
    · replace h := cond_f hb1140 h
      refine oy rfl rfl rfl hb1140 (o_p rfl ?_)
      refine oy rfl rfl rfl hb1140 (o_p (v := (.bool (decide (p0 > 8)))) rfl ?_)
      refine o1 rfl (o_pick_f rfl hb1140 rfl ?_)
      refine o_end ?_
      have hd := Option.some.inj h
      subst hd
      exact ej () () trivial (sc rfl (sc rfl sn)) (kc rm0 kr)
  · rintro _ i1 _
    replace h := hk1
    clear hk1
    refine e_seq ?_
    refine c_cond (b := d1) rfl (fun hb1141 => ?_) (fun hb1141 => ?_)
    · replace h := cond_t hb1141 h
      refine c_seq ?_
      refine c_region ?_
      refine o1 rfl (o_p rfl ?_)
      refine o_end ?_
      refine e_seq ?_
      refine c_ret ?_
      refine e_then_ret ?_
      refine e_ret ?_
      refine r_endt rfl rfl (kc rm0 kr) ?_
      have hr := Option.some.inj h
      subst hr
      exact hk
    · replace h := cond_f hb1141 h
      refine c_skip ?_
      refine e_seq ?_
      refine c_seq ?_
      refine c_region ?_
      refine o1 rfl (o_p rfl ?_)
      refine o1 rfl (o_p (v := (.int .i64 (w64 (2 * p0)))) rfl ?_)
      refine o1 rfl (o_p (v := (.int .i64 (w64 (18 + (w64 (2 * p0)))))) rfl ?_)
      refine o1 rfl (o_p rfl ?_)
      refine o1 rfl (o_p (v := (.int .i64 (w64 (2 * p0)))) rfl ?_)
      refine o1 rfl (o_p (v := (.int .i64 (w64 (20 + (w64 (2 * p0)))))) rfl ?_)
      replace h := gsome h
      obtain ⟨hg1142, h⟩ := h
      refine o1 rfl (o_ssl (s := (ByteArray.mk (List.toArray [48, 51, 48, 49, 48, 53, 48, 100, 48, 102, 48, 50, 48, 54, 48, 101, 49, 49, 48, 51, 102, 49, 102, 53, 55, 101, 54, 102, 102, 50, 102, 54, 54, 101, 102, 51]))) (a := w64 (18 + (w64 (2 * p0)))) (b := w64 (20 + (w64 (2 * p0)))) rfl rfl rfl rfl rfl hg1142 ?_)
      replace h := bsome h
      obtain ⟨d3, h3, h⟩ := h
      refine o1 rfl (o_call has37 rfl (c_vitrineref01_Num hg X (ByteArray.extract (ByteArray.mk (List.toArray [48, 51, 48, 49, 48, 53, 48, 100, 48, 102, 48, 50, 48, 54, 48, 101, 49, 49, 48, 51, 102, 49, 102, 53, 55, 101, 54, 102, 102, 50, 102, 54, 54, 101, 102, 51])) (Int.toNat (w64 (18 + (w64 (2 * p0))))) (Int.toNat (w64 (20 + (w64 (2 * p0)))))) _ h3) (pc rm0 pn) ?_)
      refine o1 rfl (o_p (v := (.int .u8 (IntKind.wrap .u8 (d3)))) rfl ?_)
      refine o1 rfl (o_p rfl ?_)
      refine o_end ?_
      refine e_seq ?_
      refine c_ret ?_
      refine e_ret ?_
      refine r_endt rfl rfl (kc rm0 kr) ?_
      have hr := Option.some.inj h
      subst hr
      exact hk

theorem c_write_Name {g : Gw} (hg : GK g) (X : HP) (p0 : Int) (r : ByteArray) (h : m_write_Name p0 = some r) : Tri env g 18 (List.toArray [(.int .i64 p0)]) [X] (fun K R => K (.string r) (X :: R)) := by
  refine tri_of (fn := Tryd.f18) (N := 12) Tryd.func18 rfl rfl rfl ?_
  intro R K hk
  unfold m_write_Name at h
  change GC _ none _ [] [(0, (.int .i64 p0))] (X :: R) g _ _
  refine c_seq ?_
  refine c_region ?_
  refine o1 rfl (o_p rfl ?_)
  refine o_end ?_
  refine e_seq ?_
  refine c_seq ?_
  refine c_region ?_
  refine o1 rfl (o_p rfl ?_)
  replace h := bsome h
  obtain ⟨d1, h1, h⟩ := h
  refine o1 rfl (o_call has42 rfl (c_write_of hg X p0 _ h1) (pc rm0 pn) ?_)
  refine o1 rfl (o_p rfl ?_)
  refine o1 rfl (o_p rfl ?_)
  refine o1 rfl (o_p rfl ?_)
  refine o1 rfl (o_alloc (cs := [(.string ByteArray.empty), (.int .u8 0), (.int .u8 0)]) rfl rfl (fun b1144 => ?_))
  refine o0 (o_st (b := b1144) (off := 0) (vs := [(.string d1.1.word), (.int .u8 d1.1.one), (.int .u8 d1.1.other)]) (cs' := [(.string d1.1.word), (.int .u8 d1.1.one), (.int .u8 d1.1.other)]) rfl rfl rp0 rfl rfl rfl rfl rfl rfl ?_)
  refine o1 rfl (o_p rfl ?_)
  refine o_end ?_
  refine e_seq ?_
  refine c_seq ?_
  refine c_region ?_
  refine o1 rfl (o_fa (fd := ⟨ "word", 9, 0, false, "", "vitrine/write", 0⟩) rfl rfl rfl rfl rfl ?_)
  refine o1 rfl (o_ld (b := b1144) (off := 0) (v := (.string d1.1.word)) rfl rm0 rfl rfl ?_)
  refine o1 rfl (o_p rfl ?_)
  refine o_end ?_
  refine e_seq ?_
  refine c_ret ?_
  refine e_ret ?_
  refine r_endt rfl rfl (kc rm1 (kd kr)) ?_
  have hr := Option.some.inj h
  subst hr
  exact hk

theorem c_vitrineref17_Name {g : Gw} (hg : GK g) (X : HP) (p0 : Int) (r : ByteArray) (h : m_vitrineref17_Name p0 = some r) : Tri env g 19 (List.toArray [(.int .i64 p0)]) [X] (fun K R => K (.string r) (X :: R)) := by
  refine tri_of (fn := Tryd.f19) (N := 13) Tryd.func19 rfl rfl rfl ?_
  intro R K hk
  unfold m_vitrineref17_Name at h
  change GC _ none _ [] [(0, (.int .i64 p0))] (X :: R) g _ _
  refine c_seq ?_
  refine c_region ?_
  refine o1 rfl (o_p rfl ?_)
  refine o_end ?_
  refine e_seq ?_
  refine c_seq ?_
  refine c_seq ?_
  replace h := bsome h
  obtain ⟨d1, h, hk1⟩ := h
  refine cj (D := Unit) (ι := Unit) (fun _ i1 => True) (fun _ i1 => [(8, (.bool d1)), (0, (.int .i64 p0))]) (fun _ i1 => X :: R) ?_ ?_
  · refine c_region ?_
    refine o1 rfl (o_p rfl ?_)
    refine o1 rfl (o_p (v := (.bool (decide (p0 < 0)))) rfl ?_)
    refine o1 rfl (o_p rfl ?_)
    rcases bool_or ((decide (p0 < 0))) with hb1146 | hb1146
    · replace h := cond_t hb1146 h
      refine on rfl rfl rfl hb1146 ?_
      refine on rfl rfl rfl hb1146 ?_
      refine o1 rfl (o_pick_t rfl hb1146 rfl ?_)
      refine o_end ?_
      have hd := Option.some.inj h
      subst hd
      exact ej () () trivial (sc rfl (sc rfl sn)) (kc rm0 kr)
    · replace h := cond_f hb1146 h
      refine oy rfl rfl rfl hb1146 (o_p rfl ?_)
      refine oy rfl rfl rfl hb1146 (o_p (v := (.bool (decide (p0 > 8)))) rfl ?_)
      refine o1 rfl (o_pick_f rfl hb1146 rfl ?_)
      refine o_end ?_
      have hd := Option.some.inj h
      subst hd
      exact ej () () trivial (sc rfl (sc rfl sn)) (kc rm0 kr)
  · rintro _ i1 _
    replace h := hk1
    clear hk1
    refine e_seq ?_
    refine c_cond (b := d1) rfl (fun hb1147 => ?_) (fun hb1147 => ?_)
    · replace h := cond_t hb1147 h
      refine c_seq ?_
      refine c_region ?_
      refine o1 rfl (o_p rfl ?_)
      refine o_end ?_
      refine e_seq ?_
      refine c_ret ?_
      refine e_then_ret ?_
      refine e_ret ?_
      refine r_endt rfl rfl (kc rm0 kr) ?_
      have hr := Option.some.inj h
      subst hr
      exact hk
    · replace h := cond_f hb1147 h
      refine c_skip ?_
      refine e_seq ?_
      refine c_seq ?_
      refine c_region ?_
      refine o1 rfl (o_bs (e := enS) (l := [(ByteArray.mk (List.toArray [78, 111, 116, 104, 105, 110, 103])), (ByteArray.mk (List.toArray [87, 114, 105, 116, 101])), (ByteArray.mk (List.toArray [69, 114, 97, 115, 101, 87, 114, 105, 116, 101])), (ByteArray.mk (List.toArray [69, 114, 97, 115, 101, 65, 108, 116, 101, 114, 110, 97, 116, 101])), (ByteArray.mk (List.toArray [69, 114, 97, 115, 101, 85, 110, 112, 114, 111, 116, 101, 99, 116, 101, 100])), (ByteArray.mk (List.toArray [82, 101, 97, 100, 66, 117, 102, 102, 101, 114])), (ByteArray.mk (List.toArray [82, 101, 97, 100, 77, 111, 100, 105, 102, 105, 101, 100])), (ByteArray.mk (List.toArray [82, 101, 97, 100, 65, 108, 108])), (ByteArray.mk (List.toArray [83, 116, 114, 117, 99, 116, 117, 114, 101, 100]))]) (zs := [(.string ByteArray.empty)]) rfl rfl rfl rfl rfl rfl rfl rfl rfl rfl (fun s1148 => ?_))
      refine o1 rfl (o_p rfl ?_)
      replace h := gsome h
      obtain ⟨hg1150, h⟩ := h
      refine o1 rfl (o_ix (s := s1148) (n := p0) (e := enS) rfl rfl rfl rfl rfl rfl rm0 (rd_own _ _ _ _) hg1150 ?_)
      refine o1 rfl (o_ldE (s := s1148) (e := enS) (n := p0) (f := 0) (v := (.string (rd [(ByteArray.mk (List.toArray [78, 111, 116, 104, 105, 110, 103])), (ByteArray.mk (List.toArray [87, 114, 105, 116, 101])), (ByteArray.mk (List.toArray [69, 114, 97, 115, 101, 87, 114, 105, 116, 101])), (ByteArray.mk (List.toArray [69, 114, 97, 115, 101, 65, 108, 116, 101, 114, 110, 97, 116, 101])), (ByteArray.mk (List.toArray [69, 114, 97, 115, 101, 85, 110, 112, 114, 111, 116, 101, 99, 116, 101, 100])), (ByteArray.mk (List.toArray [82, 101, 97, 100, 66, 117, 102, 102, 101, 114])), (ByteArray.mk (List.toArray [82, 101, 97, 100, 77, 111, 100, 105, 102, 105, 101, 100])), (ByteArray.mk (List.toArray [82, 101, 97, 100, 65, 108, 108])), (ByteArray.mk (List.toArray [83, 116, 114, 117, 99, 116, 117, 114, 101, 100]))] p0))) rfl rm0 (rd_own _ _ _ _) hg1150 rfl rfl ?_)
      refine o1 rfl (o_p rfl ?_)
      refine o_end ?_
      refine e_seq ?_
      refine c_ret ?_
      refine e_ret ?_
      refine r_endt rfl rfl (kc rm1 (kd kr)) ?_
      have hr := Option.some.inj h
      subst hr
      exact hk

theorem c_write_Reads {g : Gw} (hg : GK g) (X : HP) (p0 : Int) (r : Bool) (h : m_write_Reads p0 = some r) : Tri env g 20 (List.toArray [(.int .i64 p0)]) [X] (fun K R => K (.bool r) (X :: R)) := by
  refine tri_of (fn := Tryd.f20) (N := 9) Tryd.func20 rfl rfl rfl ?_
  intro R K hk
  unfold m_write_Reads at h
  change GC _ none _ [] [(0, (.int .i64 p0))] (X :: R) g _ _
  refine c_seq ?_
  refine c_region ?_
  refine o1 rfl (o_p rfl ?_)
  refine o_end ?_
  refine e_seq ?_
  refine c_seq ?_
  replace h := bsome h
  obtain ⟨d1, h, hk1⟩ := h
  refine cj (D := Unit) (ι := Unit) (fun _ i1 => True) (fun _ i1 => [(2, (.bool d1))]) (fun _ i1 => X :: R) ?_ ?_
  · refine c_region ?_
    refine o1 rfl (o_p rfl ?_)
    refine o1 rfl (o_p (v := (.bool (decide (p0 ≥ 5)))) rfl ?_)
    refine o1 rfl (o_p rfl ?_)
    rcases bool_or ((decide (p0 ≥ 5))) with hb1152 | hb1152
    · replace h := cond_t hb1152 h
      refine oy rfl rfl rfl hb1152 (o_p rfl ?_)
      refine oy rfl rfl rfl hb1152 (o_p (v := (.bool (decide (p0 ≤ 7)))) rfl ?_)
      refine o1 rfl (o_pick_t rfl hb1152 rfl ?_)
      refine o1 rfl (o_p rfl ?_)
      refine o_end ?_
      have hd := Option.some.inj h
      subst hd
      exact ej () () trivial (sc rfl sn) (kc rm0 kr)
    · replace h := cond_f hb1152 h
      refine on rfl rfl rfl hb1152 ?_
      refine on rfl rfl rfl hb1152 ?_
      refine o1 rfl (o_pick_f rfl hb1152 rfl ?_)
      refine o1 rfl (o_p rfl ?_)
      refine o_end ?_
      have hd := Option.some.inj h
      subst hd
      exact ej () () trivial (sc rfl sn) (kc rm0 kr)
  · rintro _ i1 _
    replace h := hk1
    clear hk1
    refine e_seq ?_
    refine c_ret ?_
    refine e_ret ?_
    refine r_endt rfl rfl (kc rm0 kr) ?_
    have hr := Option.some.inj h
    subst hr
    exact hk

theorem c_write_Erases {g : Gw} (hg : GK g) (X : HP) (p0 : Int) (r : Bool) (h : m_write_Erases p0 = some r) : Tri env g 21 (List.toArray [(.int .i64 p0)]) [X] (fun K R => K (.bool r) (X :: R)) := by
  refine tri_of (fn := Tryd.f21) (N := 9) Tryd.func21 rfl rfl rfl ?_
  intro R K hk
  unfold m_write_Erases at h
  change GC _ none _ [] [(0, (.int .i64 p0))] (X :: R) g _ _
  refine c_seq ?_
  refine c_region ?_
  refine o1 rfl (o_p rfl ?_)
  refine o_end ?_
  refine e_seq ?_
  refine c_seq ?_
  replace h := bsome h
  obtain ⟨d1, h, hk1⟩ := h
  refine cj (D := Unit) (ι := Unit) (fun _ i1 => True) (fun _ i1 => [(2, (.bool d1))]) (fun _ i1 => X :: R) ?_ ?_
  · refine c_region ?_
    refine o1 rfl (o_p rfl ?_)
    refine o1 rfl (o_p (v := (.bool (decide (p0 ≥ 2)))) rfl ?_)
    refine o1 rfl (o_p rfl ?_)
    rcases bool_or ((decide (p0 ≥ 2))) with hb1154 | hb1154
    · replace h := cond_t hb1154 h
      refine oy rfl rfl rfl hb1154 (o_p rfl ?_)
      refine oy rfl rfl rfl hb1154 (o_p (v := (.bool (decide (p0 ≤ 4)))) rfl ?_)
      refine o1 rfl (o_pick_t rfl hb1154 rfl ?_)
      refine o1 rfl (o_p rfl ?_)
      refine o_end ?_
      have hd := Option.some.inj h
      subst hd
      exact ej () () trivial (sc rfl sn) (kc rm0 kr)
    · replace h := cond_f hb1154 h
      refine on rfl rfl rfl hb1154 ?_
      refine on rfl rfl rfl hb1154 ?_
      refine o1 rfl (o_pick_f rfl hb1154 rfl ?_)
      refine o1 rfl (o_p rfl ?_)
      refine o_end ?_
      have hd := Option.some.inj h
      subst hd
      exact ej () () trivial (sc rfl sn) (kc rm0 kr)
  · rintro _ i1 _
    replace h := hk1
    clear hk1
    refine e_seq ?_
    refine c_ret ?_
    refine e_ret ?_
    refine r_endt rfl rfl (kc rm0 kr) ?_
    have hr := Option.some.inj h
    subst hr
    exact hk

theorem c_vitrinelaw17_WriteNames {g : Gw} (hg : GK g) (X : HP) (p0 : Int) (p1 : Int) (p2 : List Int) (s0 : SV) (q0 : Rd X s0 5 (enI .u8) p2) (r : Bool) (h : m_vitrinelaw17_WriteNames p0 p1 p2 = some r) : Tri env g 4 (List.toArray [(.int .u8 p0), (.int .i64 p1), (SV.val s0)]) [X] (fun K R => ∀ (i0 : HP), (Ext X i0) → K (.bool r) (i0 :: R)) := by
  refine tri_of (fn := Tryd.f4) (N := 106) Tryd.func4 rfl rfl rfl ?_
  intro R K hk
  unfold m_vitrinelaw17_WriteNames at h
  change GC _ none _ [] [(0, (.int .u8 p0)), (1, (.int .i64 p1)), (2, (SV.val s0))] (X :: R) g _ _
  refine c_seq ?_
  refine c_region ?_
  refine o1 rfl (o_p rfl ?_)
  refine o_end ?_
  refine e_seq ?_
  refine c_seq ?_
  refine c_seq ?_
  refine c_region ?_
  replace h := bsome h
  obtain ⟨d1, h1, h⟩ := h
  refine o1 rfl (o_call has6 rfl (c_vitrinelaw17_awake hg X _ h1) (pc rm0 pn) (fun i1 f1_0 => ?_))
  refine o1 rfl (o_p (v := (.bool (!d1))) rfl ?_)
  refine o_end ?_
  refine e_seq ?_
  refine c_cond (b := (!d1)) rfl (fun hb1073 => ?_) (fun hb1073 => ?_)
  · replace h := cond_t hb1073 h
    refine c_seq ?_
    refine c_region ?_
    refine o1 rfl (o_p rfl ?_)
    refine o_end ?_
    refine e_seq ?_
    refine c_ret ?_
    refine e_then_ret ?_
    refine e_ret ?_
    refine r_endt rfl rfl (kc rm0 kr) ?_
    have hr := Option.some.inj h
    subst hr
    exact hk i1 f1_0
  · replace h := cond_f hb1073 h
    refine c_skip ?_
    refine e_seq ?_
    refine c_seq ?_
    refine c_region ?_
    refine o1 rfl (o_p rfl ?_)
    replace h := bsome h
    obtain ⟨d3, h3, h⟩ := h
    refine o1 rfl (o_call has12 rfl (c_write_Command hg i1 p0 _ h3) (pc rm0 pn) ?_)
    refine o1 rfl (o_p rfl ?_)
    refine o1 rfl (o_p rfl ?_)
    refine o1 rfl (o_p rfl ?_)
    refine o1 rfl (o_p rfl ?_)
    refine o1 rfl (o_p rfl ?_)
    refine o_end ?_
    refine e_seq ?_
    refine c_seq ?_
    refine c_region ?_
    refine o1 rfl (o_p rfl ?_)
    replace h := bsome h
    obtain ⟨d4, h4, h⟩ := h
    refine o1 rfl (o_call has13 rfl (c_vitrineref17_Command hg i1 p0 _ h4) (pc rm0 pn) ?_)
    refine o1 rfl (o_p rfl ?_)
    refine o_end ?_
    refine e_seq ?_
    refine c_seq ?_
    refine c_region ?_
    refine o1 rfl (o_p rfl ?_)
    replace h := bsome h
    obtain ⟨d5, h5, h⟩ := h
    refine o1 rfl (o_call has14 rfl (c_vitrineref01_Cut hg i1 p2 s0 (Rd.ext q0 f1_0) 20 _ h5) (pc rm0 pn) (fun i5 => ?_))
    refine o_fz rm1 rm0 (fun X1110 hx1111 hs1112 => ?_)
    replace h := bsome h
    obtain ⟨d6, h6, h⟩ := h
    refine o1 rfl (o_call has8 rfl (c_write_Run_2 hg X1110 d5 i5 hs1112 _ h6) (pc rm0 pn) ?_)
    refine o1 rfl (o_p rfl ?_)
    refine o1 rfl (o_p rfl ?_)
    refine o1 rfl (o_p rfl ?_)
    refine o1 rfl (o_alloc (cs := [(.int .i64 0), (.bool false), (.bool false), (.bool false), (.int .i64 0), (SV.val SV.nil)]) rfl rfl (fun b1115 => ?_))
    refine o0 (o_st (b := b1115) (off := 0) (vs := [(.int .i64 d6.1.Command), (.bool d6.1.Restore), (.bool d6.1.Alarm), (.bool d6.1.Reset), (.int .i64 d6.1.Pieces), (SV.val SV.nil)]) (cs' := [(.int .i64 d6.1.Command), (.bool d6.1.Restore), (.bool d6.1.Alarm), (.bool d6.1.Reset), (.int .i64 d6.1.Pieces), (SV.val SV.nil)]) rfl rfl rp0 rfl rfl rfl rfl rfl rfl ?_)
    refine o1 rfl (o_p rfl ?_)
    refine o_end ?_
    refine e_seq ?_
    refine c_seq ?_
    refine c_region ?_
    refine o1 rfl (o_p rfl ?_)
    replace h := bsome h
    obtain ⟨d7, h7, h⟩ := h
    refine o1 rfl (o_call has14 rfl (c_vitrineref01_Cut hg X1110 p2 s0 (Rd.ext q0 (Ext.trans f1_0 hx1111)) 20 _ h7) (pc rm1 pn) (fun i7 => ?_))
    refine o1 rfl (o_p rfl ?_)
    refine o_fz rm1 rm0 (fun X1118 hx1119 hs1120 => ?_)
    replace h := bsome h
    obtain ⟨d8, h8, h⟩ := h
    refine o1 rfl (o_call has15 rfl (c_write_Orders_2 hg X1118 d7 i7 hs1120 p1 _ h8) (pc rm0 pn) ?_)
    refine o1 rfl (o_p rfl ?_)
    refine o1 rfl (o_p rfl ?_)
    refine o1 rfl (o_p rfl ?_)
    refine o1 rfl (o_p rfl ?_)
    refine o1 rfl (o_p rfl ?_)
    refine o1 rfl (o_p rfl ?_)
    refine o1 rfl (o_p rfl ?_)
    refine o_end ?_
    refine e_seq ?_
    refine c_seq ?_
    replace h := bsome h
    obtain ⟨d9, h, hk9⟩ := h
    refine cj (D := Unit) (ι := Unit) (fun _ i9 => True) (fun _ i9 => [(16, (.bool d9.1)), (15, (.bool d9.2)), (14, (.int .i64 d8.2.2)), (11, (.int .i64 d6.2)), (9, (.int .i64 d4)), (8, (.bool d3.2)), (7, (.int .i64 d3.1)), (1, (.int .i64 p1))]) (fun _ i9 => X1118 :: R) ?_ ?_
    · refine c_region ?_
      refine o1 rfl (o_p rfl ?_)
      refine o1 rfl (o_p (v := (.bool (decide (p1 ≥ 5)))) rfl ?_)
      refine o1 rfl (o_p rfl ?_)
      rcases bool_or ((decide (p1 ≥ 5))) with hb1127 | hb1127
      · replace h := cond_t hb1127 h
        refine oy rfl rfl rfl hb1127 (o_p rfl ?_)
        refine oy rfl rfl rfl hb1127 (o_p (v := (.bool (decide (p1 ≤ 7)))) rfl ?_)
        refine o1 rfl (o_pick_t rfl hb1127 rfl ?_)
        refine o1 rfl (o_p rfl ?_)
        refine o1 rfl (o_p (v := (.bool (decide (p1 ≥ 2)))) rfl ?_)
        refine o1 rfl (o_p rfl ?_)
        rcases bool_or ((decide (p1 ≥ 2))) with hb1128 | hb1128
        · replace h := cond_t hb1128 h
          refine oy rfl rfl rfl hb1128 (o_p rfl ?_)
          refine oy rfl rfl rfl hb1128 (o_p (v := (.bool (decide (p1 ≤ 4)))) rfl ?_)
          refine o1 rfl (o_pick_t rfl hb1128 rfl ?_)
          refine o1 rfl (o_p rfl ?_)
          refine o1 rfl (o_p rfl ?_)
          refine o_end ?_
          have hd := Option.some.inj h
          subst hd
          exact ej () () trivial (sc rfl (sc rfl (sc rfl (sc rfl (sc rfl (sc rfl (sc rfl (sc rfl sn)))))))) (kc rm0 (kd kr))
        · replace h := cond_f hb1128 h
          refine on rfl rfl rfl hb1128 ?_
          refine on rfl rfl rfl hb1128 ?_
          refine o1 rfl (o_pick_f rfl hb1128 rfl ?_)
          refine o1 rfl (o_p rfl ?_)
          refine o1 rfl (o_p rfl ?_)
          refine o_end ?_
          have hd := Option.some.inj h
          subst hd
          exact ej () () trivial (sc rfl (sc rfl (sc rfl (sc rfl (sc rfl (sc rfl (sc rfl (sc rfl sn)))))))) (kc rm0 (kd kr))
      · replace h := cond_f hb1127 h
        refine on rfl rfl rfl hb1127 ?_
        refine on rfl rfl rfl hb1127 ?_
        refine o1 rfl (o_pick_f rfl hb1127 rfl ?_)
        refine o1 rfl (o_p rfl ?_)
        refine o1 rfl (o_p (v := (.bool (decide (p1 ≥ 2)))) rfl ?_)
        refine o1 rfl (o_p rfl ?_)
        rcases bool_or ((decide (p1 ≥ 2))) with hb1129 | hb1129
        · replace h := cond_t hb1129 h
          refine oy rfl rfl rfl hb1129 (o_p rfl ?_)
          refine oy rfl rfl rfl hb1129 (o_p (v := (.bool (decide (p1 ≤ 4)))) rfl ?_)
          refine o1 rfl (o_pick_t rfl hb1129 rfl ?_)
          refine o1 rfl (o_p rfl ?_)
          refine o1 rfl (o_p rfl ?_)
          refine o_end ?_
          have hd := Option.some.inj h
          subst hd
          exact ej () () trivial (sc rfl (sc rfl (sc rfl (sc rfl (sc rfl (sc rfl (sc rfl (sc rfl sn)))))))) (kc rm0 (kd kr))
        · replace h := cond_f hb1129 h
          refine on rfl rfl rfl hb1129 ?_
          refine on rfl rfl rfl hb1129 ?_
          refine o1 rfl (o_pick_f rfl hb1129 rfl ?_)
          refine o1 rfl (o_p rfl ?_)
          refine o1 rfl (o_p rfl ?_)
          refine o_end ?_
          have hd := Option.some.inj h
          subst hd
          exact ej () () trivial (sc rfl (sc rfl (sc rfl (sc rfl (sc rfl (sc rfl (sc rfl (sc rfl sn)))))))) (kc rm0 (kd kr))
    · rintro _ i9 _
      replace h := hk9
      clear hk9
      refine e_seq ?_
      refine c_seq ?_
      replace h := bsome h
      obtain ⟨d10, h, hk10⟩ := h
      refine cj (D := Unit) (ι := Unit) (fun _ i10 => True) (fun _ i10 => [(6, (.bool d10))]) (fun _ i10 => X1118 :: R) ?_ ?_
      · refine c_region ?_
        refine o1 rfl (o_p rfl ?_)
        refine o1 rfl (o_p rfl ?_)
        refine o1 rfl (o_p (v := (.bool (decide (d4 ≥ 0)))) rfl ?_)
        refine o1 rfl (o_p (v := (.bool (d3.2 == (decide (d4 ≥ 0))))) rfl ?_)
        refine o1 rfl (o_p rfl ?_)
        rcases bool_or ((d3.2 == (decide (d4 ≥ 0)))) with hb1130 | hb1130
        · replace h := cond_t hb1130 h
          refine oy rfl rfl rfl hb1130 (o_p rfl ?_)
          refine oy rfl rfl rfl hb1130 (o_p (v := (.bool (!d3.2))) rfl ?_)
          refine oy rfl rfl rfl hb1130 (o_p rfl ?_)
          rcases bool_or ((!d3.2)) with hb1131 | hb1131
          · replace h := cond_t hb1131 h
            refine oy rfl rfl rfl hb1131 (o_p rfl ?_)
            refine oy rfl rfl rfl hb1131 (o_p (v := (.bool (d3.1 == 0))) rfl ?_)
            refine oy rfl rfl rfl hb1130 (o_pick_t rfl hb1131 rfl ?_)
            refine oy rfl rfl rfl hb1130 (o_p rfl ?_)
            rcases bool_or ((d3.1 == 0)) with hb1132 | hb1132
            · replace h := cond_t hb1132 h
              refine on rfl rfl rfl hb1132 ?_
              refine on rfl rfl rfl hb1132 ?_
              refine ou rfl rfl rfl ?_
              refine ou rfl rfl rfl ?_
              refine ou rfl rfl rfl ?_
              refine on rfl rfl rfl hb1132 ?_
              refine oy rfl rfl rfl hb1130 (o_pick_t rfl hb1132 rfl ?_)
              refine o1 rfl (o_pick_t rfl hb1130 rfl ?_)
              refine o1 rfl (o_p rfl ?_)
              refine oy rfl rfl rfl rfl (o_p rfl ?_)
              replace h := bsome h
              obtain ⟨d11, h11, h⟩ := h
              refine oy rfl rfl rfl rfl (o_call has16 rfl (c_write_Byte hg X1118 p1 _ h11) (pc rm0 pn) ?_)
              refine oy rfl rfl rfl rfl (o_p rfl ?_)
              replace h := bsome h
              obtain ⟨d12, h12, h⟩ := h
              refine oy rfl rfl rfl rfl (o_call has17 rfl (c_vitrineref17_Byte hg X1118 p1 _ h12) (pc rm0 pn) ?_)
              refine oy rfl rfl rfl rfl (o_p (v := (.bool (d11 == d12))) rfl ?_)
              refine o1 rfl (o_pick_t rfl rfl rfl ?_)
              refine o1 rfl (o_p rfl ?_)
              rcases bool_or ((d11 == d12)) with hb1143 | hb1143
              · replace h := cond_t hb1143 h
                refine oy rfl rfl rfl hb1143 (o_p rfl ?_)
                replace h := bsome h
                obtain ⟨d13, h13, h⟩ := h
                refine oy rfl rfl rfl hb1143 (o_call has18 rfl (c_write_Name hg X1118 p1 _ h13) (pc rm0 pn) ?_)
                refine oy rfl rfl rfl hb1143 (o_p rfl ?_)
                replace h := bsome h
                obtain ⟨d14, h14, h⟩ := h
                refine oy rfl rfl rfl hb1143 (o_call has19 rfl (c_vitrineref17_Name hg X1118 p1 _ h14) (pc rm0 pn) ?_)
                refine oy rfl rfl rfl hb1143 (o_p (v := (.bool (d13.data.toList == d14.data.toList))) rfl ?_)
                refine o1 rfl (o_pick_t rfl hb1143 rfl ?_)
                refine o1 rfl (o_p rfl ?_)
                rcases bool_or ((d13.data.toList == d14.data.toList)) with hb1151 | hb1151
                · replace h := cond_t hb1151 h
                  refine oy rfl rfl rfl hb1151 (o_p rfl ?_)
                  replace h := bsome h
                  obtain ⟨d15, h15, h⟩ := h
                  refine oy rfl rfl rfl hb1151 (o_call has20 rfl (c_write_Reads hg X1118 p1 _ h15) (pc rm0 pn) ?_)
                  refine oy rfl rfl rfl hb1151 (o_p rfl ?_)
                  refine oy rfl rfl rfl hb1151 (o_p (v := (.bool (d15 == d9.2))) rfl ?_)
                  refine o1 rfl (o_pick_t rfl hb1151 rfl ?_)
                  refine o1 rfl (o_p rfl ?_)
                  rcases bool_or ((d15 == d9.2)) with hb1153 | hb1153
                  · replace h := cond_t hb1153 h
                    refine oy rfl rfl rfl hb1153 (o_p rfl ?_)
                    replace h := bsome h
                    obtain ⟨d16, h16, h⟩ := h
                    refine oy rfl rfl rfl hb1153 (o_call has21 rfl (c_write_Erases hg X1118 p1 _ h16) (pc rm0 pn) ?_)
                    refine oy rfl rfl rfl hb1153 (o_p rfl ?_)
                    refine oy rfl rfl rfl hb1153 (o_p (v := (.bool (d16 == d9.1))) rfl ?_)
                    refine o1 rfl (o_pick_t rfl hb1153 rfl ?_)
                    refine o1 rfl (o_p rfl ?_)
                    rcases bool_or ((d16 == d9.1)) with hb1155 | hb1155
                    · replace h := cond_t hb1155 h
                      refine oy rfl rfl rfl hb1155 (o_p rfl ?_)
                      refine oy rfl rfl rfl hb1155 (o_p (v := (.bool (d6.2 == 5))) rfl ?_)
                      refine o1 rfl (o_pick_t rfl hb1155 rfl ?_)
                      refine o1 rfl (o_p rfl ?_)
                      rcases bool_or ((d6.2 == 5)) with hb1156 | hb1156
                      · replace h := cond_t hb1156 h
                        refine oy rfl rfl rfl hb1156 (o_p rfl ?_)
                        refine oy rfl rfl rfl hb1156 (o_p (v := (.bool (d8.2.2 == 5))) rfl ?_)
                        refine o1 rfl (o_pick_t rfl hb1156 rfl ?_)
                        refine o1 rfl (o_p rfl ?_)
                        refine o_end ?_
                        have hd := Option.some.inj h
                        subst hd
                        exact ej () () trivial (sc rfl sn) (kc rm0 kr)
                      · replace h := cond_f hb1156 h
                        refine on rfl rfl rfl hb1156 ?_
                        refine on rfl rfl rfl hb1156 ?_
                        refine o1 rfl (o_pick_f rfl hb1156 rfl ?_)
                        refine o1 rfl (o_p rfl ?_)
                        refine o_end ?_
                        have hd := Option.some.inj h
                        subst hd
                        exact ej () () trivial (sc rfl sn) (kc rm0 kr)
                    · replace h := cond_f hb1155 h
                      refine on rfl rfl rfl hb1155 ?_
                      refine on rfl rfl rfl hb1155 ?_
                      refine o1 rfl (o_pick_f rfl hb1155 rfl ?_)
                      refine o1 rfl (o_p rfl ?_)
                      refine on rfl rfl rfl rfl ?_
                      refine on rfl rfl rfl rfl ?_
                      refine o1 rfl (o_pick_f rfl rfl rfl ?_)
                      refine o1 rfl (o_p rfl ?_)
                      refine o_end ?_
                      have hd := Option.some.inj h
                      subst hd
                      exact ej () () trivial (sc rfl sn) (kc rm0 kr)
                  · replace h := cond_f hb1153 h
                    refine on rfl rfl rfl hb1153 ?_
                    refine on rfl rfl rfl hb1153 ?_
                    refine on rfl rfl rfl hb1153 ?_
                    refine on rfl rfl rfl hb1153 ?_
                    refine o1 rfl (o_pick_f rfl hb1153 rfl ?_)
                    refine o1 rfl (o_p rfl ?_)
                    refine on rfl rfl rfl rfl ?_
                    refine on rfl rfl rfl rfl ?_
                    refine o1 rfl (o_pick_f rfl rfl rfl ?_)
                    refine o1 rfl (o_p rfl ?_)
                    refine on rfl rfl rfl rfl ?_
                    refine on rfl rfl rfl rfl ?_
                    refine o1 rfl (o_pick_f rfl rfl rfl ?_)
                    refine o1 rfl (o_p rfl ?_)
                    refine o_end ?_
                    have hd := Option.some.inj h
                    subst hd
                    exact ej () () trivial (sc rfl sn) (kc rm0 kr)
                · replace h := cond_f hb1151 h
                  refine on rfl rfl rfl hb1151 ?_
                  refine on rfl rfl rfl hb1151 ?_
                  refine on rfl rfl rfl hb1151 ?_
                  refine on rfl rfl rfl hb1151 ?_
                  refine o1 rfl (o_pick_f rfl hb1151 rfl ?_)
                  refine o1 rfl (o_p rfl ?_)
                  refine on rfl rfl rfl rfl ?_
                  refine on rfl rfl rfl rfl ?_
                  refine on rfl rfl rfl rfl ?_
                  refine on rfl rfl rfl rfl ?_
                  refine o1 rfl (o_pick_f rfl rfl rfl ?_)
                  refine o1 rfl (o_p rfl ?_)
                  refine on rfl rfl rfl rfl ?_
                  refine on rfl rfl rfl rfl ?_
                  refine o1 rfl (o_pick_f rfl rfl rfl ?_)
                  refine o1 rfl (o_p rfl ?_)
                  refine on rfl rfl rfl rfl ?_
                  refine on rfl rfl rfl rfl ?_
                  refine o1 rfl (o_pick_f rfl rfl rfl ?_)
                  refine o1 rfl (o_p rfl ?_)
                  refine o_end ?_
                  have hd := Option.some.inj h
                  subst hd
                  exact ej () () trivial (sc rfl sn) (kc rm0 kr)
              · replace h := cond_f hb1143 h
                refine on rfl rfl rfl hb1143 ?_
                refine on rfl rfl rfl hb1143 ?_
                refine on rfl rfl rfl hb1143 ?_
                refine on rfl rfl rfl hb1143 ?_
                refine on rfl rfl rfl hb1143 ?_
                refine o1 rfl (o_pick_f rfl hb1143 rfl ?_)
                refine o1 rfl (o_p rfl ?_)
                refine on rfl rfl rfl rfl ?_
                refine on rfl rfl rfl rfl ?_
                refine on rfl rfl rfl rfl ?_
                refine on rfl rfl rfl rfl ?_
                refine o1 rfl (o_pick_f rfl rfl rfl ?_)
                refine o1 rfl (o_p rfl ?_)
                refine on rfl rfl rfl rfl ?_
                refine on rfl rfl rfl rfl ?_
                refine on rfl rfl rfl rfl ?_
                refine on rfl rfl rfl rfl ?_
                refine o1 rfl (o_pick_f rfl rfl rfl ?_)
                refine o1 rfl (o_p rfl ?_)
                refine on rfl rfl rfl rfl ?_
                refine on rfl rfl rfl rfl ?_
                refine o1 rfl (o_pick_f rfl rfl rfl ?_)
                refine o1 rfl (o_p rfl ?_)
                refine on rfl rfl rfl rfl ?_
                refine on rfl rfl rfl rfl ?_
                refine o1 rfl (o_pick_f rfl rfl rfl ?_)
                refine o1 rfl (o_p rfl ?_)
                refine o_end ?_
                have hd := Option.some.inj h
                subst hd
                exact ej () () trivial (sc rfl sn) (kc rm0 kr)
            · replace h := cond_f hb1132 h
              refine oy rfl rfl rfl hb1132 (o_p rfl ?_)
              refine oy rfl rfl rfl hb1132 (o_p rfl ?_)
              refine on rfl rfl rfl (bnot'_t hb1131) ?_
              refine on rfl rfl rfl (bnot'_t hb1131) ?_
              refine on rfl rfl rfl (bnot'_t hb1131) ?_
              refine oy rfl rfl rfl hb1132 (o_pick_f rfl (bnot'_t hb1131) rfl ?_)
              refine oy rfl rfl rfl hb1130 (o_pick_f rfl hb1132 rfl ?_)
              refine o1 rfl (o_pick_t rfl hb1130 rfl ?_)
              refine o1 rfl (o_p rfl ?_)
              refine on rfl rfl rfl rfl ?_
              refine on rfl rfl rfl rfl ?_
              refine on rfl rfl rfl rfl ?_
              refine on rfl rfl rfl rfl ?_
              refine on rfl rfl rfl rfl ?_
              refine o1 rfl (o_pick_f rfl rfl rfl ?_)
              refine o1 rfl (o_p rfl ?_)
              refine on rfl rfl rfl rfl ?_
              refine on rfl rfl rfl rfl ?_
              refine on rfl rfl rfl rfl ?_
              refine on rfl rfl rfl rfl ?_
              refine on rfl rfl rfl rfl ?_
              refine o1 rfl (o_pick_f rfl rfl rfl ?_)
              refine o1 rfl (o_p rfl ?_)
              refine on rfl rfl rfl rfl ?_
              refine on rfl rfl rfl rfl ?_
              refine on rfl rfl rfl rfl ?_
              refine on rfl rfl rfl rfl ?_
              refine o1 rfl (o_pick_f rfl rfl rfl ?_)
              refine o1 rfl (o_p rfl ?_)
              refine on rfl rfl rfl rfl ?_
              refine on rfl rfl rfl rfl ?_
              refine on rfl rfl rfl rfl ?_
              refine on rfl rfl rfl rfl ?_
              refine o1 rfl (o_pick_f rfl rfl rfl ?_)
              refine o1 rfl (o_p rfl ?_)
              refine on rfl rfl rfl rfl ?_
              refine on rfl rfl rfl rfl ?_
              refine o1 rfl (o_pick_f rfl rfl rfl ?_)
              refine o1 rfl (o_p rfl ?_)
              refine on rfl rfl rfl rfl ?_
              refine on rfl rfl rfl rfl ?_
              refine o1 rfl (o_pick_f rfl rfl rfl ?_)
              refine o1 rfl (o_p rfl ?_)
              refine o_end ?_
              have hd := Option.some.inj h
              subst hd
              exact ej () () trivial (sc rfl sn) (kc rm0 kr)
          · replace h := cond_f hb1131 h
            refine on rfl rfl rfl hb1131 ?_
            refine on rfl rfl rfl hb1131 ?_
            refine oy rfl rfl rfl hb1130 (o_pick_f rfl hb1131 rfl ?_)
            refine oy rfl rfl rfl hb1130 (o_p rfl ?_)
            refine oy rfl rfl rfl rfl (o_p rfl ?_)
            refine oy rfl rfl rfl rfl (o_p rfl ?_)
            refine oy rfl rfl rfl (bnot'_f hb1131) (o_p rfl ?_)
            refine oy rfl rfl rfl (bnot'_f hb1131) (o_p rfl ?_)
            refine oy rfl rfl rfl (bnot'_f hb1131) (o_p (v := (.bool (d3.1 == d4))) rfl ?_)
            refine oy rfl rfl rfl rfl (o_pick_t rfl (bnot'_f hb1131) rfl ?_)
            refine oy rfl rfl rfl hb1130 (o_pick_f rfl rfl rfl ?_)
            refine o1 rfl (o_pick_t rfl hb1130 rfl ?_)
            refine o1 rfl (o_p rfl ?_)
            rcases bool_or ((d3.1 == d4)) with hb1157 | hb1157
            · replace h := cond_t hb1157 h
              refine oy rfl rfl rfl hb1157 (o_p rfl ?_)
              replace h := bsome h
              obtain ⟨d17, h17, h⟩ := h
              refine oy rfl rfl rfl hb1157 (o_call has16 rfl (c_write_Byte hg X1118 p1 _ h17) (pc rm0 pn) ?_)
              refine oy rfl rfl rfl hb1157 (o_p rfl ?_)
              replace h := bsome h
              obtain ⟨d18, h18, h⟩ := h
              refine oy rfl rfl rfl hb1157 (o_call has17 rfl (c_vitrineref17_Byte hg X1118 p1 _ h18) (pc rm0 pn) ?_)
              refine oy rfl rfl rfl hb1157 (o_p (v := (.bool (d17 == d18))) rfl ?_)
              refine o1 rfl (o_pick_t rfl hb1157 rfl ?_)
              refine o1 rfl (o_p rfl ?_)
              rcases bool_or ((d17 == d18)) with hb1158 | hb1158
              · replace h := cond_t hb1158 h
                refine oy rfl rfl rfl hb1158 (o_p rfl ?_)
                replace h := bsome h
                obtain ⟨d19, h19, h⟩ := h
                refine oy rfl rfl rfl hb1158 (o_call has18 rfl (c_write_Name hg X1118 p1 _ h19) (pc rm0 pn) ?_)
                refine oy rfl rfl rfl hb1158 (o_p rfl ?_)
                replace h := bsome h
                obtain ⟨d20, h20, h⟩ := h
                refine oy rfl rfl rfl hb1158 (o_call has19 rfl (c_vitrineref17_Name hg X1118 p1 _ h20) (pc rm0 pn) ?_)
                refine oy rfl rfl rfl hb1158 (o_p (v := (.bool (d19.data.toList == d20.data.toList))) rfl ?_)
                refine o1 rfl (o_pick_t rfl hb1158 rfl ?_)
                refine o1 rfl (o_p rfl ?_)
                rcases bool_or ((d19.data.toList == d20.data.toList)) with hb1159 | hb1159
                · replace h := cond_t hb1159 h
                  refine oy rfl rfl rfl hb1159 (o_p rfl ?_)
                  replace h := bsome h
                  obtain ⟨d21, h21, h⟩ := h
                  refine oy rfl rfl rfl hb1159 (o_call has20 rfl (c_write_Reads hg X1118 p1 _ h21) (pc rm0 pn) ?_)
                  refine oy rfl rfl rfl hb1159 (o_p rfl ?_)
                  refine oy rfl rfl rfl hb1159 (o_p (v := (.bool (d21 == d9.2))) rfl ?_)
                  refine o1 rfl (o_pick_t rfl hb1159 rfl ?_)
                  refine o1 rfl (o_p rfl ?_)
                  rcases bool_or ((d21 == d9.2)) with hb1160 | hb1160
                  · replace h := cond_t hb1160 h
                    refine oy rfl rfl rfl hb1160 (o_p rfl ?_)
                    replace h := bsome h
                    obtain ⟨d22, h22, h⟩ := h
                    refine oy rfl rfl rfl hb1160 (o_call has21 rfl (c_write_Erases hg X1118 p1 _ h22) (pc rm0 pn) ?_)
                    refine oy rfl rfl rfl hb1160 (o_p rfl ?_)
                    refine oy rfl rfl rfl hb1160 (o_p (v := (.bool (d22 == d9.1))) rfl ?_)
                    refine o1 rfl (o_pick_t rfl hb1160 rfl ?_)
                    refine o1 rfl (o_p rfl ?_)
                    rcases bool_or ((d22 == d9.1)) with hb1161 | hb1161
                    · replace h := cond_t hb1161 h
                      refine oy rfl rfl rfl hb1161 (o_p rfl ?_)
                      refine oy rfl rfl rfl hb1161 (o_p (v := (.bool (d6.2 == 5))) rfl ?_)
                      refine o1 rfl (o_pick_t rfl hb1161 rfl ?_)
                      refine o1 rfl (o_p rfl ?_)
                      rcases bool_or ((d6.2 == 5)) with hb1162 | hb1162
                      · replace h := cond_t hb1162 h
                        refine oy rfl rfl rfl hb1162 (o_p rfl ?_)
                        refine oy rfl rfl rfl hb1162 (o_p (v := (.bool (d8.2.2 == 5))) rfl ?_)
                        refine o1 rfl (o_pick_t rfl hb1162 rfl ?_)
                        refine o1 rfl (o_p rfl ?_)
                        refine o_end ?_
                        have hd := Option.some.inj h
                        subst hd
                        exact ej () () trivial (sc rfl sn) (kc rm0 kr)
                      · replace h := cond_f hb1162 h
                        refine on rfl rfl rfl hb1162 ?_
                        refine on rfl rfl rfl hb1162 ?_
                        refine o1 rfl (o_pick_f rfl hb1162 rfl ?_)
                        refine o1 rfl (o_p rfl ?_)
                        refine o_end ?_
                        have hd := Option.some.inj h
                        subst hd
                        exact ej () () trivial (sc rfl sn) (kc rm0 kr)
                    · replace h := cond_f hb1161 h
                      refine on rfl rfl rfl hb1161 ?_
                      refine on rfl rfl rfl hb1161 ?_
                      refine o1 rfl (o_pick_f rfl hb1161 rfl ?_)
                      refine o1 rfl (o_p rfl ?_)
                      refine on rfl rfl rfl rfl ?_
                      refine on rfl rfl rfl rfl ?_
                      refine o1 rfl (o_pick_f rfl rfl rfl ?_)
                      refine o1 rfl (o_p rfl ?_)
                      refine o_end ?_
                      have hd := Option.some.inj h
                      subst hd
                      exact ej () () trivial (sc rfl sn) (kc rm0 kr)
                  · replace h := cond_f hb1160 h
                    refine on rfl rfl rfl hb1160 ?_
                    refine on rfl rfl rfl hb1160 ?_
                    refine on rfl rfl rfl hb1160 ?_
                    refine on rfl rfl rfl hb1160 ?_
                    refine o1 rfl (o_pick_f rfl hb1160 rfl ?_)
                    refine o1 rfl (o_p rfl ?_)
                    refine on rfl rfl rfl rfl ?_
                    refine on rfl rfl rfl rfl ?_
                    refine o1 rfl (o_pick_f rfl rfl rfl ?_)
                    refine o1 rfl (o_p rfl ?_)
                    refine on rfl rfl rfl rfl ?_
                    refine on rfl rfl rfl rfl ?_
                    refine o1 rfl (o_pick_f rfl rfl rfl ?_)
                    refine o1 rfl (o_p rfl ?_)
                    refine o_end ?_
                    have hd := Option.some.inj h
                    subst hd
                    exact ej () () trivial (sc rfl sn) (kc rm0 kr)
                · replace h := cond_f hb1159 h
                  refine on rfl rfl rfl hb1159 ?_
                  refine on rfl rfl rfl hb1159 ?_
                  refine on rfl rfl rfl hb1159 ?_
                  refine on rfl rfl rfl hb1159 ?_
                  refine o1 rfl (o_pick_f rfl hb1159 rfl ?_)
                  refine o1 rfl (o_p rfl ?_)
                  refine on rfl rfl rfl rfl ?_
                  refine on rfl rfl rfl rfl ?_
                  refine on rfl rfl rfl rfl ?_
                  refine on rfl rfl rfl rfl ?_
                  refine o1 rfl (o_pick_f rfl rfl rfl ?_)
                  refine o1 rfl (o_p rfl ?_)
                  refine on rfl rfl rfl rfl ?_
                  refine on rfl rfl rfl rfl ?_
                  refine o1 rfl (o_pick_f rfl rfl rfl ?_)
                  refine o1 rfl (o_p rfl ?_)
                  refine on rfl rfl rfl rfl ?_
                  refine on rfl rfl rfl rfl ?_
                  refine o1 rfl (o_pick_f rfl rfl rfl ?_)
                  refine o1 rfl (o_p rfl ?_)
                  refine o_end ?_
                  have hd := Option.some.inj h
                  subst hd
                  exact ej () () trivial (sc rfl sn) (kc rm0 kr)
              · replace h := cond_f hb1158 h
                refine on rfl rfl rfl hb1158 ?_
                refine on rfl rfl rfl hb1158 ?_
                refine on rfl rfl rfl hb1158 ?_
                refine on rfl rfl rfl hb1158 ?_
                refine on rfl rfl rfl hb1158 ?_
                refine o1 rfl (o_pick_f rfl hb1158 rfl ?_)
                refine o1 rfl (o_p rfl ?_)
                refine on rfl rfl rfl rfl ?_
                refine on rfl rfl rfl rfl ?_
                refine on rfl rfl rfl rfl ?_
                refine on rfl rfl rfl rfl ?_
                refine o1 rfl (o_pick_f rfl rfl rfl ?_)
                refine o1 rfl (o_p rfl ?_)
                refine on rfl rfl rfl rfl ?_
                refine on rfl rfl rfl rfl ?_
                refine on rfl rfl rfl rfl ?_
                refine on rfl rfl rfl rfl ?_
                refine o1 rfl (o_pick_f rfl rfl rfl ?_)
                refine o1 rfl (o_p rfl ?_)
                refine on rfl rfl rfl rfl ?_
                refine on rfl rfl rfl rfl ?_
                refine o1 rfl (o_pick_f rfl rfl rfl ?_)
                refine o1 rfl (o_p rfl ?_)
                refine on rfl rfl rfl rfl ?_
                refine on rfl rfl rfl rfl ?_
                refine o1 rfl (o_pick_f rfl rfl rfl ?_)
                refine o1 rfl (o_p rfl ?_)
                refine o_end ?_
                have hd := Option.some.inj h
                subst hd
                exact ej () () trivial (sc rfl sn) (kc rm0 kr)
            · replace h := cond_f hb1157 h
              refine on rfl rfl rfl hb1157 ?_
              refine on rfl rfl rfl hb1157 ?_
              refine on rfl rfl rfl hb1157 ?_
              refine on rfl rfl rfl hb1157 ?_
              refine on rfl rfl rfl hb1157 ?_
              refine o1 rfl (o_pick_f rfl hb1157 rfl ?_)
              refine o1 rfl (o_p rfl ?_)
              refine on rfl rfl rfl rfl ?_
              refine on rfl rfl rfl rfl ?_
              refine on rfl rfl rfl rfl ?_
              refine on rfl rfl rfl rfl ?_
              refine on rfl rfl rfl rfl ?_
              refine o1 rfl (o_pick_f rfl rfl rfl ?_)
              refine o1 rfl (o_p rfl ?_)
              refine on rfl rfl rfl rfl ?_
              refine on rfl rfl rfl rfl ?_
              refine on rfl rfl rfl rfl ?_
              refine on rfl rfl rfl rfl ?_
              refine o1 rfl (o_pick_f rfl rfl rfl ?_)
              refine o1 rfl (o_p rfl ?_)
              refine on rfl rfl rfl rfl ?_
              refine on rfl rfl rfl rfl ?_
              refine on rfl rfl rfl rfl ?_
              refine on rfl rfl rfl rfl ?_
              refine o1 rfl (o_pick_f rfl rfl rfl ?_)
              refine o1 rfl (o_p rfl ?_)
              refine on rfl rfl rfl rfl ?_
              refine on rfl rfl rfl rfl ?_
              refine o1 rfl (o_pick_f rfl rfl rfl ?_)
              refine o1 rfl (o_p rfl ?_)
              refine on rfl rfl rfl rfl ?_
              refine on rfl rfl rfl rfl ?_
              refine o1 rfl (o_pick_f rfl rfl rfl ?_)
              refine o1 rfl (o_p rfl ?_)
              refine o_end ?_
              have hd := Option.some.inj h
              subst hd
              exact ej () () trivial (sc rfl sn) (kc rm0 kr)
        · replace h := cond_f hb1130 h
          refine on rfl rfl rfl hb1130 ?_
          refine on rfl rfl rfl hb1130 ?_
          refine on rfl rfl rfl hb1130 ?_
          refine ou rfl rfl rfl ?_
          refine ou rfl rfl rfl ?_
          refine on rfl rfl rfl hb1130 ?_
          refine on rfl rfl rfl hb1130 ?_
          refine ou rfl rfl rfl ?_
          refine ou rfl rfl rfl ?_
          refine ou rfl rfl rfl ?_
          refine ou rfl rfl rfl ?_
          refine ou rfl rfl rfl ?_
          refine ou rfl rfl rfl ?_
          refine on rfl rfl rfl hb1130 ?_
          refine o1 rfl (o_pick_f rfl hb1130 rfl ?_)
          refine o1 rfl (o_p rfl ?_)
          refine on rfl rfl rfl rfl ?_
          refine on rfl rfl rfl rfl ?_
          refine on rfl rfl rfl rfl ?_
          refine on rfl rfl rfl rfl ?_
          refine on rfl rfl rfl rfl ?_
          refine o1 rfl (o_pick_f rfl rfl rfl ?_)
          refine o1 rfl (o_p rfl ?_)
          refine on rfl rfl rfl rfl ?_
          refine on rfl rfl rfl rfl ?_
          refine on rfl rfl rfl rfl ?_
          refine on rfl rfl rfl rfl ?_
          refine on rfl rfl rfl rfl ?_
          refine o1 rfl (o_pick_f rfl rfl rfl ?_)
          refine o1 rfl (o_p rfl ?_)
          refine on rfl rfl rfl rfl ?_
          refine on rfl rfl rfl rfl ?_
          refine on rfl rfl rfl rfl ?_
          refine on rfl rfl rfl rfl ?_
          refine o1 rfl (o_pick_f rfl rfl rfl ?_)
          refine o1 rfl (o_p rfl ?_)
          refine on rfl rfl rfl rfl ?_
          refine on rfl rfl rfl rfl ?_
          refine on rfl rfl rfl rfl ?_
          refine on rfl rfl rfl rfl ?_
          refine o1 rfl (o_pick_f rfl rfl rfl ?_)
          refine o1 rfl (o_p rfl ?_)
          refine on rfl rfl rfl rfl ?_
          refine on rfl rfl rfl rfl ?_
          refine o1 rfl (o_pick_f rfl rfl rfl ?_)
          refine o1 rfl (o_p rfl ?_)
          refine on rfl rfl rfl rfl ?_
          refine on rfl rfl rfl rfl ?_
          refine o1 rfl (o_pick_f rfl rfl rfl ?_)
          refine o1 rfl (o_p rfl ?_)
          refine o_end ?_
          have hd := Option.some.inj h
          subst hd
          exact ej () () trivial (sc rfl sn) (kc rm0 kr)
      · rintro _ i10 _
        replace h := hk10
        clear hk10
        refine e_seq ?_
        refine c_ret ?_
        refine e_ret ?_
        refine r_endt rfl rfl (kc rm0 kr) ?_
        have hr := Option.some.inj h
        subst hr
        exact hk X1118 (Ext.trans (Ext.trans f1_0 hx1111) hx1119)

end Go.Vt
