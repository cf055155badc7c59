/- Lemmas. No conditions. -/
import Derived.Test.YtdehoidiaedcoaaGreatVmdx
set_option linter.unusedVariables false
set_option linter.unusedSimpArgs false
set_option linter.unusedVariables false
set_option maxRecDepth 100000
set_option maxHeartbeats 4000000
namespace Go.Vt
open Go.Proofs
theorem c_slices_AppendSeq_2 {g : Gw} (X : HP) (p0 : List Int) (s0 : SV) (b0 : Nat) (p1 : Vspace_Space) (b1 : Nat) (s1 : SV) (p2 : Int) (b2 : Nat) (r : Vspace_Space × Int × (List Int)) (h : m_slices_AppendSeq_2 p0 p1 p2 = some r) : Tri env g 152 (A [(V s0), (.func (.func 158) #[] (A [(F b0 0), (F b2 0)]))]) [X, slO s0 3 (enI .i64) p0, blk b0 (.cells (A [(F b1 0)]) 31 (0, 0)), blk b1 (.cells (A [(I p1.model), (O p1.alternate), (I p1.size.Rows), (I p1.size.Cols), (V s1), (I p1.cursor), (I p1.attrs)]) 122 (0, 0)), slO s1 26 en_Vapi_Cell p1.cells, blk b2 (.cells (A [(I p2)]) 3 (0, 0))] (fun K R => ∀ (i0 : SV), K (V i0) (X :: blk b1 (.cells (A [(I r.1.model), (O r.1.alternate), (I r.1.size.Rows), (I r.1.size.Cols), (V s1), (I r.1.cursor), (I r.1.attrs)]) 122 (0, 0)) :: slO s1 26 en_Vapi_Cell r.1.cells :: blk b0 (.cells (A [(F b1 0)]) 31 (0, 0)) :: blk b2 (.cells (A [(I r.2.1)]) 3 (0, 0)) :: slO i0 3 (enI .i64) r.2.2 :: R)) := by
 refine tri_of (fn := Tryz.f152) (N := 13) Tryz.func152 J J J ?_
 intro R K hk
 unfold m_slices_AppendSeq_2 at h
 change GC _ none _ [] [(0, (V s0)), (1, (.func (.func 158) #[] (A [(F b0 0), (F b2 0)])))] (X :: slO s0 3 (enI .i64) p0 :: blk b0 (.cells (A [(F b1 0)]) 31 (0, 0)) :: blk b1 (.cells (A [(I p1.model), (O p1.alternate), (I p1.size.Rows), (I p1.size.Cols), (V s1), (I p1.cursor), (I p1.attrs)]) 122 (0, 0)) :: slO s1 26 en_Vapi_Cell p1.cells :: blk b2 (.cells (A [(I p2)]) 3 (0, 0)) :: R) g _ _
 refine cr ?_
 refine o1 J (o_box (cs := [(V s0)]) J J (fun b508 => ?_))
 refine op J J (oe (c_seq (cr ?_)))
 refine op J J (oe ?_)
 replace h := bsome h
 obtain ⟨d1, h, hk1⟩ := h
 refine cjd (D := Unit) (ι := SV × Nat) (fun _ i1 => [mk i1.2]) (fun _ i1 => True) (fun _ i1 => [(2, (F b508 0))]) (fun _ i1 => X :: blk b508 (.cells (A [(V i1.1)]) 75 (0, 0)) :: blk b1 (.cells (A [(I p1.model), (O p1.alternate), (I p1.size.Rows), (I p1.size.Cols), (V s1), (I p1.cursor), (I p1.attrs)]) 122 (0, 0)) :: blk b0 (.cells (A [(F b1 0)]) 31 (0, 0)) :: blk b2 (.cells (A [(I d1.2)]) 3 (0, 0)) :: slO i1.1 3 (enI .i64) d1.1 :: slO s1 26 en_Vapi_Cell p1.cells :: blk i1.2 (.deferred (some [])) :: R) ?_ ?_
 ·refine c_block ?_
  replace h := bsome h
  obtain ⟨d2, h, hk2⟩ := h
  refine cjd (D := Unit) (ι := SV × Nat) (fun _ i2 => [mk i2.2]) (fun _ i2 => True) (fun _ i2 => [(2, (F b508 0))]) (fun _ i2 => X :: blk b508 (.cells (A [(V i2.1)]) 75 (0, 0)) :: blk b1 (.cells (A [(I p1.model), (O p1.alternate), (I p1.size.Rows), (I p1.size.Cols), (V s1), (I p1.cursor), (I p1.attrs)]) 122 (0, 0)) :: blk b0 (.cells (A [(F b1 0)]) 31 (0, 0)) :: blk b2 (.cells (A [(I d2.2)]) 3 (0, 0)) :: slO i2.1 3 (enI .i64) d2.1 :: slO s1 26 en_Vapi_Cell p1.cells :: blk i2.2 (.deferred (some [])) :: R) ?_ ?_
  ·refine c_range' (fn := Tryz.f158) (M := 33) J has158 Tryz.func158 J J J (fun l3 D3 a3 fc3 rc3 hrc3 ht3 => ?_)
   change GC _ none _ [] [(0, (.func (.yield l3) #[] #[])), (1, (F b0 0)), (2, (F b2 0))] (blk l3 (.loop (rc3 .ready none)) :: blk D3 (.deferred (some [])) :: blk b508 (.cells (A [(V s0)]) 75 (0, 0)) :: X :: slO s0 3 (enI .i64) p0 :: blk b0 (.cells (A [(F b1 0)]) 31 (0, 0)) :: blk b1 (.cells (A [(I p1.model), (O p1.alternate), (I p1.size.Rows), (I p1.size.Cols), (V s1), (I p1.cursor), (I p1.attrs)]) 122 (0, 0)) :: slO s1 26 en_Vapi_Cell p1.cells :: blk b2 (.cells (A [(I p2)]) 3 (0, 0)) :: R) g _ _
   refine cr ?_
   refine o1 J (o_ld (b := b0) (off := 0) (v := (F b1 0)) J rm5 J J ?_)
   replace h := bsome h
   obtain ⟨d4, h4, h⟩ := h
   refine o1 J (o_call has121 J (c_space_Space_Size X p1 b1 s1 _ h4) (pc rm3 (pc rm5 (pc rm5 pn))) ?_)
   refine o1 J (o_alloc (cs := [(I 0), (I 0)]) J J (fun b510 => ?_))
   refine o0 (o_st (b := b510) (off := 0) (vs := [(I d4.Rows), (I d4.Cols)]) (cs' := [(I d4.Rows), (I d4.Cols)]) J J rp0 J J J J J J ?_)
   refine oe (cr ?_)
   refine o1 J (o_ld (b := b510) (off := 0) (v := (.agg (A [(I d4.Rows), (I d4.Cols)]))) J rm0 J J ?_)
   refine o1 J (o_ld (b := b2) (off := 0) (v := (I p2)) J rm9 J J ?_)
   replace h := bsome h
   obtain ⟨d5, h5, h⟩ := h
   refine o1 J (o_call has53 J (c_addr_Size_Wrap X (⟨d4.Rows, d4.Cols⟩ : Vaddr_Size) p2 _ h5) (pc rm1 pn) ?_)
   refine o0 (o_st (b := b2) (off := 0) (vs := [(I d5)]) (cs' := [(I d5)]) J J rp9 J J J J J J ?_)
   refine oe (c_seq (cr ?_))
   refine o1 J (o_ld (b := b0) (off := 0) (v := (F b1 0)) J rm8 J J ?_)
   refine o1 J (o_ld (b := b2) (off := 0) (v := (I d5)) J rm9 J J ?_)
   replace h := bsome h
   obtain ⟨d6, h6, h⟩ := h
   refine o1 J (o_call has13 J (c_space_Space_At X p1 b1 s1 d5 _ h6) (pc rm0 (pc rm1 (pc rm1 pn))) ?_)
   refine o1 J (o_field (v := (O d6.Attr)) J J J ?_)
   refine o1 J (o_p (v := (O (!d6.Attr))) J ?_)
   refine oe ?_
   refine c_cond (b := (!d6.Attr)) J (fun hb512 => ?_) (fun hb512 => ?_)
   ·replace h := cond_t hb512 h
    refine c_ret (e_then_ret (e_ret ?_))
    refine r_end (rs := []) (vs := []) J J ?_
    refine ke' hrc3 rm4 (by simp) ?_
    obtain rfl := si h
    exact ejd () (s0, D3) trivial J (sc J sn) (kc rm0 (kc rm4 (kc rm0 (kc rm4 (kc rm4 (kc rm3 (kc rm0 (kc rm1 (kd kr)))))))))
   ·replace h := cond_f hb512 h
    refine c_skip (e_seq (cr ?_))
    refine o1 J (o_ld (b := b510) (off := 0) (v := (.agg (A [(I d4.Rows), (I d4.Cols)]))) J rm3 J J ?_)
    refine o1 J (o_ld (b := b2) (off := 0) (v := (I d5)) J rm9 J J ?_)
    refine o1 J (o_p (v := (I (w64 (d5 + 1)))) J ?_)
    replace h := bsome h
    obtain ⟨d8, h8, h⟩ := h
    refine o1 J (o_call has53 J (c_addr_Size_Wrap X (⟨d4.Rows, d4.Cols⟩ : Vaddr_Size) (w64 (d5 + 1)) _ h8) (pc rm0 pn) ?_)
    refine op J J (oe ?_)
    replace h := bsome h
    obtain ⟨d9, h, hk9⟩ := h
    refine cj (D := Unit) (ι := SV) (fun _ i9 => True) (fun _ i9 => []) (fun _ i9 => X :: blk b1 (.cells (A [(I p1.model), (O p1.alternate), (I p1.size.Rows), (I p1.size.Cols), (V s1), (I p1.cursor), (I p1.attrs)]) 122 (0, 0)) :: blk b0 (.cells (A [(F b1 0)]) 31 (0, 0)) :: blk b2 (.cells (A [(I d5)]) 3 (0, 0)) :: blk b508 (.cells (A [(V i9)]) 75 (0, 0)) :: slO s1 26 en_Vapi_Cell p1.cells :: slO i9 3 (enI .i64) d9 :: blk l3 (.loop (rc3 .ready none)) :: blk D3 (.deferred (some [])) :: R) ?_ ?_
    ·refine c_block ?_
     refine c_loop (l_sub (sc J (sc J (sc J (sc J sn)))) (l_keep (kc rm0 (kc rm2 (kc rm6 (kc rm0 (kc rm5 (kc rm3 (kc rm0 (kc rm2 (kc rm0 (kc rm0 kr)))))))))) (lf (X := Int × (List Int)) (ι := SV) (fun k x => slices_AppendSeq_2_l10 p1 d4 k x) _ (fun x10 i10 => True) (fun x10 i10 => [(5, (I x10.1)), (4, (F b510 0)), (0, (.func (.yield l3) #[] #[])), (1, (F b0 0))]) (fun x10 i10 => X :: blk b510 (.cells (A [(I d4.Rows), (I d4.Cols)]) 120 (0, 0)) :: blk b0 (.cells (A [(F b1 0)]) 31 (0, 0)) :: blk b1 (.cells (A [(I p1.model), (O p1.alternate), (I p1.size.Rows), (I p1.size.Cols), (V s1), (I p1.cursor), (I p1.attrs)]) 122 (0, 0)) :: blk b2 (.cells (A [(I d5)]) 3 (0, 0)) :: blk b508 (.cells (A [(V i10)]) 75 (0, 0)) :: slO s1 26 en_Vapi_Cell p1.cells :: slO i10 3 (enI .i64) x10.2 :: blk l3 (.loop (rc3 .ready none)) :: blk D3 (.deferred (some [])) :: R) (fun _ => J) ?_ fuel (d8, p0) s0 trivial h)))
     clear h
     rintro k10 ih10 x10 i10 _ h
     rw [slices_AppendSeq_2_l10.eq_2] at h
     refine l_round (c_seq (cr ?_))
     refine o1 J (o_ld (b := b0) (off := 0) (v := (F b1 0)) J rm2 J J ?_)
     refine op J J ?_
     replace h := bsome h
     obtain ⟨d11, h11, h⟩ := h
     refine o1 J (o_call has13 J (c_space_Space_At X p1 b1 s1 x10.1 _ h11) (pc rm0 (pc rm2 (pc rm4 pn))) ?_)
     refine o1 J (o_field (v := (O d11.Attr)) J J J ?_)
     refine o1 J (o_p (v := (O (!d11.Attr))) J ?_)
     refine oe ?_
     refine c_cond (b := (!d11.Attr)) J (fun hb527 => ?_) (fun hb527 => ?_)
     ·replace h := cond_t hb527 h
      refine c_skip (e_seq (c_seq (c_block (cr ?_))))
      refine op J J (op J J ?_)
      refine o1 J (o_yield' hrc3 ht3 J J J J rm8 ?_)
      refine c_region (op J J (o_end ?_))
      refine e_begin' hrc3 rm0 ?_
      refine c_block (c_region ?_)
      refine o1 J (o_ld (b := b508) (off := 0) (v := (V i10)) J rm7 J J ?_)
      refine op J J ?_
      refine o1 J (o_bs (e := (enI .i64)) (l := [x10.1]) (zs := [(I 0)]) J J J J J J J J J J (fun s528 => ?_))
      replace h := gsome h
      obtain ⟨hg530, h⟩ := h
      refine o1 J (o_app (s := i10) (r := s528) (e := (enI .i64)) (l := x10.2) (l2 := [x10.1]) (zs := [(I 0)]) J J J J J J J J J J J rm9 rm0 (rd_own _ _ _ _) hg530 (fun s531 => ?_))
      refine o0 (o_st (b := b508) (off := 0) (vs := [(V s531)]) (cs' := [(V s531)]) J J rp9 J J J J J J ?_)
      refine o_end (e_blk ?_)
      refine e_on' hrc3 rm2 ?_
      refine o1 J (o_p (v := (O false)) J ?_)
      refine oe ?_
      refine c_cond_f J J ?_
      refine c_skip (e_blk (e_seq (c_region ?_)))
      refine o1 J (o_ld (b := b510) (off := 0) (v := (.agg (A [(I d4.Rows), (I d4.Cols)]))) J rm6 J J ?_)
      refine op J J ?_
      refine o1 J (o_p (v := (I (w64 (x10.1 + 1)))) J ?_)
      replace h := bsome h
      obtain ⟨d15, h15, h⟩ := h
      refine o1 J (o_call has53 J (c_addr_Size_Wrap X (⟨d4.Rows, d4.Cols⟩ : Vaddr_Size) (w64 (x10.1 + 1)) _ h15) (pc rm3 pn) ?_)
      refine op J J (o_end ?_)
      exact e_loop (l_sub (sc J (sc J (sc J (sc J sn)))) (l_keep (kc rm0 (kc rm5 (kc rm5 (kc rm3 (kc rm4 (kc rm4 (kc rm3 (kc rm1 (kc rm0 (kc rm1 (kd kr))))))))))) (ih10 (d15, (x10.2 ++ [x10.1])) s531 trivial h)))
     ·replace h := cond_f hb527 h
      refine c_exit (e_then_exit (e_then_exit (e_blk_exit ?_)))
      obtain rfl := si h
      exact ej () i10 trivial sn (kc rm0 (kc rm0 (kc rm2 (kc rm2 (kc rm2 (kc rm0 (kc rm1 (kc rm1 (kc rm1 (kd kr))))))))))
    ·rintro _ i9 _
     replace h := hk9
     clear hk9
     refine e_fall ?_
     refine r_end (rs := []) (vs := []) J J ?_
     refine ke' hrc3 rm7 (by simp) ?_
     obtain rfl := si h
     exact ejd () (i9, D3) trivial J (sc J sn) (kc rm0 (kc rm3 (kc rm0 (kc rm0 (kc rm0 (kc rm1 (kc rm0 (kc rm0 kr))))))))
  ·rintro _ i2 _
   replace h := hk2
   clear hk2
   refine e_blk ?_
   obtain rfl := si h
   exact ejd () (i2.1, i2.2) trivial J (sc J sn) (kc rm0 (kc rm0 (kc rm0 (kc rm0 (kc rm0 (kc rm0 (kc rm0 (kc rm0 kr))))))))
 ·rintro _ i1 _
  replace h := hk1
  clear hk1
  refine e_seq (cr ?_)
  refine o1 J (o_ld (b := b508) (off := 0) (v := (V i1.1)) J rm1 J J ?_)
  refine op J J (oe (c_ret (e_ret ?_)))
  refine r_mark rm7 ?_
  refine r_endt J J (kc rm0 (kc rm1 (kc rm4 (kc rm1 (kc rm1 (kc rm1 (kd kr))))))) ?_
  obtain rfl := si h
  exact hk i1.1

theorem c_slices_Collect_2 {g : Gw} (X : HP) (b0 : Nat) (p0 : Vspace_Space) (b1 : Nat) (s0 : SV) (p1 : Int) (b2 : Nat) (r : Vspace_Space × Int × (List Int)) (h : m_slices_Collect_2 p0 p1 = some r) : Tri env g 132 (A [(.func (.func 158) #[] (A [(F b0 0), (F b2 0)]))]) [X, blk b0 (.cells (A [(F b1 0)]) 31 (0, 0)), blk b1 (.cells (A [(I p0.model), (O p0.alternate), (I p0.size.Rows), (I p0.size.Cols), (V s0), (I p0.cursor), (I p0.attrs)]) 122 (0, 0)), slO s0 26 en_Vapi_Cell p0.cells, blk b2 (.cells (A [(I p1)]) 3 (0, 0))] (fun K R => ∀ (i0 : SV), K (V i0) (X :: blk b1 (.cells (A [(I r.1.model), (O r.1.alternate), (I r.1.size.Rows), (I r.1.size.Cols), (V s0), (I r.1.cursor), (I r.1.attrs)]) 122 (0, 0)) :: slO s0 26 en_Vapi_Cell r.1.cells :: blk b0 (.cells (A [(F b1 0)]) 31 (0, 0)) :: blk b2 (.cells (A [(I r.2.1)]) 3 (0, 0)) :: slO i0 3 (enI .i64) r.2.2 :: R)) := by
 refine tri_of (fn := Tryz.f132) (N := 5) Tryz.func132 J J J ?_
 intro R K hk
 unfold m_slices_Collect_2 at h
 change GC _ none _ [] [(0, (.func (.func 158) #[] (A [(F b0 0), (F b2 0)])))] (X :: blk b0 (.cells (A [(F b1 0)]) 31 (0, 0)) :: blk b1 (.cells (A [(I p0.model), (O p0.alternate), (I p0.size.Rows), (I p0.size.Cols), (V s0), (I p0.cursor), (I p0.attrs)]) 122 (0, 0)) :: slO s0 26 en_Vapi_Cell p0.cells :: blk b2 (.cells (A [(I p1)]) 3 (0, 0)) :: R) g _ _
 refine cr (op J J (oe (c_seq ?_)))
 refine c_region (op J J ?_)
 refine o_add (slO SV.nil 3 (enI .i64) []) (slO_nil _ _ _) ?_
 replace h := bsome h
 obtain ⟨d1, h1, h⟩ := h
 refine o1 J (o_call has152 J (c_slices_AppendSeq_2 X ([] : List Int) SV.nil b0 p0 b1 s0 p1 b2 _ h1) (pc rm1 (pc rm0 (pc rm0 (pc rm0 (pc rm0 (pc rm0 pn)))))) (fun i1 => ?_))
 refine op J J (oe (c_ret (e_ret ?_)))
 refine r_endt J J (kc rm0 (kc rm0 (kc rm0 (kc rm0 (kc rm0 (kc rm0 kr)))))) ?_
 obtain rfl := si h
 exact hk i1

theorem c_slices_Index {g : Gw} (X : HP) (p0 : List Int) (s0 : SV) (q0 : Rd X s0 3 (enI .i64) p0) (p1 : Int) (r : Int) (h : m_slices_Index p0 p1 = some r) : Tri env g 155 (A [(V s0), (I p1)]) [X] (fun K R => K (I r) (X :: R)) := by
 refine tri_of (fn := Tryz.f155) (N := 19) Tryz.func155 J J J ?_
 intro R K hk
 unfold m_slices_Index at h
 change GC _ none _ [] [(0, (V s0)), (1, (I p1))] (X :: R) g _ _
 refine cr (op J J (oe (c_seq ?_)))
 refine cr (op J J ?_)
 refine o1 J (o_len (s := s0) J J J rm0 q0 ?_)
 refine op J J (oe ?_)
 replace h := jn_some h
 obtain ⟨y1, h, hk1⟩ := h
 refine cj (D := Unit) (ι := Unit) (fun d1 i1 => y1 = Sum.inl d1) (fun d1 i1 => []) (fun d1 i1 => X :: R) ?_ ?_
 ·refine c_block ?_
  refine c_loop (l_sub (sc J (sc J (sc J (sc J sn)))) (l_keep (kc rm0 kr) (lf (X := Int) (ι := Unit) (fun k x => slices_Index_l2 p0 p1 k x) _ (fun x2 i2 => True) (fun x2 i2 => [(8, (I x2)), (7, (I (p0.length : Int))), (0, (V s0)), (1, (I p1))]) (fun x2 i2 => X :: R) (fun _ => J) ?_ fuel 0 () trivial h)))
  clear h
  rintro k2 ih2 x2 i2 _ h
  rw [slices_Index_l2.eq_2] at h
  refine l_round (cr ?_)
  refine o1 J (o_p (v := (O (decide (x2 < (p0.length : Int))))) J ?_)
  refine oe (c_seq ?_)
  refine c_cond (b := (decide (x2 < (p0.length : Int)))) J (fun hb554 => ?_) (fun hb554 => ?_)
  ·replace h := cond_t hb554 h
   refine c_skip (e_seq (c_seq (c_block (cr ?_))))
   refine op J J (op J J (oe (cr ?_)))
   refine op J J (op J J (op J J ?_))
   replace h := gsome h
   obtain ⟨hg555, h⟩ := h
   refine o1 J (o_ix (s := s0) (n := x2) (e := (enI .i64)) J J J J J J rm0 q0 hg555 ?_)
   refine o1 J (o_ldE (s := s0) (e := (enI .i64)) (n := x2) (f := 0) (v := (I (rd p0 x2))) J rm0 q0 hg555 J J ?_)
   refine o1 J (o_p (v := (O (p1 == (rd p0 x2)))) J ?_)
   refine oe ?_
   refine c_cond (b := (p1 == (rd p0 x2))) J (fun hb556 => ?_) (fun hb556 => ?_)
   ·replace h := cond_t hb556 h
    refine cr (op J J (op J J (oe ?_)))
    refine c_ret (e_blk_ret (e_then_ret (e_then_ret (e_blk_ret (ej_ret ?_)))))
    replace h := esc_some h
    obtain ⟨z1, h, rfl⟩ := h
    obtain rfl := (hk1 : z1 = _)
    refine e_then_ret (e_ret ?_)
    refine r_endt J J (kc rm0 kr) ?_
    obtain rfl := si h
    exact hk
   ·replace h := cond_f hb556 h
    refine c_skip (e_blk (e_seq (c_region ?_)))
    refine o1 J (o_p (v := (I (w64 (x2 + 1)))) J ?_)
    refine op J J (o_end ?_)
    exact e_loop (l_sub (sc J (sc J (sc J (sc J sn)))) (l_keep (kc rm0 kr) (ih2 (w64 (x2 + 1)) () trivial h)))
  ·replace h := cond_f hb554 h
   refine c_exit (e_then_exit (e_then_exit (e_blk_exit ?_)))
   obtain rfl := si h
   exact ej () () J sn (kc rm0 kr)
 ·rintro d1 i1 rfl
  replace h := JK_inl hk1
  clear hk1
  refine e_seq (cr (op J J (oe ?_)))
  refine c_ret (e_ret ?_)
  refine r_endt J J (kc rm0 kr) ?_
  obtain rfl := si h
  exact hk

theorem c_erase_rest {g : Gw} (X : HP) (p0 : Vspace_Space) (b0 : Nat) (s0 : SV) (p1 : Int) (r : Vspace_Space × (List Int)) (h : m_erase_rest p0 p1 = some r) : Tri env g 134 (A [(F b0 0), (I p1)]) [X, blk b0 (.cells (A [(I p0.model), (O p0.alternate), (I p0.size.Rows), (I p0.size.Cols), (V s0), (I p0.cursor), (I p0.attrs)]) 122 (0, 0)), slO s0 26 en_Vapi_Cell p0.cells] (fun K R => ∀ (i0 : HP × SV), (Rd i0.1 i0.2 3 (enI .i64) r.2) → (Ext X i0.1) → K (V i0.2) (i0.1 :: blk b0 (.cells (A [(I r.1.model), (O r.1.alternate), (I r.1.size.Rows), (I r.1.size.Cols), (V s0), (I r.1.cursor), (I r.1.attrs)]) 122 (0, 0)) :: slO s0 26 en_Vapi_Cell r.1.cells :: R)) := by
 refine tri_of (fn := Tryz.f134) (N := 30) Tryz.func134 J J J ?_
 intro R K hk
 unfold m_erase_rest at h
 change GC _ none _ [] [(0, (F b0 0)), (1, (I p1))] (X :: blk b0 (.cells (A [(I p0.model), (O p0.alternate), (I p0.size.Rows), (I p0.size.Cols), (V s0), (I p0.cursor), (I p0.attrs)]) 122 (0, 0)) :: slO s0 26 en_Vapi_Cell p0.cells :: R) g _ _
 refine cr (op J J (oe (c_seq ?_)))
 refine c_region (op J J ?_)
 replace h := bsome h
 obtain ⟨d1, h1, h⟩ := h
 refine o1 J (o_call has121 J (c_space_Space_Size X p0 b0 s0 _ h1) (pc rm0 (pc rm0 (pc rm0 pn))) ?_)
 refine op J J ?_
 replace h := bsome h
 obtain ⟨d2, h2, h⟩ := h
 refine o1 J (o_call has53 J (c_addr_Size_Wrap X (⟨d1.Rows, d1.Cols⟩ : Vaddr_Size) p1 _ h2) (pc rm0 pn) ?_)
 refine op J J (oe (cr (op J J ?_)))
 refine op J J ?_
 replace h := bsome h
 obtain ⟨d3, h3, h⟩ := h
 refine o1 J (o_call has78 J (c_field_Start X p0 b0 s0 d2 _ h3) (pc rm0 (pc rm0 (pc rm0 pn))) ?_)
 refine op J J (oe (c_seq (cr ?_)))
 refine op J J ?_
 refine o1 J (o_p (v := (O (decide (d3 < 0)))) J ?_)
 refine oe ?_
 refine c_cond (b := (decide (d3 < 0))) J (fun hb457 => ?_) (fun hb457 => ?_)
 ·replace h := cond_t hb457 h
  refine cr (op J J ?_)
  replace h := bsome h
  obtain ⟨d5, h5, h⟩ := h
  refine o1 J (o_call has121 J (c_space_Space_Size X p0 b0 s0 _ h5) (pc rm0 (pc rm0 (pc rm0 pn))) ?_)
  refine op J J ?_
  replace h := bsome h
  obtain ⟨d6, h6, h⟩ := h
  refine o1 J (o_call has154 J (c_addr_Size_Span X (⟨d5.Rows, d5.Cols⟩ : Vaddr_Size) d2 0 _ h6) (pc rm0 pn) (fun i6 => ?_))
  replace h := bsome h
  obtain ⟨d7, h7, h⟩ := h
  refine o1 J (o_call has132 J (c_slices_Collect X (⟨(⟨d5.Rows, d5.Cols⟩ : Vaddr_Size).Rows, (⟨d5.Rows, d5.Cols⟩ : Vaddr_Size).Cols⟩ : Vaddr_Size) i6.1 d2 i6.2.1 0 i6.2.2 _ h7) (pc rm0 (pc rm0 (pc rm0 (pc rm0 pn)))) (fun i7 => ?_))
  refine op J J (oe (c_ret (e_then_ret (e_ret ?_))))
  refine r_fz rm4 rm0 (fun X561 hx562 hs563 => ?_)
  refine r_endt J J (kc rm0 (kc rm3 (kc rm3 (kd (kd (kd kr)))))) ?_
  obtain rfl := si h
  exact hk (X561, i7) hs563 hx562
 ·replace h := cond_f hb457 h
  refine c_skip (e_seq (cr (op J J (op J J ?_))))
  replace h := bsome h
  obtain ⟨d8, h8, h⟩ := h
  refine o1 J (o_call has137 J (c_field_Places X p0 b0 s0 d3 _ h8) (pc rm0 (pc rm0 (pc rm0 pn))) (fun i8 => ?_))
  replace h := bsome h
  obtain ⟨d9, h9, h⟩ := h
  refine o1 J (o_call has132 J (c_slices_Collect_2 X i8.1 p0 b0 s0 d3 i8.2 _ h9) (pc rm0 (pc rm2 (pc rm0 (pc rm0 (pc rm0 pn))))) (fun i9 => ?_))
  refine op J J (oe (cr (op J J ?_)))
  refine op J J (op J J ?_)
  refine o_fz rm5 rm0 (fun X545 hx546 hs547 => ?_)
  replace h := bsome h
  obtain ⟨d10, h10, h⟩ := h
  refine o1 J (o_call has155 J (c_slices_Index X545 d9.2.2 i9 hs547 d2 _ h10) (pc rm0 pn) ?_)
  replace h := gsome h
  obtain ⟨hg557, h⟩ := h
  refine o1 rfl (o_sl (a := d10) (b := (d9.2.2.length : Int)) (m := none) rfl rfl rfl rfl rfl rm0 hs547 rfl rfl rfl (by decide) hg557 mx_none (fun s559 hr558 => ?_))
  replace hr558 := rd_tk hr558
  refine op J J (oe (c_ret (e_ret ?_)))
  refine r_endt J J (kc rm0 (kc rm0 (kc rm0 (kd (kd kr))))) ?_
  obtain rfl := si h
  exact hk (X545, s559) hr558 hx546

theorem c_erase_round {g : Gw} (X : HP) (p0 : Vspace_Space) (b0 : Nat) (s0 : SV) (p1 : Int) (r : Vspace_Space × (List Int)) (h : m_erase_round p0 p1 = some r) : Tri env g 148 (A [(F b0 0), (I p1)]) [X, blk b0 (.cells (A [(I p0.model), (O p0.alternate), (I p0.size.Rows), (I p0.size.Cols), (V s0), (I p0.cursor), (I p0.attrs)]) 122 (0, 0)), slO s0 26 en_Vapi_Cell p0.cells] (fun K R => ∀ (i0 : HP × SV), (Rd i0.1 i0.2 3 (enI .i64) r.2) → (Ext X i0.1) → K (V i0.2) (i0.1 :: blk b0 (.cells (A [(I r.1.model), (O r.1.alternate), (I r.1.size.Rows), (I r.1.size.Cols), (V s0), (I r.1.cursor), (I r.1.attrs)]) 122 (0, 0)) :: slO s0 26 en_Vapi_Cell r.1.cells :: R)) := by
 refine tri_of (fn := Tryz.f148) (N := 16) Tryz.func148 J J J ?_
 intro R K hk
 unfold m_erase_round at h
 change GC _ none _ [] [(0, (F b0 0)), (1, (I p1))] (X :: blk b0 (.cells (A [(I p0.model), (O p0.alternate), (I p0.size.Rows), (I p0.size.Cols), (V s0), (I p0.cursor), (I p0.attrs)]) 122 (0, 0)) :: slO s0 26 en_Vapi_Cell p0.cells :: R) g _ _
 refine cr (op J J (oe (c_seq ?_)))
 refine cr (op J J ?_)
 replace h := bsome h
 obtain ⟨d1, h1, h⟩ := h
 refine o1 J (o_call has120 J (c_space_Space_Formatted X p0 b0 s0 _ h1) (pc rm0 (pc rm0 (pc rm0 pn))) ?_)
 refine oe ?_
 refine c_cond (b := d1) J (fun hb456 => ?_) (fun hb456 => ?_)
 ·replace h := cond_t hb456 h
  refine cr (op J J (op J J ?_))
  replace h := bsome h
  obtain ⟨d3, h3, h⟩ := h
  refine o1 J (o_call has134 J (c_erase_rest X p0 b0 s0 p1 _ h3) (pc rm0 (pc rm0 (pc rm0 pn))) (fun i3 f3_0 f3_1 => ?_))
  refine op J J (oe (c_ret (e_then_ret (e_ret ?_))))
  refine r_endt J J (kc rm0 (kc rm0 (kc rm0 kr))) ?_
  obtain rfl := si h
  exact hk (i3.1, i3.2) f3_0 f3_1
 ·replace h := cond_f hb456 h
  refine c_skip (e_seq (cr (op J J ?_)))
  replace h := bsome h
  obtain ⟨d4, h4, h⟩ := h
  refine o1 J (o_call has121 J (c_space_Space_Size X p0 b0 s0 _ h4) (pc rm0 (pc rm0 (pc rm0 pn))) ?_)
  refine op J J (op J J ?_)
  replace h := bsome h
  obtain ⟨d5, h5, h⟩ := h
  refine o1 J (o_call has154 J (c_addr_Size_Span X (⟨d4.Rows, d4.Cols⟩ : Vaddr_Size) p1 p1 _ h5) (pc rm0 pn) (fun i5 => ?_))
  replace h := bsome h
  obtain ⟨d6, h6, h⟩ := h
  refine o1 J (o_call has132 J (c_slices_Collect X (⟨(⟨d4.Rows, d4.Cols⟩ : Vaddr_Size).Rows, (⟨d4.Rows, d4.Cols⟩ : Vaddr_Size).Cols⟩ : Vaddr_Size) i5.1 p1 i5.2.1 p1 i5.2.2 _ h6) (pc rm0 (pc rm0 (pc rm0 (pc rm0 pn)))) (fun i6 => ?_))
  refine op J J (oe (c_ret (e_ret ?_)))
  refine r_fz rm4 rm0 (fun X571 hx572 hs573 => ?_)
  refine r_endt J J (kc rm0 (kc rm3 (kc rm3 (kd (kd (kd kr)))))) ?_
  obtain rfl := si h
  exact hk (X571, i6) hs573 hx572

theorem c_erase_Insert_1 {g : Gw} (X : HP) (p0 : Int) (b0 : Nat) (p1 : Vspace_Space) (b1 : Nat) (s0 : SV) (r : Bool) (h : m_erase_Insert_1 p0 p1 = some r) : Tri env g 150 (A [(I p0), (F b0 0)]) [X, blk b0 (.cells (A [(F b1 0)]) 31 (0, 0)), blk b1 (.cells (A [(I p1.model), (O p1.alternate), (I p1.size.Rows), (I p1.size.Cols), (V s0), (I p1.cursor), (I p1.attrs)]) 122 (0, 0)), slO s0 26 en_Vapi_Cell p1.cells] (fun K R => K (O r) (X :: blk b1 (.cells (A [(I p1.model), (O p1.alternate), (I p1.size.Rows), (I p1.size.Cols), (V s0), (I p1.cursor), (I p1.attrs)]) 122 (0, 0)) :: slO s0 26 en_Vapi_Cell p1.cells :: blk b0 (.cells (A [(F b1 0)]) 31 (0, 0)) :: R)) := by
 refine tri_of (fn := Tryz.f150) (N := 9) Tryz.func150 J J J ?_
 intro R K hk
 unfold m_erase_Insert_1 at h
 change GC _ none _ [] [(0, (I p0)), (1, (F b0 0))] (X :: blk b0 (.cells (A [(F b1 0)]) 31 (0, 0)) :: blk b1 (.cells (A [(I p1.model), (O p1.alternate), (I p1.size.Rows), (I p1.size.Cols), (V s0), (I p1.cursor), (I p1.attrs)]) 122 (0, 0)) :: slO s0 26 en_Vapi_Cell p1.cells :: R) g _ _
 refine cr (op J J (oe (c_seq ?_)))
 refine c_region ?_
 refine o1 J (o_ld (b := b0) (off := 0) (v := (F b1 0)) J rm1 J J ?_)
 refine op J J ?_
 replace h := bsome h
 obtain ⟨d1, h1, h⟩ := h
 refine o1 J (o_call has13 J (c_space_Space_At X p1 b1 s0 p0 _ h1) (pc rm0 (pc rm1 (pc rm1 pn))) ?_)
 refine o1 J (o_field (v := (U d1.Char)) J J J ?_)
 refine o1 J (o_p (v := (O (d1.Char == 0))) J ?_)
 refine op J J (oe (c_ret (e_ret ?_)))
 refine r_endt J J (kc rm0 (kc rm0 (kc rm0 (kc rm0 kr)))) ?_
 obtain rfl := si h
 exact hk

theorem c_slices_IndexFunc {g : Gw} (X : HP) (p0 : List Int) (s0 : SV) (q0 : Rd X s0 3 (enI .i64) p0) (b0 : Nat) (p1 : Vspace_Space) (b1 : Nat) (s1 : SV) (r : Int) (h : m_slices_IndexFunc p0 p1 = some r) : Tri env g 149 (A [(V s0), (.func (.func 150) #[] (A [(F b0 0)]))]) [X, blk b0 (.cells (A [(F b1 0)]) 31 (0, 0)), blk b1 (.cells (A [(I p1.model), (O p1.alternate), (I p1.size.Rows), (I p1.size.Cols), (V s1), (I p1.cursor), (I p1.attrs)]) 122 (0, 0)), slO s1 26 en_Vapi_Cell p1.cells] (fun K R => K (I r) (X :: blk b1 (.cells (A [(I p1.model), (O p1.alternate), (I p1.size.Rows), (I p1.size.Cols), (V s1), (I p1.cursor), (I p1.attrs)]) 122 (0, 0)) :: slO s1 26 en_Vapi_Cell p1.cells :: blk b0 (.cells (A [(F b1 0)]) 31 (0, 0)) :: R)) := by
 refine tri_of (fn := Tryz.f149) (N := 19) Tryz.func149 J J J ?_
 intro R K hk
 unfold m_slices_IndexFunc at h
 change GC _ none _ [] [(0, (V s0)), (1, (.func (.func 150) #[] (A [(F b0 0)])))] (X :: blk b0 (.cells (A [(F b1 0)]) 31 (0, 0)) :: blk b1 (.cells (A [(I p1.model), (O p1.alternate), (I p1.size.Rows), (I p1.size.Cols), (V s1), (I p1.cursor), (I p1.attrs)]) 122 (0, 0)) :: slO s1 26 en_Vapi_Cell p1.cells :: R) g _ _
 refine cr (op J J (oe (c_seq ?_)))
 refine cr (op J J ?_)
 refine o1 J (o_len (s := s0) J J J rm0 q0 ?_)
 refine op J J (oe ?_)
 replace h := jn_some h
 obtain ⟨y1, h, hk1⟩ := h
 refine cj (D := Unit) (ι := Unit) (fun d1 i1 => y1 = Sum.inl d1) (fun d1 i1 => []) (fun d1 i1 => X :: blk b1 (.cells (A [(I p1.model), (O p1.alternate), (I p1.size.Rows), (I p1.size.Cols), (V s1), (I p1.cursor), (I p1.attrs)]) 122 (0, 0)) :: blk b0 (.cells (A [(F b1 0)]) 31 (0, 0)) :: slO s1 26 en_Vapi_Cell p1.cells :: R) ?_ ?_
 ·refine c_block ?_
  refine c_loop (l_sub (sc J (sc J (sc J (sc J sn)))) (l_keep (kc rm0 (kc rm0 (kc rm0 (kc rm0 kr)))) (lf (X := Int) (ι := Unit) (fun k x => slices_IndexFunc_l2 p0 p1 k x) _ (fun x2 i2 => True) (fun x2 i2 => [(8, (I x2)), (7, (I (p0.length : Int))), (0, (V s0)), (1, (.func (.func 150) #[] (A [(F b0 0)])))]) (fun x2 i2 => X :: blk b0 (.cells (A [(F b1 0)]) 31 (0, 0)) :: blk b1 (.cells (A [(I p1.model), (O p1.alternate), (I p1.size.Rows), (I p1.size.Cols), (V s1), (I p1.cursor), (I p1.attrs)]) 122 (0, 0)) :: slO s1 26 en_Vapi_Cell p1.cells :: R) (fun _ => J) ?_ fuel 0 () trivial h)))
  clear h
  rintro k2 ih2 x2 i2 _ h
  rw [slices_IndexFunc_l2.eq_2] at h
  refine l_round (cr ?_)
  refine o1 J (o_p (v := (O (decide (x2 < (p0.length : Int))))) J ?_)
  refine oe (c_seq ?_)
  refine c_cond (b := (decide (x2 < (p0.length : Int)))) J (fun hb582 => ?_) (fun hb582 => ?_)
  ·replace h := cond_t hb582 h
   refine c_skip (e_seq (c_seq (c_block (cr ?_))))
   refine op J J (op J J (oe (cr ?_)))
   refine op J J (op J J (op J J ?_))
   replace h := gsome h
   obtain ⟨hg583, h⟩ := h
   refine o1 J (o_ix (s := s0) (n := x2) (e := (enI .i64)) J J J J J J rm0 q0 hg583 ?_)
   refine o1 J (o_ldE (s := s0) (e := (enI .i64)) (n := x2) (f := 0) (v := (I (rd p0 x2))) J rm0 q0 hg583 J J ?_)
   replace h := bsome h
   obtain ⟨d5, h5, h⟩ := h
   refine o1 J (o_callv (vs := [(I (rd p0 x2))]) (cap := [(F b0 0)]) has150 J J (c_erase_Insert_1 X (rd p0 x2) b0 p1 b1 s1 _ h5) (pc rm0 (pc rm0 (pc rm0 (pc rm0 pn)))) ?_)
   refine oe ?_
   refine c_cond (b := d5) J (fun hb584 => ?_) (fun hb584 => ?_)
   ·replace h := cond_t hb584 h
    refine cr (op J J (op J J (oe ?_)))
    refine c_ret (e_blk_ret (e_then_ret (e_then_ret (e_blk_ret (ej_ret ?_)))))
    replace h := esc_some h
    obtain ⟨z1, h, rfl⟩ := h
    obtain rfl := (hk1 : z1 = _)
    refine e_then_ret (e_ret ?_)
    refine r_endt J J (kc rm0 (kc rm0 (kc rm0 (kc rm0 kr)))) ?_
    obtain rfl := si h
    exact hk
   ·replace h := cond_f hb584 h
    refine c_skip (e_blk (e_seq (c_region ?_)))
    refine o1 J (o_p (v := (I (w64 (x2 + 1)))) J ?_)
    refine op J J (o_end ?_)
    exact e_loop (l_sub (sc J (sc J (sc J (sc J sn)))) (l_keep (kc rm0 (kc rm2 (kc rm0 (kc rm0 kr)))) (ih2 (w64 (x2 + 1)) () trivial h)))
  ·replace h := cond_f hb582 h
   refine c_exit (e_then_exit (e_then_exit (e_blk_exit ?_)))
   obtain rfl := si h
   exact ej () () J sn (kc rm0 (kc rm1 (kc rm0 (kc rm0 kr))))
 ·rintro d1 i1 rfl
  replace h := JK_inl hk1
  clear hk1
  refine e_seq (cr (op J J (oe ?_)))
  refine c_ret (e_ret ?_)
  refine r_endt J J (kc rm0 (kc rm0 (kc rm1 (kc rm0 kr)))) ?_
  obtain rfl := si h
  exact hk

theorem c_erase_Insert {g : Gw} (X : HP) (p0 : Vspace_Space) (b0 : Nat) (s0 : SV) (p1 : Int) (p2 : Int) (r : Vspace_Space × Bool) (h : m_erase_Insert p0 p1 p2 = some r) : Tri env g 130 (A [(F b0 0), (I p1), (U p2)]) [X, blk b0 (.cells (A [(I p0.model), (O p0.alternate), (I p0.size.Rows), (I p0.size.Cols), (V s0), (I p0.cursor), (I p0.attrs)]) 122 (0, 0)), slO s0 26 en_Vapi_Cell p0.cells] (fun K R => ∀ (i0 : HP), (Ext X i0) → K (O r.2) (i0 :: blk b0 (.cells (A [(I r.1.model), (O r.1.alternate), (I r.1.size.Rows), (I r.1.size.Cols), (V s0), (I r.1.cursor), (I r.1.attrs)]) 122 (0, 0)) :: slO s0 26 en_Vapi_Cell r.1.cells :: R)) := by
 refine tri_of (fn := Tryz.f130) (N := 50) Tryz.func130 J J J ?_
 intro R K hk
 unfold m_erase_Insert at h
 change GC _ none _ [] [(0, (F b0 0)), (1, (I p1)), (2, (U p2))] (X :: blk b0 (.cells (A [(I p0.model), (O p0.alternate), (I p0.size.Rows), (I p0.size.Cols), (V s0), (I p0.cursor), (I p0.attrs)]) 122 (0, 0)) :: slO s0 26 en_Vapi_Cell p0.cells :: R) g _ _
 refine cr ?_
 refine o1 J (o_box (cs := [(F b0 0)]) J J (fun b453 => ?_))
 refine op J J (oe (c_seq (cr ?_)))
 refine o1 J (o_ld (b := b453) (off := 0) (v := (F b0 0)) J rm0 J J ?_)
 refine op J J ?_
 replace h := bsome h
 obtain ⟨d1, h1, h⟩ := h
 refine o1 J (o_call has129 J (c_field_Open X p0 b0 s0 p1 _ h1) (pc rm1 (pc rm1 (pc rm1 pn))) ?_)
 refine o1 J (o_p (v := (O (!d1))) J ?_)
 refine oe ?_
 refine c_cond (b := (!d1)) J (fun hb455 => ?_) (fun hb455 => ?_)
 ·replace h := cond_t hb455 h
  refine cr (op J J (oe (c_ret ?_)))
  refine e_then_ret (e_ret ?_)
  refine r_endt J J (kc rm0 (kc rm0 (kc rm0 (kd kr)))) ?_
  obtain rfl := si h
  exact hk X (Ext.refl _)
 ·replace h := cond_f hb455 h
  refine c_skip (e_seq (cr ?_))
  refine o1 J (o_ld (b := b453) (off := 0) (v := (F b0 0)) J rm3 J J ?_)
  refine op J J ?_
  replace h := bsome h
  obtain ⟨d3, h3, h⟩ := h
  refine o1 J (o_call has148 J (c_erase_round X p0 b0 s0 p1 _ h3) (pc rm0 (pc rm0 (pc rm0 pn))) (fun i3 f3_0 f3_1 => ?_))
  refine op J J (oe (cr (op J J ?_)))
  refine op J J ?_
  replace h := bsome h
  obtain ⟨d4, h4, h⟩ := h
  refine o1 J (o_call has149 J (c_slices_IndexFunc i3.1 d3.2 i3.2 f3_0 b453 d3.1 b0 s0 _ h4) (pc rm0 (pc rm2 (pc rm0 (pc rm0 pn)))) ?_)
  refine op J J (oe (c_seq (cr ?_)))
  refine op J J ?_
  refine o1 J (o_p (v := (O (decide (d4 < 0)))) J ?_)
  refine oe ?_
  refine c_cond (b := (decide (d4 < 0))) J (fun hb585 => ?_) (fun hb585 => ?_)
  ·replace h := cond_t hb585 h
   refine cr (op J J (oe (c_ret ?_)))
   refine e_then_ret (e_ret ?_)
   refine r_endt J J (kc rm0 (kc rm0 (kc rm0 (kd kr)))) ?_
   obtain rfl := si h
   exact hk i3.1 f3_1
  ·replace h := cond_f hb585 h
   refine c_skip (e_seq (c_seq (cr (op J J ?_))))
   refine op J J (oe ?_)
   replace h := bsome h
   obtain ⟨d6, h, hk6⟩ := h
   refine cj (D := Unit) (ι := Unit) (fun _ i6 => True) (fun _ i6 => [(7, (V i3.2)), (3, (F b453 0)), (1, (I p1)), (2, (U p2))]) (fun _ i6 => i3.1 :: blk b453 (.cells (A [(F b0 0)]) 31 (0, 0)) :: blk b0 (.cells (A [(I d6.1), (O d6.2.1), (I d6.2.2.1), (I d6.2.2.2.1), (V s0), (I d6.2.2.2.2.2.1), (I d6.2.2.2.2.2.2)]) 122 (0, 0)) :: slO s0 26 en_Vapi_Cell d6.2.2.2.2.1 :: R) ?_ ?_
   ·refine c_block ?_
    refine c_loop (l_sub (sc J (sc J (sc J (sc J (sc J sn))))) (l_keep (kc rm0 (kc rm2 (kc rm0 (kc rm0 kr)))) (lf (X := Int × Int × Bool × Int × Int × (List Vapi_Cell) × Int × Int) (ι := Unit) (fun k x => erase_Insert_l7 d3 k x) _ (fun x7 i7 => True) (fun x7 i7 => [(9, (I x7.1)), (7, (V i3.2)), (3, (F b453 0)), (1, (I p1)), (2, (U p2))]) (fun x7 i7 => i3.1 :: blk b453 (.cells (A [(F b0 0)]) 31 (0, 0)) :: blk b0 (.cells (A [(I x7.2.1), (O x7.2.2.1), (I x7.2.2.2.1), (I x7.2.2.2.2.1), (V s0), (I x7.2.2.2.2.2.2.1), (I x7.2.2.2.2.2.2.2)]) 122 (0, 0)) :: slO s0 26 en_Vapi_Cell x7.2.2.2.2.2.1 :: R) (fun _ => J) ?_ fuel (d4, d3.1.model, d3.1.alternate, d3.1.size.Rows, d3.1.size.Cols, d3.1.cells, d3.1.cursor, d3.1.attrs) () trivial h)))
    clear h
    rintro k7 ih7 x7 i7 _ h
    rw [erase_Insert_l7.eq_2] at h
    refine l_round (c_seq (cr (op J J ?_)))
    refine o1 J (o_p (v := (O (decide (x7.1 > 0)))) J ?_)
    refine oe ?_
    refine c_cond (b := (decide (x7.1 > 0))) J (fun hb596 => ?_) (fun hb596 => ?_)
    ·replace h := cond_t hb596 h
     refine c_skip (e_seq (c_seq (c_block ?_)))
     replace h := gsome h
     obtain ⟨hg597, h⟩ := h
     replace h := gsome h
     obtain ⟨hg598, h⟩ := h
     refine c_draw (n := 2) (q := [(0, 27, (F b0 0)), (1, 28, (V i3.2)), (2, 29, (I x7.1)), (3, 30, (F (SV.blk i3.2) (SV.off i3.2 + Int.toNat x7.1 * 1))), (4, 31, (I (rd d3.2 x7.1))), (5, 32, (F b0 0)), (6, 33, (V i3.2)), (7, 34, (I x7.1)), (8, 35, (I (w64 (x7.1 - 1)))), (9, 36, (F (SV.blk i3.2) (SV.off i3.2 + Int.toNat (w64 (x7.1 - 1)) * 1))), (10, 37, (I (rd d3.2 (w64 (x7.1 - 1)))))]) (pend := [0, 1, 2, 3, 4, 5, 6, 7, 8, 9, 10]) J J J ?_
     replace h := bsome h
     obtain ⟨d11, h11, h⟩ := h
     refine ⟨⟨fun _ => ⟨J, J, J, .inl ⟨J, (o_ld (b := b453) (off := 0) (v := (F b0 0)) J rm1 J J ⟨J, J⟩)⟩⟩, fun _ => ⟨J, J, J, .inl ⟨J, (o_p J ⟨J, J⟩)⟩⟩, fun _ => ⟨J, J, J, .inl ⟨J, (o_p J ⟨J, J⟩)⟩⟩, fun _ => ⟨J, J, J, .inl ⟨J, (o_ix (s := i3.2) (n := x7.1) (e := (enI .i64)) J J J J J J rm0 f3_0 hg597 ⟨J, J⟩)⟩⟩, fun _ => ⟨J, J, J, .inl ⟨J, (o_ldE (s := i3.2) (e := (enI .i64)) (n := x7.1) (f := 0) (v := (I (rd d3.2 x7.1))) J rm0 f3_0 hg597 J J ⟨J, J⟩)⟩⟩, fun _ => ⟨J, J, J, .inl ⟨J, (o_ld (b := b453) (off := 0) (v := (F b0 0)) J rm1 J J ⟨J, J⟩)⟩⟩, fun _ => ⟨J, J, J, .inl ⟨J, (o_p J ⟨J, J⟩)⟩⟩, fun _ => ⟨J, J, J, .inl ⟨J, (o_p J ⟨J, J⟩)⟩⟩, fun _ => ⟨J, J, J, .inl ⟨J, (o_p (v := (I (w64 (x7.1 - 1)))) J ⟨J, J⟩)⟩⟩, fun _ => ⟨J, J, J, .inl ⟨J, (o_ix (s := i3.2) (n := w64 (x7.1 - 1)) (e := (enI .i64)) J J J J J J rm0 f3_0 hg598 ⟨J, J⟩)⟩⟩, fun _ => ⟨J, J, J, .inl ⟨J, (o_ldE (s := i3.2) (e := (enI .i64)) (n := w64 (x7.1 - 1)) (f := 0) (v := (I (rd d3.2 (w64 (x7.1 - 1))))) J rm0 f3_0 hg598 J J ⟨J, J⟩)⟩⟩, trivial⟩, J, .inr ⟨[11], J, J, ⟨J, .inl J, ?_⟩, trivial⟩⟩
     refine (o_call has13 J (c_space_Space_At i3.1 (⟨x7.2.1, x7.2.2.1, (⟨x7.2.2.2.1, x7.2.2.2.2.1⟩ : Vaddr_Size), x7.2.2.2.2.2.1, x7.2.2.2.2.2.2.1, x7.2.2.2.2.2.2.2⟩ : Vspace_Space) b0 s0 (rd d3.2 (w64 (x7.1 - 1))) _ h11) (pc rm0 (pc rm1 (pc rm1 pn))) ?_)
     refine ⟨[(12, 39, (U d11.Char))], [0, 1, 2, 3, 4, 12], J, J, J, J, ?_⟩
     replace h := bsome h
     obtain ⟨d12, h12, h⟩ := h
     refine ⟨⟨fun _ => ⟨J, J, J, .inl ⟨J, (o_field (v := (U d11.Char)) J J J ⟨J, J⟩)⟩⟩, fun _ => ⟨J, J, J, .inl ⟨J, (o_ld (b := b453) (off := 0) (v := (F b0 0)) J rm3 J J ⟨J, J⟩)⟩⟩, fun _ => ⟨J, J, J, .inl ⟨J, (o_p J ⟨J, J⟩)⟩⟩, fun _ => ⟨J, J, J, .inl ⟨J, (o_p J ⟨J, J⟩)⟩⟩, fun _ => ⟨J, J, J, .inl ⟨J, (o_ix (s := i3.2) (n := x7.1) (e := (enI .i64)) J J J J J J rm0 f3_0 hg597 ⟨J, J⟩)⟩⟩, fun _ => ⟨J, J, J, .inl ⟨J, (o_ldE (s := i3.2) (e := (enI .i64)) (n := x7.1) (f := 0) (v := (I (rd d3.2 x7.1))) J rm0 f3_0 hg597 J J ⟨J, J⟩)⟩⟩, (fun h => nomatch h), (fun h => nomatch h), (fun h => nomatch h), (fun h => nomatch h), (fun h => nomatch h), (fun h => nomatch h), trivial⟩, J, .inr ⟨[13], J, J, ⟨J, .inl J, ?_⟩, trivial⟩⟩
     refine (o_call has19 J (c_space_Space_Put i3.1 (⟨x7.2.1, x7.2.2.1, (⟨x7.2.2.2.1, x7.2.2.2.2.1⟩ : Vaddr_Size), x7.2.2.2.2.2.1, x7.2.2.2.2.2.2.1, x7.2.2.2.2.2.2.2⟩ : Vspace_Space) b0 s0 (rd d3.2 x7.1) d11.Char _ h12) (pc rm0 (pc rm0 (pc rm0 pn))) ?_)
     refine ⟨[], [], J, J, J, J, ?_⟩
     refine ⟨⟨(fun h => nomatch h), (fun h => nomatch h), (fun h => nomatch h), (fun h => nomatch h), (fun h => nomatch h), (fun h => nomatch h), (fun h => nomatch h), (fun h => nomatch h), (fun h => nomatch h), (fun h => nomatch h), (fun h => nomatch h), (fun h => nomatch h), trivial⟩, J, J, J, ?_⟩
     refine e_blk (e_seq (c_region (op J J ?_)))
     refine o1 J (o_p (v := (I (w64 (x7.1 - 1)))) J ?_)
     refine op J J (o_end ?_)
     exact e_loop (l_sub (sc J (sc J (sc J (sc J (sc J sn))))) (l_keep (kc rm0 (kc rm2 (kc rm0 (kc rm0 kr)))) (ih7 (w64 (x7.1 - 1), d12.model, d12.alternate, d12.size.Rows, d12.size.Cols, d12.cells, d12.cursor, d12.attrs) () trivial h)))
    ·replace h := cond_f hb596 h
     refine c_exit (e_then_exit (e_then_exit (e_blk_exit ?_)))
     obtain rfl := si h
     exact ej () () trivial (sc J (sc J (sc J (sc J sn)))) (kc rm0 (kc rm0 (kc rm0 (kc rm0 kr))))
   ·rintro _ i6 _
    replace h := hk6
    clear hk6
    refine e_seq (c_seq ?_)
    replace h := gsome h
    obtain ⟨hg602, h⟩ := h
    refine c_draw (n := 1) (q := [(0, 41, (F b0 0)), (1, 42, (V i3.2)), (2, 43, (F (SV.blk i3.2) (SV.off i3.2 + Int.toNat 0 * 1))), (3, 44, (I (rd d3.2 0))), (4, 45, (U p2))]) (pend := [0, 1, 2, 3, 4]) J J J ?_
    replace h := bsome h
    obtain ⟨d14, h14, h⟩ := h
    refine ⟨⟨fun _ => ⟨J, J, J, .inl ⟨J, (o_ld (b := b453) (off := 0) (v := (F b0 0)) J rm1 J J ⟨J, J⟩)⟩⟩, fun _ => ⟨J, J, J, .inl ⟨J, (o_p J ⟨J, J⟩)⟩⟩, fun _ => ⟨J, J, J, .inl ⟨J, (o_ix (s := i3.2) (n := 0) (e := (enI .i64)) J J J J J J rm0 f3_0 hg602 ⟨J, J⟩)⟩⟩, fun _ => ⟨J, J, J, .inl ⟨J, (o_ldE (s := i3.2) (e := (enI .i64)) (n := 0) (f := 0) (v := (I (rd d3.2 0))) J rm0 f3_0 hg602 J J ⟨J, J⟩)⟩⟩, fun _ => ⟨J, J, J, .inl ⟨J, (o_p J ⟨J, J⟩)⟩⟩, trivial⟩, J, .inr ⟨[5], J, J, ⟨J, .inl J, ?_⟩, trivial⟩⟩
    refine (o_call has19 J (c_space_Space_Put i3.1 (⟨d6.1, d6.2.1, (⟨d6.2.2.1, d6.2.2.2.1⟩ : Vaddr_Size), d6.2.2.2.2.1, d6.2.2.2.2.2.1, d6.2.2.2.2.2.2⟩ : Vspace_Space) b0 s0 (rd d3.2 0) p2 _ h14) (pc rm0 (pc rm1 (pc rm1 pn))) ?_)
    refine ⟨[], [], J, J, J, J, ?_⟩
    refine ⟨⟨(fun h => nomatch h), (fun h => nomatch h), (fun h => nomatch h), (fun h => nomatch h), (fun h => nomatch h), trivial⟩, J, J, J, ?_⟩
    refine e_seq (cr ?_)
    refine o1 J (o_ld (b := b453) (off := 0) (v := (F b0 0)) J rm3 J J ?_)
    refine op J J ?_
    replace h := bsome h
    obtain ⟨d15, h15, h⟩ := h
    refine o1 J (o_call has84 J (c_field_Modify i3.1 d14 b0 s0 p1 _ h15) (pc rm0 (pc rm0 (pc rm0 pn))) ?_)
    refine oe (cr (op J J (o_end ?_)))
    refine e_seq (c_ret (e_ret ?_))
    refine r_endt J J (kc rm0 (kc rm0 (kc rm0 (kd kr)))) ?_
    obtain rfl := si h
    exact hk i3.1 f3_1

theorem c_attr_Field_Skipped {g : Gw} (X : HP) (p0 : Vattr_Field) (r : Bool) (h : m_attr_Field_Skipped p0 = some r) : Tri env g 151 (A [(.agg (A [(O p0.Protected), (O p0.Numeric), (I p0.Display), (O p0.Modified)]))]) [X] (fun K R => K (O r) (X :: R)) := by
 refine tri_of (fn := Tryz.f151) (N := 9) Tryz.func151 J J J ?_
 intro R K hk
 unfold m_attr_Field_Skipped at h
 change GC _ none _ [] [(0, (.agg (A [(O p0.Protected), (O p0.Numeric), (I p0.Display), (O p0.Modified)])))] (X :: R) g _ _
 refine cr ?_
 refine o1 J (o_box (cs := [(O p0.Protected), (O p0.Numeric), (I p0.Display), (O p0.Modified)]) J J (fun b619 => ?_))
 refine op J J (oe (c_seq ?_))
 replace h := bsome h
 obtain ⟨d1, h, hk1⟩ := h
 refine cj (D := Unit) (ι := Unit) (fun _ i1 => True) (fun _ i1 => [(2, (O d1))]) (fun _ i1 => X :: R) ?_ ?_
 ·refine c_region ?_
  refine o1 J (o_fa (fd := ⟨ "Protected", 4, 0, false, "", "", 0⟩) J J J J J ?_)
  refine o1 J (o_ld (b := b619) (off := 0) (v := (O p0.Protected)) J rm0 J J ?_)
  refine op J J ?_
  rcases bool_or (p0.Protected) with hb621 | hb621
  ·replace h := cond_t hb621 h
   refine oy J J J hb621 (o_fa (fd := ⟨ "Numeric", 4, 1, false, "", "", 1⟩) J J J J J ?_)
   refine oy J J J hb621 (o_ld (b := b619) (off := 1) (v := (O p0.Numeric)) J rm0 J J ?_)
   refine o1 J (o_pick_t J hb621 J ?_)
   refine op J J (o_end ?_)
   obtain rfl := si h
   exact ej () () trivial (sc J sn) (kc rm1 (kd kr))
  ·replace h := cond_f hb621 h
   refine on J J J hb621 ?_
   refine on J J J hb621 ?_
   refine o1 J (o_pick_f J hb621 J ?_)
   refine op J J (o_end ?_)
   obtain rfl := si h
   exact ej () () trivial (sc J sn) (kc rm1 (kd kr))
 ·rintro _ i1 _
  replace h := hk1
  clear hk1
  refine e_seq (c_ret (e_ret ?_))
  refine r_endt J J (kc rm0 kr) ?_
  obtain rfl := si h
  exact hk

theorem c_cursor_After {g : Gw} (X : HP) (p0 : Vspace_Space) (b0 : Nat) (s0 : SV) (r : Vspace_Space) (h : m_cursor_After p0 = some r) : Tri env g 131 (A [(F b0 0)]) [X, blk b0 (.cells (A [(I p0.model), (O p0.alternate), (I p0.size.Rows), (I p0.size.Cols), (V s0), (I p0.cursor), (I p0.attrs)]) 122 (0, 0)), slO s0 26 en_Vapi_Cell p0.cells] (fun K R => K (.tuple (A [])) (X :: blk b0 (.cells (A [(I r.model), (O r.alternate), (I r.size.Rows), (I r.size.Cols), (V s0), (I r.cursor), (I r.attrs)]) 122 (0, 0)) :: slO s0 26 en_Vapi_Cell r.cells :: R)) := by
 refine tri_of (fn := Tryz.f131) (N := 22) Tryz.func131 J J J ?_
 intro R K hk
 unfold m_cursor_After at h
 change GC _ none _ [] [(0, (F b0 0))] (X :: blk b0 (.cells (A [(I p0.model), (O p0.alternate), (I p0.size.Rows), (I p0.size.Cols), (V s0), (I p0.cursor), (I p0.attrs)]) 122 (0, 0)) :: slO s0 26 en_Vapi_Cell p0.cells :: R) g _ _
 refine cr (op J J ?_)
 replace h := bsome h
 obtain ⟨d1, h1, h⟩ := h
 refine o1 J (o_call has89 J (c_cursor_Move X p0 b0 s0 0 1 _ h1) (pc rm0 (pc rm0 (pc rm0 pn))) ?_)
 refine oe (cr (op J J (op J J ?_)))
 replace h := bsome h
 obtain ⟨d2, h2, h⟩ := h
 refine o1 J (o_call has24 J (c_space_Space_Cursor X d1 b0 s0 _ h2) (pc rm0 (pc rm0 (pc rm0 pn))) ?_)
 replace h := bsome h
 obtain ⟨d3, h3, h⟩ := h
 refine o1 J (o_call has13 J (c_space_Space_At X d1 b0 s0 d2 _ h3) (pc rm0 (pc rm0 (pc rm0 pn))) ?_)
 refine o1 J (o_alloc (cs := [(U 0), (O false), (U 0), (U 0), (U 0), (U 0)]) J J (fun b616 => ?_))
 refine o0 (o_st (b := b616) (off := 0) (vs := [(U d3.Char), (O d3.Attr), (U d3.FA), (U d3.High), (U d3.Color), (U d3.f_Set)]) (cs' := [(U d3.Char), (O d3.Attr), (U d3.FA), (U d3.High), (U d3.Color), (U d3.f_Set)]) J J rp0 J J J J J J ?_)
 refine oe (c_block (cr ?_))
 refine o1 J (o_fa (fd := ⟨ "Attr", 4, 1, false, "", "", 1⟩) J J J J J ?_)
 refine o1 J (o_ld (b := b616) (off := 1) (v := (O d3.Attr)) J rm0 J J ?_)
 refine o1 J (o_p (v := (O (!d3.Attr))) J ?_)
 refine op J J (oe ?_)
 replace h := bsome h
 obtain ⟨d4, h, hk4⟩ := h
 refine cj (D := Unit) (ι := Unit) (fun _ i4 => True) (fun _ i4 => []) (fun _ i4 => X :: blk b0 (.cells (A [(I d4.1), (O d4.2.1), (I d4.2.2.1), (I d4.2.2.2.1), (V s0), (I d4.2.2.2.2.2.1), (I d4.2.2.2.2.2.2)]) 122 (0, 0)) :: slO s0 26 en_Vapi_Cell d4.2.2.2.2.1 :: R) ?_ ?_
 ·refine c_cond (b := (!d3.Attr)) J (fun hb618 => ?_) (fun hb618 => ?_)
  ·replace h := cond_t hb618 h
   refine c_skip ?_
   obtain rfl := si h
   exact ej () () trivial sn (kc rm1 (kc rm1 (kc rm1 (kd kr))))
  ·replace h := cond_f hb618 h
   refine cr ?_
   refine o1 J (o_fa (fd := ⟨ "FA", 5, 2, false, "", "", 2⟩) J J J J J ?_)
   refine o1 J (o_ld (b := b616) (off := 2) (v := (U d3.FA)) J rm0 J J ?_)
   replace h := bsome h
   obtain ⟨d5, h5, h⟩ := h
   refine o1 J (o_call has122 J (c_attr_Of X d3.FA _ h5) (pc rm1 pn) ?_)
   replace h := bsome h
   obtain ⟨d6, h6, h⟩ := h
   refine o1 J (o_call has151 J (c_attr_Field_Skipped X (⟨d5.Protected, d5.Numeric, d5.Display, d5.Modified⟩ : Vattr_Field) _ h6) (pc rm0 pn) ?_)
   refine op J J (oe ?_)
   refine c_cond (b := d6) J (fun hb622 => ?_) (fun hb622 => ?_)
   ·replace h := cond_t hb622 h
    refine c_region (op J J ?_)
    replace h := bsome h
    obtain ⟨d7, h7, h⟩ := h
    refine o1 J (o_call has85 J (c_cursor_Tab X d1 b0 s0 _ h7) (pc rm0 (pc rm1 (pc rm1 pn))) ?_)
    refine o_end ?_
    obtain rfl := si h
    exact ej () () trivial sn (kc rm0 (kc rm0 (kc rm0 (kd kr))))
   ·replace h := cond_f hb622 h
    refine c_region (op J J ?_)
    replace h := bsome h
    obtain ⟨d8, h8, h⟩ := h
    refine o1 J (o_call has89 J (c_cursor_Move X d1 b0 s0 0 1 _ h8) (pc rm0 (pc rm1 (pc rm1 pn))) ?_)
    refine o_end ?_
    obtain rfl := si h
    exact ej () () trivial sn (kc rm0 (kc rm0 (kc rm0 (kd kr))))
 ·rintro _ i4 _
  replace h := hk4
  clear hk4
  refine e_blk (e_fall ?_)
  refine r_endt J J (kc rm0 (kc rm0 (kc rm0 kr))) ?_
  obtain rfl := si h
  exact hk

theorem c_keys_Board_enter {g : Gw} (X : HP) (p0 : Vkeys_Board) (b0 : Nat) (p1 : Vspace_Space) (b1 : Nat) (s0 : SV) (p2 : Vpage_Page) (b2 : Nat) (p3 : Int) (r : Vspace_Space × Vpage_Page × Vkeys_Board × Int) (h : m_keys_Board_enter p0 p1 p2 p3 = some r) : Tri env g 91 (A [(F b0 0), (U p3)]) [X, blk b0 (.cells (A [(F b1 0), (F b2 0), (I p0.lock), (O p0.inserts), (U p0.aid)]) 115 (0, 0)), blk b1 (.cells (A [(I p1.model), (O p1.alternate), (I p1.size.Rows), (I p1.size.Cols), (V s0), (I p1.cursor), (I p1.attrs)]) 122 (0, 0)), slO s0 26 en_Vapi_Cell p1.cells, pgO b2 p2.number] (fun K R => ∀ (i0 : HP), (Ext X i0) → K (I r.2.2.2) (i0 :: blk b1 (.cells (A [(I r.1.model), (O r.1.alternate), (I r.1.size.Rows), (I r.1.size.Cols), (V s0), (I r.1.cursor), (I r.1.attrs)]) 122 (0, 0)) :: slO s0 26 en_Vapi_Cell r.1.cells :: pgO b2 r.2.1.number :: blk b0 (.cells (A [(F b1 0), (F b2 0), (I r.2.2.1.lock), (O r.2.2.1.inserts), (U r.2.2.1.aid)]) 115 (0, 0)) :: R)) := by
 refine tri_of (fn := Tryz.f91) (N := 103) Tryz.func91 J J J ?_
 intro R K hk
 unfold m_keys_Board_enter at h
 change GC _ none _ [] [(0, (F b0 0)), (1, (U p3))] (X :: blk b0 (.cells (A [(F b1 0), (F b2 0), (I p0.lock), (O p0.inserts), (U p0.aid)]) 115 (0, 0)) :: blk b1 (.cells (A [(I p1.model), (O p1.alternate), (I p1.size.Rows), (I p1.size.Cols), (V s0), (I p1.cursor), (I p1.attrs)]) 122 (0, 0)) :: slO s0 26 en_Vapi_Cell p1.cells :: pgO b2 p2.number :: R) g _ _
 refine cr (op J J (oe (c_seq ?_)))
 refine c_region (op J J (op J J ?_))
 refine o1 J (o_fa (fd := ⟨ "s", 31, 0, false, "", "vitrine/keys", 0⟩) J J J J J ?_)
 refine o1 J (o_ld (b := b0) (off := 0) (v := (F b1 0)) J rm1 J J ?_)
 replace h := bsome h
 obtain ⟨d1, h1, h⟩ := h
 refine o1 J (o_call has24 J (c_space_Space_Cursor X p1 b1 s0 _ h1) (pc rm0 (pc rm1 (pc rm1 pn))) ?_)
 refine op J J (oe (cr (op J J ?_)))
 refine op J J ?_
 refine o1 J (o_fa (fd := ⟨ "s", 31, 0, false, "", "vitrine/keys", 0⟩) J J J J J ?_)
 refine o1 J (o_ld (b := b0) (off := 0) (v := (F b1 0)) J rm3 J J ?_)
 refine op J J ?_
 replace h := bsome h
 obtain ⟨d2, h2, h⟩ := h
 refine o1 J (o_call has79 J (c_field_Of X p1 b1 s0 d1 _ h2) (pc rm0 (pc rm0 (pc rm0 pn))) ?_)
 refine op J J (op J J (op J J ?_))
 refine o1 J (o_alloc (cs := [(O false), (O false), (I 0), (O false)]) J J (fun b439 => ?_))
 refine o0 (o_st (b := b439) (off := 0) (vs := [(O d2.1.Protected), (O d2.1.Numeric), (I d2.1.Display), (O d2.1.Modified)]) (cs' := [(O d2.1.Protected), (O d2.1.Numeric), (I d2.1.Display), (O d2.1.Modified)]) J J rp0 J J J J J J ?_)
 refine op J J (oe (c_seq (c_block (c_seq ?_))))
 refine c_region (op J J (op J J ?_))
 refine o1 J (o_fa (fd := ⟨ "s", 31, 0, false, "", "vitrine/keys", 0⟩) J J J J J ?_)
 refine o1 J (o_ld (b := b0) (off := 0) (v := (F b1 0)) J rm4 J J ?_)
 refine op J J ?_
 replace h := bsome h
 obtain ⟨d4, h4, h⟩ := h
 refine o1 J (o_call has129 J (c_field_Open X p1 b1 s0 d1 _ h4) (pc rm1 (pc rm1 (pc rm1 pn))) ?_)
 refine o1 J (o_p (v := (O (!d4))) J ?_)
 refine op J J (oe ?_)
 replace h := jn_some h
 obtain ⟨y5, h, hk5⟩ := h
 refine cj (D := Int × Bool × Int × Int × (List Vapi_Cell) × Int × Int) (ι := HP) (fun d5 i5 => (y5 = Sum.inl d5) ∧ (Ext X i5)) (fun d5 i5 => [(5, (I d1)), (0, (F b0 0)), (1, (U p3))]) (fun d5 i5 => i5 :: blk b0 (.cells (A [(F b1 0), (F b2 0), (I p0.lock), (O p0.inserts), (U p0.aid)]) 115 (0, 0)) :: blk b1 (.cells (A [(I d5.1), (O d5.2.1), (I d5.2.2.1), (I d5.2.2.2.1), (V s0), (I d5.2.2.2.2.2.1), (I d5.2.2.2.2.2.2)]) 122 (0, 0)) :: pgO b2 p2.number :: slO s0 26 en_Vapi_Cell d5.2.2.2.2.1 :: R) ?_ ?_
 ·refine c_cond (b := (!d4)) J (fun hb441 => ?_) (fun hb441 => ?_)
  ·replace h := cond_t hb441 h
   refine cr (op J J ?_)
   replace h := bsome h
   obtain ⟨d6, h6, h⟩ := h
   refine o1 J (o_call has81 J (c_keys_Board_refuse X p0 b0 p1 b1 s0 p2 b2 2 _ h6) (pc rm0 (pc rm3 (pc rm0 (pc rm0 (pc rm1 pn))))) ?_)
   refine op J J (oe (c_ret (ej_ret ?_)))
   replace h := esc_some h
   obtain ⟨z5, h, rfl⟩ := h
   obtain rfl := (hk5 : z5 = _)
   refine e_blk_ret (e_then_ret (e_ret ?_))
   refine r_endt J J (kc rm0 (kc rm0 (kc rm0 (kc rm0 (kc rm0 (kd kr)))))) ?_
   obtain rfl := si h
   exact hk X (Ext.refl _)
  ·replace h := cond_f hb441 h
   refine c_seq ?_
   replace h := bsome h
   obtain ⟨d7, h, hk7⟩ := h
   refine cj (D := Unit) (ι := Unit) (fun _ i7 => True) (fun _ i7 => [(33, (O d7)), (5, (I d1)), (0, (F b0 0)), (1, (U p3))]) (fun _ i7 => X :: blk b0 (.cells (A [(F b1 0), (F b2 0), (I p0.lock), (O p0.inserts), (U p0.aid)]) 115 (0, 0)) :: blk b1 (.cells (A [(I p1.model), (O p1.alternate), (I p1.size.Rows), (I p1.size.Cols), (V s0), (I p1.cursor), (I p1.attrs)]) 122 (0, 0)) :: pgO b2 p2.number :: slO s0 26 en_Vapi_Cell p1.cells :: R) ?_ ?_
   ·refine c_region (op J J (op J J ?_))
    rcases bool_or (d2.2) with hb442 | hb442
    ·replace h := cond_t hb442 h
     refine oy J J J hb442 (o_fa (fd := ⟨ "Numeric", 4, 1, false, "", "", 1⟩) J J J J J ?_)
     refine oy J J J hb442 (o_ld (b := b439) (off := 1) (v := (O d2.1.Numeric)) J rm3 J J ?_)
     refine o1 J (o_pick_t J hb442 J ?_)
     refine op J J ?_
     rcases bool_or (d2.1.Numeric) with hb443 | hb443
     ·replace h := cond_t hb443 h
      refine oy J J J hb443 (o_p J ?_)
      refine oy J J J hb443 (o_p J ?_)
      refine oy J J J hb443 (o_fa (fd := ⟨ "p", 35, 1, false, "", "vitrine/keys", 8⟩) J J J J J ?_)
      refine oy J J J hb443 (o_ld (b := b0) (off := 1) (v := (F b2 0)) J rm4 J J ?_)
      refine oy J J J hb443 (o_p J ?_)
      replace h := bsome h
      obtain ⟨d8, h8, h⟩ := h
      refine oy J J J hb443 (o_call has14 J (c_class_Numeric X p2 b2 p3 _ h8) (pc rm0 (pc rm4 pn)) ?_)
      refine oy J J J hb443 (o_p (v := (O (!d8))) J ?_)
      refine o1 J (o_pick_t J hb443 J ?_)
      refine op J J (o_end ?_)
      obtain rfl := si h
      exact ej () () trivial (sc J (sc J (sc J (sc J sn)))) (kc rm0 (kc rm4 (kc rm1 (kc rm0 (kc rm0 (kd kr))))))
     ·replace h := cond_f hb443 h
      refine on J J J hb443 ?_
      refine on J J J hb443 ?_
      refine on J J J hb443 ?_
      refine on J J J hb443 ?_
      refine on J J J hb443 ?_
      refine on J J J hb443 ?_
      refine on J J J hb443 ?_
      refine o1 J (o_pick_f J hb443 J ?_)
      refine op J J (o_end ?_)
      obtain rfl := si h
      exact ej () () trivial (sc J (sc J (sc J (sc J sn)))) (kc rm0 (kc rm3 (kc rm0 (kc rm2 (kc rm0 (kd kr))))))
    ·replace h := cond_f hb442 h
     refine on J J J hb442 ?_
     refine on J J J hb442 ?_
     refine o1 J (o_pick_f J hb442 J ?_)
     refine op J J ?_
     refine on J J J J ?_
     refine on J J J J ?_
     refine on J J J J ?_
     refine on J J J J ?_
     refine on J J J J ?_
     refine on J J J J ?_
     refine on J J J J ?_
     refine o1 J (o_pick_f J J J ?_)
     refine op J J (o_end ?_)
     obtain rfl := si h
     exact ej () () trivial (sc J (sc J (sc J (sc J sn)))) (kc rm0 (kc rm3 (kc rm0 (kc rm2 (kc rm0 (kd kr))))))
   ·rintro _ i7 _
    replace h := hk7
    clear hk7
    refine e_seq ?_
    refine c_cond (b := d7) J (fun hb450 => ?_) (fun hb450 => ?_)
    ·replace h := cond_t hb450 h
     refine cr (op J J ?_)
     replace h := bsome h
     obtain ⟨d9, h9, h⟩ := h
     refine o1 J (o_call has81 J (c_keys_Board_refuse X (⟨p0.lock, p0.inserts, p0.aid⟩ : Vkeys_Board) b0 p1 b1 s0 p2 b2 3 _ h9) (pc rm0 (pc rm0 (pc rm0 (pc rm1 (pc rm0 pn))))) ?_)
     refine op J J (oe (c_ret (ej_ret ?_)))
     replace h := esc_some h
     obtain ⟨z5, h, rfl⟩ := h
     obtain rfl := (hk5 : z5 = _)
     refine e_blk_ret (e_then_ret (e_ret ?_))
     refine r_endt J J (kc rm0 (kc rm0 (kc rm0 (kc rm0 (kc rm0 kr))))) ?_
     obtain rfl := si h
     exact hk X (Ext.refl _)
    ·replace h := cond_f hb450 h
     refine c_seq ?_
     replace h := bsome h
     obtain ⟨d10, h, hk10⟩ := h
     refine cj (D := Unit) (ι := Unit) (fun _ i10 => True) (fun _ i10 => [(50, (O d10)), (5, (I d1)), (0, (F b0 0)), (1, (U p3))]) (fun _ i10 => X :: blk b0 (.cells (A [(F b1 0), (F b2 0), (I p0.lock), (O p0.inserts), (U p0.aid)]) 115 (0, 0)) :: blk b1 (.cells (A [(I p1.model), (O p1.alternate), (I p1.size.Rows), (I p1.size.Cols), (V s0), (I p1.cursor), (I p1.attrs)]) 122 (0, 0)) :: pgO b2 p2.number :: slO s0 26 en_Vapi_Cell p1.cells :: R) ?_ ?_
     ·refine c_region (op J J (op J J ?_))
      refine o1 J (o_fa (fd := ⟨ "inserts", 4, 3, false, "", "vitrine/keys", 24⟩) J J J J J ?_)
      refine o1 J (o_ld (b := b0) (off := 3) (v := (O p0.inserts)) J rm1 J J ?_)
      refine op J J ?_
      rcases bool_or (p0.inserts) with hb451 | hb451
      ·replace h := cond_t hb451 h
       refine oy J J J hb451 (o_p J ?_)
       refine oy J J J hb451 (o_p (v := (O (p3 != 28))) J ?_)
       refine o1 J (o_pick_t J hb451 J ?_)
       refine op J J (o_end ?_)
       obtain rfl := si h
       exact ej () () trivial (sc J (sc J (sc J (sc J sn)))) (kc rm0 (kc rm0 (kc rm0 (kc rm0 (kc rm0 kr)))))
      ·replace h := cond_f hb451 h
       refine on J J J hb451 ?_
       refine on J J J hb451 ?_
       refine o1 J (o_pick_f J hb451 J ?_)
       refine op J J (o_end ?_)
       obtain rfl := si h
       exact ej () () trivial (sc J (sc J (sc J (sc J sn)))) (kc rm0 (kc rm0 (kc rm0 (kc rm0 (kc rm0 kr)))))
     ·rintro _ i10 _
      replace h := hk10
      clear hk10
      refine e_seq ?_
      refine c_cond (b := d10) J (fun hb452 => ?_) (fun hb452 => ?_)
      ·replace h := cond_t hb452 h
       refine cr (op J J (op J J ?_))
       refine o1 J (o_fa (fd := ⟨ "s", 31, 0, false, "", "vitrine/keys", 0⟩) J J J J J ?_)
       refine o1 J (o_ld (b := b0) (off := 0) (v := (F b1 0)) J rm1 J J ?_)
       refine op J J (op J J ?_)
       replace h := bsome h
       obtain ⟨d11, h11, h⟩ := h
       refine o1 J (o_call has130 J (c_erase_Insert X p1 b1 s0 d1 p3 _ h11) (pc rm0 (pc rm1 (pc rm2 pn))) (fun i11 f11_0 => ?_))
       refine o1 J (o_p (v := (O (!d11.2))) J ?_)
       refine oe ?_
       refine c_cond (b := (!d11.2)) J (fun hb607 => ?_) (fun hb607 => ?_)
       ·replace h := cond_t hb607 h
        refine cr (op J J ?_)
        replace h := bsome h
        obtain ⟨d12, h12, h⟩ := h
        refine o1 J (o_call has81 J (c_keys_Board_refuse i11 (⟨p0.lock, p0.inserts, p0.aid⟩ : Vkeys_Board) b0 d11.1 b1 s0 p2 b2 4 _ h12) (pc rm0 (pc rm2 (pc rm0 (pc rm0 (pc rm0 pn))))) ?_)
        refine op J J (oe (c_ret (ej_ret ?_)))
        replace h := esc_some h
        obtain ⟨z5, h, rfl⟩ := h
        obtain rfl := (hk5 : z5 = _)
        refine e_blk_ret (e_then_ret (e_ret ?_))
        refine r_endt J J (kc rm0 (kc rm0 (kc rm0 (kc rm0 (kc rm0 kr))))) ?_
        obtain rfl := si h
        exact hk i11 f11_0
       ·replace h := cond_f hb607 h
        refine c_skip ?_
        obtain rfl := si h
        exact ej (d11.1.model, d11.1.alternate, d11.1.size.Rows, d11.1.size.Cols, d11.1.cells, d11.1.cursor, d11.1.attrs) i11 ⟨J, f11_0⟩ (sc J (sc J (sc J sn))) (kc rm0 (kc rm2 (kc rm0 (kc rm1 (kc rm0 kr)))))
      ·replace h := cond_f hb452 h
       refine c_skip ?_
       obtain rfl := si h
       exact ej (p1.model, p1.alternate, p1.size.Rows, p1.size.Cols, p1.cells, p1.cursor, p1.attrs) X ⟨J, (Ext.refl _)⟩ (sc J (sc J (sc J sn))) (kc rm0 (kc rm0 (kc rm0 (kc rm0 (kc rm0 kr)))))
 ·rintro d5 i5 ⟨rfl, f5_0⟩
  replace h := JK_inl hk5
  clear hk5
  refine e_blk (e_seq (cr (op J J (op J J ?_))))
  refine o1 J (o_fa (fd := ⟨ "s", 31, 0, false, "", "vitrine/keys", 0⟩) J J J J J ?_)
  refine o1 J (o_ld (b := b0) (off := 0) (v := (F b1 0)) J rm1 J J ?_)
  refine op J J ?_
  replace h := bsome h
  obtain ⟨d13, h13, h⟩ := h
  refine o1 J (o_call has13 J (c_space_Space_At i5 (⟨d5.1, d5.2.1, (⟨d5.2.2.1, d5.2.2.2.1⟩ : Vaddr_Size), d5.2.2.2.2.1, d5.2.2.2.2.2.1, d5.2.2.2.2.2.2⟩ : Vspace_Space) b1 s0 d1 _ h13) (pc rm0 (pc rm1 (pc rm2 pn))) ?_)
  refine o1 J (o_alloc (cs := [(U 0), (O false), (U 0), (U 0), (U 0), (U 0)]) J J (fun b609 => ?_))
  refine o0 (o_st (b := b609) (off := 0) (vs := [(U d13.Char), (O d13.Attr), (U d13.FA), (U d13.High), (U d13.Color), (U d13.f_Set)]) (cs' := [(U d13.Char), (O d13.Attr), (U d13.FA), (U d13.High), (U d13.Color), (U d13.f_Set)]) J J rp0 J J J J J J ?_)
  refine oe (cr (op J J ?_))
  refine o1 J (o_fa (fd := ⟨ "Char", 5, 0, false, "", "", 0⟩) J J J J J ?_)
  refine o0 (o_st (b := b609) (off := 0) (vs := [(U p3)]) (cs' := [(U p3), (O d13.Attr), (U d13.FA), (U d13.High), (U d13.Color), (U d13.f_Set)]) J J rp0 J J J J J J ?_)
  refine o1 J (o_fa (fd := ⟨ "Set", 5, 5, false, "", "", 5⟩) J J J J J ?_)
  refine o0 (o_st (b := b609) (off := 5) (vs := [(U 0)]) (cs' := [(U p3), (O d13.Attr), (U d13.FA), (U d13.High), (U d13.Color), (U 0)]) J J rp0 J J J J J J ?_)
  refine oe (c_seq ?_)
  refine c_draw (n := 1) (q := [(0, 78, (F b0 0)), (1, 79, (F b0 0)), (2, 80, (F b0 0)), (3, 81, (F b1 0)), (4, 82, (I d1)), (5, 83, (.agg (A [(U p3), (O d13.Attr), (U d13.FA), (U d13.High), (U d13.Color), (U 0)])))]) (pend := [0, 1, 2, 3, 4, 5]) J J J ?_
  replace h := bsome h
  obtain ⟨d15, h15, h⟩ := h
  refine ⟨⟨fun _ => ⟨J, J, J, .inl ⟨J, (o_p J ⟨J, J⟩)⟩⟩, fun _ => ⟨J, J, J, .inl ⟨J, (o_p J ⟨J, J⟩)⟩⟩, fun _ => ⟨J, J, J, .inl ⟨J, (o_fa (fd := ⟨ "s", 31, 0, false, "", "vitrine/keys", 0⟩) J J J J J ⟨J, J⟩)⟩⟩, fun _ => ⟨J, J, J, .inl ⟨J, (o_ld (b := b0) (off := 0) (v := (F b1 0)) J rm4 J J ⟨J, J⟩)⟩⟩, fun _ => ⟨J, J, J, .inl ⟨J, (o_p J ⟨J, J⟩)⟩⟩, fun _ => ⟨J, J, J, .inl ⟨J, (o_ld (b := b609) (off := 0) (v := (.agg (A [(U p3), (O d13.Attr), (U d13.FA), (U d13.High), (U d13.Color), (U 0)]))) J rm0 J J ⟨J, J⟩)⟩⟩, trivial⟩, J, .inr ⟨[6], J, J, ⟨J, .inl J, ?_⟩, trivial⟩⟩
  refine (o_call has42 J (c_space_Space_Set i5 (⟨d5.1, d5.2.1, (⟨d5.2.2.1, d5.2.2.2.1⟩ : Vaddr_Size), d5.2.2.2.2.1, d5.2.2.2.2.2.1, d5.2.2.2.2.2.2⟩ : Vspace_Space) b1 s0 d1 (⟨p3, d13.Attr, d13.FA, d13.High, d13.Color, 0⟩ : Vapi_Cell) _ h15) (pc rm1 (pc rm1 (pc rm1 pn))) ?_)
  refine ⟨[], [], J, J, J, J, ?_⟩
  refine ⟨⟨(fun h => nomatch h), (fun h => nomatch h), (fun h => nomatch h), (fun h => nomatch h), (fun h => nomatch h), (fun h => nomatch h), trivial⟩, J, J, J, ?_⟩
  refine e_seq (cr (op J J (op J J ?_)))
  refine o1 J (o_fa (fd := ⟨ "s", 31, 0, false, "", "vitrine/keys", 0⟩) J J J J J ?_)
  refine o1 J (o_ld (b := b0) (off := 0) (v := (F b1 0)) J rm4 J J ?_)
  refine op J J ?_
  replace h := bsome h
  obtain ⟨d16, h16, h⟩ := h
  refine o1 J (o_call has84 J (c_field_Modify i5 d15 b1 s0 d1 _ h16) (pc rm0 (pc rm0 (pc rm0 pn))) ?_)
  refine oe (c_seq (cr (op J J ?_)))
  refine o1 J (o_p (v := (O (p3 == 28))) J ?_)
  refine oe ?_
  replace h := bsome h
  obtain ⟨d17, h, hk17⟩ := h
  refine cj (D := Unit) (ι := Unit) (fun _ i17 => True) (fun _ i17 => []) (fun _ i17 => i5 :: blk b1 (.cells (A [(I d17.1), (O d17.2.1), (I d17.2.2.1), (I d17.2.2.2.1), (V s0), (I d17.2.2.2.2.2.1), (I d17.2.2.2.2.2.2)]) 122 (0, 0)) :: pgO b2 p2.number :: blk b0 (.cells (A [(F b1 0), (F b2 0), (I p0.lock), (O p0.inserts), (U p0.aid)]) 115 (0, 0)) :: slO s0 26 en_Vapi_Cell d17.2.2.2.2.1 :: R) ?_ ?_
  ·refine c_cond (b := (p3 == 28)) J (fun hb613 => ?_) (fun hb613 => ?_)
   ·replace h := cond_t hb613 h
    refine c_region (op J J (op J J ?_))
    refine o1 J (o_fa (fd := ⟨ "s", 31, 0, false, "", "vitrine/keys", 0⟩) J J J J J ?_)
    refine o1 J (o_ld (b := b0) (off := 0) (v := (F b1 0)) J rm4 J J ?_)
    replace h := bsome h
    obtain ⟨d18, h18, h⟩ := h
    refine o1 J (o_call has85 J (c_cursor_Tab i5 d16.1 b1 s0 _ h18) (pc rm0 (pc rm0 (pc rm0 pn))) ?_)
    refine o_end ?_
    obtain rfl := si h
    exact ej () () trivial sn (kc rm0 (kc rm0 (kc rm3 (kc rm2 (kc rm0 (kd kr))))))
   ·replace h := cond_f hb613 h
    refine c_region (op J J (op J J ?_))
    refine o1 J (o_fa (fd := ⟨ "s", 31, 0, false, "", "vitrine/keys", 0⟩) J J J J J ?_)
    refine o1 J (o_ld (b := b0) (off := 0) (v := (F b1 0)) J rm4 J J ?_)
    replace h := bsome h
    obtain ⟨d19, h19, h⟩ := h
    refine o1 J (o_call has131 J (c_cursor_After i5 d16.1 b1 s0 _ h19) (pc rm0 (pc rm0 (pc rm0 pn))) ?_)
    refine o_end ?_
    obtain rfl := si h
    exact ej () () trivial sn (kc rm0 (kc rm0 (kc rm3 (kc rm2 (kc rm0 (kd kr))))))
  ·rintro _ i17 _
   replace h := hk17
   clear hk17
   refine e_seq (cr (op J J (oe ?_)))
   refine c_ret (e_ret ?_)
   refine r_endt J J (kc rm0 (kc rm0 (kc rm2 (kc rm0 (kc rm0 kr))))) ?_
   obtain rfl := si h
   exact hk i5 f5_0

theorem c_keys_Board_char {g : Gw} (X : HP) (p0 : Vkeys_Board) (b0 : Nat) (p1 : Vspace_Space) (b1 : Nat) (s0 : SV) (p2 : Vpage_Page) (b2 : Nat) (p3 : Int) (r : Vspace_Space × Vpage_Page × Vkeys_Board × Int) (h : m_keys_Board_char p0 p1 p2 p3 = some r) : Tri env g 90 (A [(F b0 0), (.int .i32 p3)]) [X, blk b0 (.cells (A [(F b1 0), (F b2 0), (I p0.lock), (O p0.inserts), (U p0.aid)]) 115 (0, 0)), blk b1 (.cells (A [(I p1.model), (O p1.alternate), (I p1.size.Rows), (I p1.size.Cols), (V s0), (I p1.cursor), (I p1.attrs)]) 122 (0, 0)), slO s0 26 en_Vapi_Cell p1.cells, pgO b2 p2.number] (fun K R => ∀ (i0 : HP), (Ext X i0) → K (I r.2.2.2) (i0 :: blk b1 (.cells (A [(I r.1.model), (O r.1.alternate), (I r.1.size.Rows), (I r.1.size.Cols), (V s0), (I r.1.cursor), (I r.1.attrs)]) 122 (0, 0)) :: slO s0 26 en_Vapi_Cell r.1.cells :: pgO b2 r.2.1.number :: blk b0 (.cells (A [(F b1 0), (F b2 0), (I r.2.2.1.lock), (O r.2.2.1.inserts), (U r.2.2.1.aid)]) 115 (0, 0)) :: R)) := by
 refine tri_of (fn := Tryz.f90) (N := 26) Tryz.func90 J J J ?_
 intro R K hk
 unfold m_keys_Board_char at h
 change GC _ none _ [] [(0, (F b0 0)), (1, (.int .i32 p3))] (X :: blk b0 (.cells (A [(F b1 0), (F b2 0), (I p0.lock), (O p0.inserts), (U p0.aid)]) 115 (0, 0)) :: blk b1 (.cells (A [(I p1.model), (O p1.alternate), (I p1.size.Rows), (I p1.size.Cols), (V s0), (I p1.cursor), (I p1.attrs)]) 122 (0, 0)) :: slO s0 26 en_Vapi_Cell p1.cells :: pgO b2 p2.number :: R) g _ _
 refine cr (op J J (oe (c_seq ?_)))
 refine c_region (op J J (op J J ?_))
 refine o1 J (o_fa (fd := ⟨ "p", 35, 1, false, "", "vitrine/keys", 8⟩) J J J J J ?_)
 refine o1 J (o_ld (b := b0) (off := 1) (v := (F b2 0)) J rm1 J J ?_)
 refine op J J ?_
 replace h := bsome h
 obtain ⟨d1, h1, h⟩ := h
 refine o1 J (o_call has123 J (c_page_Page_Code X p2 b2 p3 _ h1) (pc rm0 (pc rm3 pn)) ?_)
 refine op J J (op J J (op J J (op J J (op J J (o_end ?_)))))
 refine e_seq (c_seq (c_seq ?_))
 replace h := bsome h
 obtain ⟨d2, h, hk2⟩ := h
 refine cj (D := Unit) (ι := Unit) (fun _ i2 => True) (fun _ i2 => [(22, (O d2)), (5, (U d1.1)), (0, (F b0 0))]) (fun _ i2 => X :: blk b0 (.cells (A [(F b1 0), (F b2 0), (I p0.lock), (O p0.inserts), (U p0.aid)]) 115 (0, 0)) :: blk b1 (.cells (A [(I p1.model), (O p1.alternate), (I p1.size.Rows), (I p1.size.Cols), (V s0), (I p1.cursor), (I p1.attrs)]) 122 (0, 0)) :: pgO b2 p2.number :: slO s0 26 en_Vapi_Cell p1.cells :: R) ?_ ?_
 ·refine c_region (op J J ?_)
  refine o1 J (o_p (v := (O (!d1.2))) J ?_)
  refine op J J ?_
  rcases bool_or ((!d1.2)) with hb436 | hb436
  ·replace h := cond_t hb436 h
   refine on J J J hb436 ?_
   refine on J J J hb436 ?_
   refine on J J J hb436 ?_
   refine o1 J (o_pick_t J hb436 J ?_)
   refine o_end ?_
   obtain rfl := si h
   exact ej () () trivial (sc J (sc J (sc J sn))) (kc rm0 (kc rm1 (kc rm1 (kc rm0 (kc rm0 kr)))))
  ·replace h := cond_f hb436 h
   refine oy J J J hb436 (o_p J ?_)
   replace h := bsome h
   obtain ⟨d3, h3, h⟩ := h
   refine oy J J J hb436 (o_call has55 J (c_class_Data X d1.1 _ h3) (pc rm0 pn) ?_)
   refine oy J J J hb436 (o_p (v := (O (!d3))) J ?_)
   refine o1 J (o_pick_f J hb436 J ?_)
   refine o_end ?_
   obtain rfl := si h
   exact ej () () trivial (sc J (sc J (sc J sn))) (kc rm0 (kc rm1 (kc rm1 (kc rm0 (kc rm0 kr)))))
 ·rintro _ i2 _
  replace h := hk2
  clear hk2
  refine e_seq ?_
  refine c_cond (b := d2) J (fun hb438 => ?_) (fun hb438 => ?_)
  ·replace h := cond_t hb438 h
   refine cr (op J J (oe (c_ret ?_)))
   refine e_then_ret (e_ret ?_)
   refine r_endt J J (kc rm0 (kc rm1 (kc rm2 (kc rm1 (kc rm0 kr))))) ?_
   obtain rfl := si h
   exact hk X (Ext.refl _)
  ·replace h := cond_f hb438 h
   refine c_skip (e_seq (cr (op J J (op J J ?_))))
   replace h := bsome h
   obtain ⟨d5, h5, h⟩ := h
   refine o1 J (o_call has91 J (c_keys_Board_enter X (⟨p0.lock, p0.inserts, p0.aid⟩ : Vkeys_Board) b0 p1 b1 s0 p2 b2 d1.1 _ h5) (pc rm0 (pc rm0 (pc rm0 (pc rm1 (pc rm0 pn))))) (fun i5 f5_0 => ?_))
   refine op J J (oe (c_ret (e_ret ?_)))
   refine r_endt J J (kc rm0 (kc rm0 (kc rm0 (kc rm0 (kc rm0 kr))))) ?_
   obtain rfl := si h
   exact hk i5 f5_0

theorem c_erase_Row {g : Gw} (X : HP) (p0 : Vspace_Space) (b0 : Nat) (s0 : SV) (p1 : Int) (r : Unit) (h : m_erase_Row p0 p1 = some r) : Tri env g 133 (A [(F b0 0), (I p1)]) [X, blk b0 (.cells (A [(I p0.model), (O p0.alternate), (I p0.size.Rows), (I p0.size.Cols), (V s0), (I p0.cursor), (I p0.attrs)]) 122 (0, 0)), slO s0 26 en_Vapi_Cell p0.cells] (fun K R => ∀ (i0 : Nat × Nat), K (.func (.func 153) #[] (A [(F i0.1 0), (F i0.2 0)])) (X :: blk b0 (.cells (A [(I p0.model), (O p0.alternate), (I p0.size.Rows), (I p0.size.Cols), (V s0), (I p0.cursor), (I p0.attrs)]) 122 (0, 0)) :: slO s0 26 en_Vapi_Cell p0.cells :: blk i0.1 (.cells (A [(F b0 0)]) 31 (0, 0)) :: blk i0.2 (.cells (A [(I p1)]) 3 (0, 0)) :: R)) := by
 refine tri_of (fn := Tryz.f133) (N := 6) Tryz.func133 J J J ?_
 intro R K hk
 unfold m_erase_Row at h
 change GC _ none _ [] [(0, (F b0 0)), (1, (I p1))] (X :: blk b0 (.cells (A [(I p0.model), (O p0.alternate), (I p0.size.Rows), (I p0.size.Cols), (V s0), (I p0.cursor), (I p0.attrs)]) 122 (0, 0)) :: slO s0 26 en_Vapi_Cell p0.cells :: R) g _ _
 refine cr ?_
 refine o1 J (o_box (cs := [(F b0 0)]) J J (fun b644 => ?_))
 refine o1 J (o_box (cs := [(I p1)]) J J (fun b646 => ?_))
 refine op J J (oe (cr (op J J ?_)))
 refine op J J (oe (c_ret (e_ret ?_)))
 refine r_endt J J (kc rm2 (kc rm2 (kc rm2 (kc rm1 (kc rm0 kr))))) ?_
 obtain rfl := si h
 exact hk (b644, b646)

theorem c_slices_AppendSeq_3 {g : Gw} (X : HP) (p0 : List Int) (s0 : SV) (b0 : Nat) (p1 : Vspace_Space) (b1 : Nat) (s1 : SV) (p2 : Int) (b2 : Nat) (r : Vspace_Space × Int × (List Int)) (h : m_slices_AppendSeq_3 p0 p1 p2 = some r) : Tri env g 152 (A [(V s0), (.func (.func 153) #[] (A [(F b0 0), (F b2 0)]))]) [X, slO s0 3 (enI .i64) p0, blk b0 (.cells (A [(F b1 0)]) 31 (0, 0)), blk b1 (.cells (A [(I p1.model), (O p1.alternate), (I p1.size.Rows), (I p1.size.Cols), (V s1), (I p1.cursor), (I p1.attrs)]) 122 (0, 0)), slO s1 26 en_Vapi_Cell p1.cells, blk b2 (.cells (A [(I p2)]) 3 (0, 0))] (fun K R => ∀ (i0 : SV), K (V i0) (X :: blk b1 (.cells (A [(I r.1.model), (O r.1.alternate), (I r.1.size.Rows), (I r.1.size.Cols), (V s1), (I r.1.cursor), (I r.1.attrs)]) 122 (0, 0)) :: slO s1 26 en_Vapi_Cell r.1.cells :: blk b0 (.cells (A [(F b1 0)]) 31 (0, 0)) :: blk b2 (.cells (A [(I r.2.1)]) 3 (0, 0)) :: slO i0 3 (enI .i64) r.2.2 :: R)) := by
 refine tri_of (fn := Tryz.f152) (N := 13) Tryz.func152 J J J ?_
 intro R K hk
 unfold m_slices_AppendSeq_3 at h
 change GC _ none _ [] [(0, (V s0)), (1, (.func (.func 153) #[] (A [(F b0 0), (F b2 0)])))] (X :: slO s0 3 (enI .i64) p0 :: blk b0 (.cells (A [(F b1 0)]) 31 (0, 0)) :: blk b1 (.cells (A [(I p1.model), (O p1.alternate), (I p1.size.Rows), (I p1.size.Cols), (V s1), (I p1.cursor), (I p1.attrs)]) 122 (0, 0)) :: slO s1 26 en_Vapi_Cell p1.cells :: blk b2 (.cells (A [(I p2)]) 3 (0, 0)) :: R) g _ _
 refine cr ?_
 refine o1 J (o_box (cs := [(V s0)]) J J (fun b651 => ?_))
 refine op J J (oe (c_seq (cr ?_)))
 refine op J J (oe ?_)
 replace h := bsome h
 obtain ⟨d1, h, hk1⟩ := h
 refine cjd (D := Unit) (ι := SV × Nat) (fun _ i1 => [mk i1.2]) (fun _ i1 => True) (fun _ i1 => [(2, (F b651 0))]) (fun _ i1 => X :: blk b651 (.cells (A [(V i1.1)]) 75 (0, 0)) :: blk b1 (.cells (A [(I p1.model), (O p1.alternate), (I p1.size.Rows), (I p1.size.Cols), (V s1), (I p1.cursor), (I p1.attrs)]) 122 (0, 0)) :: blk b0 (.cells (A [(F b1 0)]) 31 (0, 0)) :: blk b2 (.cells (A [(I p2)]) 3 (0, 0)) :: slO i1.1 3 (enI .i64) d1 :: slO s1 26 en_Vapi_Cell p1.cells :: blk i1.2 (.deferred (some [])) :: R) ?_ ?_
 ·refine c_block ?_
  replace h := bsome h
  obtain ⟨d2, h, hk2⟩ := h
  refine cjd (D := Unit) (ι := SV × Nat) (fun _ i2 => [mk i2.2]) (fun _ i2 => True) (fun _ i2 => [(2, (F b651 0))]) (fun _ i2 => X :: blk b651 (.cells (A [(V i2.1)]) 75 (0, 0)) :: blk b1 (.cells (A [(I p1.model), (O p1.alternate), (I p1.size.Rows), (I p1.size.Cols), (V s1), (I p1.cursor), (I p1.attrs)]) 122 (0, 0)) :: blk b0 (.cells (A [(F b1 0)]) 31 (0, 0)) :: blk b2 (.cells (A [(I p2)]) 3 (0, 0)) :: slO i2.1 3 (enI .i64) d2 :: slO s1 26 en_Vapi_Cell p1.cells :: blk i2.2 (.deferred (some [])) :: R) ?_ ?_
  ·refine c_range' (fn := Tryz.f153) (M := 36) J has153 Tryz.func153 J J J (fun l3 D3 a3 fc3 rc3 hrc3 ht3 => ?_)
   change GC _ none _ [] [(0, (.func (.yield l3) #[] #[])), (1, (F b0 0)), (2, (F b2 0))] (blk l3 (.loop (rc3 .ready none)) :: blk D3 (.deferred (some [])) :: blk b651 (.cells (A [(V s0)]) 75 (0, 0)) :: X :: slO s0 3 (enI .i64) p0 :: blk b0 (.cells (A [(F b1 0)]) 31 (0, 0)) :: blk b1 (.cells (A [(I p1.model), (O p1.alternate), (I p1.size.Rows), (I p1.size.Cols), (V s1), (I p1.cursor), (I p1.attrs)]) 122 (0, 0)) :: slO s1 26 en_Vapi_Cell p1.cells :: blk b2 (.cells (A [(I p2)]) 3 (0, 0)) :: R) g _ _
   refine cr ?_
   refine o1 J (o_ld (b := b0) (off := 0) (v := (F b1 0)) J rm5 J J ?_)
   replace h := bsome h
   obtain ⟨d4, h4, h⟩ := h
   refine o1 J (o_call has121 J (c_space_Space_Size X p1 b1 s1 _ h4) (pc rm3 (pc rm5 (pc rm5 pn))) ?_)
   refine o1 J (o_alloc (cs := [(I 0), (I 0)]) J J (fun b653 => ?_))
   refine o0 (o_st (b := b653) (off := 0) (vs := [(I d4.Rows), (I d4.Cols)]) (cs' := [(I d4.Rows), (I d4.Cols)]) J J rp0 J J J J J J ?_)
   refine oe (cr ?_)
   refine o1 J (o_ld (b := b653) (off := 0) (v := (.agg (A [(I d4.Rows), (I d4.Cols)]))) J rm0 J J ?_)
   refine o1 J (o_ld (b := b2) (off := 0) (v := (I p2)) J rm9 J J ?_)
   replace h := bsome h
   obtain ⟨d5, h5, h⟩ := h
   refine o1 J (o_call has53 J (c_addr_Size_Wrap X (⟨d4.Rows, d4.Cols⟩ : Vaddr_Size) p2 _ h5) (pc rm1 pn) ?_)
   refine op J J (oe (c_seq ?_))
   refine c_draw (n := 1) (q := [(0, 12, (F b653 1)), (1, 13, (I d4.Cols)), (2, 14, (.agg (A [(I d4.Rows), (I d4.Cols)]))), (3, 15, (I d5)), (6, 18, (I 0))]) (pend := [0, 1, 2, 3, 6]) J J J ?_
   replace h := bsome h
   obtain ⟨d7, h7, h⟩ := h
   refine ⟨⟨fun _ => ⟨J, J, J, .inl ⟨J, (o_fa (fd := ⟨ "Cols", 3, 1, false, "", "", 8⟩) J J J J J ⟨J, J⟩)⟩⟩, fun _ => ⟨J, J, J, .inl ⟨J, (o_ld (b := b653) (off := 1) (v := (I d4.Cols)) J rm1 J J ⟨J, J⟩)⟩⟩, fun _ => ⟨J, J, J, .inl ⟨J, (o_ld (b := b653) (off := 0) (v := (.agg (A [(I d4.Rows), (I d4.Cols)]))) J rm1 J J ⟨J, J⟩)⟩⟩, fun _ => ⟨J, J, J, .inl ⟨J, (o_p J ⟨J, J⟩)⟩⟩, fun _ => ⟨J, J, J, .inl ⟨J, (o_p J ⟨J, J⟩)⟩⟩, trivial⟩, J, .inr ⟨[4], J, J, ⟨J, .inl J, ?_⟩, trivial⟩⟩
   refine (o_call has147 J (c_addr_Size_Col X (⟨d4.Rows, d4.Cols⟩ : Vaddr_Size) d5 _ h7) (pc rm0 pn) ?_)
   refine ⟨[(5, 17, (I (w64 (d4.Cols - d7))))], [0, 1, 6, 5], J, J, J, J, ?_⟩
   refine ⟨⟨fun _ => ⟨J, J, J, .inl ⟨J, (o_p (v := (I (w64 (d4.Cols - d7)))) J ⟨J, J⟩)⟩⟩, fun _ => ⟨J, J, J, .inl ⟨J, (o_fa (fd := ⟨ "Cols", 3, 1, false, "", "", 8⟩) J J J J J ⟨J, J⟩)⟩⟩, fun _ => ⟨J, J, J, .inl ⟨J, (o_ld (b := b653) (off := 1) (v := (I d4.Cols)) J rm1 J J ⟨J, J⟩)⟩⟩, (fun h => nomatch h), (fun h => nomatch h), fun _ => ⟨J, J, J, .inl ⟨J, (o_p J ⟨J, J⟩)⟩⟩, trivial⟩, J, J, J, ?_⟩
   refine e_seq ?_
   replace h := jn_some h
   obtain ⟨y8, h, hk8⟩ := h
   refine cj (D := (List Int)) (ι := SV) (fun d8 i8 => y8 = Sum.inl d8) (fun d8 i8 => []) (fun d8 i8 => X :: blk b1 (.cells (A [(I p1.model), (O p1.alternate), (I p1.size.Rows), (I p1.size.Cols), (V s1), (I p1.cursor), (I p1.attrs)]) 122 (0, 0)) :: blk b0 (.cells (A [(F b1 0)]) 31 (0, 0)) :: blk b2 (.cells (A [(I p2)]) 3 (0, 0)) :: blk b651 (.cells (A [(V i8)]) 75 (0, 0)) :: slO s1 26 en_Vapi_Cell p1.cells :: slO i8 3 (enI .i64) d8 :: blk l3 (.loop (rc3 .ready none)) :: blk D3 (.deferred (some [])) :: R) ?_ ?_
   ·refine c_block ?_
    refine c_loop (l_sub (sc J (sc J (sc J (sc J (sc J sn))))) (l_keep (kc rm0 (kc rm7 (kc rm1 (kc rm6 (kc rm4 (kc rm1 (kc rm3 (kc rm1 (kc rm1 (kd kr)))))))))) (lf (X := Int × (List Int)) (ι := SV) (fun k x => slices_AppendSeq_3_l9 p1 d4 d5 d7 k x) _ (fun x9 i9 => True) (fun x9 i9 => [(17, (I (w64 (d4.Cols - d7)))), (18, (I x9.1)), (5, (I d5)), (0, (.func (.yield l3) #[] #[])), (1, (F b0 0))]) (fun x9 i9 => X :: blk b0 (.cells (A [(F b1 0)]) 31 (0, 0)) :: blk b1 (.cells (A [(I p1.model), (O p1.alternate), (I p1.size.Rows), (I p1.size.Cols), (V s1), (I p1.cursor), (I p1.attrs)]) 122 (0, 0)) :: blk b2 (.cells (A [(I p2)]) 3 (0, 0)) :: blk b651 (.cells (A [(V i9)]) 75 (0, 0)) :: slO s1 26 en_Vapi_Cell p1.cells :: slO i9 3 (enI .i64) x9.2 :: blk l3 (.loop (rc3 .ready none)) :: blk D3 (.deferred (some [])) :: R) (fun _ => J) ?_ fuel (0, p0) s0 trivial h)))
    clear h
    rintro k9 ih9 x9 i9 _ h
    rw [slices_AppendSeq_3_l9.eq_2] at h
    refine l_round (cr ?_)
    refine o1 J (o_p (v := (O (decide (x9.1 < (w64 (d4.Cols - d7)))))) J ?_)
    refine oe (c_seq ?_)
    refine c_cond (b := (decide (x9.1 < (w64 (d4.Cols - d7))))) J (fun hb675 => ?_) (fun hb675 => ?_)
    ·replace h := cond_t hb675 h
     refine c_skip (e_seq (c_seq (c_block (cr ?_))))
     refine op J J (op J J (oe (c_seq ?_)))
     replace h := bsome h
     obtain ⟨d12, h, hk12⟩ := h
     refine cj (D := Unit) (ι := SV) (fun _ i12 => True) (fun _ i12 => [(34, (O d12.1)), (17, (I (w64 (d4.Cols - d7)))), (18, (I x9.1)), (5, (I d5)), (0, (.func (.yield l3) #[] #[])), (1, (F b0 0))]) (fun _ i12 => X :: blk b0 (.cells (A [(F b1 0)]) 31 (0, 0)) :: blk b1 (.cells (A [(I p1.model), (O p1.alternate), (I p1.size.Rows), (I p1.size.Cols), (V s1), (I p1.cursor), (I p1.attrs)]) 122 (0, 0)) :: blk b2 (.cells (A [(I p2)]) 3 (0, 0)) :: blk b651 (.cells (A [(V i12)]) 75 (0, 0)) :: slO s1 26 en_Vapi_Cell p1.cells :: slO i12 3 (enI .i64) d12.2 :: blk l3 (.loop (rc3 .ready none)) :: blk D3 (.deferred (some [])) :: R) ?_ ?_
     ·refine c_region ?_
      refine o1 J (o_ld (b := b0) (off := 0) (v := (F b1 0)) J rm1 J J ?_)
      refine op J J (op J J ?_)
      refine o1 J (o_p (v := (I (w64 (d5 + x9.1)))) J ?_)
      replace h := bsome h
      obtain ⟨d13, h13, h⟩ := h
      refine o1 J (o_call has13 J (c_space_Space_At X p1 b1 s1 (w64 (d5 + x9.1)) _ h13) (pc rm0 (pc rm1 (pc rm3 pn))) ?_)
      refine o1 J (o_field (v := (O d13.Attr)) J J J ?_)
      refine op J J ?_
      rcases bool_or (d13.Attr) with hb676 | hb676
      ·replace h := cond_t hb676 h
       refine on J J J hb676 ?_
       refine on J J J hb676 ?_
       refine on J J J hb676 ?_
       refine on J J J hb676 ?_
       refine on J J J hb676 ?_
       refine on J J J hb676 ?_
       refine o1 J (o_pick_t J hb676 J ?_)
       refine o_end ?_
       obtain rfl := si h
       exact ej () i9 trivial (sc J (sc J (sc J (sc J (sc J (sc J sn)))))) (kc rm0 (kc rm2 (kc rm0 (kc rm1 (kc rm1 (kc rm0 (kc rm0 (kc rm0 (kc rm0 kr)))))))))
      ·replace h := cond_f hb676 h
       refine oy J J J hb676 (o_p J ?_)
       refine oy J J J hb676 (o_p J ?_)
       refine oy J J J hb676 (o_p J ?_)
       refine oy J J J hb676 (o_p (v := (I (w64 (d5 + x9.1)))) J ?_)
       refine oy J J J hb676 (o_yield' hrc3 ht3 J J J J rm7 ?_)
       refine c_region (op J J (o_end ?_))
       refine e_begin' hrc3 rm0 ?_
       refine c_block (c_region ?_)
       refine o1 J (o_ld (b := b651) (off := 0) (v := (V i9)) J rm6 J J ?_)
       refine op J J ?_
       refine o1 J (o_bs (e := (enI .i64)) (l := [w64 (d5 + x9.1)]) (zs := [(I 0)]) J J J J J J J J J J (fun s677 => ?_))
       replace h := gsome h
       obtain ⟨hg679, h⟩ := h
       refine o1 J (o_app (s := i9) (r := s677) (e := (enI .i64)) (l := x9.2) (l2 := [w64 (d5 + x9.1)]) (zs := [(I 0)]) J J J J J J J J J J J rm8 rm0 (rd_own _ _ _ _) hg679 (fun s680 => ?_))
       refine o0 (o_st (b := b651) (off := 0) (vs := [(V s680)]) (cs' := [(V s680)]) J J rp8 J J J J J J ?_)
       refine o_end (e_blk ?_)
       refine e_on' hrc3 rm2 ?_
       refine oy J J J hb676 (o_p (v := (O false)) J ?_)
       refine o1 J (o_pick_f J hb676 J ?_)
       refine o_end ?_
       obtain rfl := si h
       exact ej () s680 trivial (sc J (sc J (sc J (sc J (sc J (sc J sn)))))) (kc rm3 (kc rm5 (kc rm3 (kc rm4 (kc rm4 (kc rm3 (kc rm1 (kc rm0 (kc rm1 (kd kr))))))))))
     ·rintro _ i12 _
      replace h := hk12
      clear hk12
      refine e_seq ?_
      refine c_cond (b := d12.1) J (fun hb683 => ?_) (fun hb683 => ?_)
      ·replace h := cond_t hb683 h
       refine c_ret (e_blk_ret (e_then_ret (e_then_ret (e_blk_ret (ej_ret ?_)))))
       replace h := esc_some h
       obtain ⟨z8, h, rfl⟩ := h
       obtain rfl := (hk8 : z8 = _)
       refine e_ret ?_
       refine r_end (rs := []) (vs := []) J J ?_
       refine ke' hrc3 rm7 (by simp) ?_
       obtain rfl := si h
       exact ejd () (i12, D3) trivial J (sc J sn) (kc rm0 (kc rm3 (kc rm1 (kc rm0 (kc rm0 (kc rm1 (kc rm0 (kc rm0 kr))))))))
      ·replace h := cond_f hb683 h
       refine c_skip (e_blk (e_seq (c_region ?_)))
       refine o1 J (o_p (v := (I (w64 (x9.1 + 1)))) J ?_)
       refine op J J (o_end ?_)
       exact e_loop (l_sub (sc J (sc J (sc J (sc J (sc J sn))))) (l_keep (kc rm0 (kc rm0 (kc rm0 (kc rm0 (kc rm0 (kc rm0 (kc rm0 (kc rm0 (kc rm0 kr))))))))) (ih9 (w64 (x9.1 + 1), d12.2) i12 trivial h)))
    ·replace h := cond_f hb675 h
     refine c_exit (e_then_exit (e_then_exit (e_blk_exit ?_)))
     obtain rfl := si h
     exact ej x9.2 i9 J sn (kc rm0 (kc rm1 (kc rm0 (kc rm0 (kc rm0 (kc rm0 (kc rm0 (kc rm0 (kc rm0 kr)))))))))
   ·rintro d8 i8 rfl
    replace h := JK_inl hk8
    clear hk8
    refine e_fall ?_
    refine r_end (rs := []) (vs := []) J J ?_
    refine ke' hrc3 rm7 (by simp) ?_
    obtain rfl := si h
    exact ejd () (i8, D3) trivial J (sc J sn) (kc rm0 (kc rm3 (kc rm0 (kc rm0 (kc rm0 (kc rm1 (kc rm0 (kc rm0 kr))))))))
  ·rintro _ i2 _
   replace h := hk2
   clear hk2
   refine e_blk ?_
   obtain rfl := si h
   exact ejd () (i2.1, i2.2) trivial J (sc J sn) (kc rm0 (kc rm0 (kc rm0 (kc rm0 (kc rm0 (kc rm0 (kc rm0 (kc rm0 kr))))))))
 ·rintro _ i1 _
  replace h := hk1
  clear hk1
  refine e_seq (cr ?_)
  refine o1 J (o_ld (b := b651) (off := 0) (v := (V i1.1)) J rm1 J J ?_)
  refine op J J (oe (c_ret (e_ret ?_)))
  refine r_mark rm7 ?_
  refine r_endt J J (kc rm0 (kc rm1 (kc rm4 (kc rm1 (kc rm1 (kc rm1 (kd kr))))))) ?_
  obtain rfl := si h
  exact hk i1.1

theorem c_slices_Collect_3 {g : Gw} (X : HP) (b0 : Nat) (p0 : Vspace_Space) (b1 : Nat) (s0 : SV) (p1 : Int) (b2 : Nat) (r : Vspace_Space × Int × (List Int)) (h : m_slices_Collect_3 p0 p1 = some r) : Tri env g 132 (A [(.func (.func 153) #[] (A [(F b0 0), (F b2 0)]))]) [X, blk b0 (.cells (A [(F b1 0)]) 31 (0, 0)), blk b1 (.cells (A [(I p0.model), (O p0.alternate), (I p0.size.Rows), (I p0.size.Cols), (V s0), (I p0.cursor), (I p0.attrs)]) 122 (0, 0)), slO s0 26 en_Vapi_Cell p0.cells, blk b2 (.cells (A [(I p1)]) 3 (0, 0))] (fun K R => ∀ (i0 : SV), K (V i0) (X :: blk b1 (.cells (A [(I r.1.model), (O r.1.alternate), (I r.1.size.Rows), (I r.1.size.Cols), (V s0), (I r.1.cursor), (I r.1.attrs)]) 122 (0, 0)) :: slO s0 26 en_Vapi_Cell r.1.cells :: blk b0 (.cells (A [(F b1 0)]) 31 (0, 0)) :: blk b2 (.cells (A [(I r.2.1)]) 3 (0, 0)) :: slO i0 3 (enI .i64) r.2.2 :: R)) := by
 refine tri_of (fn := Tryz.f132) (N := 5) Tryz.func132 J J J ?_
 intro R K hk
 unfold m_slices_Collect_3 at h
 change GC _ none _ [] [(0, (.func (.func 153) #[] (A [(F b0 0), (F b2 0)])))] (X :: blk b0 (.cells (A [(F b1 0)]) 31 (0, 0)) :: blk b1 (.cells (A [(I p0.model), (O p0.alternate), (I p0.size.Rows), (I p0.size.Cols), (V s0), (I p0.cursor), (I p0.attrs)]) 122 (0, 0)) :: slO s0 26 en_Vapi_Cell p0.cells :: blk b2 (.cells (A [(I p1)]) 3 (0, 0)) :: R) g _ _
 refine cr (op J J (oe (c_seq ?_)))
 refine c_region (op J J ?_)
 refine o_add (slO SV.nil 3 (enI .i64) []) (slO_nil _ _ _) ?_
 replace h := bsome h
 obtain ⟨d1, h1, h⟩ := h
 refine o1 J (o_call has152 J (c_slices_AppendSeq_3 X ([] : List Int) SV.nil b0 p0 b1 s0 p1 b2 _ h1) (pc rm1 (pc rm0 (pc rm0 (pc rm0 (pc rm0 (pc rm0 pn)))))) (fun i1 => ?_))
 refine op J J (oe (c_ret (e_ret ?_)))
 refine r_endt J J (kc rm0 (kc rm0 (kc rm0 (kc rm0 (kc rm0 (kc rm0 kr)))))) ?_
 obtain rfl := si h
 exact hk i1

theorem c_erase_Delete {g : Gw} (X : HP) (p0 : Vspace_Space) (b0 : Nat) (s0 : SV) (p1 : Int) (r : Vspace_Space × Bool) (h : m_erase_Delete p0 p1 = some r) : Tri env g 93 (A [(F b0 0), (I p1)]) [X, blk b0 (.cells (A [(I p0.model), (O p0.alternate), (I p0.size.Rows), (I p0.size.Cols), (V s0), (I p0.cursor), (I p0.attrs)]) 122 (0, 0)), slO s0 26 en_Vapi_Cell p0.cells] (fun K R => K (O r.2) (X :: blk b0 (.cells (A [(I r.1.model), (O r.1.alternate), (I r.1.size.Rows), (I r.1.size.Cols), (V s0), (I r.1.cursor), (I r.1.attrs)]) 122 (0, 0)) :: slO s0 26 en_Vapi_Cell r.1.cells :: R)) := by
 refine tri_of (fn := Tryz.f93) (N := 45) Tryz.func93 J J J ?_
 intro R K hk
 unfold m_erase_Delete at h
 change GC _ none _ [] [(0, (F b0 0)), (1, (I p1))] (X :: blk b0 (.cells (A [(I p0.model), (O p0.alternate), (I p0.size.Rows), (I p0.size.Cols), (V s0), (I p0.cursor), (I p0.attrs)]) 122 (0, 0)) :: slO s0 26 en_Vapi_Cell p0.cells :: R) g _ _
 refine cr (op J J (oe (c_seq ?_)))
 refine cr (op J J (op J J ?_))
 replace h := bsome h
 obtain ⟨d1, h1, h⟩ := h
 refine o1 J (o_call has129 J (c_field_Open X p0 b0 s0 p1 _ h1) (pc rm0 (pc rm0 (pc rm0 pn))) ?_)
 refine o1 J (o_p (v := (O (!d1))) J ?_)
 refine oe ?_
 refine c_cond (b := (!d1)) J (fun hb643 => ?_) (fun hb643 => ?_)
 ·replace h := cond_t hb643 h
  refine cr (op J J (oe (c_ret ?_)))
  refine e_then_ret (e_ret ?_)
  refine r_endt J J (kc rm0 (kc rm0 (kc rm0 kr))) ?_
  obtain rfl := si h
  exact hk
 ·replace h := cond_f hb643 h
  refine c_skip (e_seq (cr (op J J (op J J ?_))))
  replace h := bsome h
  obtain ⟨d3, h3, h⟩ := h
  refine o1 J (o_call has133 J (c_erase_Row X p0 b0 s0 p1 _ h3) (pc rm0 (pc rm0 (pc rm0 pn))) (fun i3 => ?_))
  replace h := bsome h
  obtain ⟨d4, h4, h⟩ := h
  refine o1 J (o_call has132 J (c_slices_Collect_3 X i3.1 p0 b0 s0 p1 i3.2 _ h4) (pc rm0 (pc rm2 (pc rm0 (pc rm0 (pc rm0 pn))))) (fun i4 => ?_))
  refine op J J (oe (c_seq (cr ?_)))
  refine op J J ?_
  refine o1 J (o_len (s := i4) J J J rm5 (rd_own _ _ _ _) ?_)
  refine op J J (oe ?_)
  replace h := bsome h
  obtain ⟨d5, h, hk5⟩ := h
  refine cj (D := Unit) (ι := Unit) (fun _ i5 => True) (fun _ i5 => [(0, (F b0 0)), (1, (I p1))]) (fun _ i5 => X :: blk b0 (.cells (A [(I d5.1), (O d5.2.1), (I d5.2.2.1), (I d5.2.2.2.1), (V s0), (I d5.2.2.2.2.2.1), (I d5.2.2.2.2.2.2)]) 122 (0, 0)) :: slO s0 26 en_Vapi_Cell d5.2.2.2.2.1 :: R) ?_ ?_
  ·refine c_block ?_
   refine c_loop (l_sub (sc J (sc J (sc J (sc J (sc J (sc J sn)))))) (l_keep (kc rm0 (kc rm4 (kc rm0 (kc rm0 (kd (kd kr)))))) (lf (X := Int × Int × Bool × Int × Int × (List Vapi_Cell) × Int × Int) (ι := Unit) (fun k x => erase_Delete_l6 d4 k x) _ (fun x6 i6 => True) (fun x6 i6 => [(19, (I x6.1)), (18, (I (d4.2.2.length : Int))), (17, (V i4)), (5, (V i4)), (0, (F b0 0)), (1, (I p1))]) (fun x6 i6 => X :: slO i4 3 (enI .i64) d4.2.2 :: blk b0 (.cells (A [(I x6.2.1), (O x6.2.2.1), (I x6.2.2.2.1), (I x6.2.2.2.2.1), (V s0), (I x6.2.2.2.2.2.2.1), (I x6.2.2.2.2.2.2.2)]) 122 (0, 0)) :: slO s0 26 en_Vapi_Cell x6.2.2.2.2.2.1 :: R) (fun _ => J) ?_ fuel (0, d4.1.model, d4.1.alternate, d4.1.size.Rows, d4.1.size.Cols, d4.1.cells, d4.1.cursor, d4.1.attrs) () trivial h)))
   clear h
   rintro k6 ih6 x6 i6 _ h
   rw [erase_Delete_l6.eq_2] at h
   refine l_round (cr ?_)
   refine o1 J (o_p (v := (O (decide (x6.1 < (d4.2.2.length : Int))))) J ?_)
   refine oe (c_seq ?_)
   refine c_cond (b := (decide (x6.1 < (d4.2.2.length : Int)))) J (fun hb708 => ?_) (fun hb708 => ?_)
   ·replace h := cond_t hb708 h
    refine c_skip (e_seq (c_seq (c_block (cr ?_))))
    refine op J J ?_
    replace h := gsome h
    obtain ⟨hg709, h⟩ := h
    refine o1 J (o_ix (s := i4) (n := x6.1) (e := (enI .i64)) J J J J J J rm1 (rd_own _ _ _ _) hg709 ?_)
    refine o1 J (o_ldE (s := i4) (e := (enI .i64)) (n := x6.1) (f := 0) (v := (I (rd d4.2.2 x6.1))) J rm1 (rd_own _ _ _ _) hg709 J J ?_)
    refine op J J (op J J (oe (cr ?_)))
    refine op J J (oe (c_seq (cr ?_)))
    refine op J J ?_
    refine o1 J (o_p (v := (I (w64 (x6.1 + 1)))) J ?_)
    refine op J J ?_
    refine o1 J (o_len (s := i4) J J J rm1 (rd_own _ _ _ _) ?_)
    refine o1 J (o_p (v := (O (decide ((w64 (x6.1 + 1)) < (d4.2.2.length : Int))))) J ?_)
    refine oe ?_
    replace h := bsome h
    obtain ⟨d9, h, hk9⟩ := h
    refine cj (D := Unit) (ι := Unit) (fun _ i9 => True) (fun _ i9 => [(8, (U d9)), (7, (I (rd d4.2.2 x6.1))), (19, (I x6.1)), (18, (I (d4.2.2.length : Int))), (17, (V i4)), (5, (V i4)), (0, (F b0 0)), (1, (I p1))]) (fun _ i9 => X :: slO i4 3 (enI .i64) d4.2.2 :: blk b0 (.cells (A [(I x6.2.1), (O x6.2.2.1), (I x6.2.2.2.1), (I x6.2.2.2.2.1), (V s0), (I x6.2.2.2.2.2.2.1), (I x6.2.2.2.2.2.2.2)]) 122 (0, 0)) :: slO s0 26 en_Vapi_Cell x6.2.2.2.2.2.1 :: R) ?_ ?_
    ·refine c_cond (b := (decide ((w64 (x6.1 + 1)) < (d4.2.2.length : Int)))) J (fun hb710 => ?_) (fun hb710 => ?_)
     ·replace h := cond_t hb710 h
      refine c_region (op J J (op J J (op J J ?_)))
      refine o1 J (o_p (v := (I (w64 (x6.1 + 1)))) J ?_)
      replace h := gsome h
      obtain ⟨hg711, h⟩ := h
      refine o1 J (o_ix (s := i4) (n := w64 (x6.1 + 1)) (e := (enI .i64)) J J J J J J rm1 (rd_own _ _ _ _) hg711 ?_)
      refine o1 J (o_ldE (s := i4) (e := (enI .i64)) (n := w64 (x6.1 + 1)) (f := 0) (v := (I (rd d4.2.2 (w64 (x6.1 + 1))))) J rm1 (rd_own _ _ _ _) hg711 J J ?_)
      replace h := bsome h
      obtain ⟨d10, h10, h⟩ := h
      refine o1 J (o_call has13 J (c_space_Space_At X (⟨x6.2.1, x6.2.2.1, (⟨x6.2.2.2.1, x6.2.2.2.2.1⟩ : Vaddr_Size), x6.2.2.2.2.2.1, x6.2.2.2.2.2.2.1, x6.2.2.2.2.2.2.2⟩ : Vspace_Space) b0 s0 (rd d4.2.2 (w64 (x6.1 + 1))) _ h10) (pc rm0 (pc rm1 (pc rm1 pn))) ?_)
      refine o1 J (o_field (v := (U d10.Char)) J J J ?_)
      refine op J J (o_end ?_)
      obtain rfl := si h
      exact ej () () trivial (sc J (sc J (sc J (sc J (sc J (sc J (sc J (sc J sn)))))))) (kc rm0 (kc rm2 (kc rm0 (kc rm0 kr))))
     ·replace h := cond_f hb710 h
      refine c_skip ?_
      obtain rfl := si h
      exact ej () () trivial (sc J (sc J (sc J (sc J (sc J (sc J (sc J (sc J sn)))))))) (kc rm0 (kc rm0 (kc rm0 (kc rm0 kr))))
    ·rintro _ i9 _
     replace h := hk9
     clear hk9
     refine e_seq (c_region (op J J (op J J (op J J ?_))))
     replace h := bsome h
     obtain ⟨d11, h11, h⟩ := h
     refine o1 J (o_call has19 J (c_space_Space_Put X (⟨x6.2.1, x6.2.2.1, (⟨x6.2.2.2.1, x6.2.2.2.2.1⟩ : Vaddr_Size), x6.2.2.2.2.2.1, x6.2.2.2.2.2.2.1, x6.2.2.2.2.2.2.2⟩ : Vspace_Space) b0 s0 (rd d4.2.2 x6.1) d9 _ h11) (pc rm0 (pc rm1 (pc rm1 pn))) ?_)
     refine o_end (e_blk (e_seq (c_region ?_)))
     refine o1 J (o_p (v := (I (w64 (x6.1 + 1)))) J ?_)
     refine op J J (o_end ?_)
     exact e_loop (l_sub (sc J (sc J (sc J (sc J (sc J (sc J sn)))))) (l_keep (kc rm0 (kc rm2 (kc rm0 (kc rm0 kr)))) (ih6 (w64 (x6.1 + 1), d11.model, d11.alternate, d11.size.Rows, d11.size.Cols, d11.cells, d11.cursor, d11.attrs) () trivial h)))
   ·replace h := cond_f hb708 h
    refine c_exit (e_then_exit (e_then_exit (e_blk_exit ?_)))
    obtain rfl := si h
    exact ej () () trivial (sc J (sc J sn)) (kc rm0 (kc rm1 (kc rm1 (kd kr))))
  ·rintro _ i5 _
   replace h := hk5
   clear hk5
   refine e_seq (cr (op J J (op J J ?_)))
   replace h := bsome h
   obtain ⟨d12, h12, h⟩ := h
   refine o1 J (o_call has84 J (c_field_Modify X (⟨d5.1, d5.2.1, (⟨d5.2.2.1, d5.2.2.2.1⟩ : Vaddr_Size), d5.2.2.2.2.1, d5.2.2.2.2.2.1, d5.2.2.2.2.2.2⟩ : Vspace_Space) b0 s0 p1 _ h12) (pc rm0 (pc rm0 (pc rm0 pn))) ?_)
   refine oe (cr (op J J (o_end ?_)))
   refine e_seq (c_ret (e_ret ?_))
   refine r_endt J J (kc rm0 (kc rm0 (kc rm0 kr))) ?_
   obtain rfl := si h
   exact hk

theorem c_keys_Board_done {g : Gw} (X : HP) (p0 : Vkeys_Board) (b0 : Nat) (p1 : Vspace_Space) (b1 : Nat) (s0 : SV) (p2 : Vpage_Page) (b2 : Nat) (p3 : Bool) (r : Vkeys_Board × Int) (h : m_keys_Board_done p0 p1 p2 p3 = some r) : Tri env g 92 (A [(F b0 0), (O p3)]) [X, blk b0 (.cells (A [(F b1 0), (F b2 0), (I p0.lock), (O p0.inserts), (U p0.aid)]) 115 (0, 0)), blk b1 (.cells (A [(I p1.model), (O p1.alternate), (I p1.size.Rows), (I p1.size.Cols), (V s0), (I p1.cursor), (I p1.attrs)]) 122 (0, 0)), slO s0 26 en_Vapi_Cell p1.cells, pgO b2 p2.number] (fun K R => K (I r.2) (X :: blk b1 (.cells (A [(I p1.model), (O p1.alternate), (I p1.size.Rows), (I p1.size.Cols), (V s0), (I p1.cursor), (I p1.attrs)]) 122 (0, 0)) :: slO s0 26 en_Vapi_Cell p1.cells :: pgO b2 p2.number :: blk b0 (.cells (A [(F b1 0), (F b2 0), (I r.1.lock), (O r.1.inserts), (U r.1.aid)]) 115 (0, 0)) :: R)) := by
 refine tri_of (fn := Tryz.f92) (N := 9) Tryz.func92 J J J ?_
 intro R K hk
 unfold m_keys_Board_done at h
 change GC _ none _ [] [(0, (F b0 0)), (1, (O p3))] (X :: blk b0 (.cells (A [(F b1 0), (F b2 0), (I p0.lock), (O p0.inserts), (U p0.aid)]) 115 (0, 0)) :: blk b1 (.cells (A [(I p1.model), (O p1.alternate), (I p1.size.Rows), (I p1.size.Cols), (V s0), (I p1.cursor), (I p1.attrs)]) 122 (0, 0)) :: slO s0 26 en_Vapi_Cell p1.cells :: pgO b2 p2.number :: R) g _ _
 refine cr (op J J (oe (c_seq ?_)))
 refine cr (op J J ?_)
 refine o1 J (o_p (v := (O (!p3))) J ?_)
 refine oe ?_
 refine c_cond (b := (!p3)) J (fun hb718 => ?_) (fun hb718 => ?_)
 ·replace h := cond_t hb718 h
  refine cr (op J J ?_)
  replace h := bsome h
  obtain ⟨d2, h2, h⟩ := h
  refine o1 J (o_call has81 J (c_keys_Board_refuse X p0 b0 p1 b1 s0 p2 b2 2 _ h2) (pc rm0 (pc rm0 (pc rm0 (pc rm0 (pc rm0 pn))))) ?_)
  refine op J J (oe (c_ret (e_then_ret (e_ret ?_))))
  refine r_endt J J (kc rm0 (kc rm0 (kc rm0 (kc rm0 (kc rm0 kr))))) ?_
  obtain rfl := si h
  exact hk
 ·replace h := cond_f hb718 h
  refine c_skip (e_seq (cr (op J J (o_end ?_))))
  refine e_seq (c_ret (e_ret ?_))
  refine r_endt J J (kc rm0 (kc rm1 (kc rm1 (kc rm1 (kc rm0 kr))))) ?_
  obtain rfl := si h
  exact hk

theorem c_erase_End {g : Gw} (X : HP) (p0 : Vspace_Space) (b0 : Nat) (s0 : SV) (p1 : Int) (r : Vspace_Space × Bool) (h : m_erase_End p0 p1 = some r) : Tri env g 94 (A [(F b0 0), (I p1)]) [X, blk b0 (.cells (A [(I p0.model), (O p0.alternate), (I p0.size.Rows), (I p0.size.Cols), (V s0), (I p0.cursor), (I p0.attrs)]) 122 (0, 0)), slO s0 26 en_Vapi_Cell p0.cells] (fun K R => ∀ (i0 : HP), (Ext X i0) → K (O r.2) (i0 :: blk b0 (.cells (A [(I r.1.model), (O r.1.alternate), (I r.1.size.Rows), (I r.1.size.Cols), (V s0), (I r.1.cursor), (I r.1.attrs)]) 122 (0, 0)) :: slO s0 26 en_Vapi_Cell r.1.cells :: R)) := by
 refine tri_of (fn := Tryz.f94) (N := 26) Tryz.func94 J J J ?_
 intro R K hk
 unfold m_erase_End at h
 change GC _ none _ [] [(0, (F b0 0)), (1, (I p1))] (X :: blk b0 (.cells (A [(I p0.model), (O p0.alternate), (I p0.size.Rows), (I p0.size.Cols), (V s0), (I p0.cursor), (I p0.attrs)]) 122 (0, 0)) :: slO s0 26 en_Vapi_Cell p0.cells :: R) g _ _
 refine cr (op J J (oe (c_seq ?_)))
 refine cr (op J J (op J J ?_))
 replace h := bsome h
 obtain ⟨d1, h1, h⟩ := h
 refine o1 J (o_call has129 J (c_field_Open X p0 b0 s0 p1 _ h1) (pc rm0 (pc rm0 (pc rm0 pn))) ?_)
 refine o1 J (o_p (v := (O (!d1))) J ?_)
 refine oe ?_
 refine c_cond (b := (!d1)) J (fun hb720 => ?_) (fun hb720 => ?_)
 ·replace h := cond_t hb720 h
  refine cr (op J J (oe (c_ret ?_)))
  refine e_then_ret (e_ret ?_)
  refine r_endt J J (kc rm0 (kc rm0 (kc rm0 kr))) ?_
  obtain rfl := si h
  exact hk X (Ext.refl _)
 ·replace h := cond_f hb720 h
  refine c_skip (e_seq (c_seq (cr (op J J ?_))))
  refine op J J ?_
  replace h := bsome h
  obtain ⟨d3, h3, h⟩ := h
  refine o1 J (o_call has134 J (c_erase_rest X p0 b0 s0 p1 _ h3) (pc rm0 (pc rm0 (pc rm0 pn))) (fun i3 f3_0 f3_1 => ?_))
  refine o1 J (o_len (s := i3.2) J J J rm0 f3_0 ?_)
  refine op J J (oe ?_)
  replace h := bsome h
  obtain ⟨d4, h, hk4⟩ := h
  refine cj (D := Unit) (ι := Unit) (fun _ i4 => True) (fun _ i4 => [(0, (F b0 0)), (1, (I p1))]) (fun _ i4 => i3.1 :: blk b0 (.cells (A [(I d4.1), (O d4.2.1), (I d4.2.2.1), (I d4.2.2.2.1), (V s0), (I d4.2.2.2.2.2.1), (I d4.2.2.2.2.2.2)]) 122 (0, 0)) :: slO s0 26 en_Vapi_Cell d4.2.2.2.2.1 :: R) ?_ ?_
  ·refine c_block ?_
   refine c_loop (l_sub (sc J (sc J (sc J (sc J (sc J sn))))) (l_keep (kc rm0 (kc rm0 (kc rm0 kr))) (lf (X := Int × Int × Bool × Int × Int × (List Vapi_Cell) × Int × Int) (ι := Unit) (fun k x => erase_End_l5 d3 k x) _ (fun x5 i5 => True) (fun x5 i5 => [(15, (I x5.1)), (14, (I (d3.2.length : Int))), (13, (V i3.2)), (0, (F b0 0)), (1, (I p1))]) (fun x5 i5 => i3.1 :: blk b0 (.cells (A [(I x5.2.1), (O x5.2.2.1), (I x5.2.2.2.1), (I x5.2.2.2.2.1), (V s0), (I x5.2.2.2.2.2.2.1), (I x5.2.2.2.2.2.2.2)]) 122 (0, 0)) :: slO s0 26 en_Vapi_Cell x5.2.2.2.2.2.1 :: R) (fun _ => J) ?_ fuel (0, d3.1.model, d3.1.alternate, d3.1.size.Rows, d3.1.size.Cols, d3.1.cells, d3.1.cursor, d3.1.attrs) () trivial h)))
   clear h
   rintro k5 ih5 x5 i5 _ h
   rw [erase_End_l5.eq_2] at h
   refine l_round (cr ?_)
   refine o1 J (o_p (v := (O (decide (x5.1 < (d3.2.length : Int))))) J ?_)
   refine oe (c_seq ?_)
   refine c_cond (b := (decide (x5.1 < (d3.2.length : Int)))) J (fun hb730 => ?_) (fun hb730 => ?_)
   ·replace h := cond_t hb730 h
    refine c_skip (e_seq (c_seq (c_block (cr ?_))))
    replace h := gsome h
    obtain ⟨hg731, h⟩ := h
    refine o1 J (o_ix (s := i3.2) (n := x5.1) (e := (enI .i64)) J J J J J J rm0 f3_0 hg731 ?_)
    refine o1 J (o_ldE (s := i3.2) (e := (enI .i64)) (n := x5.1) (f := 0) (v := (I (rd d3.2 x5.1))) J rm0 f3_0 hg731 J J ?_)
    refine op J J (oe (c_region (op J J (op J J ?_))))
    replace h := bsome h
    obtain ⟨d8, h8, h⟩ := h
    refine o1 J (o_call has19 J (c_space_Space_Put i3.1 (⟨x5.2.1, x5.2.2.1, (⟨x5.2.2.2.1, x5.2.2.2.2.1⟩ : Vaddr_Size), x5.2.2.2.2.2.1, x5.2.2.2.2.2.2.1, x5.2.2.2.2.2.2.2⟩ : Vspace_Space) b0 s0 (rd d3.2 x5.1) 0 _ h8) (pc rm0 (pc rm0 (pc rm0 pn))) ?_)
    refine o_end (e_blk (e_seq (c_region ?_)))
    refine o1 J (o_p (v := (I (w64 (x5.1 + 1)))) J ?_)
    refine op J J (o_end ?_)
    exact e_loop (l_sub (sc J (sc J (sc J (sc J (sc J sn))))) (l_keep (kc rm0 (kc rm0 (kc rm0 kr))) (ih5 (w64 (x5.1 + 1), d8.model, d8.alternate, d8.size.Rows, d8.size.Cols, d8.cells, d8.cursor, d8.attrs) () trivial h)))
   ·replace h := cond_f hb730 h
    refine c_exit (e_then_exit (e_then_exit (e_blk_exit ?_)))
    obtain rfl := si h
    exact ej () () trivial (sc J (sc J sn)) (kc rm0 (kc rm0 (kc rm0 kr)))
  ·rintro _ i4 _
   replace h := hk4
   clear hk4
   refine e_seq (cr (op J J (op J J ?_)))
   replace h := bsome h
   obtain ⟨d9, h9, h⟩ := h
   refine o1 J (o_call has84 J (c_field_Modify i3.1 (⟨d4.1, d4.2.1, (⟨d4.2.2.1, d4.2.2.2.1⟩ : Vaddr_Size), d4.2.2.2.2.1, d4.2.2.2.2.2.1, d4.2.2.2.2.2.2⟩ : Vspace_Space) b0 s0 p1 _ h9) (pc rm0 (pc rm0 (pc rm0 pn))) ?_)
   refine oe (cr (op J J (o_end ?_)))
   refine e_seq (c_ret (e_ret ?_))
   refine r_endt J J (kc rm0 (kc rm0 (kc rm0 kr))) ?_
   obtain rfl := si h
   exact hk i3.1 f3_1

theorem c_erase_all {g : Gw} (X : HP) (p0 : Vspace_Space) (b0 : Nat) (s0 : SV) (r : Vspace_Space) (h : m_erase_all p0 = some r) : Tri env g 135 (A [(F b0 0)]) [X, blk b0 (.cells (A [(I p0.model), (O p0.alternate), (I p0.size.Rows), (I p0.size.Cols), (V s0), (I p0.cursor), (I p0.attrs)]) 122 (0, 0)), slO s0 26 en_Vapi_Cell p0.cells] (fun K R => K (.tuple (A [])) (X :: blk b0 (.cells (A [(I r.model), (O r.alternate), (I r.size.Rows), (I r.size.Cols), (V s0), (I r.cursor), (I r.attrs)]) 122 (0, 0)) :: slO s0 26 en_Vapi_Cell r.cells :: R)) := by
 refine tri_of (fn := Tryz.f135) (N := 13) Tryz.func135 J J J ?_
 intro R K hk
 unfold m_erase_all at h
 change GC _ none _ [] [(0, (F b0 0))] (X :: blk b0 (.cells (A [(I p0.model), (O p0.alternate), (I p0.size.Rows), (I p0.size.Cols), (V s0), (I p0.cursor), (I p0.attrs)]) 122 (0, 0)) :: slO s0 26 en_Vapi_Cell p0.cells :: R) g _ _
 refine cr (op J J ?_)
 replace h := bsome h
 obtain ⟨d1, h1, h⟩ := h
 refine o1 J (o_call has121 J (c_space_Space_Size X p0 b0 s0 _ h1) (pc rm0 (pc rm0 (pc rm0 pn))) ?_)
 replace h := bsome h
 obtain ⟨d2, h2, h⟩ := h
 refine o1 J (o_call has76 J (c_addr_Size_Cells X (⟨d1.Rows, d1.Cols⟩ : Vaddr_Size) _ h2) (pc rm0 pn) ?_)
 refine op J J (oe ?_)
 replace h := bsome h
 obtain ⟨d3, h, hk3⟩ := h
 refine cj (D := Unit) (ι := Unit) (fun _ i3 => True) (fun _ i3 => []) (fun _ i3 => X :: blk b0 (.cells (A [(I d3.1), (O d3.2.1), (I d3.2.2.1), (I d3.2.2.2.1), (V s0), (I d3.2.2.2.2.2.1), (I d3.2.2.2.2.2.2)]) 122 (0, 0)) :: slO s0 26 en_Vapi_Cell d3.2.2.2.2.1 :: R) ?_ ?_
 ·refine c_block ?_
  refine c_loop (l_sub (sc J (sc J (sc J sn))) (l_keep (kc rm0 (kc rm0 (kc rm0 kr))) (lf (X := Int × Int × Bool × Int × Int × (List Vapi_Cell) × Int × Int) (ι := Unit) (fun k x => erase_all_l4 d2 k x) _ (fun x4 i4 => True) (fun x4 i4 => [(6, (I x4.1)), (5, (I d2)), (0, (F b0 0))]) (fun x4 i4 => X :: blk b0 (.cells (A [(I x4.2.1), (O x4.2.2.1), (I x4.2.2.2.1), (I x4.2.2.2.2.1), (V s0), (I x4.2.2.2.2.2.2.1), (I x4.2.2.2.2.2.2.2)]) 122 (0, 0)) :: slO s0 26 en_Vapi_Cell x4.2.2.2.2.2.1 :: R) (fun _ => J) ?_ fuel (0, p0.model, p0.alternate, p0.size.Rows, p0.size.Cols, p0.cells, p0.cursor, p0.attrs) () trivial h)))
  clear h
  rintro k4 ih4 x4 i4 _ h
  rw [erase_all_l4.eq_2] at h
  refine l_round (cr ?_)
  refine o1 J (o_p (v := (O (decide (x4.1 < d2)))) J ?_)
  refine oe (c_seq ?_)
  refine c_cond (b := (decide (x4.1 < d2))) J (fun hb748 => ?_) (fun hb748 => ?_)
  ·replace h := cond_t hb748 h
   refine c_skip (e_seq (c_seq (c_block (cr ?_))))
   refine op J J (op J J (oe (c_region (op J J ?_))))
   refine op J J ?_
   replace h := bsome h
   obtain ⟨d7, h7, h⟩ := h
   refine o1 J (o_call has19 J (c_space_Space_Put X (⟨x4.2.1, x4.2.2.1, (⟨x4.2.2.2.1, x4.2.2.2.2.1⟩ : Vaddr_Size), x4.2.2.2.2.2.1, x4.2.2.2.2.2.2.1, x4.2.2.2.2.2.2.2⟩ : Vspace_Space) b0 s0 x4.1 0 _ h7) (pc rm0 (pc rm0 (pc rm0 pn))) ?_)
   refine o_end (e_blk (e_seq (c_region ?_)))
   refine o1 J (o_p (v := (I (w64 (x4.1 + 1)))) J ?_)
   refine op J J (o_end ?_)
   exact e_loop (l_sub (sc J (sc J (sc J sn))) (l_keep (kc rm0 (kc rm0 (kc rm0 kr))) (ih4 (w64 (x4.1 + 1), d7.model, d7.alternate, d7.size.Rows, d7.size.Cols, d7.cells, d7.cursor, d7.attrs) () trivial h)))
  ·replace h := cond_f hb748 h
   refine c_exit (e_then_exit (e_then_exit (e_blk_exit ?_)))
   obtain rfl := si h
   exact ej () () trivial sn (kc rm0 (kc rm0 (kc rm0 kr)))
 ·rintro _ i3 _
  replace h := hk3
  clear hk3
  refine e_fall ?_
  refine r_endt J J (kc rm0 (kc rm0 (kc rm0 kr))) ?_
  obtain rfl := si h
  exact hk

theorem c_field_Fields {g : Gw} (X : HP) (p0 : Vspace_Space) (b0 : Nat) (s0 : SV) (r : Unit) (h : m_field_Fields p0 = some r) : Tri env g 136 (A [(F b0 0)]) [X, blk b0 (.cells (A [(I p0.model), (O p0.alternate), (I p0.size.Rows), (I p0.size.Cols), (V s0), (I p0.cursor), (I p0.attrs)]) 122 (0, 0)), slO s0 26 en_Vapi_Cell p0.cells] (fun K R => ∀ (i0 : Nat), K (.func (.func 156) #[] (A [(F i0 0)])) (X :: blk b0 (.cells (A [(I p0.model), (O p0.alternate), (I p0.size.Rows), (I p0.size.Cols), (V s0), (I p0.cursor), (I p0.attrs)]) 122 (0, 0)) :: slO s0 26 en_Vapi_Cell p0.cells :: blk i0 (.cells (A [(F b0 0)]) 31 (0, 0)) :: R)) := by
 refine tri_of (fn := Tryz.f136) (N := 4) Tryz.func136 J J J ?_
 intro R K hk
 unfold m_field_Fields at h
 change GC _ none _ [] [(0, (F b0 0))] (X :: blk b0 (.cells (A [(I p0.model), (O p0.alternate), (I p0.size.Rows), (I p0.size.Cols), (V s0), (I p0.cursor), (I p0.attrs)]) 122 (0, 0)) :: slO s0 26 en_Vapi_Cell p0.cells :: R) g _ _
 refine cr ?_
 refine o1 J (o_box (cs := [(F b0 0)]) J J (fun b755 => ?_))
 refine op J J (oe (cr (op J J ?_)))
 refine op J J (oe (c_ret (e_ret ?_)))
 refine r_endt J J (kc rm1 (kc rm1 (kc rm1 (kc rm0 kr)))) ?_
 obtain rfl := si h
 exact hk b755

theorem c_space_Space_Attrs {g : Gw} (X : HP) (p0 : Vspace_Space) (b0 : Nat) (s0 : SV) (r : Unit) (h : m_space_Space_Attrs p0 = some r) : Tri env g 157 (A [(F b0 0)]) [X, blk b0 (.cells (A [(I p0.model), (O p0.alternate), (I p0.size.Rows), (I p0.size.Cols), (V s0), (I p0.cursor), (I p0.attrs)]) 122 (0, 0)), slO s0 26 en_Vapi_Cell p0.cells] (fun K R => ∀ (i0 : Nat), K (.func (.func 164) #[] (A [(F i0 0)])) (X :: blk b0 (.cells (A [(I p0.model), (O p0.alternate), (I p0.size.Rows), (I p0.size.Cols), (V s0), (I p0.cursor), (I p0.attrs)]) 122 (0, 0)) :: slO s0 26 en_Vapi_Cell p0.cells :: blk i0 (.cells (A [(F b0 0)]) 31 (0, 0)) :: R)) := by
 refine tri_of (fn := Tryz.f157) (N := 4) Tryz.func157 J J J ?_
 intro R K hk
 unfold m_space_Space_Attrs at h
 change GC _ none _ [] [(0, (F b0 0))] (X :: blk b0 (.cells (A [(I p0.model), (O p0.alternate), (I p0.size.Rows), (I p0.size.Cols), (V s0), (I p0.cursor), (I p0.attrs)]) 122 (0, 0)) :: slO s0 26 en_Vapi_Cell p0.cells :: R) g _ _
 refine cr ?_
 refine o1 J (o_box (cs := [(F b0 0)]) J J (fun b760 => ?_))
 refine op J J (oe (cr (op J J ?_)))
 refine op J J (oe (c_ret (e_ret ?_)))
 refine r_endt J J (kc rm1 (kc rm1 (kc rm1 (kc rm0 kr)))) ?_
 obtain rfl := si h
 exact hk b760

theorem c_space_Space_All {g : Gw} (X : HP) (p0 : Vspace_Space) (b0 : Nat) (s0 : SV) (r : Unit) (h : m_space_Space_All p0 = some r) : Tri env g 165 (A [(F b0 0)]) [X, blk b0 (.cells (A [(I p0.model), (O p0.alternate), (I p0.size.Rows), (I p0.size.Cols), (V s0), (I p0.cursor), (I p0.attrs)]) 122 (0, 0)), slO s0 26 en_Vapi_Cell p0.cells] (fun K R => ∀ (i0 : Nat), K (.func (.func 169) #[] (A [(F i0 0)])) (X :: blk b0 (.cells (A [(I p0.model), (O p0.alternate), (I p0.size.Rows), (I p0.size.Cols), (V s0), (I p0.cursor), (I p0.attrs)]) 122 (0, 0)) :: slO s0 26 en_Vapi_Cell p0.cells :: blk i0 (.cells (A [(F b0 0)]) 31 (0, 0)) :: R)) := by
 refine tri_of (fn := Tryz.f165) (N := 4) Tryz.func165 J J J ?_
 intro R K hk
 unfold m_space_Space_All at h
 change GC _ none _ [] [(0, (F b0 0))] (X :: blk b0 (.cells (A [(I p0.model), (O p0.alternate), (I p0.size.Rows), (I p0.size.Cols), (V s0), (I p0.cursor), (I p0.attrs)]) 122 (0, 0)) :: slO s0 26 en_Vapi_Cell p0.cells :: R) g _ _
 refine cr ?_
 refine o1 J (o_box (cs := [(F b0 0)]) J J (fun b765 => ?_))
 refine op J J (oe (cr (op J J ?_)))
 refine op J J (oe (c_ret (e_ret ?_)))
 refine r_endt J J (kc rm1 (kc rm1 (kc rm1 (kc rm0 kr)))) ?_
 obtain rfl := si h
 exact hk b765

theorem c_erase_Unprotected {g : Gw} (X : HP) (p0 : Vspace_Space) (b0 : Nat) (s0 : SV) (r : Vspace_Space) (h : m_erase_Unprotected p0 = some r) : Tri env g 95 (A [(F b0 0)]) [X, blk b0 (.cells (A [(I p0.model), (O p0.alternate), (I p0.size.Rows), (I p0.size.Cols), (V s0), (I p0.cursor), (I p0.attrs)]) 122 (0, 0)), slO s0 26 en_Vapi_Cell p0.cells] (fun K R => K (.tuple (A [])) (X :: blk b0 (.cells (A [(I r.model), (O r.alternate), (I r.size.Rows), (I r.size.Cols), (V s0), (I r.cursor), (I r.attrs)]) 122 (0, 0)) :: slO s0 26 en_Vapi_Cell r.cells :: R)) := by
 refine tri_of (fn := Tryz.f95) (N := 42) Tryz.func95 J J J ?_
 intro R K hk
 unfold m_erase_Unprotected at h
 change GC _ none _ [] [(0, (F b0 0))] (X :: blk b0 (.cells (A [(I p0.model), (O p0.alternate), (I p0.size.Rows), (I p0.size.Cols), (V s0), (I p0.cursor), (I p0.attrs)]) 122 (0, 0)) :: slO s0 26 en_Vapi_Cell p0.cells :: R) g _ _
 refine cr ?_
 refine o1 J (o_box (cs := [(F b0 0)]) J J (fun b739 => ?_))
 refine oe (c_seq (cr ?_))
 refine o1 J (o_ld (b := b739) (off := 0) (v := (F b0 0)) J rm0 J J ?_)
 replace h := bsome h
 obtain ⟨d1, h1, h⟩ := h
 refine o1 J (o_call has120 J (c_space_Space_Formatted X p0 b0 s0 _ h1) (pc rm1 (pc rm1 (pc rm1 pn))) ?_)
 refine o1 J (o_p (v := (O (!d1))) J ?_)
 refine oe ?_
 refine c_cond (b := (!d1)) J (fun hb741 => ?_) (fun hb741 => ?_)
 ·replace h := cond_t hb741 h
  refine cr ?_
  refine o1 J (o_ld (b := b739) (off := 0) (v := (F b0 0)) J rm3 J J ?_)
  replace h := bsome h
  obtain ⟨d3, h3, h⟩ := h
  refine o1 J (o_call has135 J (c_erase_all X p0 b0 s0 _ h3) (pc rm0 (pc rm0 (pc rm0 pn))) ?_)
  refine oe (cr ?_)
  refine o1 J (o_ld (b := b739) (off := 0) (v := (F b0 0)) J rm3 J J ?_)
  replace h := bsome h
  obtain ⟨d4, h4, h⟩ := h
  refine o1 J (o_call has43 J (c_space_Space_Place X d3 b0 s0 0 _ h4) (pc rm0 (pc rm0 (pc rm0 pn))) ?_)
  refine oe (c_ret (e_then_ret (e_ret ?_)))
  refine r_endt J J (kc rm0 (kc rm0 (kc rm0 (kd kr)))) ?_
  obtain rfl := si h
  exact hk
 ·replace h := cond_f hb741 h
  refine c_skip (e_seq (c_seq (cr ?_)))
  refine o1 J (o_ld (b := b739) (off := 0) (v := (F b0 0)) J rm3 J J ?_)
  replace h := bsome h
  obtain ⟨d5, h5, h⟩ := h
  refine o1 J (o_call has136 J (c_field_Fields X p0 b0 s0 _ h5) (pc rm0 (pc rm0 (pc rm0 pn))) (fun i5 => ?_))
  refine oe ?_
  replace h := bsome h
  obtain ⟨d6, h, hk6⟩ := h
  refine cjd (D := Unit) (ι := Nat) (fun _ i6 => [mk i6]) (fun _ i6 => True) (fun _ i6 => [(1, (F b739 0))]) (fun _ i6 => X :: blk b739 (.cells (A [(F b0 0)]) 31 (0, 0)) :: blk b0 (.cells (A [(I d6.1), (O d6.2.1), (I d6.2.2.1), (I d6.2.2.2.1), (V s0), (I d6.2.2.2.2.2.1), (I d6.2.2.2.2.2.2)]) 122 (0, 0)) :: slO s0 26 en_Vapi_Cell d6.2.2.2.2.1 :: blk i6 (.deferred (some [])) :: R) ?_ ?_
  ·refine c_block ?_
   replace h := bsome h
   obtain ⟨d7, h, hk7⟩ := h
   refine cjd (D := Unit) (ι := Nat) (fun _ i7 => [mk i7]) (fun _ i7 => True) (fun _ i7 => [(1, (F b739 0))]) (fun _ i7 => X :: blk b739 (.cells (A [(F b0 0)]) 31 (0, 0)) :: blk b0 (.cells (A [(I d7.1), (O d7.2.1), (I d7.2.2.1), (I d7.2.2.2.1), (V s0), (I d7.2.2.2.2.2.1), (I d7.2.2.2.2.2.2)]) 122 (0, 0)) :: slO s0 26 en_Vapi_Cell d7.2.2.2.2.1 :: blk i7 (.deferred (some [])) :: R) ?_ ?_
   ·refine c_range' (fn := Tryz.f156) (M := 16) J has156 Tryz.func156 J J J (fun l8 D8 a8 fc8 rc8 hrc8 ht8 => ?_)
    change GC _ none _ [] [(0, (.func (.yield l8) #[] #[])), (1, (F i5 0))] (blk l8 (.loop (rc8 .ready none)) :: blk D8 (.deferred (some [])) :: X :: blk b0 (.cells (A [(I p0.model), (O p0.alternate), (I p0.size.Rows), (I p0.size.Cols), (V s0), (I p0.cursor), (I p0.attrs)]) 122 (0, 0)) :: slO s0 26 en_Vapi_Cell p0.cells :: blk i5 (.cells (A [(F b0 0)]) 31 (0, 0)) :: blk b739 (.cells (A [(F b0 0)]) 31 (0, 0)) :: R) g _ _
    refine cr ?_
    refine o1 J (o_box (cs := [(.func (.yield l8) #[] #[])]) J J (fun b758 => ?_))
    refine oe (cr ?_)
    refine o1 J (o_ld (b := i5) (off := 0) (v := (F b0 0)) J rm6 J J ?_)
    replace h := bsome h
    obtain ⟨d9, h9, h⟩ := h
    refine o1 J (o_call has157 J (c_space_Space_Attrs X p0 b0 s0 _ h9) (pc rm3 (pc rm3 (pc rm3 pn))) (fun i9 => ?_))
    refine oe ?_
    replace h := bsome h
    obtain ⟨d10, h, hk10⟩ := h
    refine cjd (D := Unit) (ι := Nat) (fun _ i10 => [mk i10]) (fun _ i10 => True) (fun _ i10 => []) (fun _ i10 => X :: blk b0 (.cells (A [(I d10.1), (O d10.2.1), (I d10.2.2.1), (I d10.2.2.2.1), (V s0), (I d10.2.2.2.2.2.1), (I d10.2.2.2.2.2.2)]) 122 (0, 0)) :: blk i5 (.cells (A [(F b0 0)]) 31 (0, 0)) :: blk b739 (.cells (A [(F b0 0)]) 31 (0, 0)) :: slO s0 26 en_Vapi_Cell d10.2.2.2.2.1 :: blk i10 (.deferred (some [])) :: blk l8 (.loop (rc8 .ready none)) :: blk D8 (.deferred (some [])) :: R) ?_ ?_
    ·refine c_block ?_
     replace h := bsome h
     obtain ⟨d11, h, hk11⟩ := h
     refine cjd (D := Unit) (ι := Nat) (fun _ i11 => [mk i11]) (fun _ i11 => True) (fun _ i11 => []) (fun _ i11 => X :: blk b0 (.cells (A [(I d11.1), (O d11.2.1), (I d11.2.2.1), (I d11.2.2.2.1), (V s0), (I d11.2.2.2.2.2.1), (I d11.2.2.2.2.2.2)]) 122 (0, 0)) :: blk i5 (.cells (A [(F b0 0)]) 31 (0, 0)) :: blk b739 (.cells (A [(F b0 0)]) 31 (0, 0)) :: slO s0 26 en_Vapi_Cell d11.2.2.2.2.1 :: blk i11 (.deferred (some [])) :: blk l8 (.loop (rc8 .ready none)) :: blk D8 (.deferred (some [])) :: R) ?_ ?_
     ·refine c_range' (fn := Tryz.f164) (M := 17) J has164 Tryz.func164 J J J (fun l12 D12 a12 fc12 rc12 hrc12 ht12 => ?_)
      change GC _ none _ [] [(0, (.func (.yield l12) #[] #[])), (1, (F i9 0))] (blk l12 (.loop (rc12 .ready none)) :: blk D12 (.deferred (some [])) :: X :: blk b0 (.cells (A [(I p0.model), (O p0.alternate), (I p0.size.Rows), (I p0.size.Cols), (V s0), (I p0.cursor), (I p0.attrs)]) 122 (0, 0)) :: slO s0 26 en_Vapi_Cell p0.cells :: blk i9 (.cells (A [(F b0 0)]) 31 (0, 0)) :: blk b758 (.cells (A [(.func (.yield l8) #[] #[])]) 206 (0, 0)) :: blk l8 (.loop (rc8 .ready none)) :: blk D8 (.deferred (some [])) :: blk i5 (.cells (A [(F b0 0)]) 31 (0, 0)) :: blk b739 (.cells (A [(F b0 0)]) 31 (0, 0)) :: R) g _ _
      refine cr ?_
      refine o1 J (o_box (cs := [(.func (.yield l12) #[] #[])]) J J (fun b763 => ?_))
      refine oe (cr ?_)
      refine o1 J (o_ld (b := i9) (off := 0) (v := (F b0 0)) J rm6 J J ?_)
      replace h := bsome h
      obtain ⟨d13, h13, h⟩ := h
      refine o1 J (o_call has165 J (c_space_Space_All X p0 b0 s0 _ h13) (pc rm3 (pc rm3 (pc rm3 pn))) (fun i13 => ?_))
      refine oe ?_
      replace h := bsome h
      obtain ⟨d14, h, hk14⟩ := h
      refine cjd (D := Unit) (ι := Nat) (fun _ i14 => [mk i14]) (fun _ i14 => True) (fun _ i14 => []) (fun _ i14 => X :: blk b0 (.cells (A [(I d14.1), (O d14.2.1), (I d14.2.2.1), (I d14.2.2.2.1), (V s0), (I d14.2.2.2.2.2.1), (I d14.2.2.2.2.2.2)]) 122 (0, 0)) :: blk i5 (.cells (A [(F b0 0)]) 31 (0, 0)) :: blk b739 (.cells (A [(F b0 0)]) 31 (0, 0)) :: blk i9 (.cells (A [(F b0 0)]) 31 (0, 0)) :: blk b758 (.cells (A [(.func (.yield l8) #[] #[])]) 206 (0, 0)) :: slO s0 26 en_Vapi_Cell d14.2.2.2.2.1 :: blk i14 (.deferred (some [])) :: blk l12 (.loop (rc12 .ready none)) :: blk D12 (.deferred (some [])) :: blk l8 (.loop (rc8 .ready none)) :: blk D8 (.deferred (some [])) :: R) ?_ ?_
      ·refine c_block ?_
       replace h := bsome h
       obtain ⟨d15, h, hk15⟩ := h
       refine cjd (D := Unit) (ι := Nat) (fun _ i15 => [mk i15]) (fun _ i15 => True) (fun _ i15 => []) (fun _ i15 => X :: blk b0 (.cells (A [(I d15.1), (O d15.2.1), (I d15.2.2.1), (I d15.2.2.2.1), (V s0), (I d15.2.2.2.2.2.1), (I d15.2.2.2.2.2.2)]) 122 (0, 0)) :: blk i5 (.cells (A [(F b0 0)]) 31 (0, 0)) :: blk b739 (.cells (A [(F b0 0)]) 31 (0, 0)) :: blk i9 (.cells (A [(F b0 0)]) 31 (0, 0)) :: blk b758 (.cells (A [(.func (.yield l8) #[] #[])]) 206 (0, 0)) :: slO s0 26 en_Vapi_Cell d15.2.2.2.2.1 :: blk i15 (.deferred (some [])) :: blk l12 (.loop (rc12 .ready none)) :: blk D12 (.deferred (some [])) :: blk l8 (.loop (rc8 .ready none)) :: blk D8 (.deferred (some [])) :: R) ?_ ?_
       ·refine c_range' (fn := Tryz.f169) (M := 18) J has169 Tryz.func169 J J J (fun l16 D16 a16 fc16 rc16 hrc16 ht16 => ?_)
        change GC _ none _ [] [(0, (.func (.yield l16) #[] #[])), (1, (F i13 0))] (blk l16 (.loop (rc16 .ready none)) :: blk D16 (.deferred (some [])) :: X :: blk b0 (.cells (A [(I p0.model), (O p0.alternate), (I p0.size.Rows), (I p0.size.Cols), (V s0), (I p0.cursor), (I p0.attrs)]) 122 (0, 0)) :: slO s0 26 en_Vapi_Cell p0.cells :: blk i13 (.cells (A [(F b0 0)]) 31 (0, 0)) :: blk b763 (.cells (A [(.func (.yield l12) #[] #[])]) 118 (0, 0)) :: blk l12 (.loop (rc12 .ready none)) :: blk D12 (.deferred (some [])) :: blk i9 (.cells (A [(F b0 0)]) 31 (0, 0)) :: blk b758 (.cells (A [(.func (.yield l8) #[] #[])]) 206 (0, 0)) :: blk l8 (.loop (rc8 .ready none)) :: blk D8 (.deferred (some [])) :: blk i5 (.cells (A [(F b0 0)]) 31 (0, 0)) :: blk b739 (.cells (A [(F b0 0)]) 31 (0, 0)) :: R) g _ _
        refine cr ?_
        refine o1 J (o_ld (b := i13) (off := 0) (v := (F b0 0)) J rm5 J J ?_)
        replace h := bsome h
        obtain ⟨d17, h17, h⟩ := h
        refine o1 J (o_call has121 J (c_space_Space_Size X p0 b0 s0 _ h17) (pc rm2 (pc rm2 (pc rm2 pn))) ?_)
        replace h := bsome h
        obtain ⟨d18, h18, h⟩ := h
        refine o1 J (o_call has76 J (c_addr_Size_Cells X (⟨d17.Rows, d17.Cols⟩ : Vaddr_Size) _ h18) (pc rm0 pn) ?_)
        refine op J J (oe ?_)
        replace h := bsome h
        obtain ⟨d19, h, hk19⟩ := h
        refine cj (D := Unit) (ι := Unit) (fun _ i19 => True) (fun _ i19 => []) (fun _ i19 => X :: blk b0 (.cells (A [(I d19.1), (O d19.2.1), (I d19.2.2.1), (I d19.2.2.2.1), (V s0), (I d19.2.2.2.2.2.1), (I d19.2.2.2.2.2.2)]) 122 (0, 0)) :: blk i5 (.cells (A [(F b0 0)]) 31 (0, 0)) :: blk b739 (.cells (A [(F b0 0)]) 31 (0, 0)) :: blk i9 (.cells (A [(F b0 0)]) 31 (0, 0)) :: blk b758 (.cells (A [(.func (.yield l8) #[] #[])]) 206 (0, 0)) :: blk i13 (.cells (A [(F b0 0)]) 31 (0, 0)) :: blk b763 (.cells (A [(.func (.yield l12) #[] #[])]) 118 (0, 0)) :: slO s0 26 en_Vapi_Cell d19.2.2.2.2.1 :: blk l16 (.loop (rc16 .ready none)) :: blk D16 (.deferred (some [])) :: blk l12 (.loop (rc12 .ready none)) :: blk D12 (.deferred (some [])) :: blk l8 (.loop (rc8 .ready none)) :: blk D8 (.deferred (some [])) :: R) ?_ ?_
        ·refine c_block ?_
         refine c_loop (l_sub (sc J (sc J (sc J (sc J sn)))) (l_keep (kc rm0 (kc rm4 (kc rm0 (kc rm10 (kc rm10 (kc rm6 (kc rm6 (kc rm3 (kc rm0 (kc rm0 (kc rm0 (kc rm0 (kc rm0 (kc rm0 (kc rm0 kr))))))))))))))) (lf (X := Int × Int × Bool × Int × Int × (List Vapi_Cell) × Int × Int) (ι := Unit) (fun k x => erase_Unprotected_l20 d18 k x) _ (fun x20 i20 => True) (fun x20 i20 => [(7, (I x20.1)), (6, (I d18)), (0, (.func (.yield l16) #[] #[])), (1, (F i13 0))]) (fun x20 i20 => X :: blk i13 (.cells (A [(F b0 0)]) 31 (0, 0)) :: blk b0 (.cells (A [(I x20.2.1), (O x20.2.2.1), (I x20.2.2.2.1), (I x20.2.2.2.2.1), (V s0), (I x20.2.2.2.2.2.2.1), (I x20.2.2.2.2.2.2.2)]) 122 (0, 0)) :: blk i5 (.cells (A [(F b0 0)]) 31 (0, 0)) :: blk b739 (.cells (A [(F b0 0)]) 31 (0, 0)) :: blk i9 (.cells (A [(F b0 0)]) 31 (0, 0)) :: blk b758 (.cells (A [(.func (.yield l8) #[] #[])]) 206 (0, 0)) :: blk b763 (.cells (A [(.func (.yield l12) #[] #[])]) 118 (0, 0)) :: slO s0 26 en_Vapi_Cell x20.2.2.2.2.2.1 :: blk l16 (.loop (rc16 .ready none)) :: blk D16 (.deferred (some [])) :: blk l12 (.loop (rc12 .ready none)) :: blk D12 (.deferred (some [])) :: blk l8 (.loop (rc8 .ready none)) :: blk D8 (.deferred (some [])) :: R) (fun _ => J) ?_ fuel (0, p0.model, p0.alternate, p0.size.Rows, p0.size.Cols, p0.cells, p0.cursor, p0.attrs) () trivial h)))
         clear h
         rintro k20 ih20 x20 i20 _ h
         rw [erase_Unprotected_l20.eq_2] at h
         refine l_round (cr ?_)
         refine o1 J (o_p (v := (O (decide (x20.1 < d18)))) J ?_)
         refine oe (c_seq ?_)
         refine c_cond (b := (decide (x20.1 < d18))) J (fun hb828 => ?_) (fun hb828 => ?_)
         ·replace h := cond_t hb828 h
          refine c_skip (e_seq (c_seq (c_block (cr ?_))))
          refine op J J (op J J (oe (cr ?_)))
          refine op J J (op J J ?_)
          refine o1 J (o_ld (b := i13) (off := 0) (v := (F b0 0)) J rm1 J J ?_)
          refine op J J ?_
          replace h := bsome h
          obtain ⟨d23, h23, h⟩ := h
          refine o1 J (o_call has13 J (c_space_Space_At X (⟨x20.2.1, x20.2.2.1, (⟨x20.2.2.2.1, x20.2.2.2.2.1⟩ : Vaddr_Size), x20.2.2.2.2.2.1, x20.2.2.2.2.2.2.1, x20.2.2.2.2.2.2.2⟩ : Vspace_Space) b0 s0 x20.1 _ h23) (pc rm0 (pc rm1 (pc rm6 pn))) ?_)
          refine o1 J (o_yield' hrc16 ht16 J J J J rm9 ?_)
          refine cr (op J J (oe (c_region ?_)))
          refine o1 J (o_alloc (cs := [(U 0), (O false), (U 0), (U 0), (U 0), (U 0)]) J J (fun b829 => ?_))
          refine o0 (o_st (b := b829) (off := 0) (vs := [(U d23.Char), (O d23.Attr), (U d23.FA), (U d23.High), (U d23.Color), (U d23.f_Set)]) (cs' := [(U d23.Char), (O d23.Attr), (U d23.FA), (U d23.High), (U d23.Color), (U d23.f_Set)]) J J rp0 J J J J J J ?_)
          refine o_end ?_
          refine e_begin' hrc16 rm1 ?_
          refine c_block (c_seq ?_)
          replace h := bsome h
          obtain ⟨d25, h, hk25⟩ := h
          refine cj (D := Unit) (ι := Unit) (fun _ i25 => True) (fun _ i25 => [(16, (O false))]) (fun _ i25 => X :: blk b0 (.cells (A [(I d25.1), (O d25.2.1), (I d25.2.2.1), (I d25.2.2.2.1), (V s0), (I d25.2.2.2.2.2.1), (I d25.2.2.2.2.2.2)]) 122 (0, 0)) :: blk i5 (.cells (A [(F b0 0)]) 31 (0, 0)) :: blk b739 (.cells (A [(F b0 0)]) 31 (0, 0)) :: blk i9 (.cells (A [(F b0 0)]) 31 (0, 0)) :: blk b758 (.cells (A [(.func (.yield l8) #[] #[])]) 206 (0, 0)) :: blk i13 (.cells (A [(F b0 0)]) 31 (0, 0)) :: blk b763 (.cells (A [(.func (.yield l12) #[] #[])]) 118 (0, 0)) :: slO s0 26 en_Vapi_Cell d25.2.2.2.2.1 :: blk l12 (.loop (rc12 .ready none)) :: blk l8 (.loop (rc8 .ready none)) :: blk l16 (.loop (rc16 .busy none)) :: blk D16 (.deferred (some [])) :: blk D12 (.deferred (some [])) :: blk D8 (.deferred (some [])) :: R) ?_ ?_
          ·refine c_region ?_
           refine o1 J (o_fa (fd := ⟨ "Attr", 4, 1, false, "", "", 1⟩) J J J J J ?_)
           refine o1 J (o_ld (b := b829) (off := 1) (v := (O d23.Attr)) J rm1 J J ?_)
           refine op J J ?_
           rcases bool_or (d23.Attr) with hb831 | hb831
           ·replace h := cond_t hb831 h
            refine oy J J J hb831 (o_ld (b := b763) (off := 0) (v := (.func (.yield l12) #[] #[])) J rm10 J J ?_)
            refine oy J J J hb831 (o_p J ?_)
            refine oy J J J hb831 (o_yield' hrc12 ht12 J J J J rm12 ?_)
            refine c_region (op J J (o_end ?_))
            refine e_begin' hrc12 rm0 ?_
            refine c_block (c_seq ?_)
            refine c_draw (n := 3) (q := [(0, 7, (.func (.yield l8) #[] #[])), (1, 8, (I x20.1)), (2, 9, (F b0 0)), (3, 10, (I x20.1))]) (pend := [0, 1, 2, 3]) J J J ?_
            replace h := bsome h
            obtain ⟨d28, h28, h⟩ := h
            refine ⟨⟨fun _ => ⟨J, J, J, .inl ⟨J, (o_ld (b := b758) (off := 0) (v := (.func (.yield l8) #[] #[])) J rm10 J J ⟨J, J⟩)⟩⟩, fun _ => ⟨J, J, J, .inl ⟨J, (o_p J ⟨J, J⟩)⟩⟩, fun _ => ⟨J, J, J, .inl ⟨J, (o_ld (b := i5) (off := 0) (v := (F b0 0)) J rm7 J J ⟨J, J⟩)⟩⟩, fun _ => ⟨J, J, J, .inl ⟨J, (o_p J ⟨J, J⟩)⟩⟩, trivial⟩, J, .inr ⟨[4], J, J, ⟨J, .inl J, ?_⟩, trivial⟩⟩
            refine (o_call has13 J (c_space_Space_At X (⟨x20.2.1, x20.2.2.1, (⟨x20.2.2.2.1, x20.2.2.2.2.1⟩ : Vaddr_Size), x20.2.2.2.2.2.1, x20.2.2.2.2.2.2.1, x20.2.2.2.2.2.2.2⟩ : Vspace_Space) b0 s0 x20.1 _ h28) (pc rm3 (pc rm3 (pc rm3 pn))) ?_)
            refine ⟨[(5, 12, (U d28.FA))], [0, 1, 5], J, J, J, J, ?_⟩
            replace h := bsome h
            obtain ⟨d29, h29, h⟩ := h
            refine ⟨⟨fun _ => ⟨J, J, J, .inl ⟨J, (o_field (v := (U d28.FA)) J J J ⟨J, J⟩)⟩⟩, fun _ => ⟨J, J, J, .inl ⟨J, (o_ld (b := b758) (off := 0) (v := (.func (.yield l8) #[] #[])) J rm10 J J ⟨J, J⟩)⟩⟩, fun _ => ⟨J, J, J, .inl ⟨J, (o_p J ⟨J, J⟩)⟩⟩, (fun h => nomatch h), (fun h => nomatch h), trivial⟩, J, .inr ⟨[6], J, J, ⟨J, .inl J, ?_⟩, trivial⟩⟩
            refine (o_call has122 J (c_attr_Of X d28.FA _ h29) (pc rm0 pn) ?_)
            refine ⟨[], [0, 1], J, J, J, J, ?_⟩
            refine ⟨⟨(fun h => nomatch h), fun _ => ⟨J, J, J, .inl ⟨J, (o_ld (b := b758) (off := 0) (v := (.func (.yield l8) #[] #[])) J rm10 J J ⟨J, J⟩)⟩⟩, fun _ => ⟨J, J, J, .inl ⟨J, (o_p J ⟨J, J⟩)⟩⟩, (fun h => nomatch h), (fun h => nomatch h), trivial⟩, J, .inr ⟨[7], J, J, ⟨J, .inl J, ?_⟩, trivial⟩⟩
            refine (o_yield' hrc8 ht8 J J J J rm14 ?_)
            refine cr (op J J (oe (c_region ?_)))
            refine o1 J (o_alloc (cs := [(O false), (O false), (I 0), (O false)]) J J (fun b832 => ?_))
            refine o0 (o_st (b := b832) (off := 0) (vs := [(O d29.Protected), (O d29.Numeric), (I d29.Display), (O d29.Modified)]) (cs' := [(O d29.Protected), (O d29.Numeric), (I d29.Display), (O d29.Modified)]) J J rp0 J J J J J J ?_)
            refine o_end ?_
            refine e_begin' hrc8 rm1 ?_
            replace h := bsome h
            obtain ⟨d30, h, hk30⟩ := h
            refine cj (D := Unit) (ι := Unit) (fun _ i30 => True) (fun _ i30 => []) (fun _ i30 => X :: blk b0 (.cells (A [(I d30.1), (O d30.2.1), (I d30.2.2.1), (I d30.2.2.2.1), (V s0), (I d30.2.2.2.2.2.1), (I d30.2.2.2.2.2.2)]) 122 (0, 0)) :: blk i5 (.cells (A [(F b0 0)]) 31 (0, 0)) :: blk b739 (.cells (A [(F b0 0)]) 31 (0, 0)) :: blk i9 (.cells (A [(F b0 0)]) 31 (0, 0)) :: blk b758 (.cells (A [(.func (.yield l8) #[] #[])]) 206 (0, 0)) :: blk i13 (.cells (A [(F b0 0)]) 31 (0, 0)) :: blk b763 (.cells (A [(.func (.yield l12) #[] #[])]) 118 (0, 0)) :: blk b829 (.cells (A [(U d23.Char), (O d23.Attr), (U d23.FA), (U d23.High), (U d23.Color), (U d23.f_Set)]) 26 (0, 0)) :: slO s0 26 en_Vapi_Cell d30.2.2.2.2.1 :: blk l8 (.loop (rc8 .busy none)) :: blk l12 (.loop (rc12 .busy none)) :: blk l16 (.loop (rc16 .busy none)) :: blk D16 (.deferred (some [])) :: blk D12 (.deferred (some [])) :: blk D8 (.deferred (some [])) :: R) ?_ ?_
            ·refine c_block (c_seq (cr ?_))
             refine o1 J (o_fa (fd := ⟨ "Protected", 4, 0, false, "", "", 0⟩) J J J J J ?_)
             refine o1 J (o_ld (b := b832) (off := 0) (v := (O d29.Protected)) J rm1 J J ?_)
             refine oe ?_
             refine c_cond (b := d29.Protected) J (fun hb834 => ?_) (fun hb834 => ?_)
             ·replace h := cond_t hb834 h
              refine c_exit (e_then_exit (e_blk_exit ?_))
              obtain rfl := si h
              exact ej () () trivial sn (kc rm2 (kc rm2 (kc rm7 (kc rm7 (kc rm7 (kc rm7 (kc rm6 (kc rm6 (kc rm5 (kc rm2 (kc rm0 (kc rm1 (kc rm1 (kc rm1 (kc rm1 (kc rm1 (kd kr)))))))))))))))))
             ·replace h := cond_f hb834 h
              refine c_skip (e_seq (c_seq (cr ?_)))
              refine o1 J (o_ld (b := b739) (off := 0) (v := (F b0 0)) J rm10 J J ?_)
              refine op J J ?_
              replace h := bsome h
              obtain ⟨d32, h32, h⟩ := h
              refine o1 J (o_call has137 J (c_field_Places X (⟨x20.2.1, x20.2.2.1, (⟨x20.2.2.2.1, x20.2.2.2.2.1⟩ : Vaddr_Size), x20.2.2.2.2.2.1, x20.2.2.2.2.2.2.1, x20.2.2.2.2.2.2.2⟩ : Vspace_Space) b0 s0 x20.1 _ h32) (pc rm2 (pc rm2 (pc rm2 pn))) (fun i32 => ?_))
              refine oe ?_
              replace h := bsome h
              obtain ⟨d33, h, hk33⟩ := h
              refine cj (D := Unit) (ι := Unit) (fun _ i33 => True) (fun _ i33 => [(2, (I x20.1)), (1, (F b739 0))]) (fun _ i33 => X :: blk b739 (.cells (A [(F b0 0)]) 31 (0, 0)) :: blk b0 (.cells (A [(I d33.1), (O d33.2.1), (I d33.2.2.1), (I d33.2.2.2.1), (V s0), (I d33.2.2.2.2.2.1), (I d33.2.2.2.2.2.2)]) 122 (0, 0)) :: blk i5 (.cells (A [(F b0 0)]) 31 (0, 0)) :: blk i9 (.cells (A [(F b0 0)]) 31 (0, 0)) :: blk b758 (.cells (A [(.func (.yield l8) #[] #[])]) 206 (0, 0)) :: blk i13 (.cells (A [(F b0 0)]) 31 (0, 0)) :: blk b763 (.cells (A [(.func (.yield l12) #[] #[])]) 118 (0, 0)) :: blk b829 (.cells (A [(U d23.Char), (O d23.Attr), (U d23.FA), (U d23.High), (U d23.Color), (U d23.f_Set)]) 26 (0, 0)) :: slO s0 26 en_Vapi_Cell d33.2.2.2.2.1 :: blk l8 (.loop (rc8 .busy none)) :: blk l12 (.loop (rc12 .busy none)) :: blk l16 (.loop (rc16 .busy none)) :: blk D16 (.deferred (some [])) :: blk D12 (.deferred (some [])) :: blk D8 (.deferred (some [])) :: R) ?_ ?_
              ·refine c_block ?_
               replace h := bsome h
               obtain ⟨d34, h, hk34⟩ := h
               refine cj (D := Unit) (ι := Unit) (fun _ i34 => True) (fun _ i34 => [(2, (I x20.1)), (1, (F b739 0))]) (fun _ i34 => X :: blk b739 (.cells (A [(F b0 0)]) 31 (0, 0)) :: blk b0 (.cells (A [(I d34.1), (O d34.2.1), (I d34.2.2.1), (I d34.2.2.2.1), (V s0), (I d34.2.2.2.2.2.1), (I d34.2.2.2.2.2.2)]) 122 (0, 0)) :: blk i5 (.cells (A [(F b0 0)]) 31 (0, 0)) :: blk i9 (.cells (A [(F b0 0)]) 31 (0, 0)) :: blk b758 (.cells (A [(.func (.yield l8) #[] #[])]) 206 (0, 0)) :: blk i13 (.cells (A [(F b0 0)]) 31 (0, 0)) :: blk b763 (.cells (A [(.func (.yield l12) #[] #[])]) 118 (0, 0)) :: blk b829 (.cells (A [(U d23.Char), (O d23.Attr), (U d23.FA), (U d23.High), (U d23.Color), (U d23.f_Set)]) 26 (0, 0)) :: slO s0 26 en_Vapi_Cell d34.2.2.2.2.1 :: blk l8 (.loop (rc8 .busy none)) :: blk l12 (.loop (rc12 .busy none)) :: blk l16 (.loop (rc16 .busy none)) :: blk D16 (.deferred (some [])) :: blk D12 (.deferred (some [])) :: blk D8 (.deferred (some [])) :: R) ?_ ?_
               ·refine c_range_in' (fn := Tryz.f158) (M := 33) hrc8 rm5 J has158 Tryz.func158 J J J (fun l35 a35 fc35 rc35 hrc35 ht35 => ?_)
                change GC _ none _ [] [(0, (.func (.yield l35) #[] #[])), (1, (F i32.1 0)), (2, (F i32.2 0))] (blk l35 (.loop (rc35 .ready none)) :: X :: blk b0 (.cells (A [(I x20.2.1), (O x20.2.2.1), (I x20.2.2.2.1), (I x20.2.2.2.2.1), (V s0), (I x20.2.2.2.2.2.2.1), (I x20.2.2.2.2.2.2.2)]) 122 (0, 0)) :: slO s0 26 en_Vapi_Cell x20.2.2.2.2.2.1 :: blk i32.1 (.cells (A [(F b0 0)]) 31 (0, 0)) :: blk i32.2 (.cells (A [(I x20.1)]) 3 (0, 0)) :: blk l8 (.loop (rc8 .busy none)) :: blk b832 (.cells (A [(O d29.Protected), (O d29.Numeric), (I d29.Display), (O d29.Modified)]) 153 (0, 0)) :: blk l12 (.loop (rc12 .busy none)) :: blk l16 (.loop (rc16 .busy none)) :: blk b829 (.cells (A [(U d23.Char), (O d23.Attr), (U d23.FA), (U d23.High), (U d23.Color), (U d23.f_Set)]) 26 (0, 0)) :: blk i13 (.cells (A [(F b0 0)]) 31 (0, 0)) :: blk i5 (.cells (A [(F b0 0)]) 31 (0, 0)) :: blk b739 (.cells (A [(F b0 0)]) 31 (0, 0)) :: blk i9 (.cells (A [(F b0 0)]) 31 (0, 0)) :: blk b758 (.cells (A [(.func (.yield l8) #[] #[])]) 206 (0, 0)) :: blk b763 (.cells (A [(.func (.yield l12) #[] #[])]) 118 (0, 0)) :: blk D16 (.deferred (some [])) :: blk D12 (.deferred (some [])) :: blk D8 (.deferred (some [])) :: R) g _ _
                refine cr ?_
                refine o1 J (o_ld (b := i32.1) (off := 0) (v := (F b0 0)) J rm4 J J ?_)
                replace h := bsome h
                obtain ⟨d36, h36, h⟩ := h
                refine o1 J (o_call has121 J (c_space_Space_Size X (⟨x20.2.1, x20.2.2.1, (⟨x20.2.2.2.1, x20.2.2.2.2.1⟩ : Vaddr_Size), x20.2.2.2.2.2.1, x20.2.2.2.2.2.2.1, x20.2.2.2.2.2.2.2⟩ : Vspace_Space) b0 s0 _ h36) (pc rm1 (pc rm1 (pc rm1 pn))) ?_)
                refine o1 J (o_alloc (cs := [(I 0), (I 0)]) J J (fun b837 => ?_))
                refine o0 (o_st (b := b837) (off := 0) (vs := [(I d36.Rows), (I d36.Cols)]) (cs' := [(I d36.Rows), (I d36.Cols)]) J J rp0 J J J J J J ?_)
                refine oe (cr ?_)
                refine o1 J (o_ld (b := b837) (off := 0) (v := (.agg (A [(I d36.Rows), (I d36.Cols)]))) J rm0 J J ?_)
                refine o1 J (o_ld (b := i32.2) (off := 0) (v := (I x20.1)) J rm6 J J ?_)
                replace h := bsome h
                obtain ⟨d37, h37, h⟩ := h
                refine o1 J (o_call has53 J (c_addr_Size_Wrap X (⟨d36.Rows, d36.Cols⟩ : Vaddr_Size) x20.1 _ h37) (pc rm1 pn) ?_)
                refine o0 (o_st (b := i32.2) (off := 0) (vs := [(I d37)]) (cs' := [(I d37)]) J J rp6 J J J J J J ?_)
                refine oe (c_seq (cr ?_))
                refine o1 J (o_ld (b := i32.1) (off := 0) (v := (F b0 0)) J rm5 J J ?_)
                refine o1 J (o_ld (b := i32.2) (off := 0) (v := (I d37)) J rm6 J J ?_)
                replace h := bsome h
                obtain ⟨d38, h38, h⟩ := h
                refine o1 J (o_call has13 J (c_space_Space_At X (⟨x20.2.1, x20.2.2.1, (⟨x20.2.2.2.1, x20.2.2.2.2.1⟩ : Vaddr_Size), x20.2.2.2.2.2.1, x20.2.2.2.2.2.2.1, x20.2.2.2.2.2.2.2⟩ : Vspace_Space) b0 s0 d37 _ h38) (pc rm0 (pc rm1 (pc rm1 pn))) ?_)
                refine o1 J (o_field (v := (O d38.Attr)) J J J ?_)
                refine o1 J (o_p (v := (O (!d38.Attr))) J ?_)
                refine oe ?_
                refine c_cond (b := (!d38.Attr)) J (fun hb839 => ?_) (fun hb839 => ?_)
                ·replace h := cond_t hb839 h
                 refine c_ret (e_then_ret (e_ret ?_))
                 refine r_end (rs := []) (vs := []) J J ?_
                 refine ke' hrc35 rm4 (by simp) ?_
                 obtain rfl := si h
                 exact ej () () trivial (sc J (sc J sn)) (kc rm0 (kc rm12 (kc rm0 (kc rm10 (kc rm10 (kc rm10 (kc rm9 (kc rm9 (kc rm8 (kc rm0 (kc rm3 (kc rm4 (kc rm4 (kc rm4 (kc rm4 (kc rm4 (kd (kd (kd (kd kr))))))))))))))))))))
                ·replace h := cond_f hb839 h
                 refine c_skip (e_seq (cr ?_))
                 refine o1 J (o_ld (b := b837) (off := 0) (v := (.agg (A [(I d36.Rows), (I d36.Cols)]))) J rm3 J J ?_)
                 refine o1 J (o_ld (b := i32.2) (off := 0) (v := (I d37)) J rm6 J J ?_)
                 refine o1 J (o_p (v := (I (w64 (d37 + 1)))) J ?_)
                 replace h := bsome h
                 obtain ⟨d40, h40, h⟩ := h
                 refine o1 J (o_call has53 J (c_addr_Size_Wrap X (⟨d36.Rows, d36.Cols⟩ : Vaddr_Size) (w64 (d37 + 1)) _ h40) (pc rm0 pn) ?_)
                 refine op J J (oe ?_)
                 replace h := bsome h
                 obtain ⟨d41, h, hk41⟩ := h
                 refine cj (D := Unit) (ι := Unit) (fun _ i41 => True) (fun _ i41 => []) (fun _ i41 => X :: blk b0 (.cells (A [(I d41.1), (O d41.2.1), (I d41.2.2.1), (I d41.2.2.2.1), (V s0), (I d41.2.2.2.2.2.1), (I d41.2.2.2.2.2.2)]) 122 (0, 0)) :: blk i5 (.cells (A [(F b0 0)]) 31 (0, 0)) :: blk b739 (.cells (A [(F b0 0)]) 31 (0, 0)) :: blk i9 (.cells (A [(F b0 0)]) 31 (0, 0)) :: blk b758 (.cells (A [(.func (.yield l8) #[] #[])]) 206 (0, 0)) :: blk i13 (.cells (A [(F b0 0)]) 31 (0, 0)) :: blk b763 (.cells (A [(.func (.yield l12) #[] #[])]) 118 (0, 0)) :: blk b829 (.cells (A [(U d23.Char), (O d23.Attr), (U d23.FA), (U d23.High), (U d23.Color), (U d23.f_Set)]) 26 (0, 0)) :: blk i32.1 (.cells (A [(F b0 0)]) 31 (0, 0)) :: blk i32.2 (.cells (A [(I d37)]) 3 (0, 0)) :: blk b832 (.cells (A [(O d29.Protected), (O d29.Numeric), (I d29.Display), (O d29.Modified)]) 153 (0, 0)) :: slO s0 26 en_Vapi_Cell d41.2.2.2.2.1 :: blk l35 (.loop (rc35 .ready none)) :: blk l8 (.loop (rc8 .busy none)) :: blk l12 (.loop (rc12 .busy none)) :: blk l16 (.loop (rc16 .busy none)) :: blk D16 (.deferred (some [])) :: blk D12 (.deferred (some [])) :: blk D8 (.deferred (some [])) :: R) ?_ ?_
                 ·refine c_block ?_
                  refine c_loop (l_sub (sc J (sc J (sc J (sc J sn)))) (l_keep (kc rm0 (kc rm2 (kc rm3 (kc rm0 (kc rm9 (kc rm9 (kc rm9 (kc rm9 (kc rm8 (kc rm8 (kc rm7 (kc rm2 (kc rm3 (kc rm0 (kc rm0 (kc rm0 (kc rm0 (kc rm0 (kc rm0 (kc rm0 (kc rm0 kr))))))))))))))))))))) (lf (X := Int × Int × Bool × Int × Int × (List Vapi_Cell) × Int × Int) (ι := Unit) (fun k x => erase_Unprotected_l42 d36 k x) _ (fun x42 i42 => True) (fun x42 i42 => [(5, (I x42.1)), (4, (F b837 0)), (0, (.func (.yield l35) #[] #[])), (1, (F i32.1 0))]) (fun x42 i42 => X :: blk b837 (.cells (A [(I d36.Rows), (I d36.Cols)]) 120 (0, 0)) :: blk i32.1 (.cells (A [(F b0 0)]) 31 (0, 0)) :: blk b0 (.cells (A [(I x42.2.1), (O x42.2.2.1), (I x42.2.2.2.1), (I x42.2.2.2.2.1), (V s0), (I x42.2.2.2.2.2.2.1), (I x42.2.2.2.2.2.2.2)]) 122 (0, 0)) :: blk i5 (.cells (A [(F b0 0)]) 31 (0, 0)) :: blk b739 (.cells (A [(F b0 0)]) 31 (0, 0)) :: blk i9 (.cells (A [(F b0 0)]) 31 (0, 0)) :: blk b758 (.cells (A [(.func (.yield l8) #[] #[])]) 206 (0, 0)) :: blk i13 (.cells (A [(F b0 0)]) 31 (0, 0)) :: blk b763 (.cells (A [(.func (.yield l12) #[] #[])]) 118 (0, 0)) :: blk b829 (.cells (A [(U d23.Char), (O d23.Attr), (U d23.FA), (U d23.High), (U d23.Color), (U d23.f_Set)]) 26 (0, 0)) :: blk i32.2 (.cells (A [(I d37)]) 3 (0, 0)) :: blk b832 (.cells (A [(O d29.Protected), (O d29.Numeric), (I d29.Display), (O d29.Modified)]) 153 (0, 0)) :: slO s0 26 en_Vapi_Cell x42.2.2.2.2.2.1 :: blk l35 (.loop (rc35 .ready none)) :: blk l8 (.loop (rc8 .busy none)) :: blk l12 (.loop (rc12 .busy none)) :: blk l16 (.loop (rc16 .busy none)) :: blk D16 (.deferred (some [])) :: blk D12 (.deferred (some [])) :: blk D8 (.deferred (some [])) :: R) (fun _ => J) ?_ fuel (d40, x20.2.1, x20.2.2.1, x20.2.2.2.1, x20.2.2.2.2.1, x20.2.2.2.2.2.1, x20.2.2.2.2.2.2.1, x20.2.2.2.2.2.2.2) () trivial h)))
                  clear h
                  rintro k42 ih42 x42 i42 _ h
                  rw [erase_Unprotected_l42.eq_2] at h
                  refine l_round (c_seq (cr ?_))
                  refine o1 J (o_ld (b := i32.1) (off := 0) (v := (F b0 0)) J rm2 J J ?_)
                  refine op J J ?_
                  replace h := bsome h
                  obtain ⟨d43, h43, h⟩ := h
                  refine o1 J (o_call has13 J (c_space_Space_At X (⟨x42.2.1, x42.2.2.1, (⟨x42.2.2.2.1, x42.2.2.2.2.1⟩ : Vaddr_Size), x42.2.2.2.2.2.1, x42.2.2.2.2.2.2.1, x42.2.2.2.2.2.2.2⟩ : Vspace_Space) b0 s0 x42.1 _ h43) (pc rm0 (pc rm2 (pc rm11 pn))) ?_)
                  refine o1 J (o_field (v := (O d43.Attr)) J J J ?_)
                  refine o1 J (o_p (v := (O (!d43.Attr))) J ?_)
                  refine oe ?_
                  refine c_cond (b := (!d43.Attr)) J (fun hb846 => ?_) (fun hb846 => ?_)
                  ·replace h := cond_t hb846 h
                   refine c_skip (e_seq (c_seq (c_block (cr ?_))))
                   refine op J J (op J J ?_)
                   refine o1 J (o_yield' hrc35 ht35 J J J J rm14 ?_)
                   refine c_region (op J J (o_end ?_))
                   refine e_begin' hrc35 rm0 ?_
                   refine c_block (c_region ?_)
                   refine o1 J (o_ld (b := b739) (off := 0) (v := (F b0 0)) J rm7 J J ?_)
                   refine op J J ?_
                   replace h := bsome h
                   obtain ⟨d47, h47, h⟩ := h
                   refine o1 J (o_call has19 J (c_space_Space_Put X (⟨x42.2.1, x42.2.2.1, (⟨x42.2.2.2.1, x42.2.2.2.2.1⟩ : Vaddr_Size), x42.2.2.2.2.2.1, x42.2.2.2.2.2.2.1, x42.2.2.2.2.2.2.2⟩ : Vspace_Space) b0 s0 x42.1 0 _ h47) (pc rm1 (pc rm1 (pc rm1 pn))) ?_)
                   refine o_end (e_blk ?_)
                   refine e_on' hrc35 rm3 ?_
                   refine o1 J (o_p (v := (O false)) J ?_)
                   refine oe ?_
                   refine c_cond_f J J ?_
                   refine c_skip (e_blk (e_seq (c_region ?_)))
                   refine o1 J (o_ld (b := b837) (off := 0) (v := (.agg (A [(I d36.Rows), (I d36.Cols)]))) J rm4 J J ?_)
                   refine op J J ?_
                   refine o1 J (o_p (v := (I (w64 (x42.1 + 1)))) J ?_)
                   replace h := bsome h
                   obtain ⟨d48, h48, h⟩ := h
                   refine o1 J (o_call has53 J (c_addr_Size_Wrap X (⟨d36.Rows, d36.Cols⟩ : Vaddr_Size) (w64 (x42.1 + 1)) _ h48) (pc rm1 pn) ?_)
                   refine op J J (o_end ?_)
                   exact e_loop (l_sub (sc J (sc J (sc J (sc J sn)))) (l_keep (kc rm0 (kc rm3 (kc rm3 (kc rm1 (kc rm2 (kc rm2 (kc rm2 (kc rm2 (kc rm2 (kc rm2 (kc rm2 (kc rm2 (kc rm2 (kc rm1 (kc rm0 (kc rm0 (kc rm0 (kc rm0 (kc rm0 (kc rm0 (kc rm0 kr))))))))))))))))))))) (ih42 (d48, d47.model, d47.alternate, d47.size.Rows, d47.size.Cols, d47.cells, d47.cursor, d47.attrs) () trivial h)))
                  ·replace h := cond_f hb846 h
                   refine c_exit (e_then_exit (e_then_exit (e_blk_exit ?_)))
                   obtain rfl := si h
                   exact ej () () trivial sn (kc rm0 (kc rm0 (kc rm3 (kc rm3 (kc rm3 (kc rm3 (kc rm3 (kc rm3 (kc rm3 (kc rm2 (kc rm2 (kc rm2 (kc rm0 (kc rm1 (kc rm1 (kc rm1 (kc rm1 (kc rm1 (kc rm1 (kc rm1 (kd kr)))))))))))))))))))))
                 ·rintro _ i41 _
                  replace h := hk41
                  clear hk41
                  refine e_fall ?_
                  refine r_end (rs := []) (vs := []) J J ?_
                  refine ke' hrc35 rm13 (by simp) ?_
                  obtain rfl := si h
                  exact ej () () trivial (sc J (sc J sn)) (kc rm0 (kc rm2 (kc rm0 (kc rm0 (kc rm0 (kc rm0 (kc rm0 (kc rm0 (kc rm0 (kc rm3 (kc rm3 (kc rm3 (kc rm3 (kc rm3 (kc rm3 (kc rm3 (kd (kd (kd kr)))))))))))))))))))
               ·rintro _ i34 _
                replace h := hk34
                clear hk34
                refine e_blk ?_
                obtain rfl := si h
                exact ej () () trivial (sc J (sc J sn)) (kc rm0 (kc rm0 (kc rm0 (kc rm0 (kc rm0 (kc rm0 (kc rm0 (kc rm0 (kc rm0 (kc rm0 (kc rm0 (kc rm0 (kc rm0 (kc rm0 (kc rm0 (kc rm0 kr))))))))))))))))
              ·rintro _ i33 _
               replace h := hk33
               clear hk33
               refine e_seq (cr ?_)
               refine o1 J (o_ld (b := b739) (off := 0) (v := (F b0 0)) J rm1 J J ?_)
               refine op J J ?_
               replace h := bsome h
               obtain ⟨d49, h49, h⟩ := h
               refine o1 J (o_call has13 J (c_space_Space_At X (⟨d33.1, d33.2.1, (⟨d33.2.2.1, d33.2.2.2.1⟩ : Vaddr_Size), d33.2.2.2.2.1, d33.2.2.2.2.2.1, d33.2.2.2.2.2.2⟩ : Vspace_Space) b0 s0 x20.1 _ h49) (pc rm0 (pc rm1 (pc rm7 pn))) ?_)
               refine o1 J (o_alloc (cs := [(U 0), (O false), (U 0), (U 0), (U 0), (U 0)]) J J (fun b852 => ?_))
               refine o0 (o_st (b := b852) (off := 0) (vs := [(U d49.Char), (O d49.Attr), (U d49.FA), (U d49.High), (U d49.Color), (U d49.f_Set)]) (cs' := [(U d49.Char), (O d49.Attr), (U d49.FA), (U d49.High), (U d49.Color), (U d49.f_Set)]) J J rp0 J J J J J J ?_)
               refine oe (cr ?_)
               refine o1 J (o_fa (fd := ⟨ "FA", 5, 2, false, "", "", 2⟩) J J J J J ?_)
               refine o1 J (o_ld (b := b852) (off := 2) (v := (U d49.FA)) J rm0 J J ?_)
               refine o1 J (o_p (v := (U (ibandn .u8 d49.FA 1))) J ?_)
               refine o1 J (o_fa (fd := ⟨ "FA", 5, 2, false, "", "", 2⟩) J J J J J ?_)
               refine o0 (o_st (b := b852) (off := 2) (vs := [(U (ibandn .u8 d49.FA 1))]) (cs' := [(U d49.Char), (O d49.Attr), (U (ibandn .u8 d49.FA 1)), (U d49.High), (U d49.Color), (U d49.f_Set)]) J J rp0 J J J J J J ?_)
               refine oe (c_region ?_)
               refine o1 J (o_ld (b := b739) (off := 0) (v := (F b0 0)) J rm4 J J ?_)
               refine op J J ?_
               refine o1 J (o_ld (b := b852) (off := 0) (v := (.agg (A [(U d49.Char), (O d49.Attr), (U (ibandn .u8 d49.FA 1)), (U d49.High), (U d49.Color), (U d49.f_Set)]))) J rm0 J J ?_)
               replace h := bsome h
               obtain ⟨d50, h50, h⟩ := h
               refine o1 J (o_call has42 J (c_space_Space_Set X (⟨d33.1, d33.2.1, (⟨d33.2.2.1, d33.2.2.2.1⟩ : Vaddr_Size), d33.2.2.2.2.1, d33.2.2.2.2.2.1, d33.2.2.2.2.2.2⟩ : Vspace_Space) b0 s0 x20.1 (⟨d49.Char, d49.Attr, ibandn .u8 d49.FA 1, d49.High, d49.Color, d49.f_Set⟩ : Vapi_Cell) _ h50) (pc rm1 (pc rm1 (pc rm1 pn))) ?_)
               refine o_end (e_blk ?_)
               obtain rfl := si h
               exact ej () () trivial sn (kc rm0 (kc rm0 (kc rm3 (kc rm2 (kc rm2 (kc rm2 (kc rm2 (kc rm2 (kc rm2 (kc rm0 (kc rm1 (kc rm1 (kc rm1 (kc rm1 (kc rm1 (kc rm1 (kd kr)))))))))))))))))
            ·rintro _ i30 _
             replace h := hk30
             clear hk30
             refine e_on' hrc8 rm10 ?_
             refine ⟨[(8, 15, (O false))], [8], J, J, J, J, ?_⟩
             refine ⟨⟨fun _ => ⟨J, J, J, .inl ⟨J, (o_p (v := (O false)) J ⟨J, J⟩)⟩⟩, (fun h => nomatch h), (fun h => nomatch h), (fun h => nomatch h), (fun h => nomatch h), (fun h => nomatch h), trivial⟩, J, J, J, ?_⟩
             refine e_seq ?_
             refine c_cond_f J J ?_
             refine c_skip (e_blk ?_)
             refine e_on' hrc12 rm11 ?_
             refine oy J J J hb831 (o_p (v := (O false)) J ?_)
             refine o1 J (o_pick_t J hb831 J ?_)
             refine o_end ?_
             obtain rfl := si h
             exact ej () () trivial (sc J sn) (kc rm2 (kc rm2 (kc rm2 (kc rm2 (kc rm2 (kc rm2 (kc rm2 (kc rm2 (kc rm3 (kc rm0 (kc rm0 (kc rm1 (kc rm1 (kc rm1 (kc rm1 (kd kr))))))))))))))))
           ·replace h := cond_f hb831 h
            refine on J J J hb831 ?_
            refine on J J J hb831 ?_
            refine on J J J hb831 ?_
            refine on J J J hb831 ?_
            refine o1 J (o_pick_f J hb831 J ?_)
            refine o_end ?_
            obtain rfl := si h
            exact ej () () trivial (sc J sn) (kc rm2 (kc rm2 (kc rm4 (kc rm4 (kc rm4 (kc rm4 (kc rm3 (kc rm3 (kc rm2 (kc rm3 (kc rm4 (kc rm0 (kc rm1 (kc rm1 (kc rm1 (kd kr))))))))))))))))
          ·rintro _ i25 _
           replace h := hk25
           clear hk25
           refine e_seq ?_
           refine c_cond_f J J ?_
           refine c_skip (e_blk ?_)
           refine e_on' hrc16 rm11 ?_
           refine o1 J (o_p (v := (O false)) J ?_)
           refine oe ?_
           refine c_cond_f J J ?_
           refine c_skip (e_blk (e_seq (c_region ?_)))
           refine o1 J (o_p (v := (I (w64 (x20.1 + 1)))) J ?_)
           refine op J J (o_end ?_)
           exact e_loop (l_sub (sc J (sc J (sc J (sc J sn)))) (l_keep (kc rm1 (kc rm6 (kc rm1 (kc rm1 (kc rm1 (kc rm1 (kc rm1 (kc rm1 (kc rm1 (kc rm0 (kc rm2 (kc rm0 (kc rm1 (kc rm0 (kc rm0 kr))))))))))))))) (ih20 (w64 (x20.1 + 1), d25.1, d25.2.1, d25.2.2.1, d25.2.2.2.1, d25.2.2.2.2.1, d25.2.2.2.2.2.1, d25.2.2.2.2.2.2) () trivial h)))
         ·replace h := cond_f hb828 h
          refine c_exit (e_then_exit (e_then_exit (e_blk_exit ?_)))
          obtain rfl := si h
          exact ej () () trivial sn (kc rm0 (kc rm1 (kc rm1 (kc rm1 (kc rm1 (kc rm1 (kc rm0 (kc rm0 (kc rm0 (kc rm0 (kc rm0 (kc rm0 (kc rm0 (kc rm0 (kc rm0 kr)))))))))))))))
        ·rintro _ i19 _
         replace h := hk19
         clear hk19
         refine e_fall ?_
         refine r_end (rs := []) (vs := []) J J ?_
         refine ke' hrc16 rm9 (by simp) ?_
         obtain rfl := si h
         exact ejd () D16 trivial J sn (kc rm0 (kc rm0 (kc rm0 (kc rm0 (kc rm0 (kc rm0 (kc rm2 (kc rm2 (kc rm2 (kc rm2 (kc rm2 (kc rm2 (kd (kd kr))))))))))))))
       ·rintro _ i15 _
        replace h := hk15
        clear hk15
        refine e_blk ?_
        obtain rfl := si h
        exact ejd () i15 trivial J sn (kc rm0 (kc rm0 (kc rm0 (kc rm0 (kc rm0 (kc rm0 (kc rm0 (kc rm0 (kc rm0 (kc rm0 (kc rm0 (kc rm0 kr))))))))))))
      ·rintro _ i14 _
       replace h := hk14
       clear hk14
       refine e_fall ?_
       refine r_mark rm7 ?_
       refine r_end (rs := []) (vs := []) J J ?_
       refine ke' hrc12 rm7 (by simp) ?_
       obtain rfl := si h
       exact ejd () D12 trivial J sn (kc rm0 (kc rm0 (kc rm0 (kc rm0 (kc rm2 (kc rm2 (kc rm2 (kc rm2 (kd (kd kr))))))))))
     ·rintro _ i11 _
      replace h := hk11
      clear hk11
      refine e_blk ?_
      obtain rfl := si h
      exact ejd () i11 trivial J sn (kc rm0 (kc rm0 (kc rm0 (kc rm0 (kc rm0 (kc rm0 (kc rm0 (kc rm0 kr))))))))
    ·rintro _ i10 _
     replace h := hk10
     clear hk10
     refine e_fall ?_
     refine r_mark rm5 ?_
     refine r_end (rs := []) (vs := []) J J ?_
     refine ke' hrc8 rm5 (by simp) ?_
     obtain rfl := si h
     exact ejd () D8 trivial J (sc J sn) (kc rm0 (kc rm2 (kc rm0 (kc rm1 (kc rm1 (kd kr))))))
   ·rintro _ i7 _
    replace h := hk7
    clear hk7
    refine e_blk ?_
    obtain rfl := si h
    exact ejd () i7 trivial J (sc J sn) (kc rm0 (kc rm0 (kc rm0 (kc rm0 (kc rm0 kr)))))
  ·rintro _ i6 _
   replace h := hk6
   clear hk6
   refine e_seq ?_
   refine c_draw (n := 2) (q := [(0, 37, (F b0 0)), (1, 38, (F b0 0))]) (pend := [0, 1]) J J J ?_
   replace h := bsome h
   obtain ⟨d51, h51, h⟩ := h
   refine ⟨⟨fun _ => ⟨J, J, J, .inl ⟨J, (o_ld (b := b739) (off := 0) (v := (F b0 0)) J rm1 J J ⟨J, J⟩)⟩⟩, fun _ => ⟨J, J, J, .inl ⟨J, (o_ld (b := b739) (off := 0) (v := (F b0 0)) J rm1 J J ⟨J, J⟩)⟩⟩, trivial⟩, J, .inr ⟨[2], J, J, ⟨J, .inl J, ?_⟩, trivial⟩⟩
   refine (o_call has124 J (c_field_Next X (⟨d6.1, d6.2.1, (⟨d6.2.2.1, d6.2.2.2.1⟩ : Vaddr_Size), d6.2.2.2.2.1, d6.2.2.2.2.2.1, d6.2.2.2.2.2.2⟩ : Vspace_Space) b0 s0 (-1) _ h51) (pc rm0 (pc rm1 (pc rm1 pn))) ?_)
   refine ⟨[(3, 40, (I (imax d51 0)))], [0, 3], J, J, J, J, ?_⟩
   replace h := bsome h
   obtain ⟨d52, h52, h⟩ := h
   refine ⟨⟨fun _ => ⟨J, J, J, .inl ⟨J, (o_max (m := d51) (n := 0) J J ⟨J, J⟩)⟩⟩, fun _ => ⟨J, J, J, .inl ⟨J, (o_ld (b := b739) (off := 0) (v := (F b0 0)) J rm3 J J ⟨J, J⟩)⟩⟩, (fun h => nomatch h), trivial⟩, J, .inr ⟨[4], J, J, ⟨J, .inl J, ?_⟩, trivial⟩⟩
   refine (o_call has43 J (c_space_Space_Place X (⟨d6.1, d6.2.1, (⟨d6.2.2.1, d6.2.2.2.1⟩ : Vaddr_Size), d6.2.2.2.2.1, d6.2.2.2.2.2.1, d6.2.2.2.2.2.2⟩ : Vspace_Space) b0 s0 (imax d51 0) _ h52) (pc rm0 (pc rm0 (pc rm0 pn))) ?_)
   refine ⟨[], [], J, J, J, J, ?_⟩
   refine ⟨⟨(fun h => nomatch h), (fun h => nomatch h), (fun h => nomatch h), trivial⟩, J, J, J, ?_⟩
   refine e_fall ?_
   refine r_mark rm4 ?_
   refine r_endt J J (kc rm0 (kc rm0 (kc rm0 (kd kr)))) ?_
   obtain rfl := si h
   exact hk

theorem c_keys_Board_entered {g : Gw} (X : HP) (p0 : Vkeys_Board) (b0 : Nat) (p1 : Vspace_Space) (b1 : Nat) (s0 : SV) (p2 : Vpage_Page) (b2 : Nat) (p3 : Vkeys_Key) (r : Vspace_Space × Vpage_Page × Vkeys_Board × Int) (h : m_keys_Board_entered p0 p1 p2 p3 = some r) : Tri env g 52 (A [(F b0 0), (.agg (A [(I p3.Kind), (.int .i32 p3.Sign), (I p3.N)]))]) [X, blk b0 (.cells (A [(F b1 0), (F b2 0), (I p0.lock), (O p0.inserts), (U p0.aid)]) 115 (0, 0)), blk b1 (.cells (A [(I p1.model), (O p1.alternate), (I p1.size.Rows), (I p1.size.Cols), (V s0), (I p1.cursor), (I p1.attrs)]) 122 (0, 0)), slO s0 26 en_Vapi_Cell p1.cells, pgO b2 p2.number] (fun K R => ∀ (i0 : HP), (Ext X i0) → K (I r.2.2.2) (i0 :: blk b1 (.cells (A [(I r.1.model), (O r.1.alternate), (I r.1.size.Rows), (I r.1.size.Cols), (V s0), (I r.1.cursor), (I r.1.attrs)]) 122 (0, 0)) :: slO s0 26 en_Vapi_Cell r.1.cells :: pgO b2 r.2.1.number :: blk b0 (.cells (A [(F b1 0), (F b2 0), (I r.2.2.1.lock), (O r.2.2.1.inserts), (U r.2.2.1.aid)]) 115 (0, 0)) :: R)) := by
 refine tri_of (fn := Tryz.f52) (N := 86) Tryz.func52 J J J ?_
 intro R K hk
 unfold m_keys_Board_entered at h
 change GC _ none _ [] [(0, (F b0 0)), (1, (.agg (A [(I p3.Kind), (.int .i32 p3.Sign), (I p3.N)])))] (X :: blk b0 (.cells (A [(F b1 0), (F b2 0), (I p0.lock), (O p0.inserts), (U p0.aid)]) 115 (0, 0)) :: blk b1 (.cells (A [(I p1.model), (O p1.alternate), (I p1.size.Rows), (I p1.size.Cols), (V s0), (I p1.cursor), (I p1.attrs)]) 122 (0, 0)) :: slO s0 26 en_Vapi_Cell p1.cells :: pgO b2 p2.number :: R) g _ _
 refine cr ?_
 refine o1 J (o_box (cs := [(I p3.Kind), (.int .i32 p3.Sign), (I p3.N)]) J J (fun b433 => ?_))
 refine op J J (oe (cr (op J J ?_)))
 refine op J J ?_
 refine o1 J (o_fa (fd := ⟨ "s", 31, 0, false, "", "vitrine/keys", 0⟩) J J J J J ?_)
 refine o1 J (o_ld (b := b0) (off := 0) (v := (F b1 0)) J rm2 J J ?_)
 replace h := bsome h
 obtain ⟨d1, h1, h⟩ := h
 refine o1 J (o_call has24 J (c_space_Space_Cursor X p1 b1 s0 _ h1) (pc rm1 (pc rm2 (pc rm2 pn))) ?_)
 refine op J J (oe (c_seq (cr ?_)))
 refine o1 J (o_fa (fd := ⟨ "Kind", 3, 0, false, "", "", 0⟩) J J J J J ?_)
 refine o1 J (o_ld (b := b433) (off := 0) (v := (I p3.Kind)) J rm3 J J ?_)
 refine oe (c_block (cr ?_))
 refine o1 J (o_p (v := (O (p3.Kind == 1))) J ?_)
 refine op J J (oe ?_)
 replace h := jn_some h
 obtain ⟨y3, h, hk3⟩ := h
 refine cj (D := Int × Bool × Int × Int × (List Vapi_Cell) × Int × Int × Bool) (ι := Unit) (fun d3 i3 => y3 = Sum.inl d3) (fun d3 i3 => []) (fun d3 i3 => X :: blk b1 (.cells (A [(I d3.1), (O d3.2.1), (I d3.2.2.1), (I d3.2.2.2.1), (V s0), (I d3.2.2.2.2.2.1), (I d3.2.2.2.2.2.2.1)]) 122 (0, 0)) :: pgO b2 p2.number :: blk b0 (.cells (A [(F b1 0), (F b2 0), (I p0.lock), (O d3.2.2.2.2.2.2.2), (U p0.aid)]) 115 (0, 0)) :: slO s0 26 en_Vapi_Cell d3.2.2.2.2.1 :: R) ?_ ?_
 ·refine c_cond (b := (p3.Kind == 1)) J (fun hb435 => ?_) (fun hb435 => ?_)
  ·replace h := cond_t hb435 h
   refine cr (op J J ?_)
   refine o1 J (o_fa (fd := ⟨ "Sign", 21, 1, false, "", "", 8⟩) J J J J J ?_)
   refine o1 J (o_ld (b := b433) (off := 1) (v := (.int .i32 p3.Sign)) J rm3 J J ?_)
   replace h := bsome h
   obtain ⟨d4, h4, h⟩ := h
   refine o1 J (o_call has90 J (c_keys_Board_char X (⟨p0.lock, p0.inserts, p0.aid⟩ : Vkeys_Board) b0 p1 b1 s0 p2 b2 p3.Sign _ h4) (pc rm0 (pc rm3 (pc rm0 (pc rm0 (pc rm1 pn))))) (fun i4 f4_0 => ?_))
   refine op J J (oe (c_ret (ej_ret ?_)))
   replace h := esc_some h
   obtain ⟨z3, h, rfl⟩ := h
   obtain rfl := (hk3 : z3 = _)
   refine e_blk_ret (e_then_ret (e_ret ?_))
   refine r_endt J J (kc rm0 (kc rm0 (kc rm0 (kc rm0 (kc rm0 (kd kr)))))) ?_
   obtain rfl := si h
   exact hk i4 f4_0
  ·replace h := cond_f hb435 h
   refine cr ?_
   refine o1 J (o_p (v := (O (p3.Kind == 2))) J ?_)
   refine op J J (oe ?_)
   refine c_cond (b := (p3.Kind == 2)) J (fun hb633 => ?_) (fun hb633 => ?_)
   ·replace h := cond_t hb633 h
    refine c_seq (c_seq ?_)
    replace h := bsome h
    obtain ⟨d5, h, hk5⟩ := h
    refine cj (D := Unit) (ι := Unit) (fun _ i5 => True) (fun _ i5 => [(35, (O d5)), (3, (F b433 0)), (0, (F b0 0))]) (fun _ i5 => X :: blk b433 (.cells (A [(I p3.Kind), (.int .i32 p3.Sign), (I p3.N)]) 45 (0, 0)) :: blk b0 (.cells (A [(F b1 0), (F b2 0), (I p0.lock), (O p0.inserts), (U p0.aid)]) 115 (0, 0)) :: blk b1 (.cells (A [(I p1.model), (O p1.alternate), (I p1.size.Rows), (I p1.size.Cols), (V s0), (I p1.cursor), (I p1.attrs)]) 122 (0, 0)) :: pgO b2 p2.number :: slO s0 26 en_Vapi_Cell p1.cells :: R) ?_ ?_
    ·refine c_region ?_
     refine o1 J (o_fa (fd := ⟨ "N", 3, 2, false, "", "", 16⟩) J J J J J ?_)
     refine o1 J (o_ld (b := b433) (off := 2) (v := (I p3.N)) J rm3 J J ?_)
     refine o1 J (o_p (v := (O (decide (p3.N < 0)))) J ?_)
     refine op J J ?_
     rcases bool_or ((decide (p3.N < 0))) with hb634 | hb634
     ·replace h := cond_t hb634 h
      refine on J J J hb634 ?_
      refine on J J J hb634 ?_
      refine on J J J hb634 ?_
      refine o1 J (o_pick_t J hb634 J ?_)
      refine op J J ?_
      refine on J J J J ?_
      refine on J J J J ?_
      refine on J J J J ?_
      refine on J J J J ?_
      refine on J J J J ?_
      refine o1 J (o_pick_t J J J ?_)
      refine o_end ?_
      obtain rfl := si h
      exact ej () () trivial (sc J (sc J (sc J sn))) (kc rm0 (kc rm2 (kc rm2 (kc rm0 (kc rm1 (kc rm0 kr))))))
     ·replace h := cond_f hb634 h
      refine oy J J J hb634 (o_fa (fd := ⟨ "N", 3, 2, false, "", "", 16⟩) J J J J J ?_)
      refine oy J J J hb634 (o_ld (b := b433) (off := 2) (v := (I p3.N)) J rm3 J J ?_)
      refine oy J J J hb634 (o_p (v := (O (decide (p3.N > 255)))) J ?_)
      refine o1 J (o_pick_f J hb634 J ?_)
      refine op J J ?_
      rcases bool_or ((decide (p3.N > 255))) with hb635 | hb635
      ·replace h := cond_t hb635 h
       refine on J J J hb635 ?_
       refine on J J J hb635 ?_
       refine on J J J hb635 ?_
       refine on J J J hb635 ?_
       refine on J J J hb635 ?_
       refine o1 J (o_pick_t J hb635 J ?_)
       refine o_end ?_
       obtain rfl := si h
       exact ej () () trivial (sc J (sc J (sc J sn))) (kc rm0 (kc rm2 (kc rm2 (kc rm0 (kc rm1 (kc rm0 kr))))))
      ·replace h := cond_f hb635 h
       refine oy J J J hb635 (o_fa (fd := ⟨ "N", 3, 2, false, "", "", 16⟩) J J J J J ?_)
       refine oy J J J hb635 (o_ld (b := b433) (off := 2) (v := (I p3.N)) J rm3 J J ?_)
       refine oy J J J hb635 (o_p (v := (U (IntKind.wrap .u8 (p3.N)))) J ?_)
       replace h := bsome h
       obtain ⟨d6, h6, h⟩ := h
       refine oy J J J hb635 (o_call has55 J (c_class_Data X (IntKind.wrap .u8 (p3.N)) _ h6) (pc rm0 pn) ?_)
       refine oy J J J hb635 (o_p (v := (O (!d6))) J ?_)
       refine o1 J (o_pick_f J hb635 J ?_)
       refine o_end ?_
       obtain rfl := si h
       exact ej () () trivial (sc J (sc J (sc J sn))) (kc rm0 (kc rm2 (kc rm2 (kc rm0 (kc rm1 (kc rm0 kr))))))
    ·rintro _ i5 _
     replace h := hk5
     clear hk5
     refine e_seq ?_
     refine c_cond (b := d5) J (fun hb636 => ?_) (fun hb636 => ?_)
     ·replace h := cond_t hb636 h
      refine cr (op J J (oe (c_ret ?_)))
      refine e_then_ret (ej_ret ?_)
      replace h := esc_some h
      obtain ⟨z3, h, rfl⟩ := h
      obtain rfl := (hk3 : z3 = _)
      refine e_blk_ret (e_then_ret (e_ret ?_))
      refine r_endt J J (kc rm0 (kc rm2 (kc rm3 (kc rm2 (kc rm1 (kd kr)))))) ?_
      obtain rfl := si h
      exact hk X (Ext.refl _)
     ·replace h := cond_f hb636 h
      refine c_skip (e_seq (cr (op J J ?_)))
      refine o1 J (o_fa (fd := ⟨ "N", 3, 2, false, "", "", 16⟩) J J J J J ?_)
      refine o1 J (o_ld (b := b433) (off := 2) (v := (I p3.N)) J rm1 J J ?_)
      refine o1 J (o_p (v := (U (IntKind.wrap .u8 (p3.N)))) J ?_)
      replace h := bsome h
      obtain ⟨d8, h8, h⟩ := h
      refine o1 J (o_call has91 J (c_keys_Board_enter X (⟨p0.lock, p0.inserts, p0.aid⟩ : Vkeys_Board) b0 p1 b1 s0 p2 b2 (IntKind.wrap .u8 (p3.N)) _ h8) (pc rm0 (pc rm1 (pc rm1 (pc rm2 (pc rm1 pn))))) (fun i8 f8_0 => ?_))
      refine op J J (oe (c_ret (ej_ret ?_)))
      replace h := esc_some h
      obtain ⟨z3, h, rfl⟩ := h
      obtain rfl := (hk3 : z3 = _)
      refine e_blk_ret (e_then_ret (e_ret ?_))
      refine r_endt J J (kc rm0 (kc rm0 (kc rm0 (kc rm0 (kc rm0 (kd kr)))))) ?_
      obtain rfl := si h
      exact hk i8 f8_0
   ·replace h := cond_f hb633 h
    refine cr ?_
    refine o1 J (o_p (v := (O (p3.Kind == 3))) J ?_)
    refine op J J (oe ?_)
    refine c_cond (b := (p3.Kind == 3)) J (fun hb638 => ?_) (fun hb638 => ?_)
    ·replace h := cond_t hb638 h
     refine cr (op J J ?_)
     replace h := bsome h
     obtain ⟨d9, h9, h⟩ := h
     refine o1 J (o_call has91 J (c_keys_Board_enter X (⟨p0.lock, p0.inserts, p0.aid⟩ : Vkeys_Board) b0 p1 b1 s0 p2 b2 28 _ h9) (pc rm0 (pc rm3 (pc rm0 (pc rm0 (pc rm1 pn))))) (fun i9 f9_0 => ?_))
     refine op J J (oe (c_ret (ej_ret ?_)))
     replace h := esc_some h
     obtain ⟨z3, h, rfl⟩ := h
     obtain rfl := (hk3 : z3 = _)
     refine e_blk_ret (e_then_ret (e_ret ?_))
     refine r_endt J J (kc rm0 (kc rm0 (kc rm0 (kc rm0 (kc rm0 (kd kr)))))) ?_
     obtain rfl := si h
     exact hk i9 f9_0
    ·replace h := cond_f hb638 h
     refine cr ?_
     refine o1 J (o_p (v := (O (p3.Kind == 4))) J ?_)
     refine op J J (oe ?_)
     refine c_cond (b := (p3.Kind == 4)) J (fun hb640 => ?_) (fun hb640 => ?_)
     ·replace h := cond_t hb640 h
      refine cr (op J J ?_)
      replace h := bsome h
      obtain ⟨d10, h10, h⟩ := h
      refine o1 J (o_call has91 J (c_keys_Board_enter X (⟨p0.lock, p0.inserts, p0.aid⟩ : Vkeys_Board) b0 p1 b1 s0 p2 b2 30 _ h10) (pc rm0 (pc rm3 (pc rm0 (pc rm0 (pc rm1 pn))))) (fun i10 f10_0 => ?_))
      refine op J J (oe (c_ret (ej_ret ?_)))
      replace h := esc_some h
      obtain ⟨z3, h, rfl⟩ := h
      obtain rfl := (hk3 : z3 = _)
      refine e_blk_ret (e_then_ret (e_ret ?_))
      refine r_endt J J (kc rm0 (kc rm0 (kc rm0 (kc rm0 (kc rm0 (kd kr)))))) ?_
      obtain rfl := si h
      exact hk i10 f10_0
     ·replace h := cond_f hb640 h
      refine cr ?_
      refine o1 J (o_p (v := (O (p3.Kind == 13))) J ?_)
      refine op J J (oe ?_)
      refine c_cond (b := (p3.Kind == 13)) J (fun hb642 => ?_) (fun hb642 => ?_)
      ·replace h := cond_t hb642 h
       refine cr (op J J (op J J (op J J ?_)))
       refine o1 J (o_fa (fd := ⟨ "s", 31, 0, false, "", "vitrine/keys", 0⟩) J J J J J ?_)
       refine o1 J (o_ld (b := b0) (off := 0) (v := (F b1 0)) J rm4 J J ?_)
       refine op J J ?_
       replace h := bsome h
       obtain ⟨d11, h11, h⟩ := h
       refine o1 J (o_call has93 J (c_erase_Delete X p1 b1 s0 d1 _ h11) (pc rm0 (pc rm0 (pc rm0 pn))) ?_)
       replace h := bsome h
       obtain ⟨d12, h12, h⟩ := h
       refine o1 J (o_call has92 J (c_keys_Board_done X p0 b0 d11.1 b1 s0 p2 b2 d11.2 _ h12) (pc rm0 (pc rm3 (pc rm0 (pc rm0 (pc rm1 pn))))) ?_)
       refine op J J (oe (c_ret (ej_ret ?_)))
       replace h := esc_some h
       obtain ⟨z3, h, rfl⟩ := h
       obtain rfl := (hk3 : z3 = _)
       refine e_blk_ret (e_then_ret (e_ret ?_))
       refine r_endt J J (kc rm0 (kc rm0 (kc rm0 (kc rm0 (kc rm0 (kd kr)))))) ?_
       obtain rfl := si h
       exact hk X (Ext.refl _)
      ·replace h := cond_f hb642 h
       refine cr ?_
       refine o1 J (o_p (v := (O (p3.Kind == 14))) J ?_)
       refine op J J (oe ?_)
       refine c_cond (b := (p3.Kind == 14)) J (fun hb719 => ?_) (fun hb719 => ?_)
       ·replace h := cond_t hb719 h
        refine cr (op J J (op J J (op J J ?_)))
        refine o1 J (o_fa (fd := ⟨ "s", 31, 0, false, "", "vitrine/keys", 0⟩) J J J J J ?_)
        refine o1 J (o_ld (b := b0) (off := 0) (v := (F b1 0)) J rm4 J J ?_)
        refine op J J ?_
        replace h := bsome h
        obtain ⟨d13, h13, h⟩ := h
        refine o1 J (o_call has94 J (c_erase_End X p1 b1 s0 d1 _ h13) (pc rm0 (pc rm0 (pc rm0 pn))) (fun i13 f13_0 => ?_))
        replace h := bsome h
        obtain ⟨d14, h14, h⟩ := h
        refine o1 J (o_call has92 J (c_keys_Board_done i13 (⟨p0.lock, p0.inserts, p0.aid⟩ : Vkeys_Board) b0 d13.1 b1 s0 p2 b2 d13.2 _ h14) (pc rm0 (pc rm3 (pc rm0 (pc rm0 (pc rm1 pn))))) ?_)
        refine op J J (oe (c_ret (ej_ret ?_)))
        replace h := esc_some h
        obtain ⟨z3, h, rfl⟩ := h
        obtain rfl := (hk3 : z3 = _)
        refine e_blk_ret (e_then_ret (e_ret ?_))
        refine r_endt J J (kc rm0 (kc rm0 (kc rm0 (kc rm0 (kc rm0 (kd kr)))))) ?_
        obtain rfl := si h
        exact hk i13 f13_0
       ·replace h := cond_f hb719 h
        refine cr ?_
        refine o1 J (o_p (v := (O (p3.Kind == 15))) J ?_)
        refine op J J (oe ?_)
        refine c_cond (b := (p3.Kind == 15)) J (fun hb738 => ?_) (fun hb738 => ?_)
        ·replace h := cond_t hb738 h
         refine c_region (op J J (op J J ?_))
         refine o1 J (o_fa (fd := ⟨ "s", 31, 0, false, "", "vitrine/keys", 0⟩) J J J J J ?_)
         refine o1 J (o_ld (b := b0) (off := 0) (v := (F b1 0)) J rm4 J J ?_)
         replace h := bsome h
         obtain ⟨d15, h15, h⟩ := h
         refine o1 J (o_call has95 J (c_erase_Unprotected X p1 b1 s0 _ h15) (pc rm0 (pc rm0 (pc rm0 pn))) ?_)
         refine o_end ?_
         obtain rfl := si h
         exact ej (d15.model, d15.alternate, d15.size.Rows, d15.size.Cols, d15.cells, d15.cursor, d15.attrs, p0.inserts) () J sn (kc rm0 (kc rm0 (kc rm3 (kc rm2 (kc rm0 (kd kr))))))
        ·replace h := cond_f hb738 h
         refine cr ?_
         refine o1 J (o_p (v := (O (p3.Kind == 16))) J ?_)
         refine op J J (oe ?_)
         refine c_cond (b := (p3.Kind == 16)) J (fun hb868 => ?_) (fun hb868 => ?_)
         ·replace h := cond_t hb868 h
          refine c_region (op J J (op J J (op J J ?_)))
          refine o1 J (o_fa (fd := ⟨ "inserts", 4, 3, false, "", "vitrine/keys", 24⟩) J J J J J ?_)
          refine o1 J (o_ld (b := b0) (off := 3) (v := (O p0.inserts)) J rm4 J J ?_)
          refine o1 J (o_p (v := (O (!p0.inserts))) J ?_)
          refine op J J ?_
          refine o1 J (o_fa (fd := ⟨ "inserts", 4, 3, false, "", "vitrine/keys", 24⟩) J J J J J ?_)
          refine o0 (o_st (b := b0) (off := 3) (vs := [(O (!p0.inserts))]) (cs' := [(F b1 0), (F b2 0), (I p0.lock), (O (!p0.inserts)), (U p0.aid)]) J J rp4 J J J J J J ?_)
          refine o_end ?_
          obtain rfl := si h
          exact ej (p1.model, p1.alternate, p1.size.Rows, p1.size.Cols, p1.cells, p1.cursor, p1.attrs, (!p0.inserts)) () J sn (kc rm0 (kc rm0 (kc rm3 (kc rm2 (kc rm0 (kd kr))))))
         ·replace h := cond_f hb868 h
          refine c_skip ?_
          obtain rfl := si h
          exact ej (p1.model, p1.alternate, p1.size.Rows, p1.size.Cols, p1.cells, p1.cursor, p1.attrs, p0.inserts) () J sn (kc rm0 (kc rm0 (kc rm3 (kc rm2 (kc rm0 (kd kr))))))
 ·rintro d3 i3 rfl
  replace h := JK_inl hk3
  clear hk3
  refine e_blk (e_seq (cr (op J J (o_end ?_))))
  refine e_seq (c_ret (e_ret ?_))
  refine r_endt J J (kc rm0 (kc rm0 (kc rm2 (kc rm0 (kc rm0 kr))))) ?_
  obtain rfl := si h
  exact hk X (Ext.refl _)

theorem c_keys_Board_Press {g : Gw} (X : HP) (p0 : Vkeys_Board) (b0 : Nat) (p1 : Vspace_Space) (b1 : Nat) (s0 : SV) (p2 : Vpage_Page) (b2 : Nat) (p3 : Vkeys_Key) (r : Vspace_Space × Vpage_Page × Vkeys_Board × Bool × Int) (h : m_keys_Board_Press p0 p1 p2 p3 = some r) : Tri env g 12 (A [(F b0 0), (.agg (A [(I p3.Kind), (.int .i32 p3.Sign), (I p3.N)]))]) [X, blk b0 (.cells (A [(F b1 0), (F b2 0), (I p0.lock), (O p0.inserts), (U p0.aid)]) 115 (0, 0)), blk b1 (.cells (A [(I p1.model), (O p1.alternate), (I p1.size.Rows), (I p1.size.Cols), (V s0), (I p1.cursor), (I p1.attrs)]) 122 (0, 0)), slO s0 26 en_Vapi_Cell p1.cells, pgO b2 p2.number] (fun K R => ∀ (i0 : HP × SV), (Ext X i0.1) → K (.tuple (A [(O r.2.2.2.1), (I r.2.2.2.2)])) (i0.1 :: blk b1 (.cells (A [(I r.1.model), (O r.1.alternate), (I r.1.size.Rows), (I r.1.size.Cols), (V i0.2), (I r.1.cursor), (I r.1.attrs)]) 122 (0, 0)) :: slO i0.2 26 en_Vapi_Cell r.1.cells :: pgO b2 r.2.1.number :: blk b0 (.cells (A [(F b1 0), (F b2 0), (I r.2.2.1.lock), (O r.2.2.1.inserts), (U r.2.2.1.aid)]) 115 (0, 0)) :: R)) := by
 refine tri_of (fn := Tryz.f12) (N := 75) Tryz.func12 J J J ?_
 intro R K hk
 unfold m_keys_Board_Press at h
 change GC _ none _ [] [(0, (F b0 0)), (1, (.agg (A [(I p3.Kind), (.int .i32 p3.Sign), (I p3.N)])))] (X :: blk b0 (.cells (A [(F b1 0), (F b2 0), (I p0.lock), (O p0.inserts), (U p0.aid)]) 115 (0, 0)) :: blk b1 (.cells (A [(I p1.model), (O p1.alternate), (I p1.size.Rows), (I p1.size.Cols), (V s0), (I p1.cursor), (I p1.attrs)]) 122 (0, 0)) :: slO s0 26 en_Vapi_Cell p1.cells :: pgO b2 p2.number :: R) g _ _
 refine cr ?_
 refine o1 J (o_box (cs := [(I p3.Kind), (.int .i32 p3.Sign), (I p3.N)]) J J (fun b291 => ?_))
 refine op J J (op J J (oe (cr ?_)))
 refine o1 J (o_ld (b := b291) (off := 0) (v := (.agg (A [(I p3.Kind), (.int .i32 p3.Sign), (I p3.N)]))) J rm0 J J ?_)
 replace h := bsome h
 obtain ⟨d1, h1, h⟩ := h
 refine o1 J (o_call has47 J (c_keys_AID X p3 _ h1) (pc rm1 pn) ?_)
 refine op J J (op J J (op J J (op J J (op J J (o_end ?_)))))
 refine e_seq (c_seq (c_block (cr (op J J ?_))))
 refine o1 J (o_p (v := (O false)) J ?_)
 refine op J J (oe ?_)
 refine c_cond_f J J ?_
 refine c_seq ?_
 replace h := bsome h
 obtain ⟨d3, h, hk3⟩ := h
 refine cj (D := Unit) (ι := Unit) (fun _ i3 => True) (fun _ i3 => [(16, (O d3)), (7, (O d1.2)), (6, (U d1.1)), (3, (F b291 0)), (0, (F b0 0))]) (fun _ i3 => X :: blk b291 (.cells (A [(I p3.Kind), (.int .i32 p3.Sign), (I p3.N)]) 45 (0, 0)) :: blk b0 (.cells (A [(F b1 0), (F b2 0), (I p0.lock), (O p0.inserts), (U p0.aid)]) 115 (0, 0)) :: blk b1 (.cells (A [(I p1.model), (O p1.alternate), (I p1.size.Rows), (I p1.size.Cols), (V s0), (I p1.cursor), (I p1.attrs)]) 122 (0, 0)) :: pgO b2 p2.number :: slO s0 26 en_Vapi_Cell p1.cells :: R) ?_ ?_
 ·refine c_region ?_
  refine o1 J (o_fa (fd := ⟨ "Kind", 3, 0, false, "", "", 0⟩) J J J J J ?_)
  refine o1 J (o_ld (b := b291) (off := 0) (v := (I p3.Kind)) J rm1 J J ?_)
  refine o1 J (o_p (v := (O (decide (p3.Kind < 1)))) J ?_)
  refine op J J ?_
  rcases bool_or ((decide (p3.Kind < 1))) with hb305 | hb305
  ·replace h := cond_t hb305 h
   refine on J J J hb305 ?_
   refine on J J J hb305 ?_
   refine on J J J hb305 ?_
   refine o1 J (o_pick_t J hb305 J ?_)
   refine op J J (o_end ?_)
   obtain rfl := si h
   exact ej () () trivial (sc J (sc J (sc J (sc J (sc J sn))))) (kc rm0 (kc rm0 (kc rm0 (kc rm0 (kc rm1 (kc rm0 kr))))))
  ·replace h := cond_f hb305 h
   refine oy J J J hb305 (o_fa (fd := ⟨ "Kind", 3, 0, false, "", "", 0⟩) J J J J J ?_)
   refine oy J J J hb305 (o_ld (b := b291) (off := 0) (v := (I p3.Kind)) J rm1 J J ?_)
   refine oy J J J hb305 (o_p (v := (O (decide (p3.Kind > 22)))) J ?_)
   refine o1 J (o_pick_f J hb305 J ?_)
   refine op J J (o_end ?_)
   obtain rfl := si h
   exact ej () () trivial (sc J (sc J (sc J (sc J (sc J sn))))) (kc rm0 (kc rm0 (kc rm0 (kc rm0 (kc rm1 (kc rm0 kr))))))
 ·rintro _ i3 _
  replace h := hk3
  clear hk3
  refine e_seq ?_
  refine c_cond (b := d3) J (fun hb306 => ?_) (fun hb306 => ?_)
  ·replace h := cond_t hb306 h
   refine cr (op J J (op J J (oe ?_)))
   refine c_ret (e_blk_ret (e_then_ret (e_ret ?_)))
   refine r_endt J J (kc rm0 (kc rm2 (kc rm3 (kc rm2 (kc rm1 (kd kr)))))) ?_
   obtain rfl := si h
   exact hk (X, s0) (Ext.refl _)
  ·replace h := cond_f hb306 h
   refine cr ?_
   refine o1 J (o_fa (fd := ⟨ "Kind", 3, 0, false, "", "", 0⟩) J J J J J ?_)
   refine o1 J (o_ld (b := b291) (off := 0) (v := (I p3.Kind)) J rm1 J J ?_)
   refine o1 J (o_p (v := (O (p3.Kind == 17))) J ?_)
   refine op J J (oe ?_)
   refine c_cond (b := (p3.Kind == 17)) J (fun hb307 => ?_) (fun hb307 => ?_)
   ·replace h := cond_t hb307 h
    refine cr (op J J ?_)
    replace h := bsome h
    obtain ⟨d5, h5, h⟩ := h
    refine o1 J (o_call has48 J (c_keys_Board_reset X p0 b0 p1 b1 s0 p2 b2 _ h5) (pc rm0 (pc rm1 (pc rm1 (pc rm2 (pc rm1 pn))))) ?_)
    refine oe (cr (op J J (op J J ?_)))
    refine oe (c_ret (e_blk_ret (e_then_ret (e_ret ?_))))
    refine r_endt J J (kc rm0 (kc rm0 (kc rm0 (kc rm0 (kc rm0 (kd kr)))))) ?_
    obtain rfl := si h
    exact hk (X, s0) (Ext.refl _)
   ·replace h := cond_f hb307 h
    refine cr (op J J (op J J ?_))
    refine o1 J (o_fa (fd := ⟨ "lock", 3, 2, false, "", "vitrine/keys", 16⟩) J J J J J ?_)
    refine o1 J (o_ld (b := b0) (off := 2) (v := (I p0.lock)) J rm2 J J ?_)
    refine o1 J (o_p (v := (O (p0.lock != 0))) J ?_)
    refine op J J (oe ?_)
    refine c_cond (b := (p0.lock != 0)) J (fun hb309 => ?_) (fun hb309 => ?_)
    ·replace h := cond_t hb309 h
     refine cr (op J J (op J J (oe ?_)))
     refine c_ret (e_blk_ret (e_then_ret (e_ret ?_)))
     refine r_endt J J (kc rm0 (kc rm2 (kc rm3 (kc rm2 (kc rm1 (kd kr)))))) ?_
     obtain rfl := si h
     exact hk (X, s0) (Ext.refl _)
    ·replace h := cond_f hb309 h
     refine cr ?_
     refine o1 J (o_fa (fd := ⟨ "Kind", 3, 0, false, "", "", 0⟩) J J J J J ?_)
     refine o1 J (o_ld (b := b291) (off := 0) (v := (I p3.Kind)) J rm1 J J ?_)
     refine o1 J (o_p (v := (O (p3.Kind == 18))) J ?_)
     refine op J J (oe ?_)
     refine c_cond (b := (p3.Kind == 18)) J (fun hb310 => ?_) (fun hb310 => ?_)
     ·replace h := cond_t hb310 h
      refine cr (op J J ?_)
      replace h := bsome h
      obtain ⟨d6, h6, h⟩ := h
      refine o1 J (o_call has49 J (c_keys_Board_choose X (⟨p0.lock, p0.inserts, p0.aid⟩ : Vkeys_Board) b0 p1 b1 s0 p2 b2 _ h6) (pc rm0 (pc rm1 (pc rm1 (pc rm2 (pc rm1 pn))))) ?_)
      refine op J J (op J J (op J J (op J J (oe ?_))))
      refine c_ret (e_blk_ret (e_then_ret (e_ret ?_)))
      refine r_endt J J (kc rm0 (kc rm0 (kc rm0 (kc rm0 (kc rm0 (kd kr)))))) ?_
      obtain rfl := si h
      exact hk (X, s0) (Ext.refl _)
     ·replace h := cond_f hb310 h
      refine cr (op J J (op J J (oe ?_)))
      refine c_cond (b := d1.2) J (fun hb364 => ?_) (fun hb364 => ?_)
      ·replace h := cond_t hb364 h
       refine c_seq (cr ?_)
       refine o1 J (o_fa (fd := ⟨ "Kind", 3, 0, false, "", "", 0⟩) J J J J J ?_)
       refine o1 J (o_ld (b := b291) (off := 0) (v := (I p3.Kind)) J rm1 J J ?_)
       refine o1 J (o_p (v := (O (p3.Kind == 22))) J ?_)
       refine oe ?_
       replace h := bsome h
       obtain ⟨d7, h, hk7⟩ := h
       refine cj (D := Unit) (ι := SV) (fun _ i7 => True) (fun _ i7 => [(6, (U d1.1)), (0, (F b0 0))]) (fun _ i7 => X :: blk b0 (.cells (A [(F b1 0), (F b2 0), (I p0.lock), (O p0.inserts), (U p0.aid)]) 115 (0, 0)) :: blk b1 (.cells (A [(I d7.1), (O d7.2.1), (I d7.2.2.1), (I d7.2.2.2.1), (V i7), (I d7.2.2.2.2.2.1), (I d7.2.2.2.2.2.2)]) 122 (0, 0)) :: pgO b2 p2.number :: slO i7 26 en_Vapi_Cell d7.2.2.2.2.1 :: R) ?_ ?_
       ·refine c_cond (b := (p3.Kind == 22)) J (fun hb365 => ?_) (fun hb365 => ?_)
        ·replace h := cond_t hb365 h
         refine c_region (op J J (op J J ?_))
         refine o1 J (o_fa (fd := ⟨ "s", 31, 0, false, "", "vitrine/keys", 0⟩) J J J J J ?_)
         refine o1 J (o_ld (b := b0) (off := 0) (v := (F b1 0)) J rm2 J J ?_)
         replace h := bsome h
         obtain ⟨d8, h8, h⟩ := h
         refine o1 J (o_call has41 J (c_space_Space_Clear_2 X p1 b1 s0 false _ h8) (pc rm0 (pc rm2 (pc rm3 pn))) (fun i8 => ?_))
         refine o_end ?_
         obtain rfl := si h
         exact ej () i8 trivial (sc J (sc J sn)) (kc rm0 (kc rm4 (kc rm0 (kc rm3 (kc rm0 (kd (kd kr)))))))
        ·replace h := cond_f hb365 h
         refine c_skip ?_
         obtain rfl := si h
         exact ej () s0 trivial (sc J (sc J sn)) (kc rm0 (kc rm1 (kc rm1 (kc rm1 (kc rm1 (kd kr))))))
       ·rintro _ i7 _
        replace h := hk7
        clear hk7
        refine e_seq (cr (op J J (op J J ?_)))
        replace h := bsome h
        obtain ⟨d9, h9, h⟩ := h
        refine o1 J (o_call has50 J (c_keys_Board_send X (⟨p0.lock, p0.inserts, p0.aid⟩ : Vkeys_Board) b0 (⟨d7.1, d7.2.1, (⟨d7.2.2.1, d7.2.2.2.1⟩ : Vaddr_Size), d7.2.2.2.2.1, d7.2.2.2.2.2.1, d7.2.2.2.2.2.2⟩ : Vspace_Space) b1 i7 p2 b2 d1.1 _ h9) (pc rm0 (pc rm0 (pc rm0 (pc rm1 (pc rm0 pn))))) ?_)
        refine oe (cr (op J J (op J J ?_)))
        refine oe (c_ret (e_blk_ret (e_then_ret (e_ret ?_))))
        refine r_endt J J (kc rm0 (kc rm0 (kc rm0 (kc rm0 (kc rm0 kr))))) ?_
        obtain rfl := si h
        exact hk (X, i7) (Ext.refl _)
      ·replace h := cond_f hb364 h
       refine c_seq ?_
       replace h := bsome h
       obtain ⟨d10, h, hk10⟩ := h
       refine cj (D := Unit) (ι := Unit) (fun _ i10 => True) (fun _ i10 => [(58, (O d10)), (3, (F b291 0)), (0, (F b0 0))]) (fun _ i10 => X :: blk b291 (.cells (A [(I p3.Kind), (.int .i32 p3.Sign), (I p3.N)]) 45 (0, 0)) :: blk b0 (.cells (A [(F b1 0), (F b2 0), (I p0.lock), (O p0.inserts), (U p0.aid)]) 115 (0, 0)) :: blk b1 (.cells (A [(I p1.model), (O p1.alternate), (I p1.size.Rows), (I p1.size.Cols), (V s0), (I p1.cursor), (I p1.attrs)]) 122 (0, 0)) :: pgO b2 p2.number :: slO s0 26 en_Vapi_Cell p1.cells :: R) ?_ ?_
       ·refine c_region ?_
        refine o1 J (o_fa (fd := ⟨ "Kind", 3, 0, false, "", "", 0⟩) J J J J J ?_)
        refine o1 J (o_ld (b := b291) (off := 0) (v := (I p3.Kind)) J rm1 J J ?_)
        refine o1 J (o_p (v := (O (p3.Kind == 20))) J ?_)
        refine op J J ?_
        rcases bool_or ((p3.Kind == 20)) with hb368 | hb368
        ·replace h := cond_t hb368 h
         refine on J J J hb368 ?_
         refine on J J J hb368 ?_
         refine on J J J hb368 ?_
         refine o1 J (o_pick_t J hb368 J ?_)
         refine op J J (o_end ?_)
         obtain rfl := si h
         exact ej () () trivial (sc J (sc J (sc J sn))) (kc rm0 (kc rm0 (kc rm0 (kc rm0 (kc rm0 (kc rm0 kr))))))
        ·replace h := cond_f hb368 h
         refine oy J J J hb368 (o_fa (fd := ⟨ "Kind", 3, 0, false, "", "", 0⟩) J J J J J ?_)
         refine oy J J J hb368 (o_ld (b := b291) (off := 0) (v := (I p3.Kind)) J rm1 J J ?_)
         refine oy J J J hb368 (o_p (v := (O (p3.Kind == 21))) J ?_)
         refine o1 J (o_pick_f J hb368 J ?_)
         refine op J J (o_end ?_)
         obtain rfl := si h
         exact ej () () trivial (sc J (sc J (sc J sn))) (kc rm0 (kc rm0 (kc rm0 (kc rm0 (kc rm0 (kc rm0 kr))))))
       ·rintro _ i10 _
        replace h := hk10
        clear hk10
        refine e_seq ?_
        refine c_cond (b := d10) J (fun hb369 => ?_) (fun hb369 => ?_)
        ·replace h := cond_t hb369 h
         refine cr (op J J (op J J (oe ?_)))
         refine c_ret (e_blk_ret (e_then_ret (e_ret ?_)))
         refine r_endt J J (kc rm0 (kc rm2 (kc rm3 (kc rm2 (kc rm1 (kd kr)))))) ?_
         obtain rfl := si h
         exact hk (X, s0) (Ext.refl _)
        ·replace h := cond_f hb369 h
         refine cr (op J J ?_)
         refine o1 J (o_fa (fd := ⟨ "Kind", 3, 0, false, "", "", 0⟩) J J J J J ?_)
         refine o1 J (o_ld (b := b291) (off := 0) (v := (I p3.Kind)) J rm1 J J ?_)
         replace h := bsome h
         obtain ⟨d11, h11, h⟩ := h
         refine o1 J (o_call has51 J (c_keys_Board_move X (⟨p0.lock, p0.inserts, p0.aid⟩ : Vkeys_Board) b0 p1 b1 s0 p2 b2 p3.Kind _ h11) (pc rm0 (pc rm1 (pc rm1 (pc rm2 (pc rm1 pn))))) ?_)
         refine op J J (oe ?_)
         refine c_cond (b := d11.2.2.2) J (fun hb432 => ?_) (fun hb432 => ?_)
         ·replace h := cond_t hb432 h
          refine cr (op J J (op J J (oe ?_)))
          refine c_ret (e_blk_ret (e_then_ret (e_ret ?_)))
          refine r_endt J J (kc rm0 (kc rm0 (kc rm0 (kc rm0 (kc rm0 (kd kr)))))) ?_
          obtain rfl := si h
          exact hk (X, s0) (Ext.refl _)
         ·replace h := cond_f hb432 h
          refine c_skip (e_blk (e_seq (cr (op J J ?_))))
          refine o1 J (o_ld (b := b291) (off := 0) (v := (.agg (A [(I p3.Kind), (.int .i32 p3.Sign), (I p3.N)]))) J rm5 J J ?_)
          replace h := bsome h
          obtain ⟨d12, h12, h⟩ := h
          refine o1 J (o_call has52 J (c_keys_Board_entered X d11.2.2.1 b0 d11.1 b1 s0 d11.2.1 b2 p3 _ h12) (pc rm0 (pc rm3 (pc rm0 (pc rm0 (pc rm0 pn))))) (fun i12 f12_0 => ?_))
          refine op J J (op J J (oe (c_ret (e_ret ?_))))
          refine r_endt J J (kc rm0 (kc rm0 (kc rm0 (kc rm0 (kc rm0 (kd kr)))))) ?_
          obtain rfl := si h
          exact hk (i12, s0) f12_0

theorem c_keys_Board_Type {g : Gw} (X : HP) (p0 : Vkeys_Board) (b0 : Nat) (p1 : Vspace_Space) (b1 : Nat) (s0 : SV) (p2 : Vpage_Page) (b2 : Nat) (p3 : ByteArray) (r : Vspace_Space × Vpage_Page × Vkeys_Board × Int × Int) (h : m_keys_Board_Type p0 p1 p2 p3 = some r) : Tri env g 16 (A [(F b0 0), (.string p3)]) [X, blk b0 (.cells (A [(F b1 0), (F b2 0), (I p0.lock), (O p0.inserts), (U p0.aid)]) 115 (0, 0)), blk b1 (.cells (A [(I p1.model), (O p1.alternate), (I p1.size.Rows), (I p1.size.Cols), (V s0), (I p1.cursor), (I p1.attrs)]) 122 (0, 0)), slO s0 26 en_Vapi_Cell p1.cells, pgO b2 p2.number] (fun K R => ∀ (i0 : HP × SV), (Ext X i0.1) → K (.tuple (A [(I r.2.2.2.1), (I r.2.2.2.2)])) (i0.1 :: blk b1 (.cells (A [(I r.1.model), (O r.1.alternate), (I r.1.size.Rows), (I r.1.size.Cols), (V i0.2), (I r.1.cursor), (I r.1.attrs)]) 122 (0, 0)) :: slO i0.2 26 en_Vapi_Cell r.1.cells :: pgO b2 r.2.1.number :: blk b0 (.cells (A [(F b1 0), (F b2 0), (I r.2.2.1.lock), (O r.2.2.1.inserts), (U r.2.2.1.aid)]) 115 (0, 0)) :: R)) := by
 refine tri_of (fn := Tryz.f16) (N := 32) Tryz.func16 J J J ?_
 intro R K hk
 unfold m_keys_Board_Type at h
 change GC _ none _ [] [(0, (F b0 0)), (1, (.string p3))] (X :: blk b0 (.cells (A [(F b1 0), (F b2 0), (I p0.lock), (O p0.inserts), (U p0.aid)]) 115 (0, 0)) :: blk b1 (.cells (A [(I p1.model), (O p1.alternate), (I p1.size.Rows), (I p1.size.Cols), (V s0), (I p1.cursor), (I p1.attrs)]) 122 (0, 0)) :: slO s0 26 en_Vapi_Cell p1.cells :: pgO b2 p2.number :: R) g _ _
 refine cr (op J J (op J J (oe ?_)))
 refine cr (op J J (oe (c_seq ?_)))
 refine cr (op J J ?_)
 refine o1 J (o_p (v := (O false)) J ?_)
 refine oe ?_
 refine c_cond_f J J ?_
 refine c_skip (e_seq (c_seq (cr (op J J ?_))))
 refine o1 J (o_range (s := p3) J J J (fun b288 => ?_))
 refine oe ?_
 replace h := jn_some h
 obtain ⟨y1, h, hk1⟩ := h
 refine cj (D := Int × Int × Bool × Int × Int × (List Vapi_Cell) × Int × Int × Int × Int × Bool × Int) (ι := HP × SV) (fun d1 i1 => (y1 = Sum.inl d1) ∧ (Ext X i1.1)) (fun d1 i1 => [(6, (I d1.1))]) (fun d1 i1 => i1.1 :: blk b1 (.cells (A [(I d1.2.1), (O d1.2.2.1), (I d1.2.2.2.1), (I d1.2.2.2.2.1), (V i1.2), (I d1.2.2.2.2.2.2.1), (I d1.2.2.2.2.2.2.2.1)]) 122 (0, 0)) :: pgO b2 d1.2.2.2.2.2.2.2.2.1 :: blk b0 (.cells (A [(F b1 0), (F b2 0), (I d1.2.2.2.2.2.2.2.2.2.1), (O d1.2.2.2.2.2.2.2.2.2.2.1), (U d1.2.2.2.2.2.2.2.2.2.2.2)]) 115 (0, 0)) :: slO i1.2 26 en_Vapi_Cell d1.2.2.2.2.2.1 :: R) ?_ ?_
 ·refine c_block ?_
  refine c_loop (l_sub (sc J (sc J (sc J sn))) (l_keep (kc rm1 (kc rm0 (kc rm0 (kc rm0 (kc rm1 (kc rm0 kr)))))) (lf (X := Nat × Int × Int × Bool × Int × Int × Bool × Int × Int × (List Vapi_Cell) × Int × Int × Int) (ι := HP × SV) (fun k x => keys_Board_Type_l2 p3 k x) _ (fun x2 i2 => Ext X i2.1) (fun x2 i2 => [(14, (F b288 0)), (6, (I x2.2.1)), (0, (F b0 0))]) (fun x2 i2 => i2.1 :: blk b288 (.stringIter p3 x2.1) :: blk b0 (.cells (A [(F b1 0), (F b2 0), (I x2.2.2.1), (O x2.2.2.2.1), (U x2.2.2.2.2.1)]) 115 (0, 0)) :: blk b1 (.cells (A [(I x2.2.2.2.2.2.1), (O x2.2.2.2.2.2.2.1), (I x2.2.2.2.2.2.2.2.1), (I x2.2.2.2.2.2.2.2.2.1), (V i2.2), (I x2.2.2.2.2.2.2.2.2.2.2.1), (I x2.2.2.2.2.2.2.2.2.2.2.2.1)]) 122 (0, 0)) :: pgO b2 x2.2.2.2.2.2.2.2.2.2.2.2.2 :: slO i2.2 26 en_Vapi_Cell x2.2.2.2.2.2.2.2.2.2.1 :: R) (fun _ => J) ?_ fuel (0, 0, p0.lock, p0.inserts, p0.aid, p1.model, p1.alternate, p1.size.Rows, p1.size.Cols, p1.cells, p1.cursor, p1.attrs, p2.number) (X, s0) (Ext.refl _) h)))
  clear h
  rintro k2 ih2 x2 i2 f2_0 h
  rw [keys_Board_Type_l2.eq_2] at h
  refine l_round (cr ?_)
  rcases bool_or ((decide (x2.1 < p3.size))) with hb880 | hb880
  ·replace h := cond_t hb880 h
   refine o1 J (o_next_t (b := b288) (s := p3) (n := x2.1) J rp1 hb880 ?_)
   refine op J J (oe (c_seq ?_))
   refine c_cond_t J J ?_
   refine c_skip (e_seq (c_block (cr (op J J ?_))))
   refine op J J (oe (c_seq (cr ?_)))
   refine op J J (op J J ?_)
   refine o1 J (o_build (fs := f_4) (ps := [(0, 1), (1, 1), (2, 1)]) (cs := [(I 1), (.int .i32 (rdR p3 x2.1)), (I 0)]) J J J J J ?_)
   replace h := bsome h
   obtain ⟨d3, h3, h⟩ := h
   refine o1 J (o_call has12 J (c_keys_Board_Press i2.1 (⟨x2.2.2.1, x2.2.2.2.1, x2.2.2.2.2.1⟩ : Vkeys_Board) b0 (⟨x2.2.2.2.2.2.1, x2.2.2.2.2.2.2.1, (⟨x2.2.2.2.2.2.2.2.1, x2.2.2.2.2.2.2.2.2.1⟩ : Vaddr_Size), x2.2.2.2.2.2.2.2.2.2.1, x2.2.2.2.2.2.2.2.2.2.2.1, x2.2.2.2.2.2.2.2.2.2.2.2.1⟩ : Vspace_Space) b1 i2.2 (⟨x2.2.2.2.2.2.2.2.2.2.2.2.2⟩ : Vpage_Page) b2 (⟨1, rdR p3 x2.1, 0⟩ : Vkeys_Key) _ h3) (pc rm0 (pc rm1 (pc rm1 (pc rm2 (pc rm1 pn))))) (fun i3 f3_0 => ?_))
   refine op J J (op J J (op J J (op J J (op J J (o_end ?_)))))
   refine e_seq (cr (op J J ?_))
   refine o1 J (o_p (v := (O (d3.2.2.2.2 != 0))) J ?_)
   refine oe ?_
   refine c_cond (b := (d3.2.2.2.2 != 0)) J (fun hb882 => ?_) (fun hb882 => ?_)
   ·replace h := cond_t hb882 h
    refine cr (op J J (op J J (op J J (op J J ?_))))
    refine oe (c_ret (e_then_ret (e_blk_ret (e_then_ret ?_))))
    refine e_blk_ret (ej_ret ?_)
    replace h := esc_some h
    obtain ⟨z1, h, rfl⟩ := h
    obtain rfl := (hk1 : z1 = _)
    refine e_then_ret (e_ret ?_)
    refine r_endt J J (kc rm0 (kc rm0 (kc rm0 (kc rm0 (kc rm0 (kd kr)))))) ?_
    obtain rfl := si h
    exact hk (i3.1, i3.2) (Ext.trans f2_0 f3_0)
   ·replace h := cond_f hb882 h
    refine c_skip (e_seq (c_region (op J J ?_)))
    refine o1 J (o_p (v := (I (w64 (x2.2.1 + 1)))) J ?_)
    refine op J J (o_end (e_blk ?_))
    exact e_loop (l_sub (sc J (sc J (sc J sn))) (l_keep (kc rm0 (kc rm4 (kc rm3 (kc rm0 (kc rm1 (kc rm0 kr)))))) (ih2 ((x2.1 + rdW p3 x2.1), w64 (x2.2.1 + 1), d3.2.2.1.lock, d3.2.2.1.inserts, d3.2.2.1.aid, d3.1.model, d3.1.alternate, d3.1.size.Rows, d3.1.size.Cols, d3.1.cells, d3.1.cursor, d3.1.attrs, d3.2.1.number) (i3.1, i3.2) (Ext.trans f2_0 f3_0) h)))
  ·replace h := cond_f hb880 h
   refine o1 J (o_next_f (b := b288) (s := p3) (n := x2.1) J rm1 hb880 ?_)
   refine op J J (oe (c_seq ?_))
   refine c_cond_f J J ?_
   refine c_exit (e_then_exit (e_then_exit (e_blk_exit ?_)))
   obtain rfl := si h
   exact ej (x2.2.1, x2.2.2.2.2.2.1, x2.2.2.2.2.2.2.1, x2.2.2.2.2.2.2.2.1, x2.2.2.2.2.2.2.2.2.1, x2.2.2.2.2.2.2.2.2.2.1, x2.2.2.2.2.2.2.2.2.2.2.1, x2.2.2.2.2.2.2.2.2.2.2.2.1, x2.2.2.2.2.2.2.2.2.2.2.2.2, x2.2.2.1, x2.2.2.2.1, x2.2.2.2.2.1) (i2.1, i2.2) ⟨J, f2_0⟩ (sc J sn) (kc rm0 (kc rm2 (kc rm2 (kc rm1 (kc rm1 (kd kr))))))
 ·rintro d1 i1 ⟨rfl, f1_0⟩
  replace h := JK_inl hk1
  clear hk1
  refine e_seq (cr (op J J (op J J (op J J ?_))))
  refine oe (c_ret (e_ret ?_))
  refine r_endt J J (kc rm0 (kc rm0 (kc rm2 (kc rm0 (kc rm0 kr))))) ?_
  obtain rfl := si h
  exact hk (i1.1, i1.2) f1_0

theorem c_keys_Board_AID {g : Gw} (X : HP) (p0 : Vkeys_Board) (b0 : Nat) (p1 : Vspace_Space) (b1 : Nat) (s0 : SV) (p2 : Vpage_Page) (b2 : Nat) (r : Int) (h : m_keys_Board_AID p0 p1 p2 = some r) : Tri env g 25 (A [(F b0 0)]) [X, blk b0 (.cells (A [(F b1 0), (F b2 0), (I p0.lock), (O p0.inserts), (U p0.aid)]) 115 (0, 0)), blk b1 (.cells (A [(I p1.model), (O p1.alternate), (I p1.size.Rows), (I p1.size.Cols), (V s0), (I p1.cursor), (I p1.attrs)]) 122 (0, 0)), slO s0 26 en_Vapi_Cell p1.cells, pgO b2 p2.number] (fun K R => K (U r) (X :: blk b1 (.cells (A [(I p1.model), (O p1.alternate), (I p1.size.Rows), (I p1.size.Cols), (V s0), (I p1.cursor), (I p1.attrs)]) 122 (0, 0)) :: slO s0 26 en_Vapi_Cell p1.cells :: pgO b2 p2.number :: blk b0 (.cells (A [(F b1 0), (F b2 0), (I p0.lock), (O p0.inserts), (U p0.aid)]) 115 (0, 0)) :: R)) := by
 refine tri_of (fn := Tryz.f25) (N := 9) Tryz.func25 J J J ?_
 intro R K hk
 unfold m_keys_Board_AID at h
 change GC _ none _ [] [(0, (F b0 0))] (X :: blk b0 (.cells (A [(F b1 0), (F b2 0), (I p0.lock), (O p0.inserts), (U p0.aid)]) 115 (0, 0)) :: blk b1 (.cells (A [(I p1.model), (O p1.alternate), (I p1.size.Rows), (I p1.size.Cols), (V s0), (I p1.cursor), (I p1.attrs)]) 122 (0, 0)) :: slO s0 26 en_Vapi_Cell p1.cells :: pgO b2 p2.number :: R) g _ _
 refine cr (op J J (oe (c_seq ?_)))
 refine cr (op J J ?_)
 refine o1 J (o_p (v := (O false)) J ?_)
 refine oe ?_
 refine c_cond_f J J ?_
 refine c_skip (e_seq (cr (op J J (op J J ?_))))
 refine o1 J (o_fa (fd := ⟨ "aid", 5, 4, false, "", "vitrine/keys", 25⟩) J J J J J ?_)
 refine o1 J (o_ld (b := b0) (off := 4) (v := (U p0.aid)) J rm1 J J ?_)
 refine op J J (oe (c_ret (e_ret ?_)))
 refine r_endt J J (kc rm0 (kc rm1 (kc rm1 (kc rm1 (kc rm0 kr))))) ?_
 obtain rfl := si h
 exact hk

theorem c_keys_Board_Lock {g : Gw} (X : HP) (p0 : Vkeys_Board) (b0 : Nat) (p1 : Vspace_Space) (b1 : Nat) (s0 : SV) (p2 : Vpage_Page) (b2 : Nat) (r : Int) (h : m_keys_Board_Lock p0 p1 p2 = some r) : Tri env g 34 (A [(F b0 0)]) [X, blk b0 (.cells (A [(F b1 0), (F b2 0), (I p0.lock), (O p0.inserts), (U p0.aid)]) 115 (0, 0)), blk b1 (.cells (A [(I p1.model), (O p1.alternate), (I p1.size.Rows), (I p1.size.Cols), (V s0), (I p1.cursor), (I p1.attrs)]) 122 (0, 0)), slO s0 26 en_Vapi_Cell p1.cells, pgO b2 p2.number] (fun K R => K (I r) (X :: blk b1 (.cells (A [(I p1.model), (O p1.alternate), (I p1.size.Rows), (I p1.size.Cols), (V s0), (I p1.cursor), (I p1.attrs)]) 122 (0, 0)) :: slO s0 26 en_Vapi_Cell p1.cells :: pgO b2 p2.number :: blk b0 (.cells (A [(F b1 0), (F b2 0), (I p0.lock), (O p0.inserts), (U p0.aid)]) 115 (0, 0)) :: R)) := by
 refine tri_of (fn := Tryz.f34) (N := 9) Tryz.func34 J J J ?_
 intro R K hk
 unfold m_keys_Board_Lock at h
 change GC _ none _ [] [(0, (F b0 0))] (X :: blk b0 (.cells (A [(F b1 0), (F b2 0), (I p0.lock), (O p0.inserts), (U p0.aid)]) 115 (0, 0)) :: blk b1 (.cells (A [(I p1.model), (O p1.alternate), (I p1.size.Rows), (I p1.size.Cols), (V s0), (I p1.cursor), (I p1.attrs)]) 122 (0, 0)) :: slO s0 26 en_Vapi_Cell p1.cells :: pgO b2 p2.number :: R) g _ _
 refine cr (op J J (oe (c_seq ?_)))
 refine cr (op J J ?_)
 refine o1 J (o_p (v := (O false)) J ?_)
 refine oe ?_
 refine c_cond_f J J ?_
 refine c_skip (e_seq (cr (op J J (op J J ?_))))
 refine o1 J (o_fa (fd := ⟨ "lock", 3, 2, false, "", "vitrine/keys", 16⟩) J J J J J ?_)
 refine o1 J (o_ld (b := b0) (off := 2) (v := (I p0.lock)) J rm1 J J ?_)
 refine op J J (oe (c_ret (e_ret ?_)))
 refine r_endt J J (kc rm0 (kc rm1 (kc rm1 (kc rm1 (kc rm0 kr))))) ?_
 obtain rfl := si h
 exact hk

end Go.Vt
set_option linter.unusedVariables false
set_option maxRecDepth 100000
set_option maxHeartbeats 4000000
namespace Go.Vt
open Go.Proofs
theorem c_vitrinelaw18_awake {g : Gw} (X : HP) (r : Bool) (h : m_vitrinelaw18_awake = some r) : Tri env g 9 (A []) [X] (fun K R => ∀ (i0 : HP), (Ext X i0) → K (O r) (i0 :: R)) := by
 refine tri_of (fn := Tryz.f9) (N := 68) Tryz.func9 J J J ?_
 intro R K hk
 unfold m_vitrinelaw18_awake at h
 change GC _ none _ [] [] (X :: R) g _ _
 refine cr (op J J (oe (c_seq ?_)))
 refine c_region ?_
 refine o1 J (o_build (fs := f_2) (ps := [(0, 1), (1, 1), (2, 1), (3, 1), (4, 6), (10, 1)]) (cs := [(U 3), (I 0), (O false), (U 0), (U 0), (O false), (U 0), (U 0), (U 0), (U 0), (V SV.nil)]) J J J J J ?_)
 refine o1 J (o_build (fs := f_2) (ps := [(0, 1), (1, 1), (2, 1), (3, 1), (4, 6), (10, 1)]) (cs := [(U 1), (I 1), (O false), (U 0), (U 0), (O false), (U 0), (U 0), (U 0), (U 0), (V SV.nil)]) J J J J J ?_)
 refine o1 rfl (o_bs (e := en_Vvitrineref12_Act) (l := [((⟨3, 0, false, 0, (⟨0, false, 0, 0, 0, 0⟩ : Vapi_Cell), ([] : List Int)⟩ : Vvitrineref12_Act), SV.nil), ((⟨1, 1, false, 0, (⟨0, false, 0, 0, 0, 0⟩ : Vapi_Cell), ([] : List Int)⟩ : Vvitrineref12_Act), SV.nil)]) (zs := [(U 0), (I 0), (O false), (U 0), (U 0), (O false), (U 0), (U 0), (U 0), (U 0), (V SV.nil)]) rfl rfl rfl rfl rfl rfl rfl rfl rfl (by kernel_rfl) (fun s38 => ?_))
 refine o_fz rm0 rm0 (fun X40 hx41 hs42 => ?_)
 replace h := bsome h
 obtain ⟨d2, h2, h⟩ := h
 refine o1 J (o_call has10 J (c_vitrinelaw18_lay X40 0 0 [(⟨3, 0, false, 0, (⟨0, false, 0, 0, 0, 0⟩ : Vapi_Cell), ([] : List Int)⟩ : Vvitrineref12_Act), (⟨1, 1, false, 0, (⟨0, false, 0, 0, 0, 0⟩ : Vapi_Cell), ([] : List Int)⟩ : Vvitrineref12_Act)] s38 ⟨_, hs42, (NL.mono (NL.cons (D := D_Vvitrineref12_Act X) (x := (⟨3, 0, false, 0, (⟨0, false, 0, 0, 0, 0⟩ : Vapi_Cell), ([] : List Int)⟩ : Vvitrineref12_Act)) (s := SV.nil) (rd_nil _ _ _) (NL.cons (D := D_Vvitrineref12_Act X) (x := (⟨1, 1, false, 0, (⟨0, false, 0, 0, 0, 0⟩ : Vapi_Cell), ([] : List Int)⟩ : Vvitrineref12_Act)) (s := SV.nil) (rd_nil _ _ _) NL.nil)) (D_Vvitrineref12_Act.ext hx41))⟩ _ h2) (pc rm0 pn) (fun i2 => ?_))
 refine op J J (op J J (op J J (op J J (op J J (op J J ?_)))))
 refine op J J (oe (cr (op J J ?_)))
 replace h := bsome h
 obtain ⟨d3, h3, h⟩ := h
 refine o1 J (o_call has16 J (c_keys_Board_Type X40 (⟨d2.1.lock, d2.1.inserts, d2.1.aid⟩ : Vkeys_Board) i2.1 (⟨d2.2.1.model, d2.2.1.alternate, d2.2.1.size, d2.2.1.cells, d2.2.1.cursor, d2.2.1.attrs⟩ : Vspace_Space) i2.2.1 i2.2.2.1 (⟨d2.2.2.1.number⟩ : Vpage_Page) i2.2.2.2.1 (ByteArray.mk (A [65, 98])) _ h3) (pc rm0 (pc rm0 (pc rm0 (pc rm0 (pc rm0 pn))))) (fun i3 f3_0 => ?_))
 refine op J J (op J J (op J J (op J J (op J J (o_end ?_)))))
 refine e_seq (cr (op J J ?_))
 refine o1 J (o_build (fs := f_4) (ps := [(0, 1), (1, 1), (2, 1)]) (cs := [(I 19), (.int .i32 0), (I 0)]) J J J J J ?_)
 replace h := bsome h
 obtain ⟨d4, h4, h⟩ := h
 refine o1 J (o_call has12 J (c_keys_Board_Press i3.1 d3.2.2.1 i2.1 d3.1 i2.2.1 i3.2 d3.2.1 i2.2.2.2.1 (⟨19, 0, 0⟩ : Vkeys_Key) _ h4) (pc rm0 (pc rm3 (pc rm0 (pc rm0 (pc rm0 pn))))) (fun i4 f4_0 => ?_))
 refine op J J (op J J (op J J (op J J (op J J (o_end ?_)))))
 refine e_seq (c_seq ?_)
 replace h := bsome h
 obtain ⟨d5, h, hk5⟩ := h
 refine cj (D := Unit) (ι := Unit) (fun _ i5 => True) (fun _ i5 => [(0, (O d5))]) (fun _ i5 => i4.1 :: R) ?_ ?_
 ·refine c_region (op J J ?_)
  refine o1 J (o_p (v := (O (d3.2.2.2.1 == 2))) J ?_)
  refine op J J ?_
  rcases bool_or ((d3.2.2.2.1 == 2)) with hb888 | hb888
  ·replace h := cond_t hb888 h
   refine oy J J J hb888 (o_p J ?_)
   refine oy J J J hb888 (o_p (v := (O (d3.2.2.2.2 == 0))) J ?_)
   refine o1 J (o_pick_t J hb888 J ?_)
   refine op J J ?_
   rcases bool_or ((d3.2.2.2.2 == 0)) with hb889 | hb889
   ·replace h := cond_t hb889 h
    refine oy J J J hb889 (o_p J ?_)
    replace h := bsome h
    obtain ⟨d6, h6, h⟩ := h
    refine oy J J J hb889 (o_call has13 J (c_space_Space_At i4.1 d4.1 i2.2.1 i4.2 1 _ h6) (pc rm0 (pc rm0 (pc rm0 pn))) ?_)
    refine oy J J J hb889 (o_field (v := (U d6.Char)) J J J ?_)
    refine oy J J J hb889 (o_p (v := (O (d6.Char == 193))) J ?_)
    refine o1 J (o_pick_t J hb889 J ?_)
    refine op J J ?_
    rcases bool_or ((d6.Char == 193)) with hb890 | hb890
    ·replace h := cond_t hb890 h
     refine oy J J J hb890 (o_p J ?_)
     replace h := bsome h
     obtain ⟨d7, h7, h⟩ := h
     refine oy J J J hb890 (o_call has13 J (c_space_Space_At i4.1 d4.1 i2.2.1 i4.2 2 _ h7) (pc rm0 (pc rm0 (pc rm0 pn))) ?_)
     refine oy J J J hb890 (o_field (v := (U d7.Char)) J J J ?_)
     refine oy J J J hb890 (o_p (v := (O (d7.Char == 130))) J ?_)
     refine o1 J (o_pick_t J hb890 J ?_)
     refine op J J ?_
     rcases bool_or ((d7.Char == 130)) with hb891 | hb891
     ·replace h := cond_t hb891 h
      refine oy J J J hb891 (o_p J ?_)
      replace h := bsome h
      obtain ⟨d8, h8, h⟩ := h
      refine oy J J J hb891 (o_call has13 J (c_space_Space_At i4.1 d4.1 i2.2.1 i4.2 0 _ h8) (pc rm0 (pc rm0 (pc rm0 pn))) ?_)
      refine oy J J J hb891 (o_field (v := (U d8.FA)) J J J ?_)
      refine oy J J J hb891 (o_p (v := (O (d8.FA == 1))) J ?_)
      refine o1 J (o_pick_t J hb891 J ?_)
      refine op J J ?_
      rcases bool_or ((d8.FA == 1)) with hb892 | hb892
      ·replace h := cond_t hb892 h
       refine oy J J J hb892 (o_p J ?_)
       refine o1 J (o_pick_t J hb892 J ?_)
       refine op J J ?_
       rcases bool_or (d4.2.2.2.1) with hb893 | hb893
       ·replace h := cond_t hb893 h
        refine oy J J J hb893 (o_p J ?_)
        refine oy J J J hb893 (o_p (v := (O (d4.2.2.2.2 == 0))) J ?_)
        refine o1 J (o_pick_t J hb893 J ?_)
        refine op J J ?_
        rcases bool_or ((d4.2.2.2.2 == 0)) with hb894 | hb894
        ·replace h := cond_t hb894 h
         refine oy J J J hb894 (o_p J ?_)
         replace h := bsome h
         obtain ⟨d9, h9, h⟩ := h
         refine oy J J J hb894 (o_call has25 J (c_keys_Board_AID i4.1 d4.2.2.1 i2.1 d4.1 i2.2.1 i4.2 d4.2.1 i2.2.2.2.1 _ h9) (pc rm0 (pc rm3 (pc rm0 (pc rm0 (pc rm0 pn))))) ?_)
         refine oy J J J hb894 (o_p (v := (O (d9 == 125))) J ?_)
         refine o1 J (o_pick_t J hb894 J ?_)
         refine op J J ?_
         rcases bool_or ((d9 == 125)) with hb895 | hb895
         ·replace h := cond_t hb895 h
          refine oy J J J hb895 (o_p J ?_)
          replace h := bsome h
          obtain ⟨d10, h10, h⟩ := h
          refine oy J J J hb895 (o_call has34 J (c_keys_Board_Lock i4.1 d4.2.2.1 i2.1 d4.1 i2.2.1 i4.2 d4.2.1 i2.2.2.2.1 _ h10) (pc rm0 (pc rm3 (pc rm0 (pc rm0 (pc rm0 pn))))) ?_)
          refine oy J J J hb895 (o_p (v := (O (d10 == 1))) J ?_)
          refine o1 J (o_pick_t J hb895 J ?_)
          refine op J J (o_end ?_)
          obtain rfl := si h
          exact ej () () trivial (sc J sn) (kc rm0 (kd (kd (kd (kd (kd (kd (kd kr))))))))
         ·replace h := cond_f hb895 h
          refine on J J J hb895 ?_
          refine on J J J hb895 ?_
          refine on J J J hb895 ?_
          refine o1 J (o_pick_f J hb895 J ?_)
          refine op J J (o_end ?_)
          obtain rfl := si h
          exact ej () () trivial (sc J sn) (kc rm0 (kd (kd (kd (kd (kd (kd (kd kr))))))))
        ·replace h := cond_f hb894 h
         refine on J J J hb894 ?_
         refine on J J J hb894 ?_
         refine on J J J hb894 ?_
         refine o1 J (o_pick_f J hb894 J ?_)
         refine op J J ?_
         refine on J J J J ?_
         refine on J J J J ?_
         refine on J J J J ?_
         refine o1 J (o_pick_f J J J ?_)
         refine op J J (o_end ?_)
         obtain rfl := si h
         exact ej () () trivial (sc J sn) (kc rm0 (kd (kd (kd (kd (kd (kd (kd kr))))))))
       ·replace h := cond_f hb893 h
        refine on J J J hb893 ?_
        refine on J J J hb893 ?_
        refine o1 J (o_pick_f J hb893 J ?_)
        refine op J J ?_
        refine on J J J J ?_
        refine on J J J J ?_
        refine on J J J J ?_
        refine o1 J (o_pick_f J J J ?_)
        refine op J J ?_
        refine on J J J J ?_
        refine on J J J J ?_
        refine on J J J J ?_
        refine o1 J (o_pick_f J J J ?_)
        refine op J J (o_end ?_)
        obtain rfl := si h
        exact ej () () trivial (sc J sn) (kc rm0 (kd (kd (kd (kd (kd (kd (kd kr))))))))
      ·replace h := cond_f hb892 h
       refine on J J J hb892 ?_
       refine o1 J (o_pick_f J hb892 J ?_)
       refine op J J ?_
       refine on J J J J ?_
       refine on J J J J ?_
       refine o1 J (o_pick_f J J J ?_)
       refine op J J ?_
       refine on J J J J ?_
       refine on J J J J ?_
       refine on J J J J ?_
       refine o1 J (o_pick_f J J J ?_)
       refine op J J ?_
       refine on J J J J ?_
       refine on J J J J ?_
       refine on J J J J ?_
       refine o1 J (o_pick_f J J J ?_)
       refine op J J (o_end ?_)
       obtain rfl := si h
       exact ej () () trivial (sc J sn) (kc rm0 (kd (kd (kd (kd (kd (kd (kd kr))))))))
     ·replace h := cond_f hb891 h
      refine on J J J hb891 ?_
      refine on J J J hb891 ?_
      refine on J J J hb891 ?_
      refine on J J J hb891 ?_
      refine o1 J (o_pick_f J hb891 J ?_)
      refine op J J ?_
      refine on J J J J ?_
      refine o1 J (o_pick_f J J J ?_)
      refine op J J ?_
      refine on J J J J ?_
      refine on J J J J ?_
      refine o1 J (o_pick_f J J J ?_)
      refine op J J ?_
      refine on J J J J ?_
      refine on J J J J ?_
      refine on J J J J ?_
      refine o1 J (o_pick_f J J J ?_)
      refine op J J ?_
      refine on J J J J ?_
      refine on J J J J ?_
      refine on J J J J ?_
      refine o1 J (o_pick_f J J J ?_)
      refine op J J (o_end ?_)
      obtain rfl := si h
      exact ej () () trivial (sc J sn) (kc rm0 (kd (kd (kd (kd (kd (kd (kd kr))))))))
    ·replace h := cond_f hb890 h
     refine on J J J hb890 ?_
     refine on J J J hb890 ?_
     refine on J J J hb890 ?_
     refine on J J J hb890 ?_
     refine o1 J (o_pick_f J hb890 J ?_)
     refine op J J ?_
     refine on J J J J ?_
     refine on J J J J ?_
     refine on J J J J ?_
     refine on J J J J ?_
     refine o1 J (o_pick_f J J J ?_)
     refine op J J ?_
     refine on J J J J ?_
     refine o1 J (o_pick_f J J J ?_)
     refine op J J ?_
     refine on J J J J ?_
     refine on J J J J ?_
     refine o1 J (o_pick_f J J J ?_)
     refine op J J ?_
     refine on J J J J ?_
     refine on J J J J ?_
     refine on J J J J ?_
     refine o1 J (o_pick_f J J J ?_)
     refine op J J ?_
     refine on J J J J ?_
     refine on J J J J ?_
     refine on J J J J ?_
     refine o1 J (o_pick_f J J J ?_)
     refine op J J (o_end ?_)
     obtain rfl := si h
     exact ej () () trivial (sc J sn) (kc rm0 (kd (kd (kd (kd (kd (kd (kd kr))))))))
   ·replace h := cond_f hb889 h
    refine on J J J hb889 ?_
    refine on J J J hb889 ?_
    refine on J J J hb889 ?_
    refine on J J J hb889 ?_
    refine o1 J (o_pick_f J hb889 J ?_)
    refine op J J ?_
    refine on J J J J ?_
    refine on J J J J ?_
    refine on J J J J ?_
    refine on J J J J ?_
    refine o1 J (o_pick_f J J J ?_)
    refine op J J ?_
    refine on J J J J ?_
    refine on J J J J ?_
    refine on J J J J ?_
    refine on J J J J ?_
    refine o1 J (o_pick_f J J J ?_)
    refine op J J ?_
    refine on J J J J ?_
    refine o1 J (o_pick_f J J J ?_)
    refine op J J ?_
    refine on J J J J ?_
    refine on J J J J ?_
    refine o1 J (o_pick_f J J J ?_)
    refine op J J ?_
    refine on J J J J ?_
    refine on J J J J ?_
    refine on J J J J ?_
    refine o1 J (o_pick_f J J J ?_)
    refine op J J ?_
    refine on J J J J ?_
    refine on J J J J ?_
    refine on J J J J ?_
    refine o1 J (o_pick_f J J J ?_)
    refine op J J (o_end ?_)
    obtain rfl := si h
    exact ej () () trivial (sc J sn) (kc rm0 (kd (kd (kd (kd (kd (kd (kd kr))))))))
  ·replace h := cond_f hb888 h
   refine on J J J hb888 ?_
   refine on J J J hb888 ?_
   refine o1 J (o_pick_f J hb888 J ?_)
   refine op J J ?_
   refine on J J J J ?_
   refine on J J J J ?_
   refine on J J J J ?_
   refine on J J J J ?_
   refine o1 J (o_pick_f J J J ?_)
   refine op J J ?_
   refine on J J J J ?_
   refine on J J J J ?_
   refine on J J J J ?_
   refine on J J J J ?_
   refine o1 J (o_pick_f J J J ?_)
   refine op J J ?_
   refine on J J J J ?_
   refine on J J J J ?_
   refine on J J J J ?_
   refine on J J J J ?_
   refine o1 J (o_pick_f J J J ?_)
   refine op J J ?_
   refine on J J J J ?_
   refine o1 J (o_pick_f J J J ?_)
   refine op J J ?_
   refine on J J J J ?_
   refine on J J J J ?_
   refine o1 J (o_pick_f J J J ?_)
   refine op J J ?_
   refine on J J J J ?_
   refine on J J J J ?_
   refine on J J J J ?_
   refine o1 J (o_pick_f J J J ?_)
   refine op J J ?_
   refine on J J J J ?_
   refine on J J J J ?_
   refine on J J J J ?_
   refine o1 J (o_pick_f J J J ?_)
   refine op J J (o_end ?_)
   obtain rfl := si h
   exact ej () () trivial (sc J sn) (kc rm0 (kd (kd (kd (kd (kd (kd (kd kr))))))))
 ·rintro _ i5 _
  replace h := hk5
  clear hk5
  refine e_seq (c_ret (e_ret ?_))
  refine r_endt J J (kc rm0 kr) ?_
  obtain rfl := si h
  exact hk i4.1 (Ext.trans (Ext.trans hx41 f3_0) f4_0)

theorem c_vitrineref01_CutText {g : Gw} (X : HP) (p0 : ByteArray) (p1 : Int) (r : ByteArray) (h : m_vitrineref01_CutText p0 p1 = some r) : Tri env g 15 (A [(.string p0), (I p1)]) [X] (fun K R => K (.string r) (X :: R)) := by
 refine tri_of (fn := Tryz.f15) (N := 13) Tryz.func15 J J J ?_
 intro R K hk
 unfold m_vitrineref01_CutText at h
 change GC _ none _ [] [(0, (.string p0)), (1, (I p1))] (X :: R) g _ _
 refine cr (op J J (oe (c_seq ?_)))
 refine cr (op J J ?_)
 refine o1 J (o_lens (s := p0) J J J ?_)
 refine op J J ?_
 refine o1 J (o_p (v := (O (decide ((p0.size : Int) > p1)))) J ?_)
 refine oe ?_
 refine c_cond (b := (decide ((p0.size : Int) > p1))) J (fun hb985 => ?_) (fun hb985 => ?_)
 ·replace h := cond_t hb985 h
  refine cr (op J J (op J J ?_))
  replace h := gsome h
  obtain ⟨hg986, h⟩ := h
  refine o1 J (o_ssl (s := p0) (a := 0) (b := p1) J J J J J hg986 ?_)
  refine op J J (oe (c_ret (e_then_ret (e_ret ?_))))
  refine r_endt J J (kc rm0 kr) ?_
  obtain rfl := si h
  exact hk
 ·replace h := cond_f hb985 h
  refine c_skip (e_seq (cr (op J J (op J J ?_))))
  refine oe (c_ret (e_ret ?_))
  refine r_endt J J (kc rm0 kr) ?_
  obtain rfl := si h
  exact hk

theorem c_vitrineref01_others {g : Gw} (X : HP) (p0 : Int) (r : ByteArray × Bool) (h : m_vitrineref01_others p0 = some r) : Tri env g 99 (A [(I p0)]) [X] (fun K R => K (.tuple (A [(.string r.1), (O r.2)])) (X :: R)) := by
 refine tri_of (fn := Tryz.f99) (N := 17) Tryz.func99 J J J ?_
 intro R K hk
 unfold m_vitrineref01_others at h
 change GC _ none _ [] [(0, (I p0))] (X :: R) g _ _
 refine cr (op J J (op J J (oe ?_)))
 refine c_seq (cr (op J J (oe ?_)))
 refine c_block (cr ?_)
 refine o1 J (o_p (v := (O (p0 == 37))) J ?_)
 refine op J J (oe ?_)
 refine c_cond (b := (p0 == 37)) J (fun hb994 => ?_) (fun hb994 => ?_)
 ·replace h := cond_t hb994 h
  refine cr (op J J (op J J (oe ?_)))
  refine c_ret (e_blk_ret (e_then_ret (e_ret ?_)))
  refine r_endt J J (kc rm0 kr) ?_
  obtain rfl := si h
  exact hk
 ·replace h := cond_f hb994 h
  refine cr ?_
  refine o1 J (o_p (v := (O (p0 == 273))) J ?_)
  refine op J J (oe ?_)
  refine c_cond (b := (p0 == 273)) J (fun hb995 => ?_) (fun hb995 => ?_)
  ·replace h := cond_t hb995 h
   refine cr (op J J (op J J (oe ?_)))
   refine c_ret (e_blk_ret (e_then_ret (e_ret ?_)))
   refine r_endt J J (kc rm0 kr) ?_
   obtain rfl := si h
   exact hk
  ·replace h := cond_f hb995 h
   refine cr ?_
   refine o1 J (o_p (v := (O (p0 == 297))) J ?_)
   refine op J J (oe ?_)
   refine c_cond (b := (p0 == 297)) J (fun hb996 => ?_) (fun hb996 => ?_)
   ·replace h := cond_t hb996 h
    refine cr (op J J (op J J (oe ?_)))
    refine c_ret (e_blk_ret (e_then_ret (e_ret ?_)))
    refine r_endt J J (kc rm0 kr) ?_
    obtain rfl := si h
    exact hk
   ·replace h := cond_f hb996 h
    refine cr ?_
    refine o1 J (o_p (v := (O (p0 == 500))) J ?_)
    refine op J J (oe ?_)
    refine c_cond (b := (p0 == 500)) J (fun hb997 => ?_) (fun hb997 => ?_)
    ·replace h := cond_t hb997 h
     refine cr (op J J (op J J (oe ?_)))
     refine c_ret (e_blk_ret (e_then_ret (e_ret ?_)))
     refine r_endt J J (kc rm0 kr) ?_
     obtain rfl := si h
     exact hk
    ·replace h := cond_f hb997 h
     refine cr ?_
     refine o1 J (o_p (v := (O (p0 == 1047))) J ?_)
     refine op J J (oe ?_)
     refine c_cond (b := (p0 == 1047)) J (fun hb998 => ?_) (fun hb998 => ?_)
     ·replace h := cond_t hb998 h
      refine cr (op J J (op J J (oe ?_)))
      refine c_ret (e_blk_ret (e_then_ret (e_ret ?_)))
      refine r_endt J J (kc rm0 kr) ?_
      obtain rfl := si h
      exact hk
     ·replace h := cond_f hb998 h
      refine cr ?_
      refine o1 J (o_p (v := (O (p0 == 1140))) J ?_)
      refine op J J (oe ?_)
      refine c_cond (b := (p0 == 1140)) J (fun hb999 => ?_) (fun hb999 => ?_)
      ·replace h := cond_t hb999 h
       refine cr (op J J (op J J (oe ?_)))
       refine c_ret (e_blk_ret (e_then_ret (e_ret ?_)))
       refine r_endt J J (kc rm0 kr) ?_
       obtain rfl := si h
       exact hk
      ·replace h := cond_f hb999 h
       refine c_skip (e_blk (e_seq (cr (op J J ?_))))
       refine op J J (oe (c_ret (e_ret ?_)))
       refine r_endt J J (kc rm0 kr) ?_
       obtain rfl := si h
       exact hk

theorem c_vitrineref01_Num {g : Gw} (X : HP) (p0 : ByteArray) (r : Int) (h : m_vitrineref01_Num p0 = some r) : Tri env g 100 (A [(.string p0)]) [X] (fun K R => K (I r) (X :: R)) := by
 refine tri_of (fn := Tryz.f100) (N := 32) Tryz.func100 J J J ?_
 intro R K hk
 unfold m_vitrineref01_Num at h
 change GC _ none _ [] [(0, (.string p0))] (X :: R) g _ _
 refine cr (op J J (oe (c_seq ?_)))
 refine c_region (op J J (oe (c_seq (c_seq ?_))))
 refine c_region (op J J (oe ?_))
 replace h := bsome h
 obtain ⟨d1, h, hk1⟩ := h
 refine cj (D := Unit) (ι := Unit) (fun _ i1 => True) (fun _ i1 => [(3, (I d1))]) (fun _ i1 => X :: R) ?_ ?_
 ·refine c_block ?_
  refine c_loop (l_sub (sc J (sc J (sc J sn))) (l_keep (kc rm0 kr) (lf (X := Int × Int) (ι := Unit) (fun k x => vitrineref01_Num_l2 p0 k x) _ (fun x2 i2 => True) (fun x2 i2 => [(4, (I x2.1)), (3, (I x2.2)), (0, (.string p0))]) (fun x2 i2 => X :: R) (fun _ => J) ?_ fuel (0, 0) () trivial h)))
  clear h
  rintro k2 ih2 x2 i2 _ h
  rw [vitrineref01_Num_l2.eq_2] at h
  refine l_round (c_seq (cr (op J J (op J J ?_))))
  refine o1 J (o_lens (s := p0) J J J ?_)
  refine o1 J (o_p (v := (O (decide (x2.1 < (p0.size : Int))))) J ?_)
  refine oe ?_
  refine c_cond (b := (decide (x2.1 < (p0.size : Int)))) J (fun hb1012 => ?_) (fun hb1012 => ?_)
  ·replace h := cond_t hb1012 h
   refine c_skip (e_seq (c_seq (c_block (cr ?_))))
   refine op J J (op J J ?_)
   replace h := gsome h
   obtain ⟨hg1013, h⟩ := h
   refine o1 J (o_sidx (s := p0) (n := x2.1) J J J J hg1013 ?_)
   refine o1 J (o_p (v := (U (IntKind.wrap .u8 ((sbyte p0 x2.1) - 48)))) J ?_)
   refine o1 J (o_p (v := (I (w64 (IntKind.wrap .u8 ((sbyte p0 x2.1) - 48))))) J ?_)
   refine op J J (oe (c_seq (cr ?_)))
   refine op J J (op J J ?_)
   replace h := gsome h
   obtain ⟨hg1014, h⟩ := h
   refine o1 J (o_sidx (s := p0) (n := x2.1) J J J J hg1014 ?_)
   refine o1 J (o_p (v := (O (decide ((sbyte p0 x2.1) ≥ 97)))) J ?_)
   refine oe ?_
   replace h := bsome h
   obtain ⟨d5, h, hk5⟩ := h
   refine cj (D := Unit) (ι := Unit) (fun _ i5 => True) (fun _ i5 => [(5, (I d5)), (4, (I x2.1)), (3, (I x2.2)), (0, (.string p0))]) (fun _ i5 => X :: R) ?_ ?_
   ·refine c_cond (b := (decide ((sbyte p0 x2.1) ≥ 97))) J (fun hb1015 => ?_) (fun hb1015 => ?_)
    ·replace h := cond_t hb1015 h
     refine c_region (op J J (op J J ?_))
     replace h := gsome h
     obtain ⟨hg1016, h⟩ := h
     refine o1 J (o_sidx (s := p0) (n := x2.1) J J J J hg1016 ?_)
     refine o1 J (o_p (v := (U (IntKind.wrap .u8 ((sbyte p0 x2.1) - 97)))) J ?_)
     refine o1 J (o_p (v := (I (w64 (IntKind.wrap .u8 ((sbyte p0 x2.1) - 97))))) J ?_)
     refine o1 J (o_p (v := (I (w64 ((w64 (IntKind.wrap .u8 ((sbyte p0 x2.1) - 97))) + 10)))) J ?_)
     refine op J J (o_end ?_)
     obtain rfl := si h
     exact ej () () trivial (sc J (sc J (sc J (sc J sn)))) (kc rm0 kr)
    ·replace h := cond_f hb1015 h
     refine c_skip ?_
     obtain rfl := si h
     exact ej () () trivial (sc J (sc J (sc J (sc J sn)))) (kc rm0 kr)
   ·rintro _ i5 _
    replace h := hk5
    clear hk5
    refine e_seq (c_region (op J J ?_))
    refine o1 J (o_p (v := (I (w64 (16 * x2.2)))) J ?_)
    refine op J J ?_
    refine o1 J (o_p (v := (I (w64 ((w64 (16 * x2.2)) + d5)))) J ?_)
    refine op J J (o_end (e_blk (e_seq (c_region (op J J ?_)))))
    refine o1 J (o_p (v := (I (w64 (x2.1 + 1)))) J ?_)
    refine op J J (o_end ?_)
    exact e_loop (l_sub (sc J (sc J (sc J sn))) (l_keep (kc rm0 kr) (ih2 (w64 (x2.1 + 1), w64 ((w64 (16 * x2.2)) + d5)) () trivial h)))
  ·replace h := cond_f hb1012 h
   refine c_exit (e_then_exit (e_then_exit (e_blk_exit ?_)))
   obtain rfl := si h
   exact ej () () trivial (sc J sn) (kc rm0 kr)
 ·rintro _ i1 _
  replace h := hk1
  clear hk1
  refine e_seq (cr (op J J (op J J (o_end ?_))))
  refine e_seq (c_ret (e_ret ?_))
  refine r_endt J J (kc rm0 kr) ?_
  obtain rfl := si h
  exact hk

theorem c_vitrineref01_Sign {g : Gw} (X : HP) (p0 : Int) (p1 : Int) (r : Int) (h : m_vitrineref01_Sign p0 p1 = some r) : Tri env g 56 (A [(I p0), (U p1)]) [X] (fun K R => K (.int .i32 r) (X :: R)) := by
 refine tri_of (fn := Tryz.f56) (N := 46) Tryz.func56 J J J ?_
 intro R K hk
 unfold m_vitrineref01_Sign at h
 change GC _ none _ [] [(0, (I p0)), (1, (U p1))] (X :: R) g _ _
 refine cr (op J J (oe (c_seq ?_)))
 refine c_region (op J J ?_)
 replace h := bsome h
 obtain ⟨d1, h1, h⟩ := h
 refine o1 J (o_call has99 J (c_vitrineref01_others X p0 _ h1) (pc rm0 pn) ?_)
 refine op J J (op J J (op J J (op J J (op J J (o_end ?_)))))
 refine e_seq (c_seq (cr (op J J (o_end ?_))))
 refine e_seq ?_
 replace h := jn_some h
 obtain ⟨y2, h, hk2⟩ := h
 refine cj (D := Unit) (ι := Unit) (fun d2 i2 => y2 = Sum.inl d2) (fun d2 i2 => [(1, (U p1))]) (fun d2 i2 => X :: R) ?_ ?_
 ·refine c_block ?_
  refine c_loop (l_sub (sc J (sc J (sc J sn))) (l_keep (kc rm0 kr) (lf (X := Int) (ι := Unit) (fun k x => vitrineref01_Sign_l3 p1 d1 k x) _ (fun x3 i3 => True) (fun x3 i3 => [(7, (I x3)), (5, (.string d1.1)), (1, (U p1))]) (fun x3 i3 => X :: R) (fun _ => J) ?_ fuel 0 () trivial h)))
  clear h
  rintro k3 ih3 x3 i3 _ h
  rw [vitrineref01_Sign_l3.eq_2] at h
  refine l_round (c_seq (cr (op J J (op J J ?_))))
  refine o1 J (o_lens (s := d1.1) J J J ?_)
  refine o1 J (o_p (v := (O (decide (x3 < (d1.1.size : Int))))) J ?_)
  refine oe ?_
  refine c_cond (b := (decide (x3 < (d1.1.size : Int)))) J (fun hb1023 => ?_) (fun hb1023 => ?_)
  ·replace h := cond_t hb1023 h
   refine c_skip (e_seq (c_seq (c_block (cr ?_))))
   refine op J J (op J J (op J J ?_))
   refine o1 J (o_p (v := (I (w64 (x3 + 2)))) J ?_)
   replace h := gsome h
   obtain ⟨hg1024, h⟩ := h
   refine o1 J (o_ssl (s := d1.1) (a := x3) (b := w64 (x3 + 2)) J J J J J hg1024 ?_)
   replace h := bsome h
   obtain ⟨d6, h6, h⟩ := h
   refine o1 J (o_call has100 J (c_vitrineref01_Num X (ByteArray.extract d1.1 (Int.toNat x3) (Int.toNat (w64 (x3 + 2)))) _ h6) (pc rm0 pn) ?_)
   refine op J J ?_
   refine o1 J (o_p (v := (I (w64 (p1)))) J ?_)
   refine o1 J (o_p (v := (O (d6 == (w64 (p1))))) J ?_)
   refine oe ?_
   refine c_cond (b := (d6 == (w64 (p1)))) J (fun hb1025 => ?_) (fun hb1025 => ?_)
   ·replace h := cond_t hb1025 h
    refine cr (op J J (op J J ?_))
    refine o1 J (o_p (v := (I (w64 (x3 + 2)))) J ?_)
    refine op J J ?_
    refine o1 J (o_p (v := (I (w64 (x3 + 6)))) J ?_)
    replace h := gsome h
    obtain ⟨hg1026, h⟩ := h
    refine o1 J (o_ssl (s := d1.1) (a := w64 (x3 + 2)) (b := w64 (x3 + 6)) J J J J J hg1026 ?_)
    replace h := bsome h
    obtain ⟨d8, h8, h⟩ := h
    refine o1 J (o_call has100 J (c_vitrineref01_Num X (ByteArray.extract d1.1 (Int.toNat (w64 (x3 + 2))) (Int.toNat (w64 (x3 + 6)))) _ h8) (pc rm0 pn) ?_)
    refine o1 J (o_p (v := (.int .i32 (IntKind.wrap .i32 (d8)))) J ?_)
    refine op J J (oe (c_ret (e_blk_ret (e_then_ret ?_))))
    refine e_then_ret (e_blk_ret (ej_ret ?_))
    replace h := esc_some h
    obtain ⟨z2, h, rfl⟩ := h
    obtain rfl := (hk2 : z2 = _)
    refine e_then_ret (e_ret ?_)
    refine r_endt J J (kc rm0 kr) ?_
    obtain rfl := si h
    exact hk
   ·replace h := cond_f hb1025 h
    refine c_skip (e_blk (e_seq (c_region (op J J ?_))))
    refine o1 J (o_p (v := (I (w64 (x3 + 6)))) J ?_)
    refine op J J (o_end ?_)
    exact e_loop (l_sub (sc J (sc J (sc J sn))) (l_keep (kc rm0 kr) (ih3 (w64 (x3 + 6)) () trivial h)))
  ·replace h := cond_f hb1023 h
   refine c_exit (e_then_exit (e_then_exit (e_blk_exit ?_)))
   obtain rfl := si h
   exact ej () () J (sc J sn) (kc rm0 kr)
 ·rintro d2 i2 rfl
  replace h := JK_inl hk2
  clear hk2
  refine e_seq (cr (op J J ?_))
  refine o1 J (o_p (v := (I (w64 (p1)))) J ?_)
  refine o1 J (o_p (v := (I (w64 (4 * (w64 (p1)))))) J ?_)
  refine op J J (oe (cr (op J J ?_)))
  refine op J J ?_
  refine o1 J (o_p (v := (I (w64 ((w64 (4 * (w64 (p1)))) + 4)))) J ?_)
  replace h := gsome h
  obtain ⟨hg1027, h⟩ := h
  refine o1 J (o_ssl (s := (ByteArray.mk (A [48, 48, 48, 48, 48, 48, 48, 49, 48, 48, 48, 50, 48, 48, 48, 51, 48, 48, 57, 99, 48, 48, 48, 57, 48, 48, 56, 54, 48, 48, 55, 102, 48, 48, 57, 55, 48, 48, 56, 100, 48, 48, 56, 101, 48, 48, 48, 98, 48, 48, 48, 99, 48, 48, 48, 100, 48, 48, 48, 101, 48, 48, 48, 102, 48, 48, 49, 48, 48, 48, 49, 49, 48, 48, 49, 50, 48, 48, 49, 51, 48, 48, 57, 100, 48, 48, 56, 53, 48, 48, 48, 56, 48, 48, 56, 55, 48, 48, 49, 56, 48, 48, 49, 57, 48, 48, 57, 50, 48, 48, 56, 102, 48, 48, 49, 99, 48, 48, 49, 100, 48, 48, 49, 101, 48, 48, 49, 102, 48, 48, 56, 48, 48, 48, 56, 49, 48, 48, 56, 50, 48, 48, 56, 51, 48, 48, 56, 52, 48, 48, 48, 97, 48, 48, 49, 55, 48, 48, 49, 98, 48, 48, 56, 56, 48, 48, 56, 57, 48, 48, 56, 97, 48, 48, 56, 98, 48, 48, 56, 99, 48, 48, 48, 53, 48, 48, 48, 54, 48, 48, 48, 55, 48, 48, 57, 48, 48, 48, 57, 49, 48, 48, 49, 54, 48, 48, 57, 51, 48, 48, 57, 52, 48, 48, 57, 53, 48, 48, 57, 54, 48, 48, 48, 52, 48, 48, 57, 56, 48, 48, 57, 57, 48, 48, 57, 97, 48, 48, 57, 98, 48, 48, 49, 52, 48, 48, 49, 53, 48, 48, 57, 101, 48, 48, 49, 97, 48, 48, 50, 48, 48, 48, 97, 48, 48, 48, 101, 50, 48, 48, 101, 52, 48, 48, 101, 48, 48, 48, 101, 49, 48, 48, 101, 51, 48, 48, 101, 53, 48, 48, 101, 55, 48, 48, 102, 49, 48, 48, 97, 50, 48, 48, 50, 101, 48, 48, 51, 99, 48, 48, 50, 56, 48, 48, 50, 98, 48, 48, 55, 99, 48, 48, 50, 54, 48, 48, 101, 57, 48, 48, 101, 97, 48, 48, 101, 98, 48, 48, 101, 56, 48, 48, 101, 100, 48, 48, 101, 101, 48, 48, 101, 102, 48, 48, 101, 99, 48, 48, 100, 102, 48, 48, 50, 49, 48, 48, 50, 52, 48, 48, 50, 97, 48, 48, 50, 57, 48, 48, 51, 98, 48, 48, 97, 99, 48, 48, 50, 100, 48, 48, 50, 102, 48, 48, 99, 50, 48, 48, 99, 52, 48, 48, 99, 48, 48, 48, 99, 49, 48, 48, 99, 51, 48, 48, 99, 53, 48, 48, 99, 55, 48, 48, 100, 49, 48, 48, 97, 54, 48, 48, 50, 99, 48, 48, 50, 53, 48, 48, 53, 102, 48, 48, 51, 101, 48, 48, 51, 102, 48, 48, 102, 56, 48, 48, 99, 57, 48, 48, 99, 97, 48, 48, 99, 98, 48, 48, 99, 56, 48, 48, 99, 100, 48, 48, 99, 101, 48, 48, 99, 102, 48, 48, 99, 99, 48, 48, 54, 48, 48, 48, 51, 97, 48, 48, 50, 51, 48, 48, 52, 48, 48, 48, 50, 55, 48, 48, 51, 100, 48, 48, 50, 50, 48, 48, 100, 56, 48, 48, 54, 49, 48, 48, 54, 50, 48, 48, 54, 51, 48, 48, 54, 52, 48, 48, 54, 53, 48, 48, 54, 54, 48, 48, 54, 55, 48, 48, 54, 56, 48, 48, 54, 57, 48, 48, 97, 98, 48, 48, 98, 98, 48, 48, 102, 48, 48, 48, 102, 100, 48, 48, 102, 101, 48, 48, 98, 49, 48, 48, 98, 48, 48, 48, 54, 97, 48, 48, 54, 98, 48, 48, 54, 99, 48, 48, 54, 100, 48, 48, 54, 101, 48, 48, 54, 102, 48, 48, 55, 48, 48, 48, 55, 49, 48, 48, 55, 50, 48, 48, 97, 97, 48, 48, 98, 97, 48, 48, 101, 54, 48, 48, 98, 56, 48, 48, 99, 54, 48, 48, 97, 52, 48, 48, 98, 53, 48, 48, 55, 101, 48, 48, 55, 51, 48, 48, 55, 52, 48, 48, 55, 53, 48, 48, 55, 54, 48, 48, 55, 55, 48, 48, 55, 56, 48, 48, 55, 57, 48, 48, 55, 97, 48, 48, 97, 49, 48, 48, 98, 102, 48, 48, 100, 48, 48, 48, 100, 100, 48, 48, 100, 101, 48, 48, 97, 101, 48, 48, 53, 101, 48, 48, 97, 51, 48, 48, 97, 53, 48, 48, 98, 55, 48, 48, 97, 57, 48, 48, 97, 55, 48, 48, 98, 54, 48, 48, 98, 99, 48, 48, 98, 100, 48, 48, 98, 101, 48, 48, 53, 98, 48, 48, 53, 100, 48, 48, 97, 102, 48, 48, 97, 56, 48, 48, 98, 52, 48, 48, 100, 55, 48, 48, 55, 98, 48, 48, 52, 49, 48, 48, 52, 50, 48, 48, 52, 51, 48, 48, 52, 52, 48, 48, 52, 53, 48, 48, 52, 54, 48, 48, 52, 55, 48, 48, 52, 56, 48, 48, 52, 57, 48, 48, 97, 100, 48, 48, 102, 52, 48, 48, 102, 54, 48, 48, 102, 50, 48, 48, 102, 51, 48, 48, 102, 53, 48, 48, 55, 100, 48, 48, 52, 97, 48, 48, 52, 98, 48, 48, 52, 99, 48, 48, 52, 100, 48, 48, 52, 101, 48, 48, 52, 102, 48, 48, 53, 48, 48, 48, 53, 49, 48, 48, 53, 50, 48, 48, 98, 57, 48, 48, 102, 98, 48, 48, 102, 99, 48, 48, 102, 57, 48, 48, 102, 97, 48, 48, 102, 102, 48, 48, 53, 99, 48, 48, 102, 55, 48, 48, 53, 51, 48, 48, 53, 52, 48, 48, 53, 53, 48, 48, 53, 54, 48, 48, 53, 55, 48, 48, 53, 56, 48, 48, 53, 57, 48, 48, 53, 97, 48, 48, 98, 50, 48, 48, 100, 52, 48, 48, 100, 54, 48, 48, 100, 50, 48, 48, 100, 51, 48, 48, 100, 53, 48, 48, 51, 48, 48, 48, 51, 49, 48, 48, 51, 50, 48, 48, 51, 51, 48, 48, 51, 52, 48, 48, 51, 53, 48, 48, 51, 54, 48, 48, 51, 55, 48, 48, 51, 56, 48, 48, 51, 57, 48, 48, 98, 51, 48, 48, 100, 98, 48, 48, 100, 99, 48, 48, 100, 57, 48, 48, 100, 97, 48, 48, 57, 102]))) (a := w64 (4 * (w64 (p1)))) (b := w64 ((w64 (4 * (w64 (p1)))) + 4)) J J J J J hg1027 ?_)
  replace h := bsome h
  obtain ⟨d9, h9, h⟩ := h
  refine o1 J (o_call has100 J (c_vitrineref01_Num X (ByteArray.extract (ByteArray.mk (A [48, 48, 48, 48, 48, 48, 48, 49, 48, 48, 48, 50, 48, 48, 48, 51, 48, 48, 57, 99, 48, 48, 48, 57, 48, 48, 56, 54, 48, 48, 55, 102, 48, 48, 57, 55, 48, 48, 56, 100, 48, 48, 56, 101, 48, 48, 48, 98, 48, 48, 48, 99, 48, 48, 48, 100, 48, 48, 48, 101, 48, 48, 48, 102, 48, 48, 49, 48, 48, 48, 49, 49, 48, 48, 49, 50, 48, 48, 49, 51, 48, 48, 57, 100, 48, 48, 56, 53, 48, 48, 48, 56, 48, 48, 56, 55, 48, 48, 49, 56, 48, 48, 49, 57, 48, 48, 57, 50, 48, 48, 56, 102, 48, 48, 49, 99, 48, 48, 49, 100, 48, 48, 49, 101, 48, 48, 49, 102, 48, 48, 56, 48, 48, 48, 56, 49, 48, 48, 56, 50, 48, 48, 56, 51, 48, 48, 56, 52, 48, 48, 48, 97, 48, 48, 49, 55, 48, 48, 49, 98, 48, 48, 56, 56, 48, 48, 56, 57, 48, 48, 56, 97, 48, 48, 56, 98, 48, 48, 56, 99, 48, 48, 48, 53, 48, 48, 48, 54, 48, 48, 48, 55, 48, 48, 57, 48, 48, 48, 57, 49, 48, 48, 49, 54, 48, 48, 57, 51, 48, 48, 57, 52, 48, 48, 57, 53, 48, 48, 57, 54, 48, 48, 48, 52, 48, 48, 57, 56, 48, 48, 57, 57, 48, 48, 57, 97, 48, 48, 57, 98, 48, 48, 49, 52, 48, 48, 49, 53, 48, 48, 57, 101, 48, 48, 49, 97, 48, 48, 50, 48, 48, 48, 97, 48, 48, 48, 101, 50, 48, 48, 101, 52, 48, 48, 101, 48, 48, 48, 101, 49, 48, 48, 101, 51, 48, 48, 101, 53, 48, 48, 101, 55, 48, 48, 102, 49, 48, 48, 97, 50, 48, 48, 50, 101, 48, 48, 51, 99, 48, 48, 50, 56, 48, 48, 50, 98, 48, 48, 55, 99, 48, 48, 50, 54, 48, 48, 101, 57, 48, 48, 101, 97, 48, 48, 101, 98, 48, 48, 101, 56, 48, 48, 101, 100, 48, 48, 101, 101, 48, 48, 101, 102, 48, 48, 101, 99, 48, 48, 100, 102, 48, 48, 50, 49, 48, 48, 50, 52, 48, 48, 50, 97, 48, 48, 50, 57, 48, 48, 51, 98, 48, 48, 97, 99, 48, 48, 50, 100, 48, 48, 50, 102, 48, 48, 99, 50, 48, 48, 99, 52, 48, 48, 99, 48, 48, 48, 99, 49, 48, 48, 99, 51, 48, 48, 99, 53, 48, 48, 99, 55, 48, 48, 100, 49, 48, 48, 97, 54, 48, 48, 50, 99, 48, 48, 50, 53, 48, 48, 53, 102, 48, 48, 51, 101, 48, 48, 51, 102, 48, 48, 102, 56, 48, 48, 99, 57, 48, 48, 99, 97, 48, 48, 99, 98, 48, 48, 99, 56, 48, 48, 99, 100, 48, 48, 99, 101, 48, 48, 99, 102, 48, 48, 99, 99, 48, 48, 54, 48, 48, 48, 51, 97, 48, 48, 50, 51, 48, 48, 52, 48, 48, 48, 50, 55, 48, 48, 51, 100, 48, 48, 50, 50, 48, 48, 100, 56, 48, 48, 54, 49, 48, 48, 54, 50, 48, 48, 54, 51, 48, 48, 54, 52, 48, 48, 54, 53, 48, 48, 54, 54, 48, 48, 54, 55, 48, 48, 54, 56, 48, 48, 54, 57, 48, 48, 97, 98, 48, 48, 98, 98, 48, 48, 102, 48, 48, 48, 102, 100, 48, 48, 102, 101, 48, 48, 98, 49, 48, 48, 98, 48, 48, 48, 54, 97, 48, 48, 54, 98, 48, 48, 54, 99, 48, 48, 54, 100, 48, 48, 54, 101, 48, 48, 54, 102, 48, 48, 55, 48, 48, 48, 55, 49, 48, 48, 55, 50, 48, 48, 97, 97, 48, 48, 98, 97, 48, 48, 101, 54, 48, 48, 98, 56, 48, 48, 99, 54, 48, 48, 97, 52, 48, 48, 98, 53, 48, 48, 55, 101, 48, 48, 55, 51, 48, 48, 55, 52, 48, 48, 55, 53, 48, 48, 55, 54, 48, 48, 55, 55, 48, 48, 55, 56, 48, 48, 55, 57, 48, 48, 55, 97, 48, 48, 97, 49, 48, 48, 98, 102, 48, 48, 100, 48, 48, 48, 100, 100, 48, 48, 100, 101, 48, 48, 97, 101, 48, 48, 53, 101, 48, 48, 97, 51, 48, 48, 97, 53, 48, 48, 98, 55, 48, 48, 97, 57, 48, 48, 97, 55, 48, 48, 98, 54, 48, 48, 98, 99, 48, 48, 98, 100, 48, 48, 98, 101, 48, 48, 53, 98, 48, 48, 53, 100, 48, 48, 97, 102, 48, 48, 97, 56, 48, 48, 98, 52, 48, 48, 100, 55, 48, 48, 55, 98, 48, 48, 52, 49, 48, 48, 52, 50, 48, 48, 52, 51, 48, 48, 52, 52, 48, 48, 52, 53, 48, 48, 52, 54, 48, 48, 52, 55, 48, 48, 52, 56, 48, 48, 52, 57, 48, 48, 97, 100, 48, 48, 102, 52, 48, 48, 102, 54, 48, 48, 102, 50, 48, 48, 102, 51, 48, 48, 102, 53, 48, 48, 55, 100, 48, 48, 52, 97, 48, 48, 52, 98, 48, 48, 52, 99, 48, 48, 52, 100, 48, 48, 52, 101, 48, 48, 52, 102, 48, 48, 53, 48, 48, 48, 53, 49, 48, 48, 53, 50, 48, 48, 98, 57, 48, 48, 102, 98, 48, 48, 102, 99, 48, 48, 102, 57, 48, 48, 102, 97, 48, 48, 102, 102, 48, 48, 53, 99, 48, 48, 102, 55, 48, 48, 53, 51, 48, 48, 53, 52, 48, 48, 53, 53, 48, 48, 53, 54, 48, 48, 53, 55, 48, 48, 53, 56, 48, 48, 53, 57, 48, 48, 53, 97, 48, 48, 98, 50, 48, 48, 100, 52, 48, 48, 100, 54, 48, 48, 100, 50, 48, 48, 100, 51, 48, 48, 100, 53, 48, 48, 51, 48, 48, 48, 51, 49, 48, 48, 51, 50, 48, 48, 51, 51, 48, 48, 51, 52, 48, 48, 51, 53, 48, 48, 51, 54, 48, 48, 51, 55, 48, 48, 51, 56, 48, 48, 51, 57, 48, 48, 98, 51, 48, 48, 100, 98, 48, 48, 100, 99, 48, 48, 100, 57, 48, 48, 100, 97, 48, 48, 57, 102])) (Int.toNat (w64 (4 * (w64 (p1))))) (Int.toNat (w64 ((w64 (4 * (w64 (p1)))) + 4)))) _ h9) (pc rm0 pn) ?_)
  refine o1 J (o_p (v := (.int .i32 (IntKind.wrap .i32 (d9)))) J ?_)
  refine op J J (oe (c_ret (e_ret ?_)))
  refine r_endt J J (kc rm0 kr) ?_
  obtain rfl := si h
  exact hk

theorem c_vitrineref01_Code {g : Gw} (X : HP) (p0 : Int) (p1 : Int) (r : Int) (h : m_vitrineref01_Code p0 p1 = some r) : Tri env g 17 (A [(I p0), (.int .i32 p1)]) [X] (fun K R => K (I r) (X :: R)) := by
 refine tri_of (fn := Tryz.f17) (N := 17) Tryz.func17 J J J ?_
 intro R K hk
 unfold m_vitrineref01_Code at h
 change GC _ none _ [] [(0, (I p0)), (1, (.int .i32 p1))] (X :: R) g _ _
 refine cr (op J J (oe (c_seq ?_)))
 refine cr (op J J (oe ?_))
 replace h := jn_some h
 obtain ⟨y1, h, hk1⟩ := h
 refine cj (D := Unit) (ι := Unit) (fun d1 i1 => y1 = Sum.inl d1) (fun d1 i1 => []) (fun d1 i1 => X :: R) ?_ ?_
 ·refine c_block ?_
  refine c_loop (l_sub (sc J (sc J (sc J sn))) (l_keep (kc rm0 kr) (lf (X := Int) (ι := Unit) (fun k x => vitrineref01_Code_l2 p0 p1 k x) _ (fun x2 i2 => True) (fun x2 i2 => [(5, (I x2)), (0, (I p0)), (1, (.int .i32 p1))]) (fun x2 i2 => X :: R) (fun _ => J) ?_ fuel 0 () trivial h)))
  clear h
  rintro k2 ih2 x2 i2 _ h
  rw [vitrineref01_Code_l2.eq_2] at h
  refine l_round (c_seq (cr (op J J ?_)))
  refine o1 J (o_p (v := (O (decide (x2 < 256)))) J ?_)
  refine oe ?_
  refine c_cond (b := (decide (x2 < 256))) J (fun hb1031 => ?_) (fun hb1031 => ?_)
  ·replace h := cond_t hb1031 h
   refine c_skip (e_seq (c_seq (c_block (cr ?_))))
   refine op J J (op J J ?_)
   refine o1 J (o_p (v := (U (IntKind.wrap .u8 (x2)))) J ?_)
   replace h := bsome h
   obtain ⟨d5, h5, h⟩ := h
   refine o1 J (o_call has56 J (c_vitrineref01_Sign X p0 (IntKind.wrap .u8 (x2)) _ h5) (pc rm0 pn) ?_)
   refine op J J ?_
   refine o1 J (o_p (v := (O (d5 == p1))) J ?_)
   refine oe ?_
   refine c_cond (b := (d5 == p1)) J (fun hb1032 => ?_) (fun hb1032 => ?_)
   ·replace h := cond_t hb1032 h
    refine cr (op J J (op J J (oe ?_)))
    refine c_ret (e_blk_ret (e_then_ret (e_then_ret (e_blk_ret (ej_ret ?_)))))
    replace h := esc_some h
    obtain ⟨z1, h, rfl⟩ := h
    obtain rfl := (hk1 : z1 = _)
    refine e_then_ret (e_ret ?_)
    refine r_endt J J (kc rm0 kr) ?_
    obtain rfl := si h
    exact hk
   ·replace h := cond_f hb1032 h
    refine c_skip (e_blk (e_seq (c_region (op J J ?_))))
    refine o1 J (o_p (v := (I (w64 (x2 + 1)))) J ?_)
    refine op J J (o_end ?_)
    exact e_loop (l_sub (sc J (sc J (sc J sn))) (l_keep (kc rm0 kr) (ih2 (w64 (x2 + 1)) () trivial h)))
  ·replace h := cond_f hb1031 h
   refine c_exit (e_then_exit (e_then_exit (e_blk_exit ?_)))
   obtain rfl := si h
   exact ej () () J sn (kc rm0 kr)
 ·rintro d1 i1 rfl
  replace h := JK_inl hk1
  clear hk1
  refine e_seq (cr (op J J (oe ?_)))
  refine c_ret (e_ret ?_)
  refine r_endt J J (kc rm0 kr) ?_
  obtain rfl := si h
  exact hk

theorem c_vitrinelaw18_KeysType {g : Gw} (X : HP) (p0 : Int) (p1 : ByteArray) (p2 : Int) (p3 : Bool) (r : Bool) (h : m_vitrinelaw18_KeysType p0 p1 p2 p3 = some r) : Tri env g 4 (A [(U p0), (.string p1), (U p2), (O p3)]) [X] (fun K R => ∀ (i0 : HP), (Ext X i0) → K (O r) (i0 :: R)) := by
 refine tri_of (fn := Tryz.f4) (N := 129) Tryz.func4 J J J ?_
 intro R K hk
 unfold m_vitrinelaw18_KeysType at h
 change GC _ none _ [] [(0, (U p0)), (1, (.string p1)), (2, (U p2)), (3, (O p3))] (X :: R) g _ _
 refine cr (op J J (oe (c_seq ?_)))
 refine cr ?_
 replace h := bsome h
 obtain ⟨d1, h1, h⟩ := h
 refine o1 J (o_call has9 J (c_vitrinelaw18_awake X _ h1) (pc rm0 pn) (fun i1 f1_0 => ?_))
 refine o1 J (o_p (v := (O (!d1))) J ?_)
 refine oe ?_
 refine c_cond (b := (!d1)) J (fun hb972 => ?_) (fun hb972 => ?_)
 ·replace h := cond_t hb972 h
  refine cr (op J J (oe (c_ret ?_)))
  refine e_then_ret (e_ret ?_)
  refine r_endt J J (kc rm0 kr) ?_
  obtain rfl := si h
  exact hk i1 f1_0
 ·replace h := cond_f hb972 h
  refine c_skip (e_seq (cr (op J J ?_)))
  refine o1 rfl (o_rem (m := p2) (n := 20) rfl rfl (by decide) ?_)
  refine o1 J (o_p (v := (I (w64 (Int.tmod p2 20)))) J ?_)
  replace h := bsome h
  obtain ⟨d3, h3, h⟩ := h
  replace h3 := Option.some.inj h3
  refine o1 J (o_p (v := (I d3)) (Eq.trans J (congrArg (fun z => some (Value.int .i64 z)) h3)) ?_)
  refine op J J (oe (cr (op J J ?_)))
  refine o1 J (o_build (fs := f_2) (ps := [(0, 1), (1, 1), (2, 1), (3, 1), (4, 6), (10, 1)]) (cs := [(U 3), (I 0), (O false), (U 0), (U 0), (O false), (U 0), (U 0), (U 0), (U 0), (V SV.nil)]) J J J J J ?_)
  refine op J J ?_
  replace h := bsome h
  obtain ⟨d5, h5, h⟩ := h
  replace h5 := Option.some.inj h5
  refine o1 J (o_p (v := (I d5)) (Eq.trans J (congrArg (fun z => some (Value.int .i64 z)) h5)) ?_)
  refine o1 J (o_build (fs := f_2) (ps := [(0, 1), (1, 1), (2, 1), (3, 1), (4, 6), (10, 1)]) (cs := [(U 3), (I d5), (O false), (U 48), (U 0), (O false), (U 0), (U 0), (U 0), (U 0), (V SV.nil)]) J J J J J ?_)
  refine o1 J (o_build (fs := f_2) (ps := [(0, 1), (1, 1), (2, 1), (3, 1), (4, 6), (10, 1)]) (cs := [(U 1), (I 1), (O false), (U 0), (U 0), (O false), (U 0), (U 0), (U 0), (U 0), (V SV.nil)]) J J J J J ?_)
  refine o1 rfl (o_bs (e := en_Vvitrineref12_Act) (l := [((⟨3, 0, false, 0, (⟨0, false, 0, 0, 0, 0⟩ : Vapi_Cell), ([] : List Int)⟩ : Vvitrineref12_Act), SV.nil), ((⟨3, d5, false, 48, (⟨0, false, 0, 0, 0, 0⟩ : Vapi_Cell), ([] : List Int)⟩ : Vvitrineref12_Act), SV.nil), ((⟨1, 1, false, 0, (⟨0, false, 0, 0, 0, 0⟩ : Vapi_Cell), ([] : List Int)⟩ : Vvitrineref12_Act), SV.nil)]) (zs := [(U 0), (I 0), (O false), (U 0), (U 0), (O false), (U 0), (U 0), (U 0), (U 0), (V SV.nil)]) rfl rfl rfl rfl rfl rfl rfl rfl rfl (by kernel_rfl) (fun s973 => ?_))
  refine o_fz rm0 rm0 (fun X975 hx976 hs977 => ?_)
  replace h := bsome h
  obtain ⟨d6, h6, h⟩ := h
  refine o1 J (o_call has10 J (c_vitrinelaw18_lay X975 0 p0 [(⟨3, 0, false, 0, (⟨0, false, 0, 0, 0, 0⟩ : Vapi_Cell), ([] : List Int)⟩ : Vvitrineref12_Act), (⟨3, d5, false, 48, (⟨0, false, 0, 0, 0, 0⟩ : Vapi_Cell), ([] : List Int)⟩ : Vvitrineref12_Act), (⟨1, 1, false, 0, (⟨0, false, 0, 0, 0, 0⟩ : Vapi_Cell), ([] : List Int)⟩ : Vvitrineref12_Act)] s973 ⟨_, hs977, (NL.mono (NL.cons (D := D_Vvitrineref12_Act i1) (x := (⟨3, 0, false, 0, (⟨0, false, 0, 0, 0, 0⟩ : Vapi_Cell), ([] : List Int)⟩ : Vvitrineref12_Act)) (s := SV.nil) (rd_nil _ _ _) (NL.cons (D := D_Vvitrineref12_Act i1) (x := (⟨3, d5, false, 48, (⟨0, false, 0, 0, 0, 0⟩ : Vapi_Cell), ([] : List Int)⟩ : Vvitrineref12_Act)) (s := SV.nil) (rd_nil _ _ _) (NL.cons (D := D_Vvitrineref12_Act i1) (x := (⟨1, 1, false, 0, (⟨0, false, 0, 0, 0, 0⟩ : Vapi_Cell), ([] : List Int)⟩ : Vvitrineref12_Act)) (s := SV.nil) (rd_nil _ _ _) NL.nil))) (D_Vvitrineref12_Act.ext hx976))⟩ _ h6) (pc rm0 pn) (fun i6 => ?_))
  refine op J J (op J J (op J J (op J J (op J J (op J J ?_)))))
  refine op J J (oe (cr (op J J ?_)))
  replace h := bsome h
  obtain ⟨d7, h7, h⟩ := h
  refine o1 J (o_call has15 J (c_vitrineref01_CutText X975 p1 60 _ h7) (pc rm0 pn) ?_)
  refine op J J (oe (c_seq (cr ?_)))
  refine op J J (oe ?_)
  replace h := bsome h
  obtain ⟨d8, h, hk8⟩ := h
  refine cj (D := Unit) (ι := HP × SV) (fun _ i8 => Ext X i8.1) (fun _ i8 => [(1, (.string d7)), (12, (F i6.2.2.2.2.1 0)), (11, (F i6.2.1 0)), (10, (F i6.1 0)), (9, (I d3))]) (fun _ i8 => i8.1 :: blk i6.2.2.2.2.1 (.cells (A [(F i6.2.2.2.2.2.1 0), (I d6.2.2.2.1.Page), (I d6.2.2.2.1.Lock), (O d6.2.2.2.1.Ins), (U d6.2.2.2.1.AID)]) 41 (0, 0)) :: blk i6.2.1 (.cells (A [(I d8.1), (O d8.2.1), (I d8.2.2.1), (I d8.2.2.2.1), (V i8.2), (I d8.2.2.2.2.2.1), (I d8.2.2.2.2.2.2.1)]) 122 (0, 0)) :: blk i6.1 (.cells (A [(F i6.2.1 0), (F i6.2.2.2.1 0), (I d8.2.2.2.2.2.2.2.1), (O d8.2.2.2.2.2.2.2.2.1), (U d8.2.2.2.2.2.2.2.2.2.1)]) 115 (0, 0)) :: blk i6.2.2.2.2.2.1 (.cells (A [(I d6.2.2.2.2.Model), (O d6.2.2.2.2.Alt), (I d6.2.2.2.2.Size.Rows), (I d6.2.2.2.2.Size.Cols), (V i6.2.2.2.2.2.2), (I d6.2.2.2.2.Cursor)]) 74 (0, 0)) :: slO i8.2 26 en_Vapi_Cell d8.2.2.2.2.1 :: pgO i6.2.2.2.1 d8.2.2.2.2.2.2.2.2.2.2 :: slO i6.2.2.2.2.2.2 26 en_Vapi_Cell d6.2.2.2.2.L :: R) ?_ ?_
  ·refine c_cond (b := p3) J (fun hb987 => ?_) (fun hb987 => ?_)
   ·replace h := cond_t hb987 h
    refine c_region (op J J ?_)
    refine o1 J (o_build (fs := f_4) (ps := [(0, 1), (1, 1), (2, 1)]) (cs := [(I 16), (.int .i32 0), (I 0)]) J J J J J ?_)
    replace h := bsome h
    obtain ⟨d9, h9, h⟩ := h
    refine o1 J (o_call has12 J (c_keys_Board_Press X975 (⟨d6.1.lock, d6.1.inserts, d6.1.aid⟩ : Vkeys_Board) i6.1 (⟨d6.2.1.model, d6.2.1.alternate, d6.2.1.size, d6.2.1.cells, d6.2.1.cursor, d6.2.1.attrs⟩ : Vspace_Space) i6.2.1 i6.2.2.1 (⟨d6.2.2.1.number⟩ : Vpage_Page) i6.2.2.2.1 (⟨16, 0, 0⟩ : Vkeys_Key) _ h9) (pc rm0 (pc rm0 (pc rm0 (pc rm0 (pc rm0 pn))))) (fun i9 f9_0 => ?_))
    refine o_end ?_
    obtain rfl := si h
    exact ej () (i9.1, i9.2) (Ext.trans (Ext.trans f1_0 hx976) f9_0) (sc J (sc J (sc J (sc J (sc J sn))))) (kc rm0 (kc rm4 (kc rm0 (kc rm2 (kc rm2 (kc rm0 (kc rm0 (kc rm0 kr))))))))
   ·replace h := cond_f hb987 h
    refine c_skip ?_
    obtain rfl := si h
    exact ej () (X975, i6.2.2.1) (Ext.trans f1_0 hx976) (sc J (sc J (sc J (sc J (sc J sn))))) (kc rm0 (kc rm4 (kc rm1 (kc rm0 (kc rm2 (kc rm0 (kc rm0 (kc rm0 kr))))))))
  ·rintro _ i8 f8_0
   replace h := hk8
   clear hk8
   refine e_seq (cr (op J J (op J J ?_)))
   replace h := bsome h
   obtain ⟨d10, h10, h⟩ := h
   refine o1 J (o_call has16 J (c_keys_Board_Type i8.1 (⟨d8.2.2.2.2.2.2.2.1, d8.2.2.2.2.2.2.2.2.1, d8.2.2.2.2.2.2.2.2.2.1⟩ : Vkeys_Board) i6.1 (⟨d8.1, d8.2.1, (⟨d8.2.2.1, d8.2.2.2.1⟩ : Vaddr_Size), d8.2.2.2.2.1, d8.2.2.2.2.2.1, d8.2.2.2.2.2.2.1⟩ : Vspace_Space) i6.2.1 i8.2 (⟨d8.2.2.2.2.2.2.2.2.2.2⟩ : Vpage_Page) i6.2.2.2.1 d7 _ h10) (pc rm0 (pc rm2 (pc rm1 (pc rm2 (pc rm2 pn))))) (fun i10 f10_0 => ?_))
   refine op J J (op J J (op J J (op J J (op J J (o_end ?_)))))
   refine e_seq (cr (op J J (oe ?_)))
   refine cr (op J J (oe (c_seq ?_)))
   refine cr (op J J ?_)
   refine o1 J (o_range (s := d7) J J J (fun b991 => ?_))
   refine oe ?_
   replace h := bsome h
   obtain ⟨d11, h, hk11⟩ := h
   refine cj (D := Unit) (ι := SV) (fun _ i11 => True) (fun _ i11 => [(15, (V i11)), (14, (I d10.2.2.2.2)), (13, (I d10.2.2.2.1)), (11, (F i6.2.1 0)), (9, (I d3))]) (fun _ i11 => i10.1 :: slO i11 5 (enI .u8) d11 :: blk i6.2.1 (.cells (A [(I d10.1.model), (O d10.1.alternate), (I d10.1.size.Rows), (I d10.1.size.Cols), (V i10.2), (I d10.1.cursor), (I d10.1.attrs)]) 122 (0, 0)) :: slO i10.2 26 en_Vapi_Cell d10.1.cells :: R) ?_ ?_
   ·refine c_block ?_
    refine c_add (slO SV.nil 5 (enI .u8) []) (slO_nil _ _ _) ?_
    refine c_loop (l_sub (sc J (sc J (sc J (sc J (sc J (sc J (sc J (sc J sn)))))))) (l_keep (kc rm2 (kc rm1 (kc rm0 (kc rm4 (kc rm0 (kc rm3 (kc rm0 (kc rm2 (kd (kd kr)))))))))) (lf (X := Nat × Int × (List Int)) (ι := SV) (fun k x => vitrinelaw18_KeysType_l12 d3 d6 d7 k x) _ (fun x12 i12 => True) (fun x12 i12 => [(52, (F b991 0)), (16, (I x12.2.1)), (15, (V i12)), (14, (I d10.2.2.2.2)), (13, (I d10.2.2.2.1)), (12, (F i6.2.2.2.2.1 0)), (11, (F i6.2.1 0)), (9, (I d3))]) (fun x12 i12 => i10.1 :: blk b991 (.stringIter d7 x12.1) :: slO i12 5 (enI .u8) x12.2.2 :: blk i6.2.2.2.2.1 (.cells (A [(F i6.2.2.2.2.2.1 0), (I d6.2.2.2.1.Page), (I d6.2.2.2.1.Lock), (O d6.2.2.2.1.Ins), (U d6.2.2.2.1.AID)]) 41 (0, 0)) :: blk i6.2.1 (.cells (A [(I d10.1.model), (O d10.1.alternate), (I d10.1.size.Rows), (I d10.1.size.Cols), (V i10.2), (I d10.1.cursor), (I d10.1.attrs)]) 122 (0, 0)) :: blk i6.2.2.2.2.2.1 (.cells (A [(I d6.2.2.2.2.Model), (O d6.2.2.2.2.Alt), (I d6.2.2.2.2.Size.Rows), (I d6.2.2.2.2.Size.Cols), (V i6.2.2.2.2.2.2), (I d6.2.2.2.2.Cursor)]) 74 (0, 0)) :: slO i10.2 26 en_Vapi_Cell d10.1.cells :: slO i6.2.2.2.2.2.2 26 en_Vapi_Cell d6.2.2.2.2.L :: R) (fun _ => J) ?_ fuel (0, 0, ([] : List Int)) SV.nil trivial h)))
    clear h
    rintro k12 ih12 x12 i12 _ h
    rw [vitrinelaw18_KeysType_l12.eq_2] at h
    refine l_round (cr ?_)
    rcases bool_or ((decide (x12.1 < d7.size))) with hb1057 | hb1057
    ·replace h := cond_t hb1057 h
     refine o1 J (o_next_t (b := b991) (s := d7) (n := x12.1) J rp1 hb1057 ?_)
     refine op J J (oe (c_seq ?_))
     refine c_cond_t J J ?_
     refine c_skip (e_seq (c_block (cr (op J J ?_))))
     refine op J J (oe (cr (op J J ?_)))
     refine op J J ?_
     refine o1 J (o_fa (fd := ⟨ "Page", 3, 1, false, "", "", 8⟩) J J J J J ?_)
     refine o1 J (o_ld (b := i6.2.2.2.2.1) (off := 1) (v := (I d6.2.2.2.1.Page)) J rm3 J J ?_)
     refine op J J ?_
     replace h := bsome h
     obtain ⟨d13, h13, h⟩ := h
     refine o1 J (o_call has17 J (c_vitrineref01_Code i10.1 d6.2.2.2.1.Page (rdR d7 x12.1) _ h13) (pc rm0 pn) ?_)
     refine op J J (oe (c_seq (c_seq ?_)))
     replace h := bsome h
     obtain ⟨d14, h, hk14⟩ := h
     refine cj (D := Unit) (ι := Unit) (fun _ i14 => True) (fun _ i14 => [(71, (O d14)), (19, (I d13)), (52, (F b991 0)), (16, (I x12.2.1)), (15, (V i12)), (14, (I d10.2.2.2.2)), (13, (I d10.2.2.2.1)), (12, (F i6.2.2.2.2.1 0)), (11, (F i6.2.1 0)), (9, (I d3))]) (fun _ i14 => i10.1 :: blk b991 (.stringIter d7 (x12.1 + rdW d7 x12.1)) :: slO i12 5 (enI .u8) x12.2.2 :: blk i6.2.2.2.2.1 (.cells (A [(F i6.2.2.2.2.2.1 0), (I d6.2.2.2.1.Page), (I d6.2.2.2.1.Lock), (O d6.2.2.2.1.Ins), (U d6.2.2.2.1.AID)]) 41 (0, 0)) :: blk i6.2.1 (.cells (A [(I d10.1.model), (O d10.1.alternate), (I d10.1.size.Rows), (I d10.1.size.Cols), (V i10.2), (I d10.1.cursor), (I d10.1.attrs)]) 122 (0, 0)) :: blk i6.2.2.2.2.2.1 (.cells (A [(I d6.2.2.2.2.Model), (O d6.2.2.2.2.Alt), (I d6.2.2.2.2.Size.Rows), (I d6.2.2.2.2.Size.Cols), (V i6.2.2.2.2.2.2), (I d6.2.2.2.2.Cursor)]) 74 (0, 0)) :: slO i10.2 26 en_Vapi_Cell d10.1.cells :: slO i6.2.2.2.2.2.2 26 en_Vapi_Cell d6.2.2.2.2.L :: R) ?_ ?_
     ·refine c_region (op J J ?_)
      refine o1 J (o_p (v := (O (decide (d13 < 64)))) J ?_)
      refine op J J ?_
      rcases bool_or ((decide (d13 < 64))) with hb1058 | hb1058
      ·replace h := cond_t hb1058 h
       refine on J J J hb1058 ?_
       refine on J J J hb1058 ?_
       refine o1 J (o_pick_t J hb1058 J ?_)
       refine op J J ?_
       refine oy J J J J (o_p J ?_)
       refine oy J J J J (o_p (v := (O (x12.2.1 == 0))) J ?_)
       refine o1 J (o_pick_t J J J ?_)
       refine o_end ?_
       obtain rfl := si h
       exact ej () () trivial (sc J (sc J (sc J (sc J (sc J (sc J (sc J (sc J (sc J (sc J sn)))))))))) (kc rm0 (kc rm0 (kc rm0 (kc rm0 (kc rm0 (kc rm0 (kc rm0 (kc rm0 kr))))))))
      ·replace h := cond_f hb1058 h
       refine oy J J J hb1058 (o_p J ?_)
       refine oy J J J hb1058 (o_p (v := (O (decide (d13 > 254)))) J ?_)
       refine o1 J (o_pick_f J hb1058 J ?_)
       refine op J J ?_
       rcases bool_or ((decide (d13 > 254))) with hb1059 | hb1059
       ·replace h := cond_t hb1059 h
        refine oy J J J hb1059 (o_p J ?_)
        refine oy J J J hb1059 (o_p (v := (O (x12.2.1 == 0))) J ?_)
        refine o1 J (o_pick_t J hb1059 J ?_)
        refine o_end ?_
        obtain rfl := si h
        exact ej () () trivial (sc J (sc J (sc J (sc J (sc J (sc J (sc J (sc J (sc J (sc J sn)))))))))) (kc rm0 (kc rm0 (kc rm0 (kc rm0 (kc rm0 (kc rm0 (kc rm0 (kc rm0 kr))))))))
       ·replace h := cond_f hb1059 h
        refine on J J J hb1059 ?_
        refine on J J J hb1059 ?_
        refine o1 J (o_pick_f J hb1059 J ?_)
        refine o_end ?_
        obtain rfl := si h
        exact ej () () trivial (sc J (sc J (sc J (sc J (sc J (sc J (sc J (sc J (sc J (sc J sn)))))))))) (kc rm0 (kc rm0 (kc rm0 (kc rm0 (kc rm0 (kc rm0 (kc rm0 (kc rm0 kr))))))))
     ·rintro _ i14 _
      replace h := hk14
      clear hk14
      refine e_seq ?_
      replace h := bsome h
      obtain ⟨d15, h, hk15⟩ := h
      refine cj (D := Unit) (ι := Unit) (fun _ i15 => True) (fun _ i15 => [(16, (I d15)), (19, (I d13)), (52, (F b991 0)), (15, (V i12)), (14, (I d10.2.2.2.2)), (13, (I d10.2.2.2.1)), (12, (F i6.2.2.2.2.1 0)), (11, (F i6.2.1 0)), (9, (I d3))]) (fun _ i15 => i10.1 :: blk b991 (.stringIter d7 (x12.1 + rdW d7 x12.1)) :: slO i12 5 (enI .u8) x12.2.2 :: blk i6.2.2.2.2.1 (.cells (A [(F i6.2.2.2.2.2.1 0), (I d6.2.2.2.1.Page), (I d6.2.2.2.1.Lock), (O d6.2.2.2.1.Ins), (U d6.2.2.2.1.AID)]) 41 (0, 0)) :: blk i6.2.1 (.cells (A [(I d10.1.model), (O d10.1.alternate), (I d10.1.size.Rows), (I d10.1.size.Cols), (V i10.2), (I d10.1.cursor), (I d10.1.attrs)]) 122 (0, 0)) :: blk i6.2.2.2.2.2.1 (.cells (A [(I d6.2.2.2.2.Model), (O d6.2.2.2.2.Alt), (I d6.2.2.2.2.Size.Rows), (I d6.2.2.2.2.Size.Cols), (V i6.2.2.2.2.2.2), (I d6.2.2.2.2.Cursor)]) 74 (0, 0)) :: slO i10.2 26 en_Vapi_Cell d10.1.cells :: slO i6.2.2.2.2.2.2 26 en_Vapi_Cell d6.2.2.2.2.L :: R) ?_ ?_
      ·refine c_cond (b := d14) J (fun hb1060 => ?_) (fun hb1060 => ?_)
       ·replace h := cond_t hb1060 h
        refine c_region (op J J (o_end ?_))
        obtain rfl := si h
        exact ej () () trivial (sc J (sc J (sc J (sc J (sc J (sc J (sc J (sc J (sc J sn))))))))) (kc rm0 (kc rm0 (kc rm0 (kc rm0 (kc rm0 (kc rm0 (kc rm0 (kc rm0 kr))))))))
       ·replace h := cond_f hb1060 h
        refine c_skip ?_
        obtain rfl := si h
        exact ej () () trivial (sc J (sc J (sc J (sc J (sc J (sc J (sc J (sc J (sc J sn))))))))) (kc rm0 (kc rm0 (kc rm0 (kc rm0 (kc rm0 (kc rm0 (kc rm0 (kc rm0 kr))))))))
      ·rintro _ i15 _
       replace h := hk15
       clear hk15
       refine e_seq (c_seq (c_seq ?_))
       replace h := bsome h
       obtain ⟨d16, h, hk16⟩ := h
       refine cj (D := Unit) (ι := Unit) (fun _ i16 => True) (fun _ i16 => [(79, (O d16)), (16, (I d15)), (19, (I d13)), (52, (F b991 0)), (15, (V i12)), (14, (I d10.2.2.2.2)), (13, (I d10.2.2.2.1)), (12, (F i6.2.2.2.2.1 0)), (11, (F i6.2.1 0)), (9, (I d3))]) (fun _ i16 => i10.1 :: blk b991 (.stringIter d7 (x12.1 + rdW d7 x12.1)) :: slO i12 5 (enI .u8) x12.2.2 :: blk i6.2.2.2.2.1 (.cells (A [(F i6.2.2.2.2.2.1 0), (I d6.2.2.2.1.Page), (I d6.2.2.2.1.Lock), (O d6.2.2.2.1.Ins), (U d6.2.2.2.1.AID)]) 41 (0, 0)) :: blk i6.2.1 (.cells (A [(I d10.1.model), (O d10.1.alternate), (I d10.1.size.Rows), (I d10.1.size.Cols), (V i10.2), (I d10.1.cursor), (I d10.1.attrs)]) 122 (0, 0)) :: blk i6.2.2.2.2.2.1 (.cells (A [(I d6.2.2.2.2.Model), (O d6.2.2.2.2.Alt), (I d6.2.2.2.2.Size.Rows), (I d6.2.2.2.2.Size.Cols), (V i6.2.2.2.2.2.2), (I d6.2.2.2.2.Cursor)]) 74 (0, 0)) :: slO i10.2 26 en_Vapi_Cell d10.1.cells :: slO i6.2.2.2.2.2.2 26 en_Vapi_Cell d6.2.2.2.2.L :: R) ?_ ?_
       ·refine c_region (op J J ?_)
        refine o1 J (o_p (v := (O (d15 != 0))) J ?_)
        refine op J J ?_
        rcases bool_or ((d15 != 0)) with hb1061 | hb1061
        ·replace h := cond_t hb1061 h
         refine on J J J hb1061 ?_
         refine on J J J hb1061 ?_
         refine on J J J hb1061 ?_
         refine on J J J hb1061 ?_
         refine o1 J (o_pick_t J hb1061 J ?_)
         refine o_end ?_
         obtain rfl := si h
         exact ej () () trivial (sc J (sc J (sc J (sc J (sc J (sc J (sc J (sc J (sc J (sc J sn)))))))))) (kc rm0 (kc rm0 (kc rm0 (kc rm0 (kc rm0 (kc rm0 (kc rm0 (kc rm0 kr))))))))
        ·replace h := cond_f hb1061 h
         refine oy J J J hb1061 (o_p J ?_)
         refine oy J J J hb1061 (o_len (s := i12) J J J rm2 (rd_own _ _ _ _) ?_)
         refine oy J J J hb1061 (o_p J ?_)
         refine oy J J J hb1061 (o_p (v := (O (decide ((x12.2.2.length : Int) ≥ d3)))) J ?_)
         refine o1 J (o_pick_f J hb1061 J ?_)
         refine o_end ?_
         obtain rfl := si h
         exact ej () () trivial (sc J (sc J (sc J (sc J (sc J (sc J (sc J (sc J (sc J (sc J sn)))))))))) (kc rm0 (kc rm0 (kc rm0 (kc rm0 (kc rm0 (kc rm0 (kc rm0 (kc rm0 kr))))))))
       ·rintro _ i16 _
        replace h := hk16
        clear hk16
        refine e_seq ?_
        refine c_cond (b := d16) J (fun hb1062 => ?_) (fun hb1062 => ?_)
        ·replace h := cond_t hb1062 h
         refine c_exit (e_then_exit ?_)
         refine e_blk_exit_ne J ?_
         refine e_then_exit (e_blk_exit ?_)
         obtain rfl := si h
         exact ej () i12 trivial (sc J (sc J (sc J (sc J (sc J sn))))) (kc rm0 (kc rm1 (kc rm2 (kc rm3 (kd (kd (kd (kd kr))))))))
        ·replace h := cond_f hb1062 h
         refine c_skip (e_seq (c_region (op J J (op J J ?_))))
         refine o1 J (o_p (v := (U (IntKind.wrap .u8 (d13)))) J ?_)
         refine o1 J (o_bs (e := (enI .u8)) (l := [IntKind.wrap .u8 (d13)]) (zs := [(U 0)]) J J J J J J J J J J (fun s1063 => ?_))
         replace h := gsome h
         obtain ⟨hg1065, h⟩ := h
         refine o1 J (o_app (s := i12) (r := s1063) (e := (enI .u8)) (l := x12.2.2) (l2 := [IntKind.wrap .u8 (d13)]) (zs := [(U 0)]) J J J J J J J J J J J rm3 rm0 (rd_own _ _ _ _) hg1065 (fun s1066 => ?_))
         refine op J J (o_end (e_blk ?_))
         exact e_loop (l_sub (sc J (sc J (sc J (sc J (sc J (sc J (sc J (sc J sn)))))))) (l_keep (kc rm2 (kc rm2 (kc rm0 (kc rm1 (kc rm1 (kc rm1 (kc rm1 (kc rm1 (kd kr))))))))) (ih12 ((x12.1 + rdW d7 x12.1), d15, (x12.2.2 ++ [IntKind.wrap .u8 (d13)])) s1066 trivial h)))
    ·replace h := cond_f hb1057 h
     refine o1 J (o_next_f (b := b991) (s := d7) (n := x12.1) J rm1 hb1057 ?_)
     refine op J J (oe (c_seq ?_))
     refine c_cond_f J J ?_
     refine c_exit (e_then_exit (e_then_exit (e_blk_exit ?_)))
     obtain rfl := si h
     exact ej () i12 trivial (sc J (sc J (sc J (sc J (sc J sn))))) (kc rm0 (kc rm1 (kc rm2 (kc rm3 (kd (kd (kd (kd kr))))))))
   ·rintro _ i11 _
    replace h := hk11
    clear hk11
    refine e_seq (c_seq (c_seq ?_))
    replace h := bsome h
    obtain ⟨d18, h, hk18⟩ := h
    refine cj (D := Unit) (ι := Unit) (fun _ i18 => True) (fun _ i18 => [(97, (O d18)), (15, (V i11)), (13, (I d10.2.2.2.1)), (11, (F i6.2.1 0)), (9, (I d3))]) (fun _ i18 => i10.1 :: slO i11 5 (enI .u8) d11 :: blk i6.2.1 (.cells (A [(I d10.1.model), (O d10.1.alternate), (I d10.1.size.Rows), (I d10.1.size.Cols), (V i10.2), (I d10.1.cursor), (I d10.1.attrs)]) 122 (0, 0)) :: slO i10.2 26 en_Vapi_Cell d10.1.cells :: R) ?_ ?_
    ·refine c_region (op J J ?_)
     refine o1 J (o_p (v := (O (d10.2.2.2.2 == 0))) J ?_)
     refine op J J ?_
     rcases bool_or ((d10.2.2.2.2 == 0)) with hb1071 | hb1071
     ·replace h := cond_t hb1071 h
      refine oy J J J hb1071 (o_p J ?_)
      refine oy J J J hb1071 (o_p J ?_)
      refine oy J J J hb1071 (o_len (s := i11) J J J rm1 (rd_own _ _ _ _) ?_)
      refine oy J J J hb1071 (o_p (v := (O (d10.2.2.2.1 != (d11.length : Int)))) J ?_)
      refine o1 J (o_pick_t J hb1071 J ?_)
      refine op J J ?_
      rcases bool_or ((d10.2.2.2.1 != (d11.length : Int))) with hb1072 | hb1072
      ·replace h := cond_t hb1072 h
       refine oy J J J hb1072 (o_p J ?_)
       refine oy J J J hb1072 (o_p J ?_)
       refine oy J J J hb1072 (o_p (v := (O (decide (d10.2.2.2.1 < d3)))) J ?_)
       refine o1 J (o_pick_t J hb1072 J ?_)
       refine o_end ?_
       obtain rfl := si h
       exact ej () () trivial (sc J (sc J (sc J (sc J (sc J sn))))) (kc rm0 (kc rm0 (kc rm0 (kc rm0 kr))))
      ·replace h := cond_f hb1072 h
       refine on J J J hb1072 ?_
       refine on J J J hb1072 ?_
       refine on J J J hb1072 ?_
       refine o1 J (o_pick_f J hb1072 J ?_)
       refine o_end ?_
       obtain rfl := si h
       exact ej () () trivial (sc J (sc J (sc J (sc J (sc J sn))))) (kc rm0 (kc rm0 (kc rm0 (kc rm0 kr))))
     ·replace h := cond_f hb1071 h
      refine on J J J hb1071 ?_
      refine on J J J hb1071 ?_
      refine on J J J hb1071 ?_
      refine on J J J hb1071 ?_
      refine o1 J (o_pick_f J hb1071 J ?_)
      refine op J J ?_
      refine on J J J J ?_
      refine on J J J J ?_
      refine on J J J J ?_
      refine o1 J (o_pick_f J J J ?_)
      refine o_end ?_
      obtain rfl := si h
      exact ej () () trivial (sc J (sc J (sc J (sc J (sc J sn))))) (kc rm0 (kc rm0 (kc rm0 (kc rm0 kr))))
    ·rintro _ i18 _
     replace h := hk18
     clear hk18
     refine e_seq ?_
     refine c_cond (b := d18) J (fun hb1073 => ?_) (fun hb1073 => ?_)
     ·replace h := cond_t hb1073 h
      refine cr (op J J (oe (c_ret ?_)))
      refine e_then_ret (e_ret ?_)
      refine r_endt J J (kc rm0 (kd (kd (kd kr)))) ?_
      obtain rfl := si h
      exact hk i10.1 (Ext.trans f8_0 f10_0)
     ·replace h := cond_f hb1073 h
      refine c_skip (e_seq (c_seq (cr (op J J ?_))))
      refine op J J ?_
      refine o1 J (o_min (m := d10.2.2.2.1) (n := d3) J J ?_)
      refine op J J (oe ?_)
      replace h := jn_some h
      obtain ⟨y20, h, hk20⟩ := h
      refine cj (D := Unit) (ι := Unit) (fun d20 i20 => y20 = Sum.inl d20) (fun d20 i20 => [(13, (I d10.2.2.2.1)), (11, (F i6.2.1 0)), (9, (I d3))]) (fun d20 i20 => i10.1 :: blk i6.2.1 (.cells (A [(I d10.1.model), (O d10.1.alternate), (I d10.1.size.Rows), (I d10.1.size.Cols), (V i10.2), (I d10.1.cursor), (I d10.1.attrs)]) 122 (0, 0)) :: slO i10.2 26 en_Vapi_Cell d10.1.cells :: R) ?_ ?_
      ·refine c_block ?_
       refine c_loop (l_sub (sc J (sc J (sc J (sc J (sc J (sc J sn)))))) (l_keep (kc rm0 (kc rm0 (kc rm0 (kc rm0 kr)))) (lf (X := Int) (ι := Unit) (fun k x => vitrinelaw18_KeysType_l21 d3 d10 d11 k x) _ (fun x21 i21 => True) (fun x21 i21 => [(101, (I x21)), (100, (I (imin d10.2.2.2.1 d3))), (15, (V i11)), (13, (I d10.2.2.2.1)), (11, (F i6.2.1 0)), (9, (I d3))]) (fun x21 i21 => i10.1 :: slO i11 5 (enI .u8) d11 :: blk i6.2.1 (.cells (A [(I d10.1.model), (O d10.1.alternate), (I d10.1.size.Rows), (I d10.1.size.Cols), (V i10.2), (I d10.1.cursor), (I d10.1.attrs)]) 122 (0, 0)) :: slO i10.2 26 en_Vapi_Cell d10.1.cells :: R) (fun _ => J) ?_ fuel 0 () trivial h)))
       clear h
       rintro k21 ih21 x21 i21 _ h
       rw [vitrinelaw18_KeysType_l21.eq_2] at h
       refine l_round (cr ?_)
       refine o1 J (o_p (v := (O (decide (x21 < (imin d10.2.2.2.1 d3))))) J ?_)
       refine oe (c_seq ?_)
       refine c_cond (b := (decide (x21 < (imin d10.2.2.2.1 d3)))) J (fun hb1082 => ?_) (fun hb1082 => ?_)
       ·replace h := cond_t hb1082 h
        refine c_skip (e_seq (c_seq (c_block (cr ?_))))
        refine op J J (op J J (oe (c_seq ?_)))
        replace h := bsome h
        obtain ⟨d24, h, hk24⟩ := h
        refine cj (D := Unit) (ι := Unit) (fun _ i24 => True) (fun _ i24 => [(118, (O d24)), (101, (I x21)), (100, (I (imin d10.2.2.2.1 d3))), (15, (V i11)), (13, (I d10.2.2.2.1)), (11, (F i6.2.1 0)), (9, (I d3))]) (fun _ i24 => i10.1 :: slO i11 5 (enI .u8) d11 :: blk i6.2.1 (.cells (A [(I d10.1.model), (O d10.1.alternate), (I d10.1.size.Rows), (I d10.1.size.Cols), (V i10.2), (I d10.1.cursor), (I d10.1.attrs)]) 122 (0, 0)) :: slO i10.2 26 en_Vapi_Cell d10.1.cells :: R) ?_ ?_
        ·rcases bool_or ((decide (d10.2.2.2.1 ≤ d3))) with hb1083 | hb1083
         ·replace h := cond_t hb1083 h
          replace h := gsome h
          obtain ⟨hg1084, h⟩ := h
          refine c_draw (n := 1) (q := [(0, 104, (I d10.2.2.2.1)), (1, 105, (I d3)), (2, 106, (O (decide (d10.2.2.2.1 ≤ d3)))), (3, 107, (O (decide (d10.2.2.2.1 ≤ d3)))), (4, 108, (F i6.2.1 0)), (5, 109, (I x21)), (6, 110, (I (w64 (1 + x21)))), (9, 113, (V i11)), (10, 114, (I x21)), (11, 115, (F (SV.blk i11) (SV.off i11 + Int.toNat x21 * 1))), (12, 116, (U (rd d11 x21)))]) (pend := [0, 1, 2, 3, 4, 5, 6, 9, 10, 11, 12]) J J J ?_
          replace h := bsome h
          obtain ⟨d25, h25, h⟩ := h
          refine ⟨⟨fun _ => ⟨J, J, J, .inl ⟨J, (o_p J ⟨J, J⟩)⟩⟩, fun _ => ⟨J, J, J, .inl ⟨J, (o_p J ⟨J, J⟩)⟩⟩, fun _ => ⟨J, J, J, .inl ⟨J, (o_p (v := (O (decide (d10.2.2.2.1 ≤ d3)))) J ⟨J, J⟩)⟩⟩, fun _ => ⟨J, J, J, .inl ⟨J, (o_p J ⟨J, J⟩)⟩⟩, fun _ => ⟨J, J, J, .inr ⟨_, _, _, _, J, J, J, .inl ⟨hb1083, (o_p J ⟨J, J⟩)⟩⟩⟩, fun _ => ⟨J, J, J, .inr ⟨_, _, _, _, J, J, J, .inl ⟨hb1083, (o_p J ⟨J, J⟩)⟩⟩⟩, fun _ => ⟨J, J, J, .inr ⟨_, _, _, _, J, J, J, .inl ⟨hb1083, (o_p (v := (I (w64 (1 + x21)))) J ⟨J, J⟩)⟩⟩⟩, fun _ => ⟨J, J, J, .inr ⟨_, _, _, _, J, J, J, .inl ⟨hb1083, (o_p J ⟨J, J⟩)⟩⟩⟩, fun _ => ⟨J, J, J, .inr ⟨_, _, _, _, J, J, J, .inl ⟨hb1083, (o_p J ⟨J, J⟩)⟩⟩⟩, fun _ => ⟨J, J, J, .inr ⟨_, _, _, _, J, J, J, .inl ⟨hb1083, (o_ix (s := i11) (n := x21) (e := (enI .u8)) J J J J J J rm1 (rd_own _ _ _ _) hg1084 ⟨J, J⟩)⟩⟩⟩, fun _ => ⟨J, J, J, .inr ⟨_, _, _, _, J, J, J, .inl ⟨hb1083, (o_ldE (s := i11) (e := (enI .u8)) (n := x21) (f := 0) (v := (U (rd d11 x21))) J rm1 (rd_own _ _ _ _) hg1084 J J ⟨J, J⟩)⟩⟩⟩, trivial⟩, J, .inr ⟨[7], J, J, ⟨J, .inr ⟨_, _, _, _, J, J, J, hb1083⟩, ?_⟩, trivial⟩⟩
          refine (o_call has13 J (c_space_Space_At i10.1 d10.1 i6.2.1 i10.2 (w64 (1 + x21)) _ h25) (pc rm0 (pc rm1 (pc rm1 pn))) ?_)
          refine ⟨[(8, 112, (U d25.Char)), (13, 117, (O (d25.Char != (rd d11 x21)))), (14, 118, (O (d25.Char != (rd d11 x21))))], [9, 10, 11, 12, 8, 13, 14], J, J, J, J, ?_⟩
          refine ⟨⟨fun _ => ⟨J, J, J, .inr ⟨_, _, _, _, J, J, J, .inl ⟨hb1083, (o_field (v := (U d25.Char)) J J J ⟨J, J⟩)⟩⟩⟩, fun _ => ⟨J, J, J, .inr ⟨_, _, _, _, J, J, J, .inl ⟨hb1083, (o_p (v := (O (d25.Char != (rd d11 x21)))) J ⟨J, J⟩)⟩⟩⟩, fun _ => ⟨J, J, J, .inl ⟨J, (o_pick_t J hb1083 J ⟨J, J⟩)⟩⟩, (fun h => nomatch h), (fun h => nomatch h), (fun h => nomatch h), (fun h => nomatch h), (fun h => nomatch h), (fun h => nomatch h), (fun h => nomatch h), fun _ => ⟨J, J, J, .inr ⟨_, _, _, _, J, J, J, .inl ⟨hb1083, (o_p J ⟨J, J⟩)⟩⟩⟩, fun _ => ⟨J, J, J, .inr ⟨_, _, _, _, J, J, J, .inl ⟨hb1083, (o_p J ⟨J, J⟩)⟩⟩⟩, fun _ => ⟨J, J, J, .inr ⟨_, _, _, _, J, J, J, .inl ⟨hb1083, (o_ix (s := i11) (n := x21) (e := (enI .u8)) J J J J J J rm3 (rd_own _ _ _ _) hg1084 ⟨J, J⟩)⟩⟩⟩, fun _ => ⟨J, J, J, .inr ⟨_, _, _, _, J, J, J, .inl ⟨hb1083, (o_ldE (s := i11) (e := (enI .u8)) (n := x21) (f := 0) (v := (U (rd d11 x21))) J rm3 (rd_own _ _ _ _) hg1084 J J ⟨J, J⟩)⟩⟩⟩, trivial⟩, J, J, J, ?_⟩
          obtain rfl := si h
          exact ej () () trivial (sc J (sc J (sc J (sc J (sc J (sc J (sc J sn))))))) (kc rm0 (kc rm2 (kc rm0 (kc rm0 kr))))
         ·replace h := cond_f hb1083 h
          refine c_draw (n := 1) (q := [(0, 104, (I d10.2.2.2.1)), (1, 105, (I d3)), (2, 106, (O (decide (d10.2.2.2.1 ≤ d3)))), (3, 107, (O (decide (d10.2.2.2.1 ≤ d3)))), (4, 108, undef), (5, 109, undef), (6, 110, undef), (7, 111, undef), (8, 112, undef), (9, 113, undef), (10, 114, undef), (11, 115, undef), (12, 116, undef), (13, 117, undef), (14, 118, (O false))]) (pend := [0, 1, 2, 3, 4, 5, 6, 7, 8, 9, 10, 11, 12, 13, 14]) J J J ?_
          refine ⟨⟨fun _ => ⟨J, J, J, .inl ⟨J, (o_p J ⟨J, J⟩)⟩⟩, fun _ => ⟨J, J, J, .inl ⟨J, (o_p J ⟨J, J⟩)⟩⟩, fun _ => ⟨J, J, J, .inl ⟨J, (o_p (v := (O (decide (d10.2.2.2.1 ≤ d3)))) J ⟨J, J⟩)⟩⟩, fun _ => ⟨J, J, J, .inl ⟨J, (o_p J ⟨J, J⟩)⟩⟩, fun _ => ⟨J, J, J, .inr ⟨_, _, _, _, J, J, J, .inr ⟨hb1083, J⟩⟩⟩, fun _ => ⟨J, J, J, .inr ⟨_, _, _, _, J, J, J, .inr ⟨hb1083, J⟩⟩⟩, fun _ => ⟨J, J, J, .inr ⟨_, _, _, _, J, J, J, .inr ⟨hb1083, J⟩⟩⟩, fun _ => ⟨J, J, J, .inr ⟨_, _, _, _, J, J, J, .inr ⟨hb1083, J⟩⟩⟩, fun _ => ⟨J, J, J, .inr ⟨_, _, _, _, J, J, J, .inr ⟨hb1083, J⟩⟩⟩, fun _ => ⟨J, J, J, .inr ⟨_, _, _, _, J, J, J, .inr ⟨hb1083, J⟩⟩⟩, fun _ => ⟨J, J, J, .inr ⟨_, _, _, _, J, J, J, .inr ⟨hb1083, J⟩⟩⟩, fun _ => ⟨J, J, J, .inr ⟨_, _, _, _, J, J, J, .inr ⟨hb1083, J⟩⟩⟩, fun _ => ⟨J, J, J, .inr ⟨_, _, _, _, J, J, J, .inr ⟨hb1083, J⟩⟩⟩, fun _ => ⟨J, J, J, .inr ⟨_, _, _, _, J, J, J, .inr ⟨hb1083, J⟩⟩⟩, fun _ => ⟨J, J, J, .inl ⟨J, (o_pick_f J hb1083 J ⟨J, J⟩)⟩⟩, trivial⟩, J, .inl ⟨J, J, ?_⟩⟩
          obtain rfl := si h
          exact ej () () trivial (sc J (sc J (sc J (sc J (sc J (sc J (sc J sn))))))) (kc rm0 (kc rm0 (kc rm0 (kc rm0 kr))))
        ·rintro _ i24 _
         replace h := hk24
         clear hk24
         refine e_seq ?_
         refine c_cond (b := d24) J (fun hb1085 => ?_) (fun hb1085 => ?_)
         ·replace h := cond_t hb1085 h
          refine cr (op J J (oe (c_ret ?_)))
          refine e_blk_ret (e_then_ret (e_then_ret (e_blk_ret (ej_ret ?_))))
          replace h := esc_some h
          obtain ⟨z20, h, rfl⟩ := h
          obtain rfl := (hk20 : z20 = _)
          refine e_then_ret (e_ret ?_)
          refine r_endt J J (kc rm0 (kd (kd (kd kr)))) ?_
          obtain rfl := si h
          exact hk i10.1 (Ext.trans f8_0 f10_0)
         ·replace h := cond_f hb1085 h
          refine c_skip (e_blk (e_seq (c_region ?_)))
          replace h := bsome h
          obtain ⟨d27, h27, h⟩ := h
          replace h27 := Option.some.inj h27
          refine o1 J (o_p (v := (I d27)) (Eq.trans J (congrArg (fun z => some (Value.int .i64 z)) h27)) ?_)
          refine op J J (o_end ?_)
          exact e_loop (l_sub (sc J (sc J (sc J (sc J (sc J (sc J sn)))))) (l_keep (kc rm0 (kc rm0 (kc rm0 (kc rm0 kr)))) (ih21 d27 () trivial h)))
       ·replace h := cond_f hb1082 h
        refine c_exit (e_then_exit (e_then_exit (e_blk_exit ?_)))
        obtain rfl := si h
        exact ej () () J (sc J (sc J (sc J sn))) (kc rm0 (kc rm1 (kc rm1 (kd kr))))
      ·rintro d20 i20 rfl
       replace h := JK_inl hk20
       clear hk20
       refine e_seq (c_seq ?_)
       replace h := bsome h
       obtain ⟨d28, h, hk28⟩ := h
       refine cj (D := Unit) (ι := Unit) (fun _ i28 => True) (fun _ i28 => [(8, (O d28))]) (fun _ i28 => i10.1 :: R) ?_ ?_
       ·refine c_region (op J J (op J J ?_))
        refine o1 J (o_p (v := (O (decide (d10.2.2.2.1 ≤ d3)))) J ?_)
        refine op J J ?_
        rcases bool_or ((decide (d10.2.2.2.1 ≤ d3))) with hb1086 | hb1086
        ·replace h := cond_t hb1086 h
         refine on J J J hb1086 ?_
         refine on J J J hb1086 ?_
         refine on J J J hb1086 ?_
         refine on J J J hb1086 ?_
         refine o1 J (o_pick_t J hb1086 J ?_)
         refine op J J (o_end ?_)
         obtain rfl := si h
         exact ej () () trivial (sc J sn) (kc rm0 (kd (kd kr)))
        ·replace h := cond_f hb1086 h
         refine oy J J J hb1086 (o_p J ?_)
         replace h := bsome h
         obtain ⟨d29, h29, h⟩ := h
         refine oy J J J hb1086 (o_call has13 J (c_space_Space_At i10.1 d10.1 i6.2.1 i10.2 0 _ h29) (pc rm0 (pc rm0 (pc rm0 pn))) ?_)
         refine oy J J J hb1086 (o_field (v := (U d29.FA)) J J J ?_)
         refine oy J J J hb1086 (o_p (v := (O (d29.FA == 1))) J ?_)
         refine o1 J (o_pick_f J hb1086 J ?_)
         refine op J J (o_end ?_)
         obtain rfl := si h
         exact ej () () trivial (sc J sn) (kc rm0 (kd (kd kr)))
       ·rintro _ i28 _
        replace h := hk28
        clear hk28
        refine e_seq (c_ret (e_ret ?_))
        refine r_endt J J (kc rm0 kr) ?_
        obtain rfl := si h
        exact hk i10.1 (Ext.trans f8_0 f10_0)

end Go.Vt
set_option linter.unusedVariables false
set_option maxRecDepth 100000
set_option maxHeartbeats 4000000
namespace Go.Vt
open Go.Proofs
end Go.Vt
set_option linter.unusedVariables false
set_option maxRecDepth 100000
set_option maxHeartbeats 4000000
namespace Go.Vt
open Go.Proofs
end Go.Vt
set_option linter.unusedVariables false
set_option maxRecDepth 100000
set_option maxHeartbeats 4000000
namespace Go.Vt
open Go.Proofs
end Go.Vt
set_option linter.unusedVariables false
set_option linter.unusedSimpArgs false
namespace Go.Vt
theorem gd_pos {α : Type} {c : Prop} [Decidable c] {x : Option α} (h : c) : gd c x = x := by unfold gd; rw [if_pos h]
theorem w64_in {x : Int} (h1 : -9223372036854775808 ≤ x) (h2 : x < 9223372036854775808) : w64 x = x := by
  unfold w64 IntKind.wrap; simp only [IntKind.bits, IntKind.signed, Bool.true_and]
  split
  · rename_i h1; simp at h1; omega
  · rename_i h1; simp at h1; omega
theorem w64_succ {n : Nat} (h : n < 9223372036854775807) : w64 ((n : Int) + 1) = ((n + 1 : Nat) : Int) := by rw [w64_in (by omega) (by omega)]; omega
theorem bne_t {a b : Int} (h : a ≠ b) : (a != b) = true := by simp [h]
theorem bne_f {a b : Int} (h : a = b) : (a != b) = false := by simp [h]
theorem beq_t {a b : Int} (h : a = b) : (a == b) = true := by simp [h]
theorem beq_f {a b : Int} (h : a ≠ b) : (a == b) = false := by simp [h]
theorem rdn {τ : Type} [Inhabited τ] {l : List τ} {n : Nat} (h : n < l.length) : rd l (n : Int) = l[n] := by
  unfold rd; simp [List.getD_eq_getElem?_getD, h]
/-- n steps from i on -/
def iterN {σ : Type} (step : Nat → σ → σ) : Nat → Nat → σ → σ
  | _, 0, s => s
  | i, m + 1, s => iterN step (i + 1) m (step i s)
/-- a loop that counts -/
theorem loop_iter {σ ρ : Type} {L : Nat → Int × σ → Option ρ} {n : Nat} (step : Nat → σ → σ) (Inv : Nat → σ → Prop) (r : σ → ρ)
    (h : ∀ k i s, i < n → Inv i s → L (k + 1) ((i : Int), s) = L k (((i + 1 : Nat) : Int), step i s))
    (hi : ∀ i s, i < n → Inv i s → Inv (i + 1) (step i s))
    (he : ∀ k s, Inv n s → L (k + 1) ((n : Int), s) = some (r s)) :
    ∀ (m i k : Nat) (s : σ), i + m = n → m < k → Inv i s → L k ((i : Int), s) = some (r (iterN step i m s)) ∧ Inv n (iterN step i m s)
  | 0, i, k, s, e, hk, hI => by
    obtain ⟨k, rfl⟩ : ∃ j, k = j + 1 := ⟨k - 1, by omega⟩
    have : i = n := by omega
    subst this
    exact ⟨he k s hI, hI⟩
  | m + 1, i, k, s, e, hk, hI => by
    obtain ⟨k, rfl⟩ : ∃ j, k = j + 1 := ⟨k - 1, by omega⟩
    rw [h k i s (by omega) hI]
    exact loop_iter step Inv r h hi he m (i + 1) k _ (by omega) (by omega) (hi i s (by omega) hI)
/-- the same from 0 on -/
theorem loop_0 {σ ρ : Type} {L : Nat → Int × σ → Option ρ} {n : Nat} (step : Nat → σ → σ) (Inv : Nat → σ → Prop) (r : σ → ρ) {s : σ} (hn : n ≤ 9223372036854775807)
    (h : ∀ k i s, i < n → Inv i s → L (k + 1) ((i : Int), s) = L k (((i + 1 : Nat) : Int), step i s))
    (hi : ∀ i s, i < n → Inv i s → Inv (i + 1) (step i s))
    (he : ∀ k s, Inv n s → L (k + 1) ((n : Int), s) = some (r s)) (h0 : Inv 0 s) :
    L fuel (0, s) = some (r (iterN step 0 n s)) ∧ Inv n (iterN step 0 n s) :=
  loop_iter step Inv r h hi he n 0 fuel s (by omega) (by unfold fuel; omega) h0
/-- a loop that counts, its state known by what it says -/
theorem loop_rel {σ ρ : Type} {L : Nat → Int × σ → Option ρ} {n : Nat} (Inv : Nat → σ → Prop) (Post : ρ → Prop)
    (h : ∀ k i s, i < n → Inv i s → ∃ s', L (k + 1) ((i : Int), s) = L k (((i + 1 : Nat) : Int), s') ∧ Inv (i + 1) s')
    (he : ∀ k s, Inv n s → ∃ r, L (k + 1) ((n : Int), s) = some r ∧ Post r) :
    ∀ (m i k : Nat) (s : σ), i + m = n → m < k → Inv i s → ∃ r, L k ((i : Int), s) = some r ∧ Post r
  | 0, i, k, s, e, hk, hI => by
    obtain ⟨k, rfl⟩ : ∃ j, k = j + 1 := ⟨k - 1, by omega⟩
    have : i = n := by omega
    subst this
    exact he k s hI
  | m + 1, i, k, s, e, hk, hI => by
    obtain ⟨k, rfl⟩ : ∃ j, k = j + 1 := ⟨k - 1, by omega⟩
    obtain ⟨s', h1, h2⟩ := h k i s (by omega) hI
    rw [h1]
    exact loop_rel Inv Post h he m (i + 1) k _ (by omega) (by omega) h2
theorem loop_rel0 {σ ρ : Type} {L : Nat → Int × σ → Option ρ} {n : Nat} (Inv : Nat → σ → Prop) (Post : ρ → Prop) {s : σ} (hn : n ≤ 9223372036854775807)
    (h : ∀ k i s, i < n → Inv i s → ∃ s', L (k + 1) ((i : Int), s) = L k (((i + 1 : Nat) : Int), s') ∧ Inv (i + 1) s')
    (he : ∀ k s, Inv n s → ∃ r, L (k + 1) ((n : Int), s) = some r ∧ Post r) (h0 : Inv 0 s) : ∃ r, L fuel (0, s) = some r ∧ Post r :=
  loop_rel Inv Post h he n 0 fuel s (by omega) (by unfold fuel; omega) h0
end Go.Vt
set_option linter.unusedVariables false
set_option linter.unusedSimpArgs false
namespace Go.Vt
def By (n : Int) : Prop := 0 ≤ n ∧ n < 256
def Bs (l : List Int) : Prop := ∀ n ∈ l, By n
theorem By.fin {n : Int} (h : By n) : ∃ f : Fin 256, (f.val : Int) = n := ⟨⟨n.toNat, by have := h.1; have := h.2; omega⟩, by have := h.1; simp; omega⟩
theorem wrap8 {x : Int} (h : By x) : IntKind.wrap .u8 x = x := by
  have h1 := h.1; have h2 := h.2
  unfold IntKind.wrap; simp only [IntKind.bits, IntKind.signed, Bool.false_and]
  simp; omega
theorem Bs.drop {l : List Int} (h : Bs l) (n : Nat) : Bs (l.drop n) := fun x hx => h x (List.mem_of_mem_drop hx)
theorem Bs.take {l : List Int} (h : Bs l) (n : Nat) : Bs (l.take n) := fun x hx => h x (List.mem_of_mem_take hx)
theorem two {l : List Int} (h : l.length = 2) : ∃ a b, l = [a, b] := by
  match l, h with
  | [a, b], _ => exact ⟨a, b, rfl⟩
theorem one {l : List Int} (h : l.length = 1) : ∃ a, l = [a] := by
  match l, h with
  | [a], _ => exact ⟨a, rfl⟩
end Go.Vt
set_option linter.unusedVariables false
set_option linter.unusedSimpArgs false
namespace Go.Vt
structure Dim (r c : Int) (N : Nat) : Prop where
  d : (r = 24 ∧ c = 80 ∧ N = 1920) ∨ (r = 32 ∧ c = 80 ∧ N = 2560) ∨ (r = 43 ∧ c = 80 ∧ N = 3440) ∨ (r = 27 ∧ c = 132 ∧ N = 3564)
theorem Dim.le {r c : Int} {N : Nat} (h : Dim r c N) : 1920 ≤ N ∧ N ≤ 3564 := by rcases h.d with ⟨_, _, h⟩ | ⟨_, _, h⟩ | ⟨_, _, h⟩ | ⟨_, _, h⟩ <;> omega
/-- a whole number as Go has it -/
def I64 (n : Int) : Prop := -9223372036854775808 ≤ n ∧ n < 9223372036854775808
theorem valid_ok {r c : Int} {N : Nat} (h : Dim r c N) : m_addr_Size_Valid ⟨r, c⟩ = some true := by
  rcases h.d with ⟨rfl, rfl, rfl⟩ | ⟨rfl, rfl, rfl⟩ | ⟨rfl, rfl, rfl⟩ | ⟨rfl, rfl, rfl⟩ <;> decide +kernel
theorem cells_ok {r c : Int} {N : Nat} (h : Dim r c N) : m_addr_Size_Cells ⟨r, c⟩ = some (N : Int) := by
  rcases h.d with ⟨rfl, rfl, rfl⟩ | ⟨rfl, rfl, rfl⟩ | ⟨rfl, rfl, rfl⟩ | ⟨rfl, rfl, rfl⟩ <;> decide +kernel
theorem tmod_cases {n : Int} {N : Nat} (hN : 0 < N) : (0 ≤ n.tmod N ∧ n.tmod N = n % N) ∨ (n.tmod N < 0 ∧ n.tmod N + N = n % N) := by
  have hN' : (0 : Int) < N := by omega
  have h3 := Int.emod_nonneg n (show (N : Int) ≠ 0 by omega)
  have h4 := Int.emod_lt_of_pos n hN'
  by_cases h : 0 ≤ n
  · left
    have h1 := Int.tmod_eq_emod_of_nonneg (b := (N : Int)) h
    exact ⟨by rw [h1]; exact h3, h1⟩
  · have h1 : n.tmod N = -((-n) % N) := by
      rw [← Int.tmod_eq_emod_of_nonneg (show 0 ≤ -n by omega), Int.neg_tmod]; omega
    have h5 := Int.emod_nonneg (-n) (show (N : Int) ≠ 0 by omega)
    have h6 := Int.emod_lt_of_pos (-n) hN'
    have h7 : n = N * (n / N) + n % N := (Int.mul_ediv_add_emod n N).symm
    have h8 : -n = N * (-n / N) + (-n) % N := (Int.mul_ediv_add_emod (-n) N).symm
    have h9 : (N : Int) * (n / N + -n / N) + (n % N + (-n) % N) = 0 := by rw [Int.mul_add]; omega
    generalize hq : n / (N : Int) + -n / (N : Int) = q at h9
    by_cases hz : (-n) % (N : Int) = 0
    · left
      have : q = 0 := by
        rcases Int.lt_trichotomy q 0 with hq0 | hq0 | hq0
        · have : (N : Int) * q ≤ N * (-1) := Int.mul_le_mul_of_nonneg_left (by omega) (by omega)
          omega
        · exact hq0
        · have : (N : Int) * 1 ≤ N * q := Int.mul_le_mul_of_nonneg_left (by omega) (by omega)
          omega
      subst this
      rw [Int.mul_zero] at h9
      exact ⟨by omega, by omega⟩
    · right
      have : q = -1 := by
        rcases Int.lt_trichotomy q (-1) with hq0 | hq0 | hq0
        · have : (N : Int) * q ≤ N * (-2) := Int.mul_le_mul_of_nonneg_left (by omega) (by omega)
          omega
        · exact hq0
        · have : (N : Int) * 0 ≤ N * q := Int.mul_le_mul_of_nonneg_left (by omega) (by omega)
          omega
      subst this
      exact ⟨by omega, by omega⟩
theorem rest_ok {n : Int} {N : Nat} (hN : 0 < N) (h2 : N ≤ 1000000) : m_addr_rest n N = some (n % N) := by
  unfold m_addr_rest
  rw [gd_pos (by omega)]
  have h4 := Int.emod_lt_of_pos n (show (0 : Int) < N by omega)
  have h5 := Int.emod_nonneg n (show (N : Int) ≠ 0 by omega)
  rcases tmod_cases (n := n) hN with ⟨h, h3⟩ | ⟨h, h3⟩
  · have d1 : decide (n.tmod N < 0) = false := decide_eq_false (by omega)
    simp only [d1, cond_false, Option.bind_some]
    rw [h3]
  · have d1 : decide (n.tmod N < 0) = true := decide_eq_true h
    simp only [d1, cond_true, Option.bind_some]
    rw [h3, w64_in (by omega) (by omega)]
theorem wrap_ok {r c : Int} {N : Nat} (h : Dim r c N) (n : Int) : m_addr_Size_Wrap ⟨r, c⟩ n = some (n % N) := by
  have := h.le
  unfold m_addr_Size_Wrap
  simp only [valid_ok h, cells_ok h, Option.bind_some, Bool.not_true, cond_false]
  rw [rest_ok (by omega) (by omega)]; rfl
/-! ### the document's -/
theorem rcells_ok {r c : Int} {N : Nat} (h : Dim r c N) : m_vitrineref04_Cells ⟨r, c⟩ = some (N : Int) := by
  rcases h.d with ⟨rfl, rfl, rfl⟩ | ⟨rfl, rfl, rfl⟩ | ⟨rfl, rfl, rfl⟩ | ⟨rfl, rfl, rfl⟩ <;> decide +kernel
theorem mod_ok {n : Int} {N : Nat} (hN : 0 < N) (h2 : N ≤ 1000000) : m_vitrineref04_Mod n N = some (n % N) := by
  unfold m_vitrineref04_Mod
  have d1 : decide ((N : Int) < 1) = false := decide_eq_false (by omega)
  have h4 := Int.emod_lt_of_pos n (show (0 : Int) < N by omega)
  have h5 := Int.emod_nonneg n (show (N : Int) ≠ 0 by omega)
  simp only [d1, cond_false]
  rw [gd_pos (by omega), gd_pos (by omega)]
  rcases tmod_cases (n := n) hN with ⟨h, h3⟩ | ⟨h, h3⟩
  · rw [w64_in (by omega) (by omega), h3, Int.tmod_eq_emod_of_nonneg (by omega), Int.add_emod_right, Int.emod_emod]
  · rw [w64_in (by omega) (by omega), h3, Int.tmod_eq_emod_of_nonneg (by omega), Int.emod_emod]
theorem rwrap_ok {r c : Int} {N : Nat} (h : Dim r c N) (n : Int) : m_vitrineref04_Wrap ⟨r, c⟩ n = some (n % N) := by
  have := h.le
  unfold m_vitrineref04_Wrap
  simp only [rcells_ok h, Option.bind_some]
  rw [mod_ok (by omega) (by omega)]; rfl
/-! ### cells -/
abbrev zc : Vapi_Cell := ⟨0, false, 0, 0, 0, 0⟩
/-- a cell as it may stand -/
structure COk (c : Vapi_Cell) : Prop where
  char : By c.Char
  fa : By c.FA
  high : By c.High
  color : By c.Color
  set : By c.f_Set
  attr : c.Attr = true → c.Char = 0 ∧ iband .u8 c.FA 61 = c.FA
  plain : c.Attr = false → c.FA = 0
def fit (c : Vapi_Cell) : Vapi_Cell := if c.Attr then { c with Char := 0, FA := iband .u8 c.FA 61 } else { c with FA := 0 }
theorem COk.fit {c : Vapi_Cell} (h : COk c) : fit c = c := by
  unfold Vt.fit
  cases ha : c.Attr with
  | true => obtain ⟨h1, h2⟩ := h.attr ha; simp only [if_true]; rw [h2, ← h1]; cases c; simp_all
  | false => have h1 := h.plain ha; simp only [Bool.false_eq_true, if_false]; rw [← h1]; cases c; simp_all
instance (n : Int) : Decidable (By n) := by unfold By; infer_instance
theorem band61 : ∀ f : Fin 256, By (iband .u8 (f.val : Int) 61) ∧ iband .u8 (iband .u8 (f.val : Int) 61) 61 = iband .u8 (f.val : Int) 61 ∧ m_vitrineref05_Six (f.val : Int) = some (iband .u8 (f.val : Int) 61) := by decide +kernel
/-- what is told of a cell: bytes -/
structure CB (c : Vapi_Cell) : Prop where
  char : By c.Char
  fa : By c.FA
  high : By c.High
  color : By c.Color
  set : By c.f_Set
theorem COk.cb {c : Vapi_Cell} (h : COk c) : CB c := ⟨h.char, h.fa, h.high, h.color, h.set⟩
theorem by0 : By 0 := ⟨by omega, by omega⟩
theorem fit_ok {c : Vapi_Cell} (h : CB c) : COk (Vt.fit c) := by
  unfold Vt.fit
  obtain ⟨f, hf⟩ := h.fa.fin
  obtain ⟨b1, b2, _⟩ := band61 f
  rw [hf] at b1 b2
  cases ha : c.Attr with
  | true => simp only [if_true]; exact ⟨by0, b1, h.high, h.color, h.set, fun _ => ⟨rfl, b2⟩, (fun e => by cases e)⟩
  | false => simp only [Bool.false_eq_true, if_false]; exact ⟨h.char, by0, h.high, h.color, h.set, (fun e => by cases e), fun _ => rfl⟩
theorem zc_ok : COk zc := ⟨by0, by0, by0, by0, by0, (fun h => by cases h), fun _ => rfl⟩
theorem rfit_ok {c : Vapi_Cell} (h : CB c) : m_vitrineref12_Fit c = some (Vt.fit c) := by
  obtain ⟨f, hf⟩ := h.fa.fin
  obtain ⟨_, _, b3⟩ := band61 f
  rw [hf] at b3
  unfold m_vitrineref12_Fit Vt.fit
  cases ha : c.Attr with
  | true => simp only [cond_true, b3, Option.bind_some, if_true]
  | false => simp only [cond_false, Option.bind_some, Bool.false_eq_true, if_false]
/-! ### the document's space -/
/-- model, and which size -/
def DimOf (m : Int) (alt : Bool) (r c : Int) (N : Nat) : Prop := if alt then (m = 2 ∧ r = 24 ∧ c = 80 ∧ N = 1920) ∨ (m = 3 ∧ r = 32 ∧ c = 80 ∧ N = 2560) ∨ (m = 4 ∧ r = 43 ∧ c = 80 ∧ N = 3440) ∨ (m = 5 ∧ r = 27 ∧ c = 132 ∧ N = 3564) else r = 24 ∧ c = 80 ∧ N = 1920
theorem DimOf.dim {m : Int} {alt : Bool} {r c : Int} {N : Nat} (h : DimOf m alt r c N) : Dim r c N := by
  unfold DimOf at h
  cases alt with
  | true =>
    simp only [if_true] at h
    rcases h with ⟨_, h⟩ | ⟨_, h⟩ | ⟨_, h⟩ | ⟨_, h⟩
    · exact ⟨.inl h⟩
    · exact ⟨.inr (.inl h)⟩
    · exact ⟨.inr (.inr (.inl h))⟩
    · exact ⟨.inr (.inr (.inr h))⟩
  | false => simp only [Bool.false_eq_true, if_false] at h; exact ⟨.inl h⟩
structure RS (m : Int) (N : Nat) (x : Vvitrineref12_Space) : Prop where
  model : x.Model = m
  dim : DimOf m x.Alt x.Size.Rows x.Size.Cols N
  len : x.L.length = N
  ok : ∀ c ∈ x.L, COk c
  cur : 0 ≤ x.Cursor ∧ x.Cursor < N
theorem rs_wrap {m : Int} {N : Nat} {x : Vvitrineref12_Space} (h : RS m N x) (n : Int) : m_vitrineref12_Wrap x n = some (n % N) := by
  unfold m_vitrineref12_Wrap
  rw [show x.Size = ⟨x.Size.Rows, x.Size.Cols⟩ from rfl, rwrap_ok h.dim.dim]; rfl
theorem emod_nat (n : Int) {N : Nat} (h : 0 < N) : ∃ k : Nat, n % N = (k : Int) ∧ k < N := by
  have h4 := Int.emod_lt_of_pos n (show (0 : Int) < N by omega)
  have h5 := Int.emod_nonneg n (show (N : Int) ≠ 0 by omega)
  exact ⟨(n % N).toNat, by omega, by omega⟩
theorem rs_at {m : Int} {N : Nat} {x : Vvitrineref12_Space} (h : RS m N x) (n : Int) : m_vitrineref12_At x n = some (rd x.L (n % N)) := by
  have hd := h.dim.dim.le
  obtain ⟨k, hk, hlt⟩ := emod_nat n (N := N) (by omega)
  unfold m_vitrineref12_At
  have hl := h.len
  simp only [rs_wrap h, Option.bind_some]
  rw [gd_pos (by omega)]
theorem rd_mem {τ : Type} [Inhabited τ] {l : List τ} {n : Int} (h : 0 ≤ n ∧ n < l.length) : rd l n ∈ l := List.mem_of_getElem? (rd_eq h)
theorem rs_set {m : Int} {N : Nat} {x : Vvitrineref12_Space} (h : RS m N x) (n : Int) {c : Vapi_Cell} (hc : CB c) :
    m_vitrineref12_Set x n c = some ⟨x.Model, x.Alt, x.Size, x.L.set (n % N).toNat (Vt.fit c), x.Cursor⟩ ∧ RS m N ⟨x.Model, x.Alt, x.Size, x.L.set (n % N).toNat (Vt.fit c), x.Cursor⟩ := by
  have hd := h.dim.dim.le
  obtain ⟨k, hk, hlt⟩ := emod_nat n (N := N) (by omega)
  have hl := h.len
  refine ⟨?_, h.model, h.dim, by simp [hl], fun d hd' => ?_, h.cur⟩
  · unfold m_vitrineref12_Set
    simp only [rs_wrap h, rfit_ok hc, Option.bind_some]
    rw [gd_pos (by omega)]
  · rcases List.mem_or_eq_of_mem_set hd' with h1 | h1
    · exact h.ok d h1
    · rw [h1]; exact fit_ok hc
theorem rs_put {m : Int} {N : Nat} {x : Vvitrineref12_Space} (h : RS m N x) (n : Int) {c : Int} (hc : By c) : ∃ x', m_vitrineref12_Put x n c = some x' ∧ RS m N x' ∧ x'.Alt = x.Alt := by
  have hd := h.dim.dim.le
  obtain ⟨k, hk, hlt⟩ := emod_nat n (N := N) (by omega)
  have hl := h.len
  have hm := h.ok _ (rd_mem (l := x.L) (n := n % N) (by omega))
  unfold m_vitrineref12_Put
  simp only [rs_at h, Option.bind_some]
  cases ha : (rd x.L (n % N)).Attr with
  | true => simp only [Bool.not_true, cond_false]; exact ⟨_, rfl, h, rfl⟩
  | false =>
    simp only [Bool.not_false, cond_true]
    obtain ⟨h1, h2⟩ := rs_set h n (c := ⟨c, false, (rd x.L (n % N)).FA, (rd x.L (n % N)).High, (rd x.L (n % N)).Color, (rd x.L (n % N)).f_Set⟩) ⟨hc, hm.fa, hm.high, hm.color, hm.set⟩
    have h1' : m_vitrineref12_Set ⟨x.Model, x.Alt, x.Size, x.L, x.Cursor⟩ n _ = _ := h1
    rw [h1']
    exact ⟨_, rfl, h2, rfl⟩
def Mod4 (m : Int) : Prop := m = 2 ∨ m = 3 ∨ m = 4 ∨ m = 5
def nOf (m : Int) (alt : Bool) : Nat := if alt then (if m = 2 then 1920 else if m = 3 then 2560 else if m = 4 then 3440 else 3564) else 1920
def rOf (m : Int) (alt : Bool) : Int := if alt then (if m = 2 then 24 else if m = 3 then 32 else if m = 4 then 43 else 27) else 24
def cOf (m : Int) (alt : Bool) : Int := if alt then (if m = 5 then 132 else 80) else 80
theorem dimOf_mk {m : Int} (h : Mod4 m) (alt : Bool) : DimOf m alt (rOf m alt) (cOf m alt) (nOf m alt) := by
  unfold DimOf rOf cOf nOf
  rcases h with rfl | rfl | rfl | rfl <;> cases alt <;> simp
theorem DimOf.n {m : Int} {alt : Bool} {r c : Int} {N : Nat} (h : DimOf m alt r c N) : r = rOf m alt ∧ c = cOf m alt ∧ N = nOf m alt := by
  unfold DimOf at h; unfold rOf cOf nOf
  cases alt with
  | true => simp only [if_true] at h; rcases h with ⟨rfl, rfl, rfl, rfl⟩ | ⟨rfl, rfl, rfl, rfl⟩ | ⟨rfl, rfl, rfl, rfl⟩ | ⟨rfl, rfl, rfl, rfl⟩ <;> simp
  | false => simpa using h
def clr (m : Int) (alt : Bool) : Vvitrineref12_Space := ⟨m, alt, ⟨rOf m alt, cOf m alt⟩, List.replicate (nOf m alt) zc, 0⟩
theorem rs_clr {m : Int} (h : Mod4 m) (alt : Bool) : RS m (nOf m alt) (clr m alt) := by
  have hd := dimOf_mk h alt
  have := hd.dim.le
  exact ⟨rfl, hd, by simp [clr], fun c hc => by rw [(List.mem_replicate.1 hc).2]; exact zc_ok, by simp only [clr]; omega⟩
theorem rmodel_ok {m : Int} (h : Mod4 m) : m_vitrineref04_Model m = some (⟨rOf m true, cOf m true⟩, true) := by
  rcases h with rfl | rfl | rfl | rfl <;> decide +kernel
theorem rclear_ok {x : Vvitrineref12_Space} {m : Int} (h : Mod4 m) (hx : x.Model = m) (alt : Bool) : m_vitrineref12_Clear_2 x alt = some (clr m alt) ∧ m_vitrineref12_Clear x alt = some (clr m alt) := by
  have h2 := rmodel_ok (m := 2) (.inl rfl)
  have hm := rmodel_ok h
  have hd := dimOf_mk h alt
  have hle := hd.dim.le
  unfold m_vitrineref12_Clear_2 m_vitrineref12_Clear
  simp only [h2, hm, hx, Option.bind_some]
  cases alt with
  | true =>
    simp only [cond_true, Option.bind_some, rcells_ok hd.dim]
    rw [gd_pos (show (0 : Int) ≤ (nOf m true : Int) ∧ (nOf m true : Int) ≤ 68719476736 by omega)]
    exact ⟨rfl, rfl⟩
  | false =>
    have hd' : Dim (rOf 2 true) (cOf 2 true) (nOf m false) := ⟨.inl ⟨rfl, rfl, rfl⟩⟩
    simp only [cond_false, Option.bind_some, rcells_ok hd']
    rw [gd_pos (show (0 : Int) ≤ (nOf m false : Int) ∧ (nOf m false : Int) ≤ 68719476736 by omega)]
    exact ⟨rfl, rfl⟩
theorem rnew_ok {m : Int} (h : Mod4 m) : m_vitrineref12_New m = some (.inr (clr m false)) := by
  unfold m_vitrineref12_New
  simp only [rmodel_ok h, Option.bind_some, Bool.not_true, cond_false]
  rw [(rclear_ok h (x := ⟨m, false, ⟨0, 0⟩, [], 0⟩) rfl false).2]; rfl
end Go.Vt
