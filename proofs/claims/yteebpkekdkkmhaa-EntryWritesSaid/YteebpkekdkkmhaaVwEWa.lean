/- The walks: each function does what its model says. No conditions. -/
import Derived.Test.YteebpkekdkkmhaaVmCM
import Derived.Test.YteebpkekdkkmhaaProg
import Derived.KernelRfl
set_option linter.unusedVariables false
set_option maxRecDepth 100000
set_option maxHeartbeats 4000000
namespace Go.Vt
open Go.Proofs
def tt : List (Nat × TI) := [
  (3, ⟨(.int .i64), 1, (.int .i64 0), 8⟩),
  (4, ⟨.bool, 1, (.bool false), 1⟩),
  (5, ⟨(.int .u8), 1, (.int .u8 0), 1⟩),
  (9, ⟨.string, 1, (.string ⟨#[]⟩), 16⟩),
  (22, ⟨(.slice 94), 1, (.slice none 0 0), 24⟩),
  (24, ⟨(.pointer 165), 1, (.pointer none), 8⟩),
  (25, ⟨(.pointer 41), 1, (.pointer none), 8⟩),
  (28, ⟨(.slice 3), 1, (.slice none 0 0), 24⟩),
  (30, ⟨(.func #[5] #[4] false), 1, .nilFunc, 8⟩),
  (31, ⟨(.slice 5), 1, (.slice none 0 0), 24⟩),
  (32, ⟨(.int .i64), 1, (.int .i64 0), 8⟩),
  (38, ⟨(.struct #[⟨ "Rows", 3, 0, false, "", "", 0⟩, ⟨ "Cols", 3, 1, false, "", "", 8⟩]), 2, (.agg #[(.int .i64 0), (.int .i64 0)]), 16⟩),
  (39, ⟨(.slice 48), 1, (.slice none 0 0), 24⟩),
  (41, ⟨(.struct #[⟨ "Model", 3, 0, false, "", "", 0⟩, ⟨ "Alt", 4, 1, false, "", "", 8⟩, ⟨ "Size", 38, 2, false, "", "", 16⟩, ⟨ "L", 39, 4, false, "", "", 32⟩, ⟨ "Cursor", 3, 5, false, "", "", 56⟩]), 6, (.agg #[(.int .i64 0), (.bool false), (.int .i64 0), (.int .i64 0), (.slice none 0 0), (.int .i64 0)]), 64⟩),
  (43, ⟨(.struct #[⟨ "Protected", 4, 0, false, "", "", 0⟩, ⟨ "Numeric", 4, 1, false, "", "", 1⟩, ⟨ "Display", 3, 2, false, "", "", 8⟩, ⟨ "Modified", 4, 3, false, "", "", 16⟩]), 4, (.agg #[(.bool false), (.bool false), (.int .i64 0), (.bool false)]), 24⟩),
  (48, ⟨(.struct #[⟨ "Char", 5, 0, false, "", "", 0⟩, ⟨ "Attr", 4, 1, false, "", "", 1⟩, ⟨ "FA", 5, 2, false, "", "", 2⟩, ⟨ "High", 5, 3, false, "", "", 3⟩, ⟨ "Color", 5, 4, false, "", "", 4⟩, ⟨ "Set", 5, 5, false, "", "", 5⟩]), 6, (.agg #[(.int .u8 0), (.bool false), (.int .u8 0), (.int .u8 0), (.int .u8 0), (.int .u8 0)]), 6⟩),
  (56, ⟨(.slice 60), 1, (.slice none 0 0), 24⟩),
  (58, ⟨(.struct #[⟨ "AID", 5, 0, false, "", "", 0⟩, ⟨ "Short", 4, 1, false, "", "", 1⟩, ⟨ "Cursor", 3, 2, false, "", "", 8⟩, ⟨ "Entries", 56, 3, false, "", "", 16⟩]), 4, (.agg #[(.int .u8 0), (.bool false), (.int .i64 0), (.slice none 0 0)]), 40⟩),
  (60, ⟨(.struct #[⟨ "Addr", 3, 0, false, "", "", 0⟩, ⟨ "Text", 31, 1, false, "", "", 8⟩]), 2, (.agg #[(.int .i64 0), (.slice none 0 0)]), 32⟩),
  (63, ⟨(.slice 109), 1, (.slice none 0 0), 24⟩),
  (65, ⟨(.struct #[⟨ "AID", 5, 0, false, "", "", 0⟩, ⟨ "Short", 4, 1, false, "", "", 1⟩, ⟨ "Cursor", 3, 2, false, "", "", 8⟩, ⟨ "Entries", 63, 3, false, "", "", 16⟩]), 4, (.agg #[(.int .u8 0), (.bool false), (.int .i64 0), (.slice none 0 0)]), 40⟩),
  (94, ⟨(.struct #[⟨ "Do", 5, 0, false, "", "", 0⟩, ⟨ "N", 3, 1, false, "", "", 8⟩, ⟨ "On", 4, 2, false, "", "", 16⟩, ⟨ "Code", 5, 3, false, "", "", 17⟩, ⟨ "C", 48, 4, false, "", "", 18⟩, ⟨ "Text", 31, 10, false, "", "", 24⟩]), 11, (.agg #[(.int .u8 0), (.int .i64 0), (.bool false), (.int .u8 0), (.int .u8 0), (.bool false), (.int .u8 0), (.int .u8 0), (.int .u8 0), (.int .u8 0), (.slice none 0 0)]), 48⟩),
  (109, ⟨(.struct #[⟨ "Addr", 3, 0, false, "", "", 0⟩, ⟨ "Text", 31, 1, false, "", "", 8⟩]), 2, (.agg #[(.int .i64 0), (.slice none 0 0)]), 32⟩),
  (112, ⟨(.slice 115), 1, (.slice none 0 0), 24⟩),
  (113, ⟨(.slice 196), 1, (.slice none 0 0), 24⟩),
  (115, ⟨(.struct #[⟨ "Kind", 3, 0, false, "", "", 0⟩, ⟨ "Addr", 3, 1, false, "", "", 8⟩, ⟨ "Code", 5, 2, false, "", "", 16⟩, ⟨ "Graph", 4, 3, false, "", "", 17⟩, ⟨ "FA", 5, 4, false, "", "", 18⟩, ⟨ "Pairs", 113, 5, false, "", "", 24⟩, ⟨ "Text", 31, 6, false, "", "", 48⟩]), 7, (.agg #[(.int .i64 0), (.int .i64 0), (.int .u8 0), (.bool false), (.int .u8 0), (.slice none 0 0), (.slice none 0 0)]), 72⟩),
  (122, ⟨(.pointer 130), 1, (.pointer none), 8⟩),
  (130, ⟨(.struct #[⟨ "out", 31, 0, false, "", "vitrine/read", 0⟩, ⟨ "last", 48, 1, false, "", "vitrine/read", 24⟩, ⟨ "mode", 3, 7, false, "", "vitrine/read", 32⟩]), 8, (.agg #[(.slice none 0 0), (.int .u8 0), (.bool false), (.int .u8 0), (.int .u8 0), (.int .u8 0), (.int .u8 0), (.int .i64 0)]), 40⟩),
  (131, ⟨(.struct #[⟨ "Rows", 3, 0, false, "", "", 0⟩, ⟨ "Cols", 3, 1, false, "", "", 8⟩]), 2, (.agg #[(.int .i64 0), (.int .i64 0)]), 16⟩),
  (157, ⟨(.slice 160), 1, (.slice none 0 0), 24⟩),
  (160, ⟨(.struct #[⟨ "Type", 5, 0, false, "", "", 0⟩, ⟨ "Value", 5, 1, false, "", "", 1⟩]), 2, (.agg #[(.int .u8 0), (.int .u8 0)]), 2⟩),
  (165, ⟨(.struct #[⟨ "model", 3, 0, false, "", "vitrine/space", 0⟩, ⟨ "alternate", 4, 1, false, "", "vitrine/space", 8⟩, ⟨ "size", 131, 2, false, "", "vitrine/space", 16⟩, ⟨ "cells", 39, 4, false, "", "vitrine/space", 32⟩, ⟨ "cursor", 3, 5, false, "", "vitrine/space", 56⟩, ⟨ "attrs", 3, 6, false, "", "vitrine/space", 64⟩]), 7, (.agg #[(.int .i64 0), (.bool false), (.int .i64 0), (.int .i64 0), (.slice none 0 0), (.int .i64 0), (.int .i64 0)]), 72⟩),
  (186, ⟨(.pointer 188), 1, (.pointer none), 8⟩),
  (188, ⟨(.struct #[⟨ "p", 31, 0, false, "", "vitrine/order", 0⟩, ⟨ "code", 32, 1, false, "", "vitrine/order", 24⟩]), 2, (.agg #[(.slice none 0 0), (.int .i64 0)]), 32⟩),
  (190, ⟨(.pointer 65), 1, (.pointer none), 8⟩),
  (196, ⟨(.struct #[⟨ "Type", 5, 0, false, "", "", 0⟩, ⟨ "Value", 5, 1, false, "", "", 1⟩]), 2, (.agg #[(.int .u8 0), (.int .u8 0)]), 2⟩),
  (209, ⟨(.slice 38), 1, (.slice none 0 0), 24⟩),
  (211, ⟨(.func #[3] #[4] false), 1, .nilFunc, 8⟩),
  (215, ⟨(.struct #[⟨ "Protected", 4, 0, false, "", "", 0⟩, ⟨ "Numeric", 4, 1, false, "", "", 1⟩, ⟨ "Display", 3, 2, false, "", "", 8⟩, ⟨ "Modified", 4, 3, false, "", "", 16⟩]), 4, (.agg #[(.bool false), (.bool false), (.int .i64 0), (.bool false)]), 24⟩),
  (223, ⟨(.slice 9), 1, (.slice none 0 0), 24⟩),
  (228, ⟨(.array 3 196), 6, (.agg #[(.int .u8 0), (.int .u8 0), (.int .u8 0), (.int .u8 0), (.int .u8 0), (.int .u8 0)]), 6⟩),
  (233, ⟨(.func #[3, 215] #[4] false), 1, .nilFunc, 8⟩)]
theorem ttOk : tik Try.prog tt := ⟨⟨by kernel_rfl, by kernel_rfl⟩, ⟨by kernel_rfl, by kernel_rfl⟩, ⟨by kernel_rfl, by kernel_rfl⟩, ⟨by kernel_rfl, by kernel_rfl⟩, ⟨by kernel_rfl, by kernel_rfl⟩, ⟨by kernel_rfl, by kernel_rfl⟩, ⟨by kernel_rfl, by kernel_rfl⟩, ⟨by kernel_rfl, by kernel_rfl⟩, ⟨by kernel_rfl, by kernel_rfl⟩, ⟨by kernel_rfl, by kernel_rfl⟩, ⟨by kernel_rfl, by kernel_rfl⟩, ⟨by kernel_rfl, by kernel_rfl⟩, ⟨by kernel_rfl, by kernel_rfl⟩, ⟨by kernel_rfl, by kernel_rfl⟩, ⟨by kernel_rfl, by kernel_rfl⟩, ⟨by kernel_rfl, by kernel_rfl⟩, ⟨by kernel_rfl, by kernel_rfl⟩, ⟨by kernel_rfl, by kernel_rfl⟩, ⟨by kernel_rfl, by kernel_rfl⟩, ⟨by kernel_rfl, by kernel_rfl⟩, ⟨by kernel_rfl, by kernel_rfl⟩, ⟨by kernel_rfl, by kernel_rfl⟩, ⟨by kernel_rfl, by kernel_rfl⟩, ⟨by kernel_rfl, by kernel_rfl⟩, ⟨by kernel_rfl, by kernel_rfl⟩, ⟨by kernel_rfl, by kernel_rfl⟩, ⟨by kernel_rfl, by kernel_rfl⟩, ⟨by kernel_rfl, by kernel_rfl⟩, ⟨by kernel_rfl, by kernel_rfl⟩, ⟨by kernel_rfl, by kernel_rfl⟩, ⟨by kernel_rfl, by kernel_rfl⟩, ⟨by kernel_rfl, by kernel_rfl⟩, ⟨by kernel_rfl, by kernel_rfl⟩, ⟨by kernel_rfl, by kernel_rfl⟩, ⟨by kernel_rfl, by kernel_rfl⟩, ⟨by kernel_rfl, by kernel_rfl⟩, ⟨by kernel_rfl, by kernel_rfl⟩, ⟨by kernel_rfl, by kernel_rfl⟩, ⟨by kernel_rfl, by kernel_rfl⟩, ⟨by kernel_rfl, by kernel_rfl⟩, ⟨by kernel_rfl, by kernel_rfl⟩, ⟨by kernel_rfl, by kernel_rfl⟩, trivial⟩
noncomputable def env : Env := ⟨Try.prog, tt, tik_ok ttOk⟩
theorem stood : Stood env.P env.tt := stood_of (show stk Try.prog tt from ⟨by kernel_rfl, by kernel_rfl, by kernel_rfl, by kernel_rfl, by kernel_rfl, by kernel_rfl, by kernel_rfl, by kernel_rfl, by kernel_rfl, by kernel_rfl, by kernel_rfl, by kernel_rfl, by kernel_rfl, by kernel_rfl, by kernel_rfl, by kernel_rfl, by kernel_rfl, by kernel_rfl, by kernel_rfl, by kernel_rfl, by kernel_rfl, by kernel_rfl, by kernel_rfl, by kernel_rfl, by kernel_rfl, by kernel_rfl, by kernel_rfl, by kernel_rfl, by kernel_rfl, by kernel_rfl, by kernel_rfl, by kernel_rfl, by kernel_rfl, by kernel_rfl, by kernel_rfl, by kernel_rfl, by kernel_rfl, by kernel_rfl, by kernel_rfl, by kernel_rfl, by kernel_rfl, by kernel_rfl, trivial⟩)
def en_Vattr_Pair : En Vattr_Pair := ⟨2, fun y => [(.int .u8 y.f_Type), (.int .u8 y.Value)], fun _ => rfl, by decide, fun _ => rfl⟩
def en_Vorder_Op : En (Vorder_Op × SV × SV) := ⟨7, fun y => [(.int .i64 y.1.Kind), (.int .i64 y.1.Addr), (.int .u8 y.1.Code), (.bool y.1.Graph), (.int .u8 y.1.FA), (SV.val y.2.1), (SV.val y.2.2)], fun _ => rfl, by decide, fun _ => rfl⟩
abbrev D_Vorder_Op (X : HP) (y : Vorder_Op × SV × SV) : Prop := Rd X y.2.1 196 en_Vattr_Pair y.1.Pairs ∧ Rd X y.2.2 5 (enI .u8) y.1.Text
theorem D_Vorder_Op.ext {X X' : HP} (a : Ext X X') (y : Vorder_Op × SV × SV) (h : D_Vorder_Op X y) : D_Vorder_Op X' y := ⟨Rd.ext h.1 a, Rd.ext h.2 a⟩
def en_Ventry_Entry : En (Ventry_Entry × SV) := ⟨2, fun y => [(.int .i64 y.1.Addr), (SV.val y.2)], fun _ => rfl, by decide, fun _ => rfl⟩
abbrev D_Ventry_Entry (X : HP) (y : Ventry_Entry × SV) : Prop := Rd X y.2 5 (enI .u8) y.1.Text
theorem D_Ventry_Entry.ext {X X' : HP} (a : Ext X X') (y : Ventry_Entry × SV) (h : D_Ventry_Entry X y) : D_Ventry_Entry X' y := Rd.ext h a
def en_Vvitrineref20_Entry : En (Vvitrineref20_Entry × SV) := ⟨2, fun y => [(.int .i64 y.1.Addr), (SV.val y.2)], fun _ => rfl, by decide, fun _ => rfl⟩
abbrev D_Vvitrineref20_Entry (X : HP) (y : Vvitrineref20_Entry × SV) : Prop := Rd X y.2 5 (enI .u8) y.1.Text
theorem D_Vvitrineref20_Entry.ext {X X' : HP} (a : Ext X X') (y : Vvitrineref20_Entry × SV) (h : D_Vvitrineref20_Entry X y) : D_Vvitrineref20_Entry X' y := Rd.ext h a
def en_Vvitrineref12_Act : En (Vvitrineref12_Act × SV) := ⟨11, fun y => [(.int .u8 y.1.Do), (.int .i64 y.1.N), (.bool y.1.On), (.int .u8 y.1.Code), (.int .u8 y.1.C.Char), (.bool y.1.C.Attr), (.int .u8 y.1.C.FA), (.int .u8 y.1.C.High), (.int .u8 y.1.C.Color), (.int .u8 y.1.C.f_Set), (SV.val y.2)], fun _ => rfl, by decide, fun _ => rfl⟩
abbrev D_Vvitrineref12_Act (X : HP) (y : Vvitrineref12_Act × SV) : Prop := Rd X y.2 5 (enI .u8) y.1.Text
theorem D_Vvitrineref12_Act.ext {X X' : HP} (a : Ext X X') (y : Vvitrineref12_Act × SV) (h : D_Vvitrineref12_Act X y) : D_Vvitrineref12_Act X' y := Rd.ext h a
def en_Vapi_Cell : En Vapi_Cell := ⟨6, fun y => [(.int .u8 y.Char), (.bool y.Attr), (.int .u8 y.FA), (.int .u8 y.High), (.int .u8 y.Color), (.int .u8 y.f_Set)], fun _ => rfl, by decide, fun _ => rfl⟩
def en_Vvitrineref04_Size : En Vvitrineref04_Size := ⟨2, fun y => [(.int .i64 y.Rows), (.int .i64 y.Cols)], fun _ => rfl, by decide, fun _ => rfl⟩
def en_Vvitrineref05_Pair : En Vvitrineref05_Pair := ⟨2, fun y => [(.int .u8 y.f_Type), (.int .u8 y.Value)], fun _ => rfl, by decide, fun _ => rfl⟩
theorem has15 : HasBody env.P 15 := ⟨_, Try.func15, rfl, rfl⟩
theorem has20 : HasBody env.P 20 := ⟨_, Try.func20, rfl, rfl⟩
theorem has23 : HasBody env.P 23 := ⟨_, Try.func23, rfl, rfl⟩
theorem has24 : HasBody env.P 24 := ⟨_, Try.func24, rfl, rfl⟩
theorem has25 : HasBody env.P 25 := ⟨_, Try.func25, rfl, rfl⟩
theorem has26 : HasBody env.P 26 := ⟨_, Try.func26, rfl, rfl⟩
theorem has27 : HasBody env.P 27 := ⟨_, Try.func27, rfl, rfl⟩
theorem has28 : HasBody env.P 28 := ⟨_, Try.func28, rfl, rfl⟩
theorem has29 : HasBody env.P 29 := ⟨_, Try.func29, rfl, rfl⟩
theorem has30 : HasBody env.P 30 := ⟨_, Try.func30, rfl, rfl⟩
theorem has52 : HasBody env.P 52 := ⟨_, Try.func52, rfl, rfl⟩
theorem has56 : HasBody env.P 56 := ⟨_, Try.func56, rfl, rfl⟩
theorem has59 : HasBody env.P 59 := ⟨_, Try.func59, rfl, rfl⟩
theorem has60 : HasBody env.P 60 := ⟨_, Try.func60, rfl, rfl⟩
theorem has61 : HasBody env.P 61 := ⟨_, Try.func61, rfl, rfl⟩
theorem has62 : HasBody env.P 62 := ⟨_, Try.func62, rfl, rfl⟩
theorem has63 : HasBody env.P 63 := ⟨_, Try.func63, rfl, rfl⟩
theorem has64 : HasBody env.P 64 := ⟨_, Try.func64, rfl, rfl⟩
theorem has65 : HasBody env.P 65 := ⟨_, Try.func65, rfl, rfl⟩
theorem has74 : HasBody env.P 74 := ⟨_, Try.func74, rfl, rfl⟩
theorem has94 : HasBody env.P 94 := ⟨_, Try.func94, rfl, rfl⟩
theorem has95 : HasBody env.P 95 := ⟨_, Try.func95, rfl, rfl⟩
theorem has96 : HasBody env.P 96 := ⟨_, Try.func96, rfl, rfl⟩
theorem has97 : HasBody env.P 97 := ⟨_, Try.func97, rfl, rfl⟩
theorem has98 : HasBody env.P 98 := ⟨_, Try.func98, rfl, rfl⟩
theorem has101 : HasBody env.P 101 := ⟨_, Try.func101, rfl, rfl⟩
theorem has104 : HasBody env.P 104 := ⟨_, Try.func104, rfl, rfl⟩
theorem has115 : HasBody env.P 115 := ⟨_, Try.func115, rfl, rfl⟩
theorem has116 : HasBody env.P 116 := ⟨_, Try.func116, rfl, rfl⟩
theorem has117 : HasBody env.P 117 := ⟨_, Try.func117, rfl, rfl⟩
theorem has118 : HasBody env.P 118 := ⟨_, Try.func118, rfl, rfl⟩
theorem has119 : HasBody env.P 119 := ⟨_, Try.func119, rfl, rfl⟩
theorem has120 : HasBody env.P 120 := ⟨_, Try.func120, rfl, rfl⟩
theorem has121 : HasBody env.P 121 := ⟨_, Try.func121, rfl, rfl⟩
theorem has122 : HasBody env.P 122 := ⟨_, Try.func122, rfl, rfl⟩
theorem has123 : HasBody env.P 123 := ⟨_, Try.func123, rfl, rfl⟩
theorem has124 : HasBody env.P 124 := ⟨_, Try.func124, rfl, rfl⟩
theorem has125 : HasBody env.P 125 := ⟨_, Try.func125, rfl, rfl⟩
theorem has126 : HasBody env.P 126 := ⟨_, Try.func126, rfl, rfl⟩
theorem has127 : HasBody env.P 127 := ⟨_, Try.func127, rfl, rfl⟩
theorem has129 : HasBody env.P 129 := ⟨_, Try.func129, rfl, rfl⟩
theorem has137 : HasBody env.P 137 := ⟨_, Try.func137, rfl, rfl⟩
theorem has138 : HasBody env.P 138 := ⟨_, Try.func138, rfl, rfl⟩
theorem has139 : HasBody env.P 139 := ⟨_, Try.func139, rfl, rfl⟩

theorem c_addr_zone {g : Gw} (X : HP) (p0 : Int) (r : Int × Int × Int × Int) (h : m_addr_zone p0 = some r) : Tri env g 115 (List.toArray [(.int .i64 p0)]) [X] (fun K R => K (.tuple (List.toArray [(.int .u8 r.1), (.int .u8 r.2.1), (.int .i64 r.2.2.1), (.int .i64 r.2.2.2)])) (X :: R)) := by
  refine tri_of (fn := Try.f115) (N := 14) Try.func115 rfl rfl rfl ?_
  intro R K hk
  unfold m_addr_zone at h
  change GC _ none _ [] [(0, (.int .i64 p0))] (X :: R) g _ _
  refine c_seq ?_
  refine c_region ?_
  refine o1 rfl (o_p rfl ?_)
  refine o1 rfl (o_p rfl ?_)
  refine o1 rfl (o_p rfl ?_)
  refine o1 rfl (o_p rfl ?_)
  refine o_end ?_
  refine e_seq ?_
  refine c_seq ?_
  refine c_seq ?_
  refine c_region ?_
  refine o1 rfl (o_p rfl ?_)
  refine o1 rfl (o_shr (m := p0) (n := 4) rfl rfl (by decide) ?_)
  refine o_end ?_
  refine e_seq ?_
  refine c_block ?_
  refine c_seq ?_
  refine c_region ?_
  refine o1 rfl (o_p (v := (.bool ((ishr .i64 p0 4) == 0))) rfl ?_)
  refine o1 rfl (o_p rfl ?_)
  refine o_end ?_
  refine e_seq ?_
  refine c_cond (b := ((ishr .i64 p0 4) == 0)) rfl (fun hb30 => ?_) (fun hb30 => ?_)
  · replace h := cond_t hb30 h
    refine c_seq ?_
    refine c_region ?_
    refine o1 rfl (o_p rfl ?_)
    refine o1 rfl (o_p rfl ?_)
    refine o1 rfl (o_p rfl ?_)
    refine o1 rfl (o_p rfl ?_)
    refine o_end ?_
    refine e_seq ?_
    refine c_ret ?_
    refine e_blk_ret ?_
    refine e_then_ret ?_
    refine e_ret ?_
    refine r_endt rfl rfl (kc rm0 kr) ?_
    have hr := Option.some.inj h
    subst hr
    exact hk
  · replace h := cond_f hb30 h
    refine c_seq ?_
    refine c_region ?_
    refine o1 rfl (o_p (v := (.bool ((ishr .i64 p0 4) == 1))) rfl ?_)
    refine o1 rfl (o_p rfl ?_)
    refine o_end ?_
    refine e_seq ?_
    refine c_cond (b := ((ishr .i64 p0 4) == 1)) rfl (fun hb31 => ?_) (fun hb31 => ?_)
    · replace h := cond_t hb31 h
      refine c_seq ?_
      refine c_region ?_
      refine o1 rfl (o_p rfl ?_)
      refine o1 rfl (o_p rfl ?_)
      refine o1 rfl (o_p rfl ?_)
      refine o1 rfl (o_p rfl ?_)
      refine o_end ?_
      refine e_seq ?_
      refine c_ret ?_
      refine e_blk_ret ?_
      refine e_then_ret ?_
      refine e_ret ?_
      refine r_endt rfl rfl (kc rm0 kr) ?_
      have hr := Option.some.inj h
      subst hr
      exact hk
    · replace h := cond_f hb31 h
      refine c_seq ?_
      refine c_region ?_
      refine o1 rfl (o_p (v := (.bool ((ishr .i64 p0 4) == 2))) rfl ?_)
      refine o1 rfl (o_p rfl ?_)
      refine o_end ?_
      refine e_seq ?_
      refine c_cond (b := ((ishr .i64 p0 4) == 2)) rfl (fun hb32 => ?_) (fun hb32 => ?_)
      · replace h := cond_t hb32 h
        refine c_seq ?_
        refine c_region ?_
        refine o1 rfl (o_p rfl ?_)
        refine o1 rfl (o_p rfl ?_)
        refine o1 rfl (o_p rfl ?_)
        refine o1 rfl (o_p rfl ?_)
        refine o_end ?_
        refine e_seq ?_
        refine c_ret ?_
        refine e_blk_ret ?_
        refine e_then_ret ?_
        refine e_ret ?_
        refine r_endt rfl rfl (kc rm0 kr) ?_
        have hr := Option.some.inj h
        subst hr
        exact hk
      · replace h := cond_f hb32 h
        refine c_skip ?_
        refine e_blk ?_
        refine e_seq ?_
        refine c_seq ?_
        refine c_region ?_
        refine o1 rfl (o_p rfl ?_)
        refine o1 rfl (o_p rfl ?_)
        refine o1 rfl (o_p rfl ?_)
        refine o1 rfl (o_p rfl ?_)
        refine o_end ?_
        refine e_seq ?_
        refine c_ret ?_
        refine e_ret ?_
        refine r_endt rfl rfl (kc rm0 kr) ?_
        have hr := Option.some.inj h
        subst hr
        exact hk

theorem c_addr_Six {g : Gw} (X : HP) (p0 : Int) (r : Int) (h : m_addr_Six p0 = some r) : Tri env g 94 (List.toArray [(.int .i64 p0)]) [X] (fun K R => K (.int .u8 r) (X :: R)) := by
  refine tri_of (fn := Try.f94) (N := 35) Try.func94 rfl rfl rfl ?_
  intro R K hk
  unfold m_addr_Six at h
  change GC _ none _ [] [(0, (.int .i64 p0))] (X :: R) g _ _
  refine c_seq ?_
  refine c_region ?_
  refine o1 rfl (o_p rfl ?_)
  refine o_end ?_
  refine e_seq ?_
  refine c_seq ?_
  refine c_region ?_
  refine o1 rfl (o_p rfl ?_)
  refine o1 rfl (o_p (v := (.int .i64 (iband .i64 p0 63))) rfl ?_)
  refine o1 rfl (o_p rfl ?_)
  refine o_end ?_
  refine e_seq ?_
  refine c_seq ?_
  refine c_region ?_
  refine o1 rfl (o_p rfl ?_)
  replace h := bsome h
  obtain ⟨d1, h1, h⟩ := h
  refine o1 rfl (o_call has115 rfl (c_addr_zone X (iband .i64 p0 63) _ h1) (pc rm0 pn) ?_)
  refine o1 rfl (o_p rfl ?_)
  refine o1 rfl (o_p rfl ?_)
  refine o1 rfl (o_p rfl ?_)
  refine o1 rfl (o_p rfl ?_)
  refine o1 rfl (o_p rfl ?_)
  refine o1 rfl (o_p rfl ?_)
  refine o1 rfl (o_p rfl ?_)
  refine o1 rfl (o_p rfl ?_)
  refine o1 rfl (o_p rfl ?_)
  refine o_end ?_
  refine e_seq ?_
  refine c_seq ?_
  refine c_region ?_
  refine o1 rfl (o_p rfl ?_)
  refine o1 rfl (o_p (v := (.int .i64 (iband .i64 (iband .i64 p0 63) 15))) rfl ?_)
  refine o1 rfl (o_p rfl ?_)
  refine o_end ?_
  refine e_seq ?_
  refine c_seq ?_
  refine c_seq ?_
  replace h := bsome h
  obtain ⟨d2, h, hk2⟩ := h
  refine cj (D := Unit) (ι := Unit) (fun _ i2 => True) (fun _ i2 => [(26, (.bool d2)), (7, (.int .i64 (iband .i64 (iband .i64 p0 63) 15))), (4, (.int .u8 d1.2.1)), (3, (.int .u8 d1.1))]) (fun _ i2 => X :: R) ?_ ?_
  · refine c_region ?_
    refine o1 rfl (o_p rfl ?_)
    refine o1 rfl (o_p rfl ?_)
    refine o1 rfl (o_p (v := (.bool (decide ((iband .i64 (iband .i64 p0 63) 15) ≥ d1.2.2.1)))) rfl ?_)
    refine o1 rfl (o_p rfl ?_)
    rcases bool_or ((decide ((iband .i64 (iband .i64 p0 63) 15) ≥ d1.2.2.1))) with hb33 | hb33
    · replace h := cond_t hb33 h
      refine oy rfl rfl rfl hb33 (o_p rfl ?_)
      refine oy rfl rfl rfl hb33 (o_p rfl ?_)
      refine oy rfl rfl rfl hb33 (o_p (v := (.bool (decide ((iband .i64 (iband .i64 p0 63) 15) ≤ d1.2.2.2)))) rfl ?_)
      refine o1 rfl (o_pick_t rfl hb33 rfl ?_)
      refine o_end ?_
      have hd := Option.some.inj h
      subst hd
      exact ej () () trivial (sc rfl (sc rfl (sc rfl (sc rfl sn)))) (kc rm0 kr)
    · replace h := cond_f hb33 h
      refine on rfl rfl rfl hb33 ?_
      refine on rfl rfl rfl hb33 ?_
      refine on rfl rfl rfl hb33 ?_
      refine o1 rfl (o_pick_f rfl hb33 rfl ?_)
      refine o_end ?_
      have hd := Option.some.inj h
      subst hd
      exact ej () () trivial (sc rfl (sc rfl (sc rfl (sc rfl sn)))) (kc rm0 kr)
  · rintro _ i2 _
    replace h := hk2
    clear hk2
    refine e_seq ?_
    refine c_cond (b := d2) rfl (fun hb34 => ?_) (fun hb34 => ?_)
    · replace h := cond_t hb34 h
      refine c_seq ?_
      refine c_region ?_
      refine o1 rfl (o_p rfl ?_)
      refine o1 rfl (o_p rfl ?_)
      refine o1 rfl (o_p (v := (.int .u8 (IntKind.wrap .u8 (iband .i64 (iband .i64 p0 63) 15)))) rfl ?_)
      refine o1 rfl (o_p (v := (.int .u8 (ibor .u8 d1.2.1 (IntKind.wrap .u8 (iband .i64 (iband .i64 p0 63) 15))))) rfl ?_)
      refine o1 rfl (o_p rfl ?_)
      refine o_end ?_
      refine e_seq ?_
      refine c_ret ?_
      refine e_then_ret ?_
      refine e_ret ?_
      refine r_endt rfl rfl (kc rm0 kr) ?_
      have hr := Option.some.inj h
      subst hr
      exact hk
    · replace h := cond_f hb34 h
      refine c_skip ?_
      refine e_seq ?_
      refine c_seq ?_
      refine c_region ?_
      refine o1 rfl (o_p rfl ?_)
      refine o1 rfl (o_p rfl ?_)
      refine o1 rfl (o_p (v := (.int .u8 (IntKind.wrap .u8 (iband .i64 (iband .i64 p0 63) 15)))) rfl ?_)
      refine o1 rfl (o_p (v := (.int .u8 (ibor .u8 d1.1 (IntKind.wrap .u8 (iband .i64 (iband .i64 p0 63) 15))))) rfl ?_)
      refine o1 rfl (o_p rfl ?_)
      refine o_end ?_
      refine e_seq ?_
      refine c_ret ?_
      refine e_ret ?_
      refine r_endt rfl rfl (kc rm0 kr) ?_
      have hr := Option.some.inj h
      subst hr
      exact hk

theorem c_addr_Unsix {g : Gw} (X : HP) (p0 : Int) (r : Int) (h : m_addr_Unsix p0 = some r) : Tri env g 121 (List.toArray [(.int .u8 p0)]) [X] (fun K R => K (.int .i64 r) (X :: R)) := by
  refine tri_of (fn := Try.f121) (N := 16) Try.func121 rfl rfl rfl ?_
  intro R K hk
  unfold m_addr_Unsix at h
  change GC _ none _ [] [(0, (.int .u8 p0))] (X :: R) g _ _
  refine c_seq ?_
  refine c_region ?_
  refine o1 rfl (o_p rfl ?_)
  refine o_end ?_
  refine e_seq ?_
  refine c_seq ?_
  refine c_seq ?_
  refine c_region ?_
  refine o1 rfl (o_p rfl ?_)
  refine o_end ?_
  refine e_seq ?_
  replace h := jn_some h
  obtain ⟨y1, h, hk1⟩ := h
  refine cj (D := Unit) (ι := Unit) (fun d1 i1 => y1 = Sum.inl d1) (fun d1 i1 => [(0, (.int .u8 p0))]) (fun d1 i1 => X :: R) ?_ ?_
  · refine c_block ?_
    refine c_loop (l_sub (sc rfl (sc rfl sn)) (l_keep (kc rm0 kr) (lf (X := Int) (ι := Unit) (fun k x => addr_Unsix_l2 p0 k x) _ (fun x2 i2 => True) (fun x2 i2 => [(4, (.int .i64 x2)), (0, (.int .u8 p0))]) (fun x2 i2 => X :: R) (fun _ => rfl) ?_ fuel 0 () trivial h)))
    clear h
    rintro k2 ih2 x2 i2 _ h
    rw [addr_Unsix_l2.eq_2] at h
    refine l_round ?_
    refine c_seq ?_
    refine c_region ?_
    refine o1 rfl (o_p (v := (.bool (decide (x2 < 64)))) rfl ?_)
    refine o_end ?_
    refine e_seq ?_
    refine c_seq ?_
    refine c_cond (b := (decide (x2 < 64))) rfl (fun hb38 => ?_) (fun hb38 => ?_)
    · replace h := cond_t hb38 h
      refine c_skip ?_
      refine e_seq ?_
      refine c_seq ?_
      refine c_block ?_
      refine c_seq ?_
      refine c_region ?_
      refine o1 rfl (o_p rfl ?_)
      refine o1 rfl (o_p rfl ?_)
      refine o_end ?_
      refine e_seq ?_
      refine c_seq ?_
      refine c_region ?_
      refine o1 rfl (o_p rfl ?_)
      replace h := bsome h
      obtain ⟨d5, h5, h⟩ := h
      refine o1 rfl (o_call has94 rfl (c_addr_Six X x2 _ h5) (pc rm0 pn) ?_)
      refine o1 rfl (o_p rfl ?_)
      refine o1 rfl (o_p (v := (.bool (d5 == p0))) rfl ?_)
      refine o_end ?_
      refine e_seq ?_
      refine c_cond (b := (d5 == p0)) rfl (fun hb39 => ?_) (fun hb39 => ?_)
      · replace h := cond_t hb39 h
        refine c_seq ?_
        refine c_region ?_
        refine o1 rfl (o_p rfl ?_)
        refine o1 rfl (o_p rfl ?_)
        refine o_end ?_
        refine e_seq ?_
        refine c_ret ?_
        refine e_blk_ret ?_
        refine e_then_ret ?_
        refine e_then_ret ?_
        refine e_blk_ret ?_
        refine ej_ret ?_
        replace h := esc_some h
        obtain ⟨z1, h, rfl⟩ := h
        obtain rfl := (hk1 : z1 = _)
        refine e_then_ret ?_
        refine e_ret ?_
        refine r_endt rfl rfl (kc rm0 kr) ?_
        have hr := Option.some.inj h
        subst hr
        exact hk
      · replace h := cond_f hb39 h
        refine c_skip ?_
        refine e_blk ?_
        refine e_seq ?_
        refine c_region ?_
        refine o1 rfl (o_p (v := (.int .i64 (w64 (x2 + 1)))) rfl ?_)
        refine o1 rfl (o_p rfl ?_)
        refine o_end ?_
        exact e_loop (l_sub (sc rfl (sc rfl sn)) (l_keep (kc rm0 kr) (ih2 (w64 (x2 + 1)) () trivial h)))
    · replace h := cond_f hb38 h
      refine c_exit ?_
      refine e_then_exit ?_
      refine e_then_exit ?_
      refine e_blk_exit ?_
      have hd := Option.some.inj h
      subst hd
      exact ej () () rfl (sc rfl sn) (kc rm0 kr)
  · rintro d1 i1 rfl
    replace h := JK_inl hk1
    clear hk1
    refine e_seq ?_
    refine c_seq ?_
    refine c_region ?_
    refine o1 rfl (o_p rfl ?_)
    refine o1 rfl (o_p (v := (.int .u8 (iband .u8 p0 63))) rfl ?_)
    refine o1 rfl (o_p (v := (.int .i64 (w64 (iband .u8 p0 63)))) rfl ?_)
    refine o1 rfl (o_p rfl ?_)
    refine o_end ?_
    refine e_seq ?_
    refine c_ret ?_
    refine e_ret ?_
    refine r_endt rfl rfl (kc rm0 kr) ?_
    have hr := Option.some.inj h
    subst hr
    exact hk

theorem c_addr_Decode {g : Gw} (X : HP) (p0 : Int) (p1 : List Int) (s0 : SV) (q0 : Rd X s0 5 (enI .u8) p1) (r : Int × Int) (h : m_addr_Decode p0 p1 = some r) : Tri env g 97 (List.toArray [(.int .i64 p0), (SV.val s0)]) [X] (fun K R => K (.tuple (List.toArray [(.int .i64 r.1), (.int .i64 r.2)])) (X :: R)) := by
  refine tri_of (fn := Try.f97) (N := 59) Try.func97 rfl rfl rfl ?_
  intro R K hk
  unfold m_addr_Decode at h
  change GC _ none _ [] [(0, (.int .i64 p0)), (1, (SV.val s0))] (X :: R) g _ _
  refine c_seq ?_
  refine c_region ?_
  refine o1 rfl (o_p rfl ?_)
  refine o1 rfl (o_p rfl ?_)
  refine o_end ?_
  refine e_seq ?_
  refine c_seq ?_
  refine c_block ?_
  refine c_seq ?_
  replace h := bsome h
  obtain ⟨d2, h, hk2⟩ := h
  refine cj (D := Unit) (ι := Unit) (fun _ i2 => True) (fun _ i2 => [(7, (.bool d2)), (0, (.int .i64 p0)), (1, (SV.val s0))]) (fun _ i2 => X :: R) ?_ ?_
  · refine c_region ?_
    refine o1 rfl (o_p rfl ?_)
    refine o1 rfl (o_p (v := (.bool (p0 != 12))) rfl ?_)
    refine o1 rfl (o_p rfl ?_)
    rcases bool_or ((p0 != 12)) with hb17 | hb17
    · replace h := cond_t hb17 h
      refine oy rfl rfl rfl hb17 (o_p rfl ?_)
      refine oy rfl rfl rfl hb17 (o_p (v := (.bool (p0 != 14))) rfl ?_)
      refine o1 rfl (o_pick_t rfl hb17 rfl ?_)
      refine o1 rfl (o_p rfl ?_)
      rcases bool_or ((p0 != 14)) with hb18 | hb18
      · replace h := cond_t hb18 h
        refine oy rfl rfl rfl hb18 (o_p rfl ?_)
        refine oy rfl rfl rfl hb18 (o_p (v := (.bool (p0 != 16))) rfl ?_)
        refine o1 rfl (o_pick_t rfl hb18 rfl ?_)
        refine o1 rfl (o_p rfl ?_)
        refine o_end ?_
        have hd := Option.some.inj h
        subst hd
        exact ej () () trivial (sc rfl (sc rfl (sc rfl sn))) (kc rm0 kr)
      · replace h := cond_f hb18 h
        refine on rfl rfl rfl hb18 ?_
        refine on rfl rfl rfl hb18 ?_
        refine o1 rfl (o_pick_f rfl hb18 rfl ?_)
        refine o1 rfl (o_p rfl ?_)
        refine o_end ?_
        have hd := Option.some.inj h
        subst hd
        exact ej () () trivial (sc rfl (sc rfl (sc rfl sn))) (kc rm0 kr)
    · replace h := cond_f hb17 h
      refine on rfl rfl rfl hb17 ?_
      refine on rfl rfl rfl hb17 ?_
      refine o1 rfl (o_pick_f rfl hb17 rfl ?_)
      refine o1 rfl (o_p rfl ?_)
      refine on rfl rfl rfl rfl ?_
      refine on rfl rfl rfl rfl ?_
      refine o1 rfl (o_pick_f rfl rfl rfl ?_)
      refine o1 rfl (o_p rfl ?_)
      refine o_end ?_
      have hd := Option.some.inj h
      subst hd
      exact ej () () trivial (sc rfl (sc rfl (sc rfl sn))) (kc rm0 kr)
  · rintro _ i2 _
    replace h := hk2
    clear hk2
    refine e_seq ?_
    refine c_cond (b := d2) rfl (fun hb19 => ?_) (fun hb19 => ?_)
    · replace h := cond_t hb19 h
      refine c_seq ?_
      refine c_region ?_
      refine o1 rfl (o_p rfl ?_)
      refine o1 rfl (o_p rfl ?_)
      refine o_end ?_
      refine e_seq ?_
      refine c_ret ?_
      refine e_blk_ret ?_
      refine e_then_ret ?_
      refine e_ret ?_
      refine r_endt rfl rfl (kc rm0 kr) ?_
      have hr := Option.some.inj h
      subst hr
      exact hk
    · replace h := cond_f hb19 h
      refine c_seq ?_
      refine c_region ?_
      refine o1 rfl (o_p rfl ?_)
      refine o1 rfl (o_len (s := s0) rfl rfl rfl rm0 q0 ?_)
      refine o1 rfl (o_p (v := (.bool (decide ((p1.length : Int) < 2)))) rfl ?_)
      refine o1 rfl (o_p rfl ?_)
      refine o_end ?_
      refine e_seq ?_
      refine c_cond (b := (decide ((p1.length : Int) < 2))) rfl (fun hb20 => ?_) (fun hb20 => ?_)
      · replace h := cond_t hb20 h
        refine c_seq ?_
        refine c_region ?_
        refine o1 rfl (o_p rfl ?_)
        refine o1 rfl (o_p rfl ?_)
        refine o_end ?_
        refine e_seq ?_
        refine c_ret ?_
        refine e_blk_ret ?_
        refine e_then_ret ?_
        refine e_ret ?_
        refine r_endt rfl rfl (kc rm0 kr) ?_
        have hr := Option.some.inj h
        subst hr
        exact hk
      · replace h := cond_f hb20 h
        refine c_skip ?_
        refine e_blk ?_
        refine e_seq ?_
        refine c_seq ?_
        replace h := gsome h
        obtain ⟨hg21, h⟩ := h
        replace h := gsome h
        obtain ⟨hg22, h⟩ := h
        refine c_draw (n := 0) (q := [(0, 22, (SV.val s0)), (1, 23, (.pointer (some ⟨SV.blk s0, SV.off s0 + Int.toNat 0 * 1, none⟩))), (2, 24, (.int .u8 (rd p1 0))), (3, 25, (.int .i64 (w64 ((rd p1 0))))), (4, 26, (.int .i64 (ishl .i64 (w64 ((rd p1 0))) 8))), (5, 27, (SV.val s0)), (6, 28, (.pointer (some ⟨SV.blk s0, SV.off s0 + Int.toNat 1 * 1, none⟩))), (7, 29, (.int .u8 (rd p1 1))), (8, 30, (.int .i64 (w64 ((rd p1 1))))), (9, 31, (.int .i64 (ibor .i64 (ishl .i64 (w64 ((rd p1 0))) 8) (w64 ((rd p1 1)))))), (10, 6, (.int .i64 (ibor .i64 (ishl .i64 (w64 ((rd p1 0))) 8) (w64 ((rd p1 1))))))]) (pend := [0, 1, 2, 3, 4, 5, 6, 7, 8, 9, 10]) rfl rfl rfl ?_
        refine ⟨⟨fun _ => ⟨rfl, rfl, rfl, .inl ⟨rfl, (o_p rfl ⟨rfl, rfl⟩)⟩⟩, fun _ => ⟨rfl, rfl, rfl, .inl ⟨rfl, (o_ix (s := s0) (n := 0) (e := (enI .u8)) rfl rfl rfl rfl rfl rfl rm0 q0 hg21 ⟨rfl, rfl⟩)⟩⟩, fun _ => ⟨rfl, rfl, rfl, .inl ⟨rfl, (o_ldE (s := s0) (e := (enI .u8)) (n := 0) (f := 0) (v := (.int .u8 (rd p1 0))) rfl rm0 q0 hg21 rfl rfl ⟨rfl, rfl⟩)⟩⟩, fun _ => ⟨rfl, rfl, rfl, .inl ⟨rfl, (o_p (v := (.int .i64 (w64 ((rd p1 0))))) rfl ⟨rfl, rfl⟩)⟩⟩, fun _ => ⟨rfl, rfl, rfl, .inl ⟨rfl, (o_shl (m := w64 ((rd p1 0))) (n := 8) rfl rfl (by decide) ⟨rfl, rfl⟩)⟩⟩, fun _ => ⟨rfl, rfl, rfl, .inl ⟨rfl, (o_p rfl ⟨rfl, rfl⟩)⟩⟩, fun _ => ⟨rfl, rfl, rfl, .inl ⟨rfl, (o_ix (s := s0) (n := 1) (e := (enI .u8)) rfl rfl rfl rfl rfl rfl rm0 q0 hg22 ⟨rfl, rfl⟩)⟩⟩, fun _ => ⟨rfl, rfl, rfl, .inl ⟨rfl, (o_ldE (s := s0) (e := (enI .u8)) (n := 1) (f := 0) (v := (.int .u8 (rd p1 1))) rfl rm0 q0 hg22 rfl rfl ⟨rfl, rfl⟩)⟩⟩, fun _ => ⟨rfl, rfl, rfl, .inl ⟨rfl, (o_p (v := (.int .i64 (w64 ((rd p1 1))))) rfl ⟨rfl, rfl⟩)⟩⟩, fun _ => ⟨rfl, rfl, rfl, .inl ⟨rfl, (o_p (v := (.int .i64 (ibor .i64 (ishl .i64 (w64 ((rd p1 0))) 8) (w64 ((rd p1 1)))))) rfl ⟨rfl, rfl⟩)⟩⟩, fun _ => ⟨rfl, rfl, rfl, .inl ⟨rfl, (o_p rfl ⟨rfl, rfl⟩)⟩⟩, trivial⟩, rfl, rfl, rfl, ?_⟩
        refine e_seq ?_
        refine c_seq ?_
        refine c_block ?_
        refine c_seq ?_
        replace h := bsome h
        obtain ⟨d6, h, hk6⟩ := h
        refine cj (D := Unit) (ι := Unit) (fun _ i6 => True) (fun _ i6 => [(32, (.bool d6)), (6, (.int .i64 (ibor .i64 (ishl .i64 (w64 ((rd p1 0))) 8) (w64 ((rd p1 1)))))), (1, (SV.val s0))]) (fun _ i6 => X :: R) ?_ ?_
        · refine c_region ?_
          refine o1 rfl (o_p rfl ?_)
          refine o1 rfl (o_p (v := (.bool (p0 == 16))) rfl ?_)
          refine o1 rfl (o_p rfl ?_)
          rcases bool_or ((p0 == 16)) with hb23 | hb23
          · replace h := cond_t hb23 h
            refine on rfl rfl rfl hb23 ?_
            refine on rfl rfl rfl hb23 ?_
            refine on rfl rfl rfl hb23 ?_
            refine on rfl rfl rfl hb23 ?_
            refine on rfl rfl rfl hb23 ?_
            refine o1 rfl (o_pick_t rfl hb23 rfl ?_)
            refine o1 rfl (o_p rfl ?_)
            refine o_end ?_
            have hd := Option.some.inj h
            subst hd
            exact ej () () trivial (sc rfl (sc rfl (sc rfl sn))) (kc rm0 kr)
          · replace h := cond_f hb23 h
            refine oy rfl rfl rfl hb23 (o_p rfl ?_)
            replace h := gsome h
            obtain ⟨hg24, h⟩ := h
            refine oy rfl rfl rfl hb23 (o_ix (s := s0) (n := 0) (e := (enI .u8)) rfl rfl rfl rfl rfl rfl rm0 q0 hg24 ?_)
            refine oy rfl rfl rfl hb23 (o_ldE (s := s0) (e := (enI .u8)) (n := 0) (f := 0) (v := (.int .u8 (rd p1 0))) rfl rm0 q0 hg24 rfl rfl ?_)
            refine oy rfl rfl rfl hb23 (o_shr (m := (rd p1 0)) (n := 6) rfl rfl (by decide) ?_)
            refine oy rfl rfl rfl hb23 (o_p (v := (.bool ((ishr .u8 (rd p1 0) 6) == 0))) rfl ?_)
            refine o1 rfl (o_pick_f rfl hb23 rfl ?_)
            refine o1 rfl (o_p rfl ?_)
            refine o_end ?_
            have hd := Option.some.inj h
            subst hd
            exact ej () () trivial (sc rfl (sc rfl (sc rfl sn))) (kc rm0 kr)
        · rintro _ i6 _
          replace h := hk6
          clear hk6
          refine e_seq ?_
          refine c_cond (b := d6) rfl (fun hb25 => ?_) (fun hb25 => ?_)
          · replace h := cond_t hb25 h
            refine c_seq ?_
            refine c_region ?_
            refine o1 rfl (o_p rfl ?_)
            refine o1 rfl (o_p rfl ?_)
            refine o1 rfl (o_p rfl ?_)
            refine o_end ?_
            refine e_seq ?_
            refine c_ret ?_
            refine e_blk_ret ?_
            refine e_then_ret ?_
            refine e_ret ?_
            refine r_endt rfl rfl (kc rm0 kr) ?_
            have hr := Option.some.inj h
            subst hr
            exact hk
          · replace h := cond_f hb25 h
            refine c_seq ?_
            refine c_region ?_
            refine o1 rfl (o_p rfl ?_)
            replace h := gsome h
            obtain ⟨hg26, h⟩ := h
            refine o1 rfl (o_ix (s := s0) (n := 0) (e := (enI .u8)) rfl rfl rfl rfl rfl rfl rm0 q0 hg26 ?_)
            refine o1 rfl (o_ldE (s := s0) (e := (enI .u8)) (n := 0) (f := 0) (v := (.int .u8 (rd p1 0))) rfl rm0 q0 hg26 rfl rfl ?_)
            refine o1 rfl (o_shr (m := (rd p1 0)) (n := 6) rfl rfl (by decide) ?_)
            refine o1 rfl (o_p (v := (.bool ((ishr .u8 (rd p1 0) 6) == 2))) rfl ?_)
            refine o1 rfl (o_p rfl ?_)
            refine o_end ?_
            refine e_seq ?_
            refine c_cond (b := ((ishr .u8 (rd p1 0) 6) == 2)) rfl (fun hb27 => ?_) (fun hb27 => ?_)
            · replace h := cond_t hb27 h
              refine c_seq ?_
              refine c_region ?_
              refine o1 rfl (o_p rfl ?_)
              refine o1 rfl (o_p rfl ?_)
              refine o_end ?_
              refine e_seq ?_
              refine c_ret ?_
              refine e_blk_ret ?_
              refine e_then_ret ?_
              refine e_ret ?_
              refine r_endt rfl rfl (kc rm0 kr) ?_
              have hr := Option.some.inj h
              subst hr
              exact hk
            · replace h := cond_f hb27 h
              refine c_skip ?_
              refine e_blk ?_
              refine e_seq ?_
              refine c_seq ?_
              replace h := gsome h
              obtain ⟨hg28, h⟩ := h
              replace h := gsome h
              obtain ⟨hg29, h⟩ := h
              refine c_draw (n := 2) (q := [(0, 49, (SV.val s0)), (1, 50, (.pointer (some ⟨SV.blk s0, SV.off s0 + Int.toNat 0 * 1, none⟩))), (2, 51, (.int .u8 (rd p1 0))), (5, 54, (SV.val s0)), (6, 55, (.pointer (some ⟨SV.blk s0, SV.off s0 + Int.toNat 1 * 1, none⟩))), (7, 56, (.int .u8 (rd p1 1)))]) (pend := [0, 1, 2, 5, 6, 7]) rfl rfl rfl ?_
              replace h := bsome h
              obtain ⟨d9, h9, h⟩ := h
              refine ⟨⟨fun _ => ⟨rfl, rfl, rfl, .inl ⟨rfl, (o_p rfl ⟨rfl, rfl⟩)⟩⟩, fun _ => ⟨rfl, rfl, rfl, .inl ⟨rfl, (o_ix (s := s0) (n := 0) (e := (enI .u8)) rfl rfl rfl rfl rfl rfl rm0 q0 hg28 ⟨rfl, rfl⟩)⟩⟩, fun _ => ⟨rfl, rfl, rfl, .inl ⟨rfl, (o_ldE (s := s0) (e := (enI .u8)) (n := 0) (f := 0) (v := (.int .u8 (rd p1 0))) rfl rm0 q0 hg28 rfl rfl ⟨rfl, rfl⟩)⟩⟩, fun _ => ⟨rfl, rfl, rfl, .inl ⟨rfl, (o_p rfl ⟨rfl, rfl⟩)⟩⟩, fun _ => ⟨rfl, rfl, rfl, .inl ⟨rfl, (o_ix (s := s0) (n := 1) (e := (enI .u8)) rfl rfl rfl rfl rfl rfl rm0 q0 hg29 ⟨rfl, rfl⟩)⟩⟩, fun _ => ⟨rfl, rfl, rfl, .inl ⟨rfl, (o_ldE (s := s0) (e := (enI .u8)) (n := 1) (f := 0) (v := (.int .u8 (rd p1 1))) rfl rm0 q0 hg29 rfl rfl ⟨rfl, rfl⟩)⟩⟩, trivial⟩, rfl, .inr ⟨[3], rfl, rfl, ⟨rfl, .inl rfl, ?_⟩, trivial⟩⟩
              refine (o_call has121 rfl (c_addr_Unsix X (rd p1 0) _ h9) (pc rm0 pn) ?_)
              refine ⟨[(4, 53, (.int .i64 (ishl .i64 d9 6)))], [5, 6, 7, 4], rfl, rfl, rfl, rfl, ?_⟩
              replace h := bsome h
              obtain ⟨d10, h10, h⟩ := h
              refine ⟨⟨fun _ => ⟨rfl, rfl, rfl, .inl ⟨rfl, (o_shl (m := d9) (n := 6) rfl rfl (by decide) ⟨rfl, rfl⟩)⟩⟩, (fun h => nomatch h), (fun h => nomatch h), (fun h => nomatch h), fun _ => ⟨rfl, rfl, rfl, .inl ⟨rfl, (o_p rfl ⟨rfl, rfl⟩)⟩⟩, fun _ => ⟨rfl, rfl, rfl, .inl ⟨rfl, (o_ix (s := s0) (n := 1) (e := (enI .u8)) rfl rfl rfl rfl rfl rfl rm0 q0 hg29 ⟨rfl, rfl⟩)⟩⟩, fun _ => ⟨rfl, rfl, rfl, .inl ⟨rfl, (o_ldE (s := s0) (e := (enI .u8)) (n := 1) (f := 0) (v := (.int .u8 (rd p1 1))) rfl rm0 q0 hg29 rfl rfl ⟨rfl, rfl⟩)⟩⟩, trivial⟩, rfl, .inr ⟨[8], rfl, rfl, ⟨rfl, .inl rfl, ?_⟩, trivial⟩⟩
              refine (o_call has121 rfl (c_addr_Unsix X (rd p1 1) _ h10) (pc rm0 pn) ?_)
              refine ⟨[(9, 58, (.int .i64 (ibor .i64 (ishl .i64 d9 6) d10))), (10, 4, (.int .i64 (ibor .i64 (ishl .i64 d9 6) d10))), (11, 5, (.int .i64 0))], [4, 9, 10, 11], rfl, rfl, rfl, rfl, ?_⟩
              refine ⟨⟨fun _ => ⟨rfl, rfl, rfl, .inl ⟨rfl, (o_p (v := (.int .i64 (ibor .i64 (ishl .i64 d9 6) d10))) rfl ⟨rfl, rfl⟩)⟩⟩, fun _ => ⟨rfl, rfl, rfl, .inl ⟨rfl, (o_p rfl ⟨rfl, rfl⟩)⟩⟩, fun _ => ⟨rfl, rfl, rfl, .inl ⟨rfl, (o_p rfl ⟨rfl, rfl⟩)⟩⟩, fun _ => ⟨rfl, rfl, rfl, .inl ⟨rfl, (o_shl (m := d9) (n := 6) rfl rfl (by decide) ⟨rfl, rfl⟩)⟩⟩, (fun h => nomatch h), (fun h => nomatch h), (fun h => nomatch h), (fun h => nomatch h), (fun h => nomatch h), (fun h => nomatch h), trivial⟩, rfl, rfl, rfl, ?_⟩
              refine e_seq ?_
              refine c_ret ?_
              refine e_ret ?_
              refine r_endt rfl rfl (kc rm0 kr) ?_
              have hr := Option.some.inj h
              subst hr
              exact hk

theorem c_entry_begin {g : Gw} (X : HP) (p0 : List Int) (s0 : SV) (q0 : Rd X s0 5 (enI .u8) p0) (r : Ventry_Report × (List Int) × Int) (h : m_entry_begin p0 = some r) : Tri env g 63 (List.toArray [(SV.val s0)]) [X] (fun K R => ∀ (i0 : SV), (Rd X i0 5 (enI .u8) r.2.1) → K (.tuple (List.toArray [(.agg (List.toArray [(.int .u8 r.1.AID), (.bool r.1.Short), (.int .i64 r.1.Cursor), (SV.val SV.nil)])), (SV.val i0), (.int .i64 r.2.2)])) (X :: R)) := by
  refine tri_of (fn := Try.f63) (N := 36) Try.func63 rfl rfl rfl ?_
  intro R K hk
  unfold m_entry_begin at h
  change GC _ none _ [] [(0, (SV.val s0))] (X :: R) g _ _
  refine c_seq ?_
  refine c_region ?_
  refine o1 rfl (o_alloc (cs := [(.int .u8 0), (.bool false), (.int .i64 0), (SV.val SV.nil)]) rfl rfl (fun b8 => ?_))
  refine o1 rfl (o_p rfl ?_)
  refine o1 rfl (o_p rfl ?_)
  refine o_end ?_
  refine e_seq ?_
  refine c_seq ?_
  refine c_seq ?_
  refine c_region ?_
  refine o1 rfl (o_p rfl ?_)
  refine o1 rfl (o_len (s := s0) rfl rfl rfl rm1 q0 ?_)
  refine o_end ?_
  refine e_seq ?_
  refine c_block ?_
  refine c_seq ?_
  refine c_seq ?_
  refine c_region ?_
  refine o1 rfl (o_p (v := (.bool ((p0.length : Int) == 0))) rfl ?_)
  refine o1 rfl (o_p rfl ?_)
  refine o_end ?_
  refine e_seq ?_
  replace h := bsome h
  obtain ⟨d2, h, hk2⟩ := h
  refine cj (D := Unit) (ι := Unit) (fun _ i2 => True) (fun _ i2 => [(9, (.bool d2)), (8, (.int .i64 (p0.length : Int))), (2, (.pointer (some ⟨b8, 0, none⟩))), (0, (SV.val s0))]) (fun _ i2 => X :: blk b8 (.cells (List.toArray [(.int .u8 0), (.bool false), (.int .i64 0), (SV.val SV.nil)]) 65 (0, 0)) :: R) ?_ ?_
  · refine c_cond (b := ((p0.length : Int) == 0)) rfl (fun hb10 => ?_) (fun hb10 => ?_)
    · replace h := cond_t hb10 h
      refine c_skip ?_
      have hd := Option.some.inj h
      subst hd
      exact ej () () trivial (sc rfl (sc rfl (sc rfl (sc rfl sn)))) (kc rm1 (kc rm0 kr))
    · replace h := cond_f hb10 h
      refine c_region ?_
      refine o1 rfl (o_p (v := (.bool ((p0.length : Int) == 2))) rfl ?_)
      refine o1 rfl (o_p rfl ?_)
      refine o_end ?_
      have hd := Option.some.inj h
      subst hd
      exact ej () () trivial (sc rfl (sc rfl (sc rfl (sc rfl sn)))) (kc rm1 (kc rm0 kr))
  · rintro _ i2 _
    replace h := hk2
    clear hk2
    refine e_seq ?_
    refine c_cond (b := d2) rfl (fun hb11 => ?_) (fun hb11 => ?_)
    · replace h := cond_t hb11 h
      refine c_seq ?_
      refine c_region ?_
      refine o1 rfl (o_build (fs := [⟨ "AID", 5, 0, false, "", "", 0⟩, ⟨ "Short", 4, 1, false, "", "", 1⟩, ⟨ "Cursor", 3, 2, false, "", "", 8⟩, ⟨ "Entries", 63, 3, false, "", "", 16⟩]) (ps := [(0, 1), (1, 1), (2, 1), (3, 1)]) (cs := [(.int .u8 0), (.bool false), (.int .i64 0), (SV.val SV.nil)]) rfl rfl rfl rfl rfl ?_)
      refine o0 (o_st (b := b8) (off := 0) (vs := [(.int .u8 0), (.bool false), (.int .i64 0), (SV.val SV.nil)]) (cs' := [(.int .u8 0), (.bool false), (.int .i64 0), (SV.val SV.nil)]) rfl rfl rp1 rfl rfl rfl rfl rfl rfl ?_)
      refine o1 rfl (o_p rfl ?_)
      refine o1 rfl (o_p rfl ?_)
      refine o_end ?_
      refine e_seq ?_
      refine c_ret ?_
      refine e_blk_ret ?_
      refine e_then_ret ?_
      refine e_ret ?_
      refine r_endc (B := [[(.int .u8 0), (.bool false), (.int .i64 0), (SV.val SV.nil)]]) rfl ⟨⟨_, _, _, _, rfl, rm1⟩, trivial⟩ rfl (kc rm0 (kd kr)) ?_
      have hr := Option.some.inj h
      subst hr
      exact hk SV.nil (rd_nil _ _ _)
    · replace h := cond_f hb11 h
      refine c_seq ?_
      refine c_region ?_
      refine o1 rfl (o_p (v := (.bool ((p0.length : Int) == 1))) rfl ?_)
      refine o1 rfl (o_p rfl ?_)
      refine o_end ?_
      refine e_seq ?_
      refine c_cond (b := ((p0.length : Int) == 1)) rfl (fun hb12 => ?_) (fun hb12 => ?_)
      · replace h := cond_t hb12 h
        refine c_seq ?_
        refine c_region ?_
        refine o1 rfl (o_p rfl ?_)
        replace h := gsome h
        obtain ⟨hg13, h⟩ := h
        refine o1 rfl (o_ix (s := s0) (n := 0) (e := (enI .u8)) rfl rfl rfl rfl rfl rfl rm0 q0 hg13 ?_)
        refine o1 rfl (o_ldE (s := s0) (e := (enI .u8)) (n := 0) (f := 0) (v := (.int .u8 (rd p0 0))) rfl rm0 q0 hg13 rfl rfl ?_)
        refine o1 rfl (o_build (fs := [⟨ "AID", 5, 0, false, "", "", 0⟩, ⟨ "Short", 4, 1, false, "", "", 1⟩, ⟨ "Cursor", 3, 2, false, "", "", 8⟩, ⟨ "Entries", 63, 3, false, "", "", 16⟩]) (ps := [(0, 1), (1, 1), (2, 1), (3, 1)]) (cs := [(.int .u8 (rd p0 0)), (.bool true), (.int .i64 0), (SV.val SV.nil)]) rfl rfl rfl rfl rfl ?_)
        refine o0 (o_st (b := b8) (off := 0) (vs := [(.int .u8 (rd p0 0)), (.bool true), (.int .i64 0), (SV.val SV.nil)]) (cs' := [(.int .u8 (rd p0 0)), (.bool true), (.int .i64 0), (SV.val SV.nil)]) rfl rfl rp1 rfl rfl rfl rfl rfl rfl ?_)
        refine o1 rfl (o_p rfl ?_)
        refine o1 rfl (o_p rfl ?_)
        refine o_end ?_
        refine e_seq ?_
        refine c_ret ?_
        refine e_blk_ret ?_
        refine e_then_ret ?_
        refine e_ret ?_
        refine r_endc (B := [[(.int .u8 (rd p0 0)), (.bool true), (.int .i64 0), (SV.val SV.nil)]]) rfl ⟨⟨_, _, _, _, rfl, rm1⟩, trivial⟩ rfl (kc rm0 (kd kr)) ?_
        have hr := Option.some.inj h
        subst hr
        exact hk SV.nil (rd_nil _ _ _)
      · replace h := cond_f hb12 h
        refine c_skip ?_
        refine e_blk ?_
        refine e_seq ?_
        refine c_seq ?_
        refine c_region ?_
        refine o1 rfl (o_p rfl ?_)
        replace h := gsome h
        obtain ⟨hg14, h⟩ := h
        refine o1 rfl (o_sl (a := 1) (b := (p0.length : Int)) (m := none) rfl rfl rfl rfl rfl rm0 q0 rfl rfl rfl (by decide) hg14 mx_none (fun s16 hr15 => ?_))
        replace hr15 := rd_tk hr15
        replace h := bsome h
        obtain ⟨d4, h4, h⟩ := h
        refine o1 rfl (o_call has97 rfl (c_addr_Decode X 12 (List.drop 1 p0) s16 hr15 _ h4) (pc rm0 pn) ?_)
        refine o1 rfl (o_p rfl ?_)
        refine o1 rfl (o_p rfl ?_)
        refine o1 rfl (o_p rfl ?_)
        refine o1 rfl (o_p rfl ?_)
        refine o1 rfl (o_p rfl ?_)
        refine o_end ?_
        refine e_seq ?_
        refine c_seq ?_
        refine c_seq ?_
        refine c_region ?_
        refine o1 rfl (o_p rfl ?_)
        refine o1 rfl (o_p (v := (.bool (d4.2 != 0))) rfl ?_)
        refine o_end ?_
        refine e_seq ?_
        refine c_cond (b := (d4.2 != 0)) rfl (fun hb40 => ?_) (fun hb40 => ?_)
        · replace h := cond_t hb40 h
          refine c_seq ?_
          refine c_region ?_
          refine o1 rfl (o_build (fs := [⟨ "AID", 5, 0, false, "", "", 0⟩, ⟨ "Short", 4, 1, false, "", "", 1⟩, ⟨ "Cursor", 3, 2, false, "", "", 8⟩, ⟨ "Entries", 63, 3, false, "", "", 16⟩]) (ps := [(0, 1), (1, 1), (2, 1), (3, 1)]) (cs := [(.int .u8 0), (.bool false), (.int .i64 0), (SV.val SV.nil)]) rfl rfl rfl rfl rfl ?_)
          refine o1 rfl (o_p rfl ?_)
          refine o0 (o_st (b := b8) (off := 0) (vs := [(.int .u8 0), (.bool false), (.int .i64 0), (SV.val SV.nil)]) (cs' := [(.int .u8 0), (.bool false), (.int .i64 0), (SV.val SV.nil)]) rfl rfl rp1 rfl rfl rfl rfl rfl rfl ?_)
          refine o1 rfl (o_p rfl ?_)
          refine o1 rfl (o_p rfl ?_)
          refine o_end ?_
          refine e_seq ?_
          refine c_ret ?_
          refine e_then_ret ?_
          refine e_ret ?_
          refine r_endc (B := [[(.int .u8 0), (.bool false), (.int .i64 0), (SV.val SV.nil)]]) rfl ⟨⟨_, _, _, _, rfl, rm1⟩, trivial⟩ rfl (kc rm0 (kd kr)) ?_
          have hr := Option.some.inj h
          subst hr
          exact hk SV.nil (rd_nil _ _ _)
        · replace h := cond_f hb40 h
          refine c_skip ?_
          refine e_seq ?_
          refine c_seq ?_
          replace h := gsome h
          obtain ⟨hg41, h⟩ := h
          replace h := gsome h
          obtain ⟨hg42, h⟩ := h
          have hr43 : Rd X (SV.cut s0 1 (Int.toNat 3) (Int.toNat (p0.length : Int)) (mxv s0 none)) 5 (enI .u8) (List.drop 3 p0) := rd_tk (Rd.cutv q0 hg42 mx_none)
          refine c_draw (n := 1) (q := [(0, 29, (SV.val s0)), (1, 30, (.pointer (some ⟨SV.blk s0, SV.off s0 + Int.toNat 0 * 1, none⟩))), (2, 31, (.int .u8 (rd p0 0))), (3, 32, (.int .i64 d4.1)), (4, 33, (.agg (List.toArray [(.int .u8 (rd p0 0)), (.bool false), (.int .i64 d4.1), (SV.val SV.nil)]))), (5, 34, (SV.val s0)), (6, 35, (SV.val (SV.cut s0 1 (Int.toNat 3) (Int.toNat (p0.length : Int)) (mxv s0 none))))]) (pend := [0, 1, 2, 3, 4, 5, 6]) rfl rfl rfl ?_
          refine ⟨⟨fun _ => ⟨rfl, rfl, rfl, .inl ⟨rfl, (o_p rfl ⟨rfl, rfl⟩)⟩⟩, fun _ => ⟨rfl, rfl, rfl, .inl ⟨rfl, (o_ix (s := s0) (n := 0) (e := (enI .u8)) rfl rfl rfl rfl rfl rfl rm0 q0 hg41 ⟨rfl, rfl⟩)⟩⟩, fun _ => ⟨rfl, rfl, rfl, .inl ⟨rfl, (o_ldE (s := s0) (e := (enI .u8)) (n := 0) (f := 0) (v := (.int .u8 (rd p0 0))) rfl rm0 q0 hg41 rfl rfl ⟨rfl, rfl⟩)⟩⟩, fun _ => ⟨rfl, rfl, rfl, .inl ⟨rfl, (o_p rfl ⟨rfl, rfl⟩)⟩⟩, fun _ => ⟨rfl, rfl, rfl, .inl ⟨rfl, (o_build (fs := [⟨ "AID", 5, 0, false, "", "", 0⟩, ⟨ "Short", 4, 1, false, "", "", 1⟩, ⟨ "Cursor", 3, 2, false, "", "", 8⟩, ⟨ "Entries", 63, 3, false, "", "", 16⟩]) (ps := [(0, 1), (1, 1), (2, 1), (3, 1)]) (cs := [(.int .u8 (rd p0 0)), (.bool false), (.int .i64 d4.1), (SV.val SV.nil)]) rfl rfl rfl rfl rfl ⟨rfl, rfl⟩)⟩⟩, fun _ => ⟨rfl, rfl, rfl, .inl ⟨rfl, (o_p rfl ⟨rfl, rfl⟩)⟩⟩, fun _ => ⟨rfl, rfl, rfl, .inl ⟨rfl, (o_slx (a := 3) (b := (p0.length : Int)) (m := none) rfl rfl rfl rfl rfl rm0 q0 rfl rfl rfl (by decide) hg42 mx_none ⟨rfl, rfl⟩)⟩⟩, trivial⟩, rfl, .inr ⟨[7], rfl, rfl, ⟨rfl, .inl rfl, ?_⟩, trivial⟩⟩
          refine (o_st (b := b8) (off := 0) (vs := [(.int .u8 (rd p0 0)), (.bool false), (.int .i64 d4.1), (SV.val SV.nil)]) (cs' := [(.int .u8 (rd p0 0)), (.bool false), (.int .i64 d4.1), (SV.val SV.nil)]) rfl rfl rp1 rfl rfl rfl rfl rfl rfl ?_)
          refine ⟨[(8, 3, (SV.val (SV.cut s0 1 (Int.toNat 3) (Int.toNat (p0.length : Int)) (mxv s0 none)))), (9, 4, (.int .i64 0))], [5, 6, 8, 9], rfl, rfl, ?_⟩
          refine ⟨⟨fun _ => ⟨rfl, rfl, rfl, .inl ⟨rfl, (o_p rfl ⟨rfl, rfl⟩)⟩⟩, fun _ => ⟨rfl, rfl, rfl, .inl ⟨rfl, (o_p rfl ⟨rfl, rfl⟩)⟩⟩, (fun h => nomatch h), (fun h => nomatch h), (fun h => nomatch h), (fun h => nomatch h), (fun h => nomatch h), fun _ => ⟨rfl, rfl, rfl, .inl ⟨rfl, (o_p rfl ⟨rfl, rfl⟩)⟩⟩, fun _ => ⟨rfl, rfl, rfl, .inl ⟨rfl, (o_slx (a := 3) (b := (p0.length : Int)) (m := none) rfl rfl rfl rfl rfl rm0 q0 rfl rfl rfl (by decide) hg42 mx_none ⟨rfl, rfl⟩)⟩⟩, trivial⟩, rfl, rfl, rfl, ?_⟩
          refine e_seq ?_
          refine c_ret ?_
          refine e_ret ?_
          refine r_endc (B := [[(.int .u8 (rd p0 0)), (.bool false), (.int .i64 d4.1), (SV.val SV.nil)]]) rfl ⟨⟨_, _, _, _, rfl, rm1⟩, trivial⟩ rfl (kc rm0 (kd kr)) ?_
          have hr := Option.some.inj h
          subst hr
          exact hk (SV.cut s0 1 (Int.toNat 3) (Int.toNat (p0.length : Int)) (mxv s0 none)) hr43

theorem c_order_Name {g : Gw} (X : HP) (p0 : Int) (r : ByteArray) (h : m_order_Name p0 = some r) : Tri env g 129 (List.toArray [(.int .i64 p0)]) [X] (fun K R => K (.string r) (X :: R)) := by
  refine tri_of (fn := Try.f129) (N := 26) Try.func129 rfl rfl rfl ?_
  intro R K hk
  unfold m_order_Name at h
  change GC _ none _ [] [(0, (.int .i64 p0))] (X :: R) g _ _
  refine c_seq ?_
  refine c_region ?_
  refine o1 rfl (o_p rfl ?_)
  refine o_end ?_
  refine e_seq ?_
  refine c_seq ?_
  refine c_seq ?_
  refine c_region ?_
  refine o1 rfl (o_p rfl ?_)
  refine o_end ?_
  refine e_seq ?_
  refine c_block ?_
  refine c_seq ?_
  refine c_region ?_
  refine o1 rfl (o_p (v := (.bool (p0 == 0))) rfl ?_)
  refine o1 rfl (o_p rfl ?_)
  refine o_end ?_
  refine e_seq ?_
  refine c_cond (b := (p0 == 0)) rfl (fun hb54 => ?_) (fun hb54 => ?_)
  · replace h := cond_t hb54 h
    refine c_seq ?_
    refine c_region ?_
    refine o1 rfl (o_p rfl ?_)
    refine o_end ?_
    refine e_seq ?_
    refine c_ret ?_
    refine e_blk_ret ?_
    refine e_then_ret ?_
    refine e_ret ?_
    refine r_endt rfl rfl (kc rm0 kr) ?_
    have hr := Option.some.inj h
    subst hr
    exact hk
  · replace h := cond_f hb54 h
    refine c_seq ?_
    refine c_region ?_
    refine o1 rfl (o_p (v := (.bool (p0 == 5))) rfl ?_)
    refine o1 rfl (o_p rfl ?_)
    refine o_end ?_
    refine e_seq ?_
    refine c_cond (b := (p0 == 5)) rfl (fun hb55 => ?_) (fun hb55 => ?_)
    · replace h := cond_t hb55 h
      refine c_seq ?_
      refine c_region ?_
      refine o1 rfl (o_p rfl ?_)
      refine o_end ?_
      refine e_seq ?_
      refine c_ret ?_
      refine e_blk_ret ?_
      refine e_then_ret ?_
      refine e_ret ?_
      refine r_endt rfl rfl (kc rm0 kr) ?_
      have hr := Option.some.inj h
      subst hr
      exact hk
    · replace h := cond_f hb55 h
      refine c_seq ?_
      refine c_region ?_
      refine o1 rfl (o_p (v := (.bool (p0 == 8))) rfl ?_)
      refine o1 rfl (o_p rfl ?_)
      refine o_end ?_
      refine e_seq ?_
      refine c_cond (b := (p0 == 8)) rfl (fun hb56 => ?_) (fun hb56 => ?_)
      · replace h := cond_t hb56 h
        refine c_seq ?_
        refine c_region ?_
        refine o1 rfl (o_p rfl ?_)
        refine o_end ?_
        refine e_seq ?_
        refine c_ret ?_
        refine e_blk_ret ?_
        refine e_then_ret ?_
        refine e_ret ?_
        refine r_endt rfl rfl (kc rm0 kr) ?_
        have hr := Option.some.inj h
        subst hr
        exact hk
      · replace h := cond_f hb56 h
        refine c_seq ?_
        refine c_region ?_
        refine o1 rfl (o_p (v := (.bool (p0 == 17))) rfl ?_)
        refine o1 rfl (o_p rfl ?_)
        refine o_end ?_
        refine e_seq ?_
        refine c_cond (b := (p0 == 17)) rfl (fun hb57 => ?_) (fun hb57 => ?_)
        · replace h := cond_t hb57 h
          refine c_seq ?_
          refine c_region ?_
          refine o1 rfl (o_p rfl ?_)
          refine o_end ?_
          refine e_seq ?_
          refine c_ret ?_
          refine e_blk_ret ?_
          refine e_then_ret ?_
          refine e_ret ?_
          refine r_endt rfl rfl (kc rm0 kr) ?_
          have hr := Option.some.inj h
          subst hr
          exact hk
        · replace h := cond_f hb57 h
          refine c_seq ?_
          refine c_region ?_
          refine o1 rfl (o_p (v := (.bool (p0 == 18))) rfl ?_)
          refine o1 rfl (o_p rfl ?_)
          refine o_end ?_
          refine e_seq ?_
          refine c_cond (b := (p0 == 18)) rfl (fun hb58 => ?_) (fun hb58 => ?_)
          · replace h := cond_t hb58 h
            refine c_seq ?_
            refine c_region ?_
            refine o1 rfl (o_p rfl ?_)
            refine o_end ?_
            refine e_seq ?_
            refine c_ret ?_
            refine e_blk_ret ?_
            refine e_then_ret ?_
            refine e_ret ?_
            refine r_endt rfl rfl (kc rm0 kr) ?_
            have hr := Option.some.inj h
            subst hr
            exact hk
          · replace h := cond_f hb58 h
            refine c_seq ?_
            refine c_region ?_
            refine o1 rfl (o_p (v := (.bool (p0 == 19))) rfl ?_)
            refine o1 rfl (o_p rfl ?_)
            refine o_end ?_
            refine e_seq ?_
            refine c_cond (b := (p0 == 19)) rfl (fun hb59 => ?_) (fun hb59 => ?_)
            · replace h := cond_t hb59 h
              refine c_seq ?_
              refine c_region ?_
              refine o1 rfl (o_p rfl ?_)
              refine o_end ?_
              refine e_seq ?_
              refine c_ret ?_
              refine e_blk_ret ?_
              refine e_then_ret ?_
              refine e_ret ?_
              refine r_endt rfl rfl (kc rm0 kr) ?_
              have hr := Option.some.inj h
              subst hr
              exact hk
            · replace h := cond_f hb59 h
              refine c_seq ?_
              refine c_region ?_
              refine o1 rfl (o_p (v := (.bool (p0 == 29))) rfl ?_)
              refine o1 rfl (o_p rfl ?_)
              refine o_end ?_
              refine e_seq ?_
              refine c_cond (b := (p0 == 29)) rfl (fun hb60 => ?_) (fun hb60 => ?_)
              · replace h := cond_t hb60 h
                refine c_seq ?_
                refine c_region ?_
                refine o1 rfl (o_p rfl ?_)
                refine o_end ?_
                refine e_seq ?_
                refine c_ret ?_
                refine e_blk_ret ?_
                refine e_then_ret ?_
                refine e_ret ?_
                refine r_endt rfl rfl (kc rm0 kr) ?_
                have hr := Option.some.inj h
                subst hr
                exact hk
              · replace h := cond_f hb60 h
                refine c_seq ?_
                refine c_region ?_
                refine o1 rfl (o_p (v := (.bool (p0 == 40))) rfl ?_)
                refine o1 rfl (o_p rfl ?_)
                refine o_end ?_
                refine e_seq ?_
                refine c_cond (b := (p0 == 40)) rfl (fun hb61 => ?_) (fun hb61 => ?_)
                · replace h := cond_t hb61 h
                  refine c_seq ?_
                  refine c_region ?_
                  refine o1 rfl (o_p rfl ?_)
                  refine o_end ?_
                  refine e_seq ?_
                  refine c_ret ?_
                  refine e_blk_ret ?_
                  refine e_then_ret ?_
                  refine e_ret ?_
                  refine r_endt rfl rfl (kc rm0 kr) ?_
                  have hr := Option.some.inj h
                  subst hr
                  exact hk
                · replace h := cond_f hb61 h
                  refine c_seq ?_
                  refine c_region ?_
                  refine o1 rfl (o_p (v := (.bool (p0 == 41))) rfl ?_)
                  refine o1 rfl (o_p rfl ?_)
                  refine o_end ?_
                  refine e_seq ?_
                  refine c_cond (b := (p0 == 41)) rfl (fun hb62 => ?_) (fun hb62 => ?_)
                  · replace h := cond_t hb62 h
                    refine c_seq ?_
                    refine c_region ?_
                    refine o1 rfl (o_p rfl ?_)
                    refine o_end ?_
                    refine e_seq ?_
                    refine c_ret ?_
                    refine e_blk_ret ?_
                    refine e_then_ret ?_
                    refine e_ret ?_
                    refine r_endt rfl rfl (kc rm0 kr) ?_
                    have hr := Option.some.inj h
                    subst hr
                    exact hk
                  · replace h := cond_f hb62 h
                    refine c_seq ?_
                    refine c_region ?_
                    refine o1 rfl (o_p (v := (.bool (p0 == 44))) rfl ?_)
                    refine o1 rfl (o_p rfl ?_)
                    refine o_end ?_
                    refine e_seq ?_
                    refine c_cond (b := (p0 == 44)) rfl (fun hb63 => ?_) (fun hb63 => ?_)
                    · replace h := cond_t hb63 h
                      refine c_seq ?_
                      refine c_region ?_
                      refine o1 rfl (o_p rfl ?_)
                      refine o_end ?_
                      refine e_seq ?_
                      refine c_ret ?_
                      refine e_blk_ret ?_
                      refine e_then_ret ?_
                      refine e_ret ?_
                      refine r_endt rfl rfl (kc rm0 kr) ?_
                      have hr := Option.some.inj h
                      subst hr
                      exact hk
                    · replace h := cond_f hb63 h
                      refine c_seq ?_
                      refine c_region ?_
                      refine o1 rfl (o_p (v := (.bool (p0 == 60))) rfl ?_)
                      refine o1 rfl (o_p rfl ?_)
                      refine o_end ?_
                      refine e_seq ?_
                      refine c_cond (b := (p0 == 60)) rfl (fun hb64 => ?_) (fun hb64 => ?_)
                      · replace h := cond_t hb64 h
                        refine c_seq ?_
                        refine c_region ?_
                        refine o1 rfl (o_p rfl ?_)
                        refine o_end ?_
                        refine e_seq ?_
                        refine c_ret ?_
                        refine e_blk_ret ?_
                        refine e_then_ret ?_
                        refine e_ret ?_
                        refine r_endt rfl rfl (kc rm0 kr) ?_
                        have hr := Option.some.inj h
                        subst hr
                        exact hk
                      · replace h := cond_f hb64 h
                        refine c_skip ?_
                        refine e_blk ?_
                        refine e_seq ?_
                        refine c_seq ?_
                        refine c_region ?_
                        refine o1 rfl (o_p rfl ?_)
                        refine o_end ?_
                        refine e_seq ?_
                        refine c_ret ?_
                        refine e_ret ?_
                        refine r_endt rfl rfl (kc rm0 kr) ?_
                        have hr := Option.some.inj h
                        subst hr
                        exact hk

theorem c_order_Is {g : Gw} (X : HP) (p0 : Int) (r : Bool) (h : m_order_Is p0 = some r) : Tri env g 104 (List.toArray [(.int .u8 p0)]) [X] (fun K R => K (.bool r) (X :: R)) := by
  refine tri_of (fn := Try.f104) (N := 11) Try.func104 rfl rfl rfl ?_
  intro R K hk
  unfold m_order_Is at h
  change GC _ none _ [] [(0, (.int .u8 p0))] (X :: R) g _ _
  refine c_seq ?_
  refine c_region ?_
  refine o1 rfl (o_p rfl ?_)
  refine o_end ?_
  refine e_seq ?_
  refine c_seq ?_
  replace h := bsome h
  obtain ⟨d1, h, hk1⟩ := h
  refine cj (D := Unit) (ι := Unit) (fun _ i1 => True) (fun _ i1 => [(2, (.bool d1))]) (fun _ i1 => X :: R) ?_ ?_
  · refine c_region ?_
    refine o1 rfl (o_p rfl ?_)
    refine o1 rfl (o_p (v := (.bool (p0 != 0))) rfl ?_)
    refine o1 rfl (o_p rfl ?_)
    rcases bool_or ((p0 != 0)) with hb53 | hb53
    · replace h := cond_t hb53 h
      refine oy rfl rfl rfl hb53 (o_p rfl ?_)
      refine oy rfl rfl rfl hb53 (o_p (v := (.int .i64 (w64 (p0)))) rfl ?_)
      replace h := bsome h
      obtain ⟨d2, h2, h⟩ := h
      refine oy rfl rfl rfl hb53 (o_call has129 rfl (c_order_Name X (w64 (p0)) _ h2) (pc rm0 pn) ?_)
      refine oy rfl rfl rfl hb53 (o_p (v := (.bool (!(d2.data.toList == (ByteArray.mk (List.toArray [])).data.toList)))) rfl ?_)
      refine o1 rfl (o_pick_t rfl hb53 rfl ?_)
      refine o1 rfl (o_p rfl ?_)
      refine o_end ?_
      have hd := Option.some.inj h
      subst hd
      exact ej () () trivial (sc rfl sn) (kc rm0 kr)
    · replace h := cond_f hb53 h
      refine on rfl rfl rfl hb53 ?_
      refine on rfl rfl rfl hb53 ?_
      refine on rfl rfl rfl hb53 ?_
      refine on rfl rfl rfl hb53 ?_
      refine o1 rfl (o_pick_f rfl hb53 rfl ?_)
      refine o1 rfl (o_p rfl ?_)
      refine o_end ?_
      have hd := Option.some.inj h
      subst hd
      exact ej () () trivial (sc rfl sn) (kc rm0 kr)
  · rintro _ i1 _
    replace h := hk1
    clear hk1
    refine e_seq ?_
    refine c_ret ?_
    refine e_ret ?_
    refine r_endt rfl rfl (kc rm0 kr) ?_
    have hr := Option.some.inj h
    subst hr
    exact hk

theorem c_order_scanner_fail {g : Gw} (X : HP) (p0 : Vorder_scanner) (b0 : Nat) (s0 : SV) (q0 : Rd X s0 5 (enI .u8) p0.p) (p1 : Int) (r : Vorder_scanner) (h : m_order_scanner_fail p0 p1 = some r) : Tri env g 138 (List.toArray [(.pointer (some ⟨b0, 0, none⟩)), (.int .i64 p1)]) [X, blk b0 (.cells (List.toArray [(SV.val s0), (.int .i64 p0.code)]) 188 (0, 0))] (fun K R => (Rd X s0 5 (enI .u8) r.p) → K (.tuple (List.toArray [])) (X :: blk b0 (.cells (List.toArray [(SV.val s0), (.int .i64 r.code)]) 188 (0, 0)) :: R)) := by
  refine tri_of (fn := Try.f138) (N := 13) Try.func138 rfl rfl rfl ?_
  intro R K hk
  unfold m_order_scanner_fail at h
  change GC _ none _ [] [(0, (.pointer (some ⟨b0, 0, none⟩))), (1, (.int .i64 p1))] (X :: blk b0 (.cells (List.toArray [(SV.val s0), (.int .i64 p0.code)]) 188 (0, 0)) :: R) g _ _
  refine c_seq ?_
  refine c_region ?_
  refine o1 rfl (o_p rfl ?_)
  refine o1 rfl (o_p rfl ?_)
  refine o1 rfl (o_fa (fd := ⟨ "code", 32, 1, false, "", "vitrine/order", 24⟩) rfl rfl rfl rfl rfl ?_)
  refine o1 rfl (o_ld (b := b0) (off := 1) (v := (.int .i64 p0.code)) rfl rm1 rfl rfl ?_)
  refine o1 rfl (o_p (v := (.bool (p0.code == 0))) rfl ?_)
  refine o_end ?_
  refine e_seq ?_
  refine c_cond (b := (p0.code == 0)) rfl (fun hb76 => ?_) (fun hb76 => ?_)
  · replace h := cond_t hb76 h
    refine c_region ?_
    refine o1 rfl (o_p rfl ?_)
    refine o1 rfl (o_p rfl ?_)
    refine o1 rfl (o_p rfl ?_)
    refine o1 rfl (o_fa (fd := ⟨ "code", 32, 1, false, "", "vitrine/order", 24⟩) rfl rfl rfl rfl rfl ?_)
    refine o0 (o_st (b := b0) (off := 1) (vs := [(.int .i64 p1)]) (cs' := [(SV.val s0), (.int .i64 p1)]) rfl rfl rp1 rfl rfl rfl rfl rfl rfl ?_)
    refine o_end ?_
    refine e_fall ?_
    refine r_endt rfl rfl (kc rm0 (kc rm0 kr)) ?_
    have hr := Option.some.inj h
    subst hr
    exact hk q0
  · replace h := cond_f hb76 h
    refine c_skip ?_
    refine e_fall ?_
    refine r_endt rfl rfl (kc rm0 (kc rm0 kr)) ?_
    have hr := Option.some.inj h
    subst hr
    exact hk q0

theorem c_order_scanner_take {g : Gw} (X : HP) (p0 : Vorder_scanner) (b0 : Nat) (s0 : SV) (q0 : Rd X s0 5 (enI .u8) p0.p) (p1 : Int) (r : Vorder_scanner × (List Int)) (h : m_order_scanner_take p0 p1 = some r) : Tri env g 123 (List.toArray [(.pointer (some ⟨b0, 0, none⟩)), (.int .i64 p1)]) [X, blk b0 (.cells (List.toArray [(SV.val s0), (.int .i64 p0.code)]) 188 (0, 0))] (fun K R => ∀ (i0 : HP × SV × SV), (Rd i0.1 i0.2.1 5 (enI .u8) r.1.p) → (Rd i0.1 i0.2.2 5 (enI .u8) r.2) → (Ext X i0.1) → K (SV.val i0.2.2) (i0.1 :: blk b0 (.cells (List.toArray [(SV.val i0.2.1), (.int .i64 r.1.code)]) 188 (0, 0)) :: R)) := by
  refine tri_of (fn := Try.f123) (N := 37) Try.func123 rfl rfl rfl ?_
  intro R K hk
  unfold m_order_scanner_take at h
  change GC _ none _ [] [(0, (.pointer (some ⟨b0, 0, none⟩))), (1, (.int .i64 p1))] (X :: blk b0 (.cells (List.toArray [(SV.val s0), (.int .i64 p0.code)]) 188 (0, 0)) :: R) g _ _
  refine c_seq ?_
  refine c_region ?_
  refine o1 rfl (o_p rfl ?_)
  refine o_end ?_
  refine e_seq ?_
  refine c_seq ?_
  refine c_seq ?_
  refine c_region ?_
  refine o1 rfl (o_p rfl ?_)
  refine o1 rfl (o_p rfl ?_)
  refine o1 rfl (o_fa (fd := ⟨ "p", 31, 0, false, "", "vitrine/order", 0⟩) rfl rfl rfl rfl rfl ?_)
  refine o1 rfl (o_ld (b := b0) (off := 0) (v := (SV.val s0)) rfl rm1 rfl rfl ?_)
  refine o1 rfl (o_len (s := s0) rfl rfl rfl rm0 q0 ?_)
  refine o1 rfl (o_p rfl ?_)
  refine o1 rfl (o_p (v := (.bool (decide ((p0.p.length : Int) < p1)))) rfl ?_)
  refine o_end ?_
  refine e_seq ?_
  refine c_cond (b := (decide ((p0.p.length : Int) < p1))) rfl (fun hb75 => ?_) (fun hb75 => ?_)
  · replace h := cond_t hb75 h
    refine c_seq ?_
    refine c_region ?_
    refine o1 rfl (o_p rfl ?_)
    replace h := bsome h
    obtain ⟨d2, h2, h⟩ := h
    refine o1 rfl (o_call has138 rfl (c_order_scanner_fail X p0 b0 s0 q0 2 _ h2) (pc rm0 (pc rm0 pn)) (fun f2_0 => ?_))
    refine o_end ?_
    refine e_seq ?_
    refine c_seq ?_
    refine c_region ?_
    refine o1 rfl (o_p rfl ?_)
    refine o1 rfl (o_p rfl ?_)
    refine o1 rfl (o_fa (fd := ⟨ "p", 31, 0, false, "", "vitrine/order", 0⟩) rfl rfl rfl rfl rfl ?_)
    refine o0 (o_st (b := b0) (off := 0) (vs := [(SV.val SV.nil)]) (cs' := [(SV.val SV.nil), (.int .i64 d2.code)]) rfl rfl rp1 rfl rfl rfl rfl rfl rfl ?_)
    refine o_end ?_
    refine e_seq ?_
    refine c_seq ?_
    refine c_region ?_
    refine o1 rfl (o_p rfl ?_)
    replace h := gsome h
    obtain ⟨hg77, h⟩ := h
    refine o1 rfl (o_mk (e := (enI .u8)) (z := 0) (zs := [(.int .u8 0)]) rfl rfl rfl rfl rfl rfl rfl rfl rfl hg77 (fun s78 => ?_))
    refine o1 rfl (o_p rfl ?_)
    refine o_end ?_
    refine e_seq ?_
    refine c_ret ?_
    refine e_then_ret ?_
    refine e_ret ?_
    refine r_fz rm0 rm0 (fun X87 hx88 hs89 => ?_)
    refine r_endt rfl rfl (kc rm0 (kc rm0 kr)) ?_
    have hr := Option.some.inj h
    subst hr
    exact hk (X87, SV.nil, s78) (rd_nil _ _ _) hs89 hx88
  · replace h := cond_f hb75 h
    refine c_skip ?_
    refine e_seq ?_
    refine c_seq ?_
    refine c_region ?_
    refine o1 rfl (o_p rfl ?_)
    refine o1 rfl (o_p rfl ?_)
    refine o1 rfl (o_fa (fd := ⟨ "p", 31, 0, false, "", "vitrine/order", 0⟩) rfl rfl rfl rfl rfl ?_)
    refine o1 rfl (o_ld (b := b0) (off := 0) (v := (SV.val s0)) rfl rm1 rfl rfl ?_)
    refine o1 rfl (o_p rfl ?_)
    refine o1 rfl (o_p rfl ?_)
    replace h := gsome h
    obtain ⟨hg80, h⟩ := h
    replace h := gsome h
    obtain ⟨hg81, h⟩ := h
    refine o1 rfl (o_sl (a := 0) (b := p1) (m := (some p1)) rfl rfl rfl rfl rfl rm0 q0 rfl rfl rfl (by decide) hg80 (mx_some hg81) (fun s83 hr82 => ?_))
    refine o1 rfl (o_p rfl ?_)
    refine o_end ?_
    refine e_seq ?_
    refine c_seq ?_
    refine c_region ?_
    refine o1 rfl (o_p rfl ?_)
    refine o1 rfl (o_p rfl ?_)
    refine o1 rfl (o_p rfl ?_)
    refine o1 rfl (o_fa (fd := ⟨ "p", 31, 0, false, "", "vitrine/order", 0⟩) rfl rfl rfl rfl rfl ?_)
    refine o1 rfl (o_ld (b := b0) (off := 0) (v := (SV.val s0)) rfl rm1 rfl rfl ?_)
    refine o1 rfl (o_p rfl ?_)
    replace h := gsome h
    obtain ⟨hg84, h⟩ := h
    refine o1 rfl (o_sl (a := p1) (b := (p0.p.length : Int)) (m := none) rfl rfl rfl rfl rfl rm0 q0 rfl rfl rfl (by decide) hg84 mx_none (fun s86 hr85 => ?_))
    replace hr85 := rd_tk hr85
    refine o1 rfl (o_p rfl ?_)
    refine o1 rfl (o_fa (fd := ⟨ "p", 31, 0, false, "", "vitrine/order", 0⟩) rfl rfl rfl rfl rfl ?_)
    refine o0 (o_st (b := b0) (off := 0) (vs := [(SV.val s86)]) (cs' := [(SV.val s86), (.int .i64 p0.code)]) rfl rfl rp1 rfl rfl rfl rfl rfl rfl ?_)
    refine o_end ?_
    refine e_seq ?_
    refine c_seq ?_
    refine c_region ?_
    refine o1 rfl (o_p rfl ?_)
    refine o1 rfl (o_p rfl ?_)
    refine o_end ?_
    refine e_seq ?_
    refine c_ret ?_
    refine e_ret ?_
    refine r_endt rfl rfl (kc rm0 (kc rm0 kr)) ?_
    have hr := Option.some.inj h
    subst hr
    exact hk (X, s86, s83) hr85 hr82 (Ext.refl _)

theorem c_bytes_Clone {g : Gw} (X : HP) (p0 : List Int) (s0 : SV) (q0 : Rd X s0 5 (enI .u8) p0) (r : (List Int)) (h : m_bytes_Clone p0 = some r) : Tri env g 117 (List.toArray [(SV.val s0)]) [X] (fun K R => ∀ (i0 : SV), K (SV.val i0) (X :: slO i0 5 (enI .u8) r :: R)) := by
  refine tri_of (fn := Try.f117) (N := 8) Try.func117 rfl rfl rfl ?_
  intro R K hk
  unfold m_bytes_Clone at h
  change GC _ none _ [] [(0, (SV.val s0))] (X :: R) g _ _
  refine c_seq ?_
  refine c_region ?_
  refine o1 rfl (o_p rfl ?_)
  refine o_end ?_
  refine e_seq ?_
  refine c_seq ?_
  refine c_seq ?_
  refine c_region ?_
  refine o1 rfl (o_p rfl ?_)
  refine o1 rfl (o_eqnil rfl rfl rfl ?_)
  refine o_end ?_
  refine e_seq ?_
  refine c_nilq rm0 q0 (fun h1 h2 => ?_) (fun h1 => ?_)
  · subst h1
    subst h2
    refine c_cond_t rfl rfl ?_
    refine c_seq ?_
    refine c_region ?_
    refine o1 rfl (o_p rfl ?_)
    refine o_end ?_
    refine e_seq ?_
    refine c_ret ?_
    refine e_then_ret ?_
    refine e_ret ?_
    obtain ⟨_, h⟩ := gsome h
    have hr := Option.some.inj h
    subst hr
    refine r_add (slO SV.nil 5 (enI .u8) []) (slO_nil _ _ _) ?_
    refine r_endt rfl rfl (kc rm1 (kc rm0 kr)) ?_
    exact hk SV.nil
  · refine c_cond_f rfl h1 ?_
    refine c_skip ?_
    refine e_seq ?_
    refine c_seq ?_
    refine c_region ?_
    refine o1 rfl (o_bs (e := (enI .u8)) (l := ([] : List Int)) (zs := [(.int .u8 0)]) rfl rfl rfl rfl rfl rfl rfl rfl rfl rfl (fun s1 => ?_))
    refine o1 rfl (o_p rfl ?_)
    obtain ⟨hg, h⟩ := gsome h
    have hr := Option.some.inj h
    subst hr
    refine o1 rfl (o_app (s := s1) (r := s0) (e := (enI .u8)) (l := ([] : List Int)) (l2 := p0) (zs := [(.int .u8 0)]) rfl rfl rfl rfl rfl rfl rfl rfl rfl rfl rfl rm0 rm0 q0 (by simpa using hg) (fun s2 => ?_))
    refine o1 rfl (o_p rfl ?_)
    refine o_end ?_
    refine e_seq ?_
    refine c_ret ?_
    refine e_ret ?_
    refine r_endt rfl rfl (kc rm1 (kc rm0 kr)) ?_
    exact hk s2

theorem c_order_scanner_text {g : Gw} (X : HP) (p0 : Vorder_scanner) (b0 : Nat) (s0 : SV) (q0 : Rd X s0 5 (enI .u8) p0.p) (r : Vorder_scanner × (List Int)) (h : m_order_scanner_text p0 = some r) : Tri env g 122 (List.toArray [(.pointer (some ⟨b0, 0, none⟩))]) [X, blk b0 (.cells (List.toArray [(SV.val s0), (.int .i64 p0.code)]) 188 (0, 0))] (fun K R => ∀ (i0 : HP × SV × SV), (Rd i0.1 i0.2.1 5 (enI .u8) r.1.p) → (Ext X i0.1) → K (SV.val i0.2.2) (i0.1 :: blk b0 (.cells (List.toArray [(SV.val i0.2.1), (.int .i64 r.1.code)]) 188 (0, 0)) :: slO i0.2.2 5 (enI .u8) r.2 :: R)) := by
  refine tri_of (fn := Try.f122) (N := 28) Try.func122 rfl rfl rfl ?_
  intro R K hk
  unfold m_order_scanner_text at h
  change GC _ none _ [] [(0, (.pointer (some ⟨b0, 0, none⟩)))] (X :: blk b0 (.cells (List.toArray [(SV.val s0), (.int .i64 p0.code)]) 188 (0, 0)) :: R) g _ _
  refine c_seq ?_
  refine c_region ?_
  refine o1 rfl (o_p rfl ?_)
  refine o_end ?_
  refine e_seq ?_
  refine c_seq ?_
  refine c_region ?_
  refine o1 rfl (o_p rfl ?_)
  refine o_end ?_
  refine e_seq ?_
  refine c_seq ?_
  replace h := bsome h
  obtain ⟨d1, h, hk1⟩ := h
  refine cj (D := Unit) (ι := Unit) (fun _ i1 => True) (fun _ i1 => [(3, (.int .i64 d1)), (0, (.pointer (some ⟨b0, 0, none⟩)))]) (fun _ i1 => X :: blk b0 (.cells (List.toArray [(SV.val s0), (.int .i64 p0.code)]) 188 (0, 0)) :: R) ?_ ?_
  · refine c_block ?_
    refine c_loop (l_sub (sc rfl (sc rfl sn)) (l_keep (kc rm0 (kc rm0 kr)) (lf (X := Int) (ι := Unit) (fun k x => order_scanner_text_l2 p0 k x) _ (fun x2 i2 => True) (fun x2 i2 => [(3, (.int .i64 x2)), (0, (.pointer (some ⟨b0, 0, none⟩)))]) (fun x2 i2 => X :: blk b0 (.cells (List.toArray [(SV.val s0), (.int .i64 p0.code)]) 188 (0, 0)) :: R) (fun _ => rfl) ?_ fuel 0 () trivial h)))
    clear h
    rintro k2 ih2 x2 i2 _ h
    rw [order_scanner_text_l2.eq_2] at h
    refine l_round ?_
    refine c_seq ?_
    refine c_seq ?_
    replace h := bsome h
    obtain ⟨d3, h, hk3⟩ := h
    refine cj (D := Unit) (ι := Unit) (fun _ i3 => True) (fun _ i3 => [(21, (.bool d3)), (3, (.int .i64 x2)), (0, (.pointer (some ⟨b0, 0, none⟩)))]) (fun _ i3 => X :: blk b0 (.cells (List.toArray [(SV.val s0), (.int .i64 p0.code)]) 188 (0, 0)) :: R) ?_ ?_
    · refine c_region ?_
      refine o1 rfl (o_p rfl ?_)
      refine o1 rfl (o_p rfl ?_)
      refine o1 rfl (o_p rfl ?_)
      refine o1 rfl (o_fa (fd := ⟨ "p", 31, 0, false, "", "vitrine/order", 0⟩) rfl rfl rfl rfl rfl ?_)
      refine o1 rfl (o_ld (b := b0) (off := 0) (v := (SV.val s0)) rfl rm1 rfl rfl ?_)
      refine o1 rfl (o_len (s := s0) rfl rfl rfl rm0 q0 ?_)
      refine o1 rfl (o_p (v := (.bool (decide (x2 < (p0.p.length : Int))))) rfl ?_)
      refine o1 rfl (o_p rfl ?_)
      rcases bool_or ((decide (x2 < (p0.p.length : Int)))) with hb72 | hb72
      · replace h := cond_t hb72 h
        refine oy rfl rfl rfl hb72 (o_p rfl ?_)
        refine oy rfl rfl rfl hb72 (o_p rfl ?_)
        refine oy rfl rfl rfl hb72 (o_fa (fd := ⟨ "p", 31, 0, false, "", "vitrine/order", 0⟩) rfl rfl rfl rfl rfl ?_)
        refine oy rfl rfl rfl hb72 (o_ld (b := b0) (off := 0) (v := (SV.val s0)) rfl rm1 rfl rfl ?_)
        refine oy rfl rfl rfl hb72 (o_p rfl ?_)
        replace h := gsome h
        obtain ⟨hg73, h⟩ := h
        refine oy rfl rfl rfl hb72 (o_ix (s := s0) (n := x2) (e := (enI .u8)) rfl rfl rfl rfl rfl rfl rm0 q0 hg73 ?_)
        refine oy rfl rfl rfl hb72 (o_ldE (s := s0) (e := (enI .u8)) (n := x2) (f := 0) (v := (.int .u8 (rd p0.p x2))) rfl rm0 q0 hg73 rfl rfl ?_)
        replace h := bsome h
        obtain ⟨d4, h4, h⟩ := h
        refine oy rfl rfl rfl hb72 (o_call has104 rfl (c_order_Is X (rd p0.p x2) _ h4) (pc rm0 pn) ?_)
        refine oy rfl rfl rfl hb72 (o_p (v := (.bool (!d4))) rfl ?_)
        refine o1 rfl (o_pick_t rfl hb72 rfl ?_)
        refine o_end ?_
        have hd := Option.some.inj h
        subst hd
        exact ej () () trivial (sc rfl (sc rfl (sc rfl sn))) (kc rm0 (kc rm0 kr))
      · replace h := cond_f hb72 h
        refine on rfl rfl rfl hb72 ?_
        refine on rfl rfl rfl hb72 ?_
        refine on rfl rfl rfl hb72 ?_
        refine on rfl rfl rfl hb72 ?_
        refine on rfl rfl rfl hb72 ?_
        refine on rfl rfl rfl hb72 ?_
        refine on rfl rfl rfl hb72 ?_
        refine on rfl rfl rfl hb72 ?_
        refine on rfl rfl rfl hb72 ?_
        refine o1 rfl (o_pick_f rfl hb72 rfl ?_)
        refine o_end ?_
        have hd := Option.some.inj h
        subst hd
        exact ej () () trivial (sc rfl (sc rfl (sc rfl sn))) (kc rm0 (kc rm0 kr))
    · rintro _ i3 _
      replace h := hk3
      clear hk3
      refine e_seq ?_
      refine c_cond (b := d3) rfl (fun hb74 => ?_) (fun hb74 => ?_)
      · replace h := cond_t hb74 h
        refine c_skip ?_
        refine e_seq ?_
        refine c_block ?_
        refine c_region ?_
        refine o1 rfl (o_p rfl ?_)
        refine o1 rfl (o_p (v := (.int .i64 (w64 (x2 + 1)))) rfl ?_)
        refine o1 rfl (o_p rfl ?_)
        refine o_end ?_
        refine e_blk ?_
        exact e_loop (l_sub (sc rfl (sc rfl sn)) (l_keep (kc rm0 (kc rm0 kr)) (ih2 (w64 (x2 + 1)) () trivial h)))
      · replace h := cond_f hb74 h
        refine c_exit ?_
        refine e_then_exit ?_
        refine e_then_exit ?_
        refine e_blk_exit ?_
        have hd := Option.some.inj h
        subst hd
        exact ej () () trivial (sc rfl (sc rfl sn)) (kc rm0 (kc rm0 kr))
  · rintro _ i1 _
    replace h := hk1
    clear hk1
    refine e_seq ?_
    refine c_seq ?_
    refine c_region ?_
    refine o1 rfl (o_p rfl ?_)
    refine o1 rfl (o_p rfl ?_)
    replace h := bsome h
    obtain ⟨d6, h6, h⟩ := h
    refine o1 rfl (o_call has123 rfl (c_order_scanner_take X p0 b0 s0 q0 d1 _ h6) (pc rm0 (pc rm0 pn)) (fun i6 f6_0 f6_1 f6_2 => ?_))
    replace h := bsome h
    obtain ⟨d7, h7, h⟩ := h
    refine o1 rfl (o_call has117 rfl (c_bytes_Clone i6.1 d6.2 i6.2.2 f6_1 _ h7) (pc rm0 pn) (fun i7 => ?_))
    refine o1 rfl (o_p rfl ?_)
    refine o_end ?_
    refine e_seq ?_
    refine c_ret ?_
    refine e_ret ?_
    refine r_endt rfl rfl (kc rm0 (kc rm1 (kc rm0 kr))) ?_
    have hr := Option.some.inj h
    subst hr
    exact hk (i6.1, i6.2.1, i7) f6_0 f6_2

theorem c_order_scanner_addr {g : Gw} (X : HP) (p0 : Vorder_scanner) (b0 : Nat) (s0 : SV) (q0 : Rd X s0 5 (enI .u8) p0.p) (r : Vorder_scanner × Int) (h : m_order_scanner_addr p0 = some r) : Tri env g 124 (List.toArray [(.pointer (some ⟨b0, 0, none⟩))]) [X, blk b0 (.cells (List.toArray [(SV.val s0), (.int .i64 p0.code)]) 188 (0, 0))] (fun K R => ∀ (i0 : HP × SV), (Rd i0.1 i0.2 5 (enI .u8) r.1.p) → (Ext X i0.1) → K (.int .i64 r.2) (i0.1 :: blk b0 (.cells (List.toArray [(SV.val i0.2), (.int .i64 r.1.code)]) 188 (0, 0)) :: R)) := by
  refine tri_of (fn := Try.f124) (N := 24) Try.func124 rfl rfl rfl ?_
  intro R K hk
  unfold m_order_scanner_addr at h
  change GC _ none _ [] [(0, (.pointer (some ⟨b0, 0, none⟩)))] (X :: blk b0 (.cells (List.toArray [(SV.val s0), (.int .i64 p0.code)]) 188 (0, 0)) :: R) g _ _
  refine c_seq ?_
  refine c_region ?_
  refine o1 rfl (o_p rfl ?_)
  refine o_end ?_
  refine e_seq ?_
  refine c_seq ?_
  refine c_region ?_
  refine o1 rfl (o_p rfl ?_)
  replace h := bsome h
  obtain ⟨d1, h1, h⟩ := h
  refine o1 rfl (o_call has123 rfl (c_order_scanner_take X p0 b0 s0 q0 2 _ h1) (pc rm0 (pc rm0 pn)) (fun i1 f1_0 f1_1 f1_2 => ?_))
  refine o1 rfl (o_p rfl ?_)
  refine o_end ?_
  refine e_seq ?_
  refine c_seq ?_
  refine c_seq ?_
  refine c_region ?_
  refine o1 rfl (o_p rfl ?_)
  refine o1 rfl (o_p rfl ?_)
  refine o1 rfl (o_fa (fd := ⟨ "code", 32, 1, false, "", "vitrine/order", 24⟩) rfl rfl rfl rfl rfl ?_)
  refine o1 rfl (o_ld (b := b0) (off := 1) (v := (.int .i64 d1.1.code)) rfl rm1 rfl rfl ?_)
  refine o1 rfl (o_p (v := (.bool (d1.1.code != 0))) rfl ?_)
  refine o_end ?_
  refine e_seq ?_
  refine c_cond (b := (d1.1.code != 0)) rfl (fun hb104 => ?_) (fun hb104 => ?_)
  · replace h := cond_t hb104 h
    refine c_seq ?_
    refine c_region ?_
    refine o1 rfl (o_p rfl ?_)
    refine o_end ?_
    refine e_seq ?_
    refine c_ret ?_
    refine e_then_ret ?_
    refine e_ret ?_
    refine r_endt rfl rfl (kc rm0 (kc rm0 kr)) ?_
    have hr := Option.some.inj h
    subst hr
    exact hk (i1.1, i1.2.1) f1_0 f1_2
  · replace h := cond_f hb104 h
    refine c_skip ?_
    refine e_seq ?_
    refine c_seq ?_
    refine c_region ?_
    refine o1 rfl (o_p rfl ?_)
    replace h := bsome h
    obtain ⟨d3, h3, h⟩ := h
    refine o1 rfl (o_call has97 rfl (c_addr_Decode i1.1 12 d1.2 i1.2.2 f1_1 _ h3) (pc rm0 pn) ?_)
    refine o1 rfl (o_p rfl ?_)
    refine o1 rfl (o_p rfl ?_)
    refine o1 rfl (o_p rfl ?_)
    refine o1 rfl (o_p rfl ?_)
    refine o1 rfl (o_p rfl ?_)
    refine o_end ?_
    refine e_seq ?_
    refine c_seq ?_
    refine c_seq ?_
    refine c_region ?_
    refine o1 rfl (o_p rfl ?_)
    refine o1 rfl (o_p (v := (.bool (d3.2 != 0))) rfl ?_)
    refine o_end ?_
    refine e_seq ?_
    replace h := bsome h
    obtain ⟨d4, h, hk4⟩ := h
    refine cj (D := Unit) (ι := Unit) (fun _ i4 => Rd i1.1 i1.2.1 5 (enI .u8) d4.1) (fun _ i4 => [(4, (.int .i64 d3.1))]) (fun _ i4 => i1.1 :: blk b0 (.cells (List.toArray [(SV.val i1.2.1), (.int .i64 d4.2)]) 188 (0, 0)) :: R) ?_ ?_
    · refine c_cond (b := (d3.2 != 0)) rfl (fun hb105 => ?_) (fun hb105 => ?_)
      · replace h := cond_t hb105 h
        refine c_region ?_
        refine o1 rfl (o_p rfl ?_)
        refine o1 rfl (o_p rfl ?_)
        replace h := bsome h
        obtain ⟨d5, h5, h⟩ := h
        refine o1 rfl (o_call has138 rfl (c_order_scanner_fail i1.1 d1.1 b0 i1.2.1 f1_0 d3.2 _ h5) (pc rm0 (pc rm0 pn)) (fun f5_0 => ?_))
        refine o_end ?_
        have hd := Option.some.inj h
        subst hd
        exact ej () () f5_0 (sc rfl sn) (kc rm0 (kc rm0 kr))
      · replace h := cond_f hb105 h
        refine c_skip ?_
        have hd := Option.some.inj h
        subst hd
        exact ej () () f1_0 (sc rfl sn) (kc rm0 (kc rm0 kr))
    · rintro _ i4 f4_0
      replace h := hk4
      clear hk4
      refine e_seq ?_
      refine c_seq ?_
      refine c_region ?_
      refine o1 rfl (o_p rfl ?_)
      refine o1 rfl (o_p rfl ?_)
      refine o_end ?_
      refine e_seq ?_
      refine c_ret ?_
      refine e_ret ?_
      refine r_endt rfl rfl (kc rm0 (kc rm0 kr)) ?_
      have hr := Option.some.inj h
      subst hr
      exact hk (i1.1, i1.2.1) f4_0 f1_2

theorem c_order_scanner_character {g : Gw} (X : HP) (p0 : Vorder_scanner) (b0 : Nat) (s0 : SV) (q0 : Rd X s0 5 (enI .u8) p0.p) (r : Vorder_scanner × Int) (h : m_order_scanner_character p0 = some r) : Tri env g 125 (List.toArray [(.pointer (some ⟨b0, 0, none⟩))]) [X, blk b0 (.cells (List.toArray [(SV.val s0), (.int .i64 p0.code)]) 188 (0, 0))] (fun K R => ∀ (i0 : HP × SV), (Rd i0.1 i0.2 5 (enI .u8) r.1.p) → (Ext X i0.1) → K (.int .u8 r.2) (i0.1 :: blk b0 (.cells (List.toArray [(SV.val i0.2), (.int .i64 r.1.code)]) 188 (0, 0)) :: R)) := by
  refine tri_of (fn := Try.f125) (N := 13) Try.func125 rfl rfl rfl ?_
  intro R K hk
  unfold m_order_scanner_character at h
  change GC _ none _ [] [(0, (.pointer (some ⟨b0, 0, none⟩)))] (X :: blk b0 (.cells (List.toArray [(SV.val s0), (.int .i64 p0.code)]) 188 (0, 0)) :: R) g _ _
  refine c_seq ?_
  refine c_region ?_
  refine o1 rfl (o_p rfl ?_)
  refine o_end ?_
  refine e_seq ?_
  refine c_seq ?_
  refine c_region ?_
  refine o1 rfl (o_p rfl ?_)
  replace h := bsome h
  obtain ⟨d1, h1, h⟩ := h
  refine o1 rfl (o_call has123 rfl (c_order_scanner_take X p0 b0 s0 q0 1 _ h1) (pc rm0 (pc rm0 pn)) (fun i1 f1_0 f1_1 f1_2 => ?_))
  replace h := gsome h
  obtain ⟨hg110, h⟩ := h
  refine o1 rfl (o_ix (s := i1.2.2) (n := 0) (e := (enI .u8)) rfl rfl rfl rfl rfl rfl rm0 f1_1 hg110 ?_)
  refine o1 rfl (o_ldE (s := i1.2.2) (e := (enI .u8)) (n := 0) (f := 0) (v := (.int .u8 (rd d1.2 0))) rfl rm0 f1_1 hg110 rfl rfl ?_)
  refine o1 rfl (o_p rfl ?_)
  refine o_end ?_
  refine e_seq ?_
  refine c_seq ?_
  refine c_seq ?_
  refine c_region ?_
  refine o1 rfl (o_p rfl ?_)
  replace h := bsome h
  obtain ⟨d2, h2, h⟩ := h
  refine o1 rfl (o_call has104 rfl (c_order_Is i1.1 (rd d1.2 0) _ h2) (pc rm0 pn) ?_)
  refine o_end ?_
  refine e_seq ?_
  replace h := bsome h
  obtain ⟨d3, h, hk3⟩ := h
  refine cj (D := Unit) (ι := Unit) (fun _ i3 => Rd i1.1 i1.2.1 5 (enI .u8) d3.1) (fun _ i3 => [(3, (.int .u8 (rd d1.2 0)))]) (fun _ i3 => i1.1 :: blk b0 (.cells (List.toArray [(SV.val i1.2.1), (.int .i64 d3.2)]) 188 (0, 0)) :: R) ?_ ?_
  · refine c_cond (b := d2) rfl (fun hb111 => ?_) (fun hb111 => ?_)
    · replace h := cond_t hb111 h
      refine c_region ?_
      refine o1 rfl (o_p rfl ?_)
      replace h := bsome h
      obtain ⟨d4, h4, h⟩ := h
      refine o1 rfl (o_call has138 rfl (c_order_scanner_fail i1.1 d1.1 b0 i1.2.1 f1_0 10 _ h4) (pc rm0 (pc rm0 pn)) (fun f4_0 => ?_))
      refine o_end ?_
      have hd := Option.some.inj h
      subst hd
      exact ej () () f4_0 (sc rfl sn) (kc rm0 (kc rm0 kr))
    · replace h := cond_f hb111 h
      refine c_skip ?_
      have hd := Option.some.inj h
      subst hd
      exact ej () () f1_0 (sc rfl sn) (kc rm0 (kc rm0 kr))
  · rintro _ i3 f3_0
    replace h := hk3
    clear hk3
    refine e_seq ?_
    refine c_seq ?_
    refine c_region ?_
    refine o1 rfl (o_p rfl ?_)
    refine o1 rfl (o_p rfl ?_)
    refine o_end ?_
    refine e_seq ?_
    refine c_ret ?_
    refine e_ret ?_
    refine r_endt rfl rfl (kc rm0 (kc rm0 kr)) ?_
    have hr := Option.some.inj h
    subst hr
    exact hk (i1.1, i1.2.1) f3_0 f1_2

theorem c_attr_Pair_Check {g : Gw} (X : HP) (p0 : Vattr_Pair) (r : Int) (h : m_attr_Pair_Check p0 = some r) : Tri env g 119 (List.toArray [(.agg (List.toArray [(.int .u8 p0.f_Type), (.int .u8 p0.Value)]))]) [X] (fun K R => K (.int .i64 r) (X :: R)) := by
  refine tri_of (fn := Try.f119) (N := 61) Try.func119 rfl rfl rfl ?_
  intro R K hk
  unfold m_attr_Pair_Check at h
  change GC _ none _ [] [(0, (.agg (List.toArray [(.int .u8 p0.f_Type), (.int .u8 p0.Value)])))] (X :: R) g _ _
  refine c_seq ?_
  refine c_region ?_
  refine o1 rfl (o_box (cs := [(.int .u8 p0.f_Type), (.int .u8 p0.Value)]) rfl rfl (fun b119 => ?_))
  refine o1 rfl (o_p rfl ?_)
  refine o_end ?_
  refine e_seq ?_
  refine c_seq ?_
  refine c_region ?_
  refine o1 rfl (o_fa (fd := ⟨ "Value", 5, 1, false, "", "", 1⟩) rfl rfl rfl rfl rfl ?_)
  refine o1 rfl (o_ld (b := b119) (off := 1) (v := (.int .u8 p0.Value)) rfl rm0 rfl rfl ?_)
  refine o1 rfl (o_p rfl ?_)
  refine o_end ?_
  refine e_seq ?_
  refine c_seq ?_
  refine c_region ?_
  refine o1 rfl (o_p rfl ?_)
  refine o_end ?_
  refine e_seq ?_
  refine c_seq ?_
  refine c_seq ?_
  refine c_region ?_
  refine o1 rfl (o_fa (fd := ⟨ "Type", 5, 0, false, "", "", 0⟩) rfl rfl rfl rfl rfl ?_)
  refine o1 rfl (o_ld (b := b119) (off := 0) (v := (.int .u8 p0.f_Type)) rfl rm0 rfl rfl ?_)
  refine o_end ?_
  refine e_seq ?_
  refine c_block ?_
  refine c_seq ?_
  refine c_region ?_
  refine o1 rfl (o_p (v := (.bool (p0.f_Type == 0))) rfl ?_)
  refine o1 rfl (o_p rfl ?_)
  refine o_end ?_
  refine e_seq ?_
  replace h := bsome h
  obtain ⟨d2, h, hk2⟩ := h
  refine cj (D := Unit) (ι := Unit) (fun _ i2 => True) (fun _ i2 => [(4, (.bool d2))]) (fun _ i2 => X :: R) ?_ ?_
  · refine c_cond (b := (p0.f_Type == 0)) rfl (fun hb121 => ?_) (fun hb121 => ?_)
    · replace h := cond_t hb121 h
      refine c_region ?_
      refine o1 rfl (o_p rfl ?_)
      refine o1 rfl (o_p (v := (.bool (p0.Value == 0))) rfl ?_)
      refine o1 rfl (o_p rfl ?_)
      refine o_end ?_
      have hd := Option.some.inj h
      subst hd
      exact ej () () trivial (sc rfl sn) (kc rm1 (kd kr))
    · replace h := cond_f hb121 h
      refine c_seq ?_
      refine c_region ?_
      refine o1 rfl (o_p (v := (.bool (p0.f_Type == 192))) rfl ?_)
      refine o1 rfl (o_p rfl ?_)
      refine o_end ?_
      refine e_seq ?_
      refine c_cond (b := (p0.f_Type == 192)) rfl (fun hb122 => ?_) (fun hb122 => ?_)
      · replace h := cond_t hb122 h
        refine c_region ?_
        refine o1 rfl (o_p rfl ?_)
        refine o_end ?_
        have hd := Option.some.inj h
        subst hd
        exact ej () () trivial (sc rfl sn) (kc rm1 (kd kr))
      · replace h := cond_f hb122 h
        refine c_seq ?_
        refine c_region ?_
        refine o1 rfl (o_p (v := (.bool (p0.f_Type == 65))) rfl ?_)
        refine o1 rfl (o_p rfl ?_)
        refine o_end ?_
        refine e_seq ?_
        refine c_cond (b := (p0.f_Type == 65)) rfl (fun hb123 => ?_) (fun hb123 => ?_)
        · replace h := cond_t hb123 h
          refine c_region ?_
          refine o1 rfl (o_p rfl ?_)
          refine o1 rfl (o_p (v := (.bool (p0.Value == 0))) rfl ?_)
          refine o1 rfl (o_p rfl ?_)
          rcases bool_or ((p0.Value == 0)) with hb124 | hb124
          · replace h := cond_t hb124 h
            refine on rfl rfl rfl hb124 ?_
            refine on rfl rfl rfl hb124 ?_
            refine o1 rfl (o_pick_t rfl hb124 rfl ?_)
            refine o1 rfl (o_p rfl ?_)
            refine on rfl rfl rfl rfl ?_
            refine on rfl rfl rfl rfl ?_
            refine o1 rfl (o_pick_t rfl rfl rfl ?_)
            refine o1 rfl (o_p rfl ?_)
            refine on rfl rfl rfl rfl ?_
            refine on rfl rfl rfl rfl ?_
            refine o1 rfl (o_pick_t rfl rfl rfl ?_)
            refine o1 rfl (o_p rfl ?_)
            refine on rfl rfl rfl rfl ?_
            refine on rfl rfl rfl rfl ?_
            refine o1 rfl (o_pick_t rfl rfl rfl ?_)
            refine o1 rfl (o_p rfl ?_)
            refine on rfl rfl rfl rfl ?_
            refine on rfl rfl rfl rfl ?_
            refine o1 rfl (o_pick_t rfl rfl rfl ?_)
            refine o1 rfl (o_p rfl ?_)
            refine o_end ?_
            have hd := Option.some.inj h
            subst hd
            exact ej () () trivial (sc rfl sn) (kc rm1 (kd kr))
          · replace h := cond_f hb124 h
            refine oy rfl rfl rfl hb124 (o_p rfl ?_)
            refine oy rfl rfl rfl hb124 (o_p (v := (.bool (p0.Value == 240))) rfl ?_)
            refine o1 rfl (o_pick_f rfl hb124 rfl ?_)
            refine o1 rfl (o_p rfl ?_)
            rcases bool_or ((p0.Value == 240)) with hb125 | hb125
            · replace h := cond_t hb125 h
              refine on rfl rfl rfl hb125 ?_
              refine on rfl rfl rfl hb125 ?_
              refine o1 rfl (o_pick_t rfl hb125 rfl ?_)
              refine o1 rfl (o_p rfl ?_)
              refine on rfl rfl rfl rfl ?_
              refine on rfl rfl rfl rfl ?_
              refine o1 rfl (o_pick_t rfl rfl rfl ?_)
              refine o1 rfl (o_p rfl ?_)
              refine on rfl rfl rfl rfl ?_
              refine on rfl rfl rfl rfl ?_
              refine o1 rfl (o_pick_t rfl rfl rfl ?_)
              refine o1 rfl (o_p rfl ?_)
              refine on rfl rfl rfl rfl ?_
              refine on rfl rfl rfl rfl ?_
              refine o1 rfl (o_pick_t rfl rfl rfl ?_)
              refine o1 rfl (o_p rfl ?_)
              refine o_end ?_
              have hd := Option.some.inj h
              subst hd
              exact ej () () trivial (sc rfl sn) (kc rm1 (kd kr))
            · replace h := cond_f hb125 h
              refine oy rfl rfl rfl hb125 (o_p rfl ?_)
              refine oy rfl rfl rfl hb125 (o_p (v := (.bool (p0.Value == 241))) rfl ?_)
              refine o1 rfl (o_pick_f rfl hb125 rfl ?_)
              refine o1 rfl (o_p rfl ?_)
              rcases bool_or ((p0.Value == 241)) with hb126 | hb126
              · replace h := cond_t hb126 h
                refine on rfl rfl rfl hb126 ?_
                refine on rfl rfl rfl hb126 ?_
                refine o1 rfl (o_pick_t rfl hb126 rfl ?_)
                refine o1 rfl (o_p rfl ?_)
                refine on rfl rfl rfl rfl ?_
                refine on rfl rfl rfl rfl ?_
                refine o1 rfl (o_pick_t rfl rfl rfl ?_)
                refine o1 rfl (o_p rfl ?_)
                refine on rfl rfl rfl rfl ?_
                refine on rfl rfl rfl rfl ?_
                refine o1 rfl (o_pick_t rfl rfl rfl ?_)
                refine o1 rfl (o_p rfl ?_)
                refine o_end ?_
                have hd := Option.some.inj h
                subst hd
                exact ej () () trivial (sc rfl sn) (kc rm1 (kd kr))
              · replace h := cond_f hb126 h
                refine oy rfl rfl rfl hb126 (o_p rfl ?_)
                refine oy rfl rfl rfl hb126 (o_p (v := (.bool (p0.Value == 242))) rfl ?_)
                refine o1 rfl (o_pick_f rfl hb126 rfl ?_)
                refine o1 rfl (o_p rfl ?_)
                rcases bool_or ((p0.Value == 242)) with hb127 | hb127
                · replace h := cond_t hb127 h
                  refine on rfl rfl rfl hb127 ?_
                  refine on rfl rfl rfl hb127 ?_
                  refine o1 rfl (o_pick_t rfl hb127 rfl ?_)
                  refine o1 rfl (o_p rfl ?_)
                  refine on rfl rfl rfl rfl ?_
                  refine on rfl rfl rfl rfl ?_
                  refine o1 rfl (o_pick_t rfl rfl rfl ?_)
                  refine o1 rfl (o_p rfl ?_)
                  refine o_end ?_
                  have hd := Option.some.inj h
                  subst hd
                  exact ej () () trivial (sc rfl sn) (kc rm1 (kd kr))
                · replace h := cond_f hb127 h
                  refine oy rfl rfl rfl hb127 (o_p rfl ?_)
                  refine oy rfl rfl rfl hb127 (o_p (v := (.bool (p0.Value == 244))) rfl ?_)
                  refine o1 rfl (o_pick_f rfl hb127 rfl ?_)
                  refine o1 rfl (o_p rfl ?_)
                  rcases bool_or ((p0.Value == 244)) with hb128 | hb128
                  · replace h := cond_t hb128 h
                    refine on rfl rfl rfl hb128 ?_
                    refine on rfl rfl rfl hb128 ?_
                    refine o1 rfl (o_pick_t rfl hb128 rfl ?_)
                    refine o1 rfl (o_p rfl ?_)
                    refine o_end ?_
                    have hd := Option.some.inj h
                    subst hd
                    exact ej () () trivial (sc rfl sn) (kc rm1 (kd kr))
                  · replace h := cond_f hb128 h
                    refine oy rfl rfl rfl hb128 (o_p rfl ?_)
                    refine oy rfl rfl rfl hb128 (o_p (v := (.bool (p0.Value == 248))) rfl ?_)
                    refine o1 rfl (o_pick_f rfl hb128 rfl ?_)
                    refine o1 rfl (o_p rfl ?_)
                    refine o_end ?_
                    have hd := Option.some.inj h
                    subst hd
                    exact ej () () trivial (sc rfl sn) (kc rm1 (kd kr))
        · replace h := cond_f hb123 h
          refine c_seq ?_
          refine c_region ?_
          refine o1 rfl (o_p (v := (.bool (p0.f_Type == 66))) rfl ?_)
          refine o1 rfl (o_p rfl ?_)
          refine o_end ?_
          refine e_seq ?_
          refine c_cond (b := (p0.f_Type == 66)) rfl (fun hb129 => ?_) (fun hb129 => ?_)
          · replace h := cond_t hb129 h
            refine c_region ?_
            refine o1 rfl (o_p rfl ?_)
            refine o1 rfl (o_p (v := (.bool (p0.Value == 0))) rfl ?_)
            refine o1 rfl (o_p rfl ?_)
            rcases bool_or ((p0.Value == 0)) with hb130 | hb130
            · replace h := cond_t hb130 h
              refine on rfl rfl rfl hb130 ?_
              refine on rfl rfl rfl hb130 ?_
              refine on rfl rfl rfl hb130 ?_
              refine ou rfl rfl rfl ?_
              refine ou rfl rfl rfl ?_
              refine on rfl rfl rfl hb130 ?_
              refine o1 rfl (o_pick_t rfl hb130 rfl ?_)
              refine o1 rfl (o_p rfl ?_)
              refine o_end ?_
              have hd := Option.some.inj h
              subst hd
              exact ej () () trivial (sc rfl sn) (kc rm1 (kd kr))
            · replace h := cond_f hb130 h
              refine oy rfl rfl rfl hb130 (o_p rfl ?_)
              refine oy rfl rfl rfl hb130 (o_p (v := (.bool (decide (p0.Value ≥ 241)))) rfl ?_)
              refine oy rfl rfl rfl hb130 (o_p rfl ?_)
              rcases bool_or ((decide (p0.Value ≥ 241))) with hb131 | hb131
              · replace h := cond_t hb131 h
                refine oy rfl rfl rfl hb131 (o_p rfl ?_)
                refine oy rfl rfl rfl hb131 (o_p (v := (.bool (decide (p0.Value ≤ 247)))) rfl ?_)
                refine oy rfl rfl rfl hb130 (o_pick_t rfl hb131 rfl ?_)
                refine o1 rfl (o_pick_f rfl hb130 rfl ?_)
                refine o1 rfl (o_p rfl ?_)
                refine o_end ?_
                have hd := Option.some.inj h
                subst hd
                exact ej () () trivial (sc rfl sn) (kc rm1 (kd kr))
              · replace h := cond_f hb131 h
                refine on rfl rfl rfl hb131 ?_
                refine on rfl rfl rfl hb131 ?_
                refine oy rfl rfl rfl hb130 (o_pick_f rfl hb131 rfl ?_)
                refine o1 rfl (o_pick_f rfl hb130 rfl ?_)
                refine o1 rfl (o_p rfl ?_)
                refine o_end ?_
                have hd := Option.some.inj h
                subst hd
                exact ej () () trivial (sc rfl sn) (kc rm1 (kd kr))
          · replace h := cond_f hb129 h
            refine c_seq ?_
            refine c_region ?_
            refine o1 rfl (o_p (v := (.bool (p0.f_Type == 67))) rfl ?_)
            refine o1 rfl (o_p rfl ?_)
            refine o_end ?_
            refine e_seq ?_
            refine c_cond (b := (p0.f_Type == 67)) rfl (fun hb132 => ?_) (fun hb132 => ?_)
            · replace h := cond_t hb132 h
              refine c_region ?_
              refine o1 rfl (o_p rfl ?_)
              refine o1 rfl (o_p (v := (.bool (p0.Value == 0))) rfl ?_)
              refine o1 rfl (o_p rfl ?_)
              rcases bool_or ((p0.Value == 0)) with hb133 | hb133
              · replace h := cond_t hb133 h
                refine on rfl rfl rfl hb133 ?_
                refine on rfl rfl rfl hb133 ?_
                refine o1 rfl (o_pick_t rfl hb133 rfl ?_)
                refine o1 rfl (o_p rfl ?_)
                refine o_end ?_
                have hd := Option.some.inj h
                subst hd
                exact ej () () trivial (sc rfl sn) (kc rm1 (kd kr))
              · replace h := cond_f hb133 h
                refine oy rfl rfl rfl hb133 (o_p rfl ?_)
                refine oy rfl rfl rfl hb133 (o_p (v := (.bool (p0.Value == 241))) rfl ?_)
                refine o1 rfl (o_pick_f rfl hb133 rfl ?_)
                refine o1 rfl (o_p rfl ?_)
                refine o_end ?_
                have hd := Option.some.inj h
                subst hd
                exact ej () () trivial (sc rfl sn) (kc rm1 (kd kr))
            · replace h := cond_f hb132 h
              refine c_skip ?_
              have hd := Option.some.inj h
              subst hd
              exact ej () () trivial (sc rfl sn) (kc rm1 (kd kr))
  · rintro _ i2 _
    replace h := hk2
    clear hk2
    refine e_blk ?_
    refine e_seq ?_
    refine c_seq ?_
    refine c_seq ?_
    refine c_region ?_
    refine o1 rfl (o_p rfl ?_)
    refine o1 rfl (o_p (v := (.bool (!d2))) rfl ?_)
    refine o_end ?_
    refine e_seq ?_
    refine c_cond (b := (!d2)) rfl (fun hb134 => ?_) (fun hb134 => ?_)
    · replace h := cond_t hb134 h
      refine c_seq ?_
      refine c_region ?_
      refine o1 rfl (o_p rfl ?_)
      refine o_end ?_
      refine e_seq ?_
      refine c_ret ?_
      refine e_then_ret ?_
      refine e_ret ?_
      refine r_endt rfl rfl (kc rm0 kr) ?_
      have hr := Option.some.inj h
      subst hr
      exact hk
    · replace h := cond_f hb134 h
      refine c_skip ?_
      refine e_seq ?_
      refine c_seq ?_
      refine c_region ?_
      refine o1 rfl (o_p rfl ?_)
      refine o_end ?_
      refine e_seq ?_
      refine c_ret ?_
      refine e_ret ?_
      refine r_endt rfl rfl (kc rm0 kr) ?_
      have hr := Option.some.inj h
      subst hr
      exact hk

theorem c_order_scanner_pair {g : Gw} (X : HP) (p0 : Vorder_scanner) (b0 : Nat) (s0 : SV) (q0 : Rd X s0 5 (enI .u8) p0.p) (r : Vorder_scanner × (List Vattr_Pair)) (h : m_order_scanner_pair p0 = some r) : Tri env g 126 (List.toArray [(.pointer (some ⟨b0, 0, none⟩))]) [X, blk b0 (.cells (List.toArray [(SV.val s0), (.int .i64 p0.code)]) 188 (0, 0))] (fun K R => ∀ (i0 : HP × SV × SV), (Rd i0.1 i0.2.1 5 (enI .u8) r.1.p) → (Ext X i0.1) → K (SV.val i0.2.2) (i0.1 :: blk b0 (.cells (List.toArray [(SV.val i0.2.1), (.int .i64 r.1.code)]) 188 (0, 0)) :: slO i0.2.2 196 en_Vattr_Pair r.2 :: R)) := by
  refine tri_of (fn := Try.f126) (N := 24) Try.func126 rfl rfl rfl ?_
  intro R K hk
  unfold m_order_scanner_pair at h
  change GC _ none _ [] [(0, (.pointer (some ⟨b0, 0, none⟩)))] (X :: blk b0 (.cells (List.toArray [(SV.val s0), (.int .i64 p0.code)]) 188 (0, 0)) :: R) g _ _
  refine c_seq ?_
  refine c_region ?_
  refine o1 rfl (o_p rfl ?_)
  refine o_end ?_
  refine e_seq ?_
  refine c_seq ?_
  refine c_region ?_
  refine o1 rfl (o_p rfl ?_)
  replace h := bsome h
  obtain ⟨d1, h1, h⟩ := h
  refine o1 rfl (o_call has123 rfl (c_order_scanner_take X p0 b0 s0 q0 2 _ h1) (pc rm0 (pc rm0 pn)) (fun i1 f1_0 f1_1 f1_2 => ?_))
  refine o1 rfl (o_p rfl ?_)
  refine o_end ?_
  refine e_seq ?_
  refine c_seq ?_
  replace h := gsome h
  obtain ⟨hg115, h⟩ := h
  replace h := gsome h
  obtain ⟨hg116, h⟩ := h
  refine c_draw (n := 2) (q := [(0, 8, (SV.val i1.2.2)), (1, 9, (.pointer (some ⟨SV.blk i1.2.2, SV.off i1.2.2 + Int.toNat 0 * 1, none⟩))), (2, 10, (.int .u8 (rd d1.2 0))), (3, 11, (SV.val i1.2.2)), (4, 12, (.pointer (some ⟨SV.blk i1.2.2, SV.off i1.2.2 + Int.toNat 1 * 1, none⟩))), (5, 13, (.int .u8 (rd d1.2 1))), (6, 14, (.agg (List.toArray [(.int .u8 (rd d1.2 0)), (.int .u8 (rd d1.2 1))])))]) (pend := [0, 1, 2, 3, 4, 5, 6]) rfl rfl rfl ?_
  refine ⟨⟨fun _ => ⟨rfl, rfl, rfl, .inl ⟨rfl, (o_p rfl ⟨rfl, rfl⟩)⟩⟩, fun _ => ⟨rfl, rfl, rfl, .inl ⟨rfl, (o_ix (s := i1.2.2) (n := 0) (e := (enI .u8)) rfl rfl rfl rfl rfl rfl rm0 f1_1 hg115 ⟨rfl, rfl⟩)⟩⟩, fun _ => ⟨rfl, rfl, rfl, .inl ⟨rfl, (o_ldE (s := i1.2.2) (e := (enI .u8)) (n := 0) (f := 0) (v := (.int .u8 (rd d1.2 0))) rfl rm0 f1_1 hg115 rfl rfl ⟨rfl, rfl⟩)⟩⟩, fun _ => ⟨rfl, rfl, rfl, .inl ⟨rfl, (o_p rfl ⟨rfl, rfl⟩)⟩⟩, fun _ => ⟨rfl, rfl, rfl, .inl ⟨rfl, (o_ix (s := i1.2.2) (n := 1) (e := (enI .u8)) rfl rfl rfl rfl rfl rfl rm0 f1_1 hg116 ⟨rfl, rfl⟩)⟩⟩, fun _ => ⟨rfl, rfl, rfl, .inl ⟨rfl, (o_ldE (s := i1.2.2) (e := (enI .u8)) (n := 1) (f := 0) (v := (.int .u8 (rd d1.2 1))) rfl rm0 f1_1 hg116 rfl rfl ⟨rfl, rfl⟩)⟩⟩, fun _ => ⟨rfl, rfl, rfl, .inl ⟨rfl, (o_build (fs := [⟨ "Type", 5, 0, false, "", "", 0⟩, ⟨ "Value", 5, 1, false, "", "", 1⟩]) (ps := [(0, 1), (1, 1)]) (cs := [(.int .u8 (rd d1.2 0)), (.int .u8 (rd d1.2 1))]) rfl rfl rfl rfl rfl ⟨rfl, rfl⟩)⟩⟩, trivial⟩, rfl, .inr ⟨[7], rfl, rfl, ⟨rfl, .inl rfl, ?_⟩, trivial⟩⟩
  refine (o_alloc (cs := [(.int .u8 0), (.int .u8 0)]) rfl rfl (fun b117 => ?_))
  refine ⟨[], [0, 1, 2, 3, 4, 5, 6], rfl, rfl, rfl, rfl, ?_⟩
  refine ⟨⟨fun _ => ⟨rfl, rfl, rfl, .inl ⟨rfl, (o_p rfl ⟨rfl, rfl⟩)⟩⟩, fun _ => ⟨rfl, rfl, rfl, .inl ⟨rfl, (o_ix (s := i1.2.2) (n := 0) (e := (enI .u8)) rfl rfl rfl rfl rfl rfl rm1 f1_1 hg115 ⟨rfl, rfl⟩)⟩⟩, fun _ => ⟨rfl, rfl, rfl, .inl ⟨rfl, (o_ldE (s := i1.2.2) (e := (enI .u8)) (n := 0) (f := 0) (v := (.int .u8 (rd d1.2 0))) rfl rm1 f1_1 hg115 rfl rfl ⟨rfl, rfl⟩)⟩⟩, fun _ => ⟨rfl, rfl, rfl, .inl ⟨rfl, (o_p rfl ⟨rfl, rfl⟩)⟩⟩, fun _ => ⟨rfl, rfl, rfl, .inl ⟨rfl, (o_ix (s := i1.2.2) (n := 1) (e := (enI .u8)) rfl rfl rfl rfl rfl rfl rm1 f1_1 hg116 ⟨rfl, rfl⟩)⟩⟩, fun _ => ⟨rfl, rfl, rfl, .inl ⟨rfl, (o_ldE (s := i1.2.2) (e := (enI .u8)) (n := 1) (f := 0) (v := (.int .u8 (rd d1.2 1))) rfl rm1 f1_1 hg116 rfl rfl ⟨rfl, rfl⟩)⟩⟩, fun _ => ⟨rfl, rfl, rfl, .inl ⟨rfl, (o_build (fs := [⟨ "Type", 5, 0, false, "", "", 0⟩, ⟨ "Value", 5, 1, false, "", "", 1⟩]) (ps := [(0, 1), (1, 1)]) (cs := [(.int .u8 (rd d1.2 0)), (.int .u8 (rd d1.2 1))]) rfl rfl rfl rfl rfl ⟨rfl, rfl⟩)⟩⟩, trivial⟩, rfl, .inr ⟨[8], rfl, rfl, ⟨rfl, .inl rfl, ?_⟩, trivial⟩⟩
  refine (o_st (b := b117) (off := 0) (vs := [(.int .u8 (rd d1.2 0)), (.int .u8 (rd d1.2 1))]) (cs' := [(.int .u8 (rd d1.2 0)), (.int .u8 (rd d1.2 1))]) rfl rfl rp0 rfl rfl rfl rfl rfl rfl ?_)
  refine ⟨[], [], rfl, rfl, ?_⟩
  refine ⟨⟨(fun h => nomatch h), (fun h => nomatch h), (fun h => nomatch h), (fun h => nomatch h), (fun h => nomatch h), (fun h => nomatch h), (fun h => nomatch h), trivial⟩, rfl, rfl, rfl, ?_⟩
  refine e_seq ?_
  refine c_seq ?_
  refine c_seq ?_
  refine c_region ?_
  refine o1 rfl (o_ld (b := b117) (off := 0) (v := (.agg (List.toArray [(.int .u8 (rd d1.2 0)), (.int .u8 (rd d1.2 1))]))) rfl rm0 rfl rfl ?_)
  replace h := bsome h
  obtain ⟨d3, h3, h⟩ := h
  refine o1 rfl (o_call has119 rfl (c_attr_Pair_Check i1.1 (⟨(rd d1.2 0), (rd d1.2 1)⟩ : Vattr_Pair) _ h3) (pc rm1 pn) ?_)
  refine o1 rfl (o_p rfl ?_)
  refine o_end ?_
  refine e_seq ?_
  refine c_seq ?_
  refine c_region ?_
  refine o1 rfl (o_p rfl ?_)
  refine o1 rfl (o_p (v := (.bool (d3 != 0))) rfl ?_)
  refine o_end ?_
  refine e_seq ?_
  replace h := bsome h
  obtain ⟨d4, h, hk4⟩ := h
  refine cj (D := Unit) (ι := Unit) (fun _ i4 => Rd i1.1 i1.2.1 5 (enI .u8) d4.1) (fun _ i4 => [(4, (.pointer (some ⟨b117, 0, none⟩)))]) (fun _ i4 => i1.1 :: blk b117 (.cells (List.toArray [(.int .u8 (rd d1.2 0)), (.int .u8 (rd d1.2 1))]) 196 (0, 0)) :: blk b0 (.cells (List.toArray [(SV.val i1.2.1), (.int .i64 d4.2)]) 188 (0, 0)) :: R) ?_ ?_
  · refine c_cond (b := (d3 != 0)) rfl (fun hb135 => ?_) (fun hb135 => ?_)
    · replace h := cond_t hb135 h
      refine c_region ?_
      refine o1 rfl (o_p rfl ?_)
      refine o1 rfl (o_p rfl ?_)
      replace h := bsome h
      obtain ⟨d5, h5, h⟩ := h
      refine o1 rfl (o_call has138 rfl (c_order_scanner_fail i1.1 d1.1 b0 i1.2.1 f1_0 d3 _ h5) (pc rm0 (pc rm1 pn)) (fun f5_0 => ?_))
      refine o_end ?_
      have hd := Option.some.inj h
      subst hd
      exact ej () () f5_0 (sc rfl sn) (kc rm0 (kc rm1 (kc rm0 kr)))
    · replace h := cond_f hb135 h
      refine c_skip ?_
      have hd := Option.some.inj h
      subst hd
      exact ej () () f1_0 (sc rfl sn) (kc rm0 (kc rm0 (kc rm0 kr)))
  · rintro _ i4 f4_0
    replace h := hk4
    clear hk4
    refine e_seq ?_
    refine c_seq ?_
    refine c_region ?_
    refine o1 rfl (o_ld (b := b117) (off := 0) (v := (.agg (List.toArray [(.int .u8 (rd d1.2 0)), (.int .u8 (rd d1.2 1))]))) rfl rm1 rfl rfl ?_)
    refine o1 rfl (o_bs (e := en_Vattr_Pair) (l := [(⟨(rd d1.2 0), (rd d1.2 1)⟩ : Vattr_Pair)]) (zs := [(.int .u8 0), (.int .u8 0)]) rfl rfl rfl rfl rfl rfl rfl rfl rfl rfl (fun s136 => ?_))
    refine o1 rfl (o_p rfl ?_)
    refine o_end ?_
    refine e_seq ?_
    refine c_ret ?_
    refine e_ret ?_
    refine r_endt rfl rfl (kc rm1 (kc rm2 (kc rm0 (kd kr)))) ?_
    have hr := Option.some.inj h
    subst hr
    exact hk (i1.1, i1.2.1, s136) f4_0 f1_2

theorem c_attr_Parse {g : Gw} (X : HP) (p0 : List Int) (s0 : SV) (q0 : Rd X s0 5 (enI .u8) p0) (r : (List Vattr_Pair) × Int × Int) (h : m_attr_Parse p0 = some r) : Tri env g 139 (List.toArray [(SV.val s0)]) [X] (fun K R => ∀ (i0 : SV), K (.tuple (List.toArray [(SV.val i0), (.int .i64 r.2.1), (.int .i64 r.2.2)])) (X :: slO i0 196 en_Vattr_Pair r.1 :: R)) := by
  refine tri_of (fn := Try.f139) (N := 56) Try.func139 rfl rfl rfl ?_
  intro R K hk
  unfold m_attr_Parse at h
  change GC _ none _ [] [(0, (SV.val s0))] (X :: R) g _ _
  refine c_seq ?_
  refine c_region ?_
  refine o1 rfl (o_p rfl ?_)
  refine o1 rfl (o_p rfl ?_)
  refine o1 rfl (o_p rfl ?_)
  refine o_end ?_
  refine e_seq ?_
  refine c_seq ?_
  refine c_seq ?_
  replace h := bsome h
  obtain ⟨d1, h, hk1⟩ := h
  refine cj (D := Unit) (ι := Unit) (fun _ i1 => True) (fun _ i1 => [(23, (.bool d1)), (0, (SV.val s0))]) (fun _ i1 => X :: R) ?_ ?_
  · refine c_region ?_
    refine o1 rfl (o_p rfl ?_)
    refine o1 rfl (o_len (s := s0) rfl rfl rfl rm0 q0 ?_)
    refine o1 rfl (o_p (v := (.bool (decide ((p0.length : Int) < 1)))) rfl ?_)
    refine o1 rfl (o_p rfl ?_)
    rcases bool_or ((decide ((p0.length : Int) < 1))) with hb142 | hb142
    · replace h := cond_t hb142 h
      refine on rfl rfl rfl hb142 ?_
      refine on rfl rfl rfl hb142 ?_
      refine on rfl rfl rfl hb142 ?_
      refine on rfl rfl rfl hb142 ?_
      refine on rfl rfl rfl hb142 ?_
      refine on rfl rfl rfl hb142 ?_
      refine on rfl rfl rfl hb142 ?_
      refine on rfl rfl rfl hb142 ?_
      refine on rfl rfl rfl hb142 ?_
      refine o1 rfl (o_pick_t rfl hb142 rfl ?_)
      refine o_end ?_
      have hd := Option.some.inj h
      subst hd
      exact ej () () trivial (sc rfl (sc rfl sn)) (kc rm0 kr)
    · replace h := cond_f hb142 h
      refine oy rfl rfl rfl hb142 (o_p rfl ?_)
      refine oy rfl rfl rfl hb142 (o_len (s := s0) rfl rfl rfl rm0 q0 ?_)
      refine oy rfl rfl rfl hb142 (o_p rfl ?_)
      replace h := gsome h
      obtain ⟨hg143, h⟩ := h
      refine oy rfl rfl rfl hb142 (o_ix (s := s0) (n := 0) (e := (enI .u8)) rfl rfl rfl rfl rfl rfl rm0 q0 hg143 ?_)
      refine oy rfl rfl rfl hb142 (o_ldE (s := s0) (e := (enI .u8)) (n := 0) (f := 0) (v := (.int .u8 (rd p0 0))) rfl rm0 q0 hg143 rfl rfl ?_)
      refine oy rfl rfl rfl hb142 (o_p (v := (.int .i64 (w64 ((rd p0 0))))) rfl ?_)
      refine oy rfl rfl rfl hb142 (o_p (v := (.int .i64 (w64 (2 * (w64 ((rd p0 0))))))) rfl ?_)
      refine oy rfl rfl rfl hb142 (o_p (v := (.int .i64 (w64 (1 + (w64 (2 * (w64 ((rd p0 0))))))))) rfl ?_)
      refine oy rfl rfl rfl hb142 (o_p (v := (.bool (decide ((p0.length : Int) < (w64 (1 + (w64 (2 * (w64 ((rd p0 0))))))))))) rfl ?_)
      refine o1 rfl (o_pick_f rfl hb142 rfl ?_)
      refine o_end ?_
      have hd := Option.some.inj h
      subst hd
      exact ej () () trivial (sc rfl (sc rfl sn)) (kc rm0 kr)
  · rintro _ i1 _
    replace h := hk1
    clear hk1
    refine e_seq ?_
    refine c_cond (b := d1) rfl (fun hb144 => ?_) (fun hb144 => ?_)
    · replace h := cond_t hb144 h
      refine c_seq ?_
      refine c_region ?_
      refine o1 rfl (o_p rfl ?_)
      refine o1 rfl (o_p rfl ?_)
      refine o1 rfl (o_p rfl ?_)
      refine o_end ?_
      refine e_seq ?_
      refine c_ret ?_
      refine e_then_ret ?_
      refine e_ret ?_
      refine r_add (slO SV.nil 196 en_Vattr_Pair []) (slO_nil _ _ _) ?_
      refine r_endt rfl rfl (kc rm1 (kc rm0 kr)) ?_
      have hr := Option.some.inj h
      subst hr
      exact hk SV.nil
    · replace h := cond_f hb144 h
      refine c_skip ?_
      refine e_seq ?_
      refine c_seq ?_
      refine c_region ?_
      refine o1 rfl (o_p rfl ?_)
      refine o_end ?_
      refine e_seq ?_
      refine c_seq ?_
      refine c_region ?_
      refine o1 rfl (o_p rfl ?_)
      replace h := gsome h
      obtain ⟨hg145, h⟩ := h
      refine o1 rfl (o_ix (s := s0) (n := 0) (e := (enI .u8)) rfl rfl rfl rfl rfl rfl rm0 q0 hg145 ?_)
      refine o1 rfl (o_ldE (s := s0) (e := (enI .u8)) (n := 0) (f := 0) (v := (.int .u8 (rd p0 0))) rfl rm0 q0 hg145 rfl rfl ?_)
      refine o1 rfl (o_p (v := (.int .i64 (w64 ((rd p0 0))))) rfl ?_)
      refine o1 rfl (o_p (v := (.int .i64 (w64 (2 * (w64 ((rd p0 0))))))) rfl ?_)
      refine o1 rfl (o_p (v := (.int .i64 (w64 (1 + (w64 (2 * (w64 ((rd p0 0))))))))) rfl ?_)
      refine o1 rfl (o_p rfl ?_)
      refine o_end ?_
      refine e_seq ?_
      refine c_seq ?_
      refine c_seq ?_
      refine c_region ?_
      refine o1 rfl (o_p rfl ?_)
      refine o_end ?_
      refine e_seq ?_
      replace h := jn_some h
      obtain ⟨y3, h, hk3⟩ := h
      refine cj (D := (List Vattr_Pair)) (ι := SV) (fun d3 i3 => y3 = Sum.inl d3) (fun d3 i3 => [(6, (.int .i64 (w64 (1 + (w64 (2 * (w64 ((rd p0 0))))))))), (5, (SV.val i3))]) (fun d3 i3 => X :: slO i3 196 en_Vattr_Pair d3 :: R) ?_ ?_
      · refine c_block ?_
        refine c_add (slO SV.nil 196 en_Vattr_Pair []) (slO_nil _ _ _) ?_
        refine c_loop (l_sub (sc rfl (sc rfl (sc rfl (sc rfl sn)))) (l_keep (kc rm1 (kc rm0 kr)) (lf (X := Int × (List Vattr_Pair)) (ι := SV) (fun k x => attr_Parse_l4 p0 k x) _ (fun x4 i4 => True) (fun x4 i4 => [(7, (.int .i64 x4.1)), (6, (.int .i64 (w64 (1 + (w64 (2 * (w64 ((rd p0 0))))))))), (5, (SV.val i4)), (0, (SV.val s0))]) (fun x4 i4 => X :: slO i4 196 en_Vattr_Pair x4.2 :: R) (fun _ => rfl) ?_ fuel (1, ([] : List Vattr_Pair)) SV.nil trivial h)))
        clear h
        rintro k4 ih4 x4 i4 _ h
        rw [attr_Parse_l4.eq_2] at h
        refine l_round ?_
        refine c_seq ?_
        refine c_seq ?_
        refine c_region ?_
        refine o1 rfl (o_p rfl ?_)
        refine o1 rfl (o_p rfl ?_)
        refine o1 rfl (o_p (v := (.bool (decide (x4.1 < (w64 (1 + (w64 (2 * (w64 ((rd p0 0))))))))))) rfl ?_)
        refine o_end ?_
        refine e_seq ?_
        refine c_cond (b := (decide (x4.1 < (w64 (1 + (w64 (2 * (w64 ((rd p0 0)))))))))) rfl (fun hb171 => ?_) (fun hb171 => ?_)
        · replace h := cond_t hb171 h
          refine c_skip ?_
          refine e_seq ?_
          refine c_seq ?_
          refine c_block ?_
          refine c_seq ?_
          replace h := gsome h
          obtain ⟨hg172, h⟩ := h
          replace h := gsome h
          obtain ⟨hg173, h⟩ := h
          refine c_draw (n := 2) (q := [(0, 35, (SV.val s0)), (1, 36, (.int .i64 x4.1)), (2, 37, (.pointer (some ⟨SV.blk s0, SV.off s0 + Int.toNat x4.1 * 1, none⟩))), (3, 38, (.int .u8 (rd p0 x4.1))), (4, 39, (SV.val s0)), (5, 40, (.int .i64 x4.1)), (6, 41, (.int .i64 (w64 (x4.1 + 1)))), (7, 42, (.pointer (some ⟨SV.blk s0, SV.off s0 + Int.toNat (w64 (x4.1 + 1)) * 1, none⟩))), (8, 43, (.int .u8 (rd p0 (w64 (x4.1 + 1))))), (9, 44, (.agg (List.toArray [(.int .u8 (rd p0 x4.1)), (.int .u8 (rd p0 (w64 (x4.1 + 1))))])))]) (pend := [0, 1, 2, 3, 4, 5, 6, 7, 8, 9]) rfl rfl rfl ?_
          refine ⟨⟨fun _ => ⟨rfl, rfl, rfl, .inl ⟨rfl, (o_p rfl ⟨rfl, rfl⟩)⟩⟩, fun _ => ⟨rfl, rfl, rfl, .inl ⟨rfl, (o_p rfl ⟨rfl, rfl⟩)⟩⟩, fun _ => ⟨rfl, rfl, rfl, .inl ⟨rfl, (o_ix (s := s0) (n := x4.1) (e := (enI .u8)) rfl rfl rfl rfl rfl rfl rm0 q0 hg172 ⟨rfl, rfl⟩)⟩⟩, fun _ => ⟨rfl, rfl, rfl, .inl ⟨rfl, (o_ldE (s := s0) (e := (enI .u8)) (n := x4.1) (f := 0) (v := (.int .u8 (rd p0 x4.1))) rfl rm0 q0 hg172 rfl rfl ⟨rfl, rfl⟩)⟩⟩, fun _ => ⟨rfl, rfl, rfl, .inl ⟨rfl, (o_p rfl ⟨rfl, rfl⟩)⟩⟩, fun _ => ⟨rfl, rfl, rfl, .inl ⟨rfl, (o_p rfl ⟨rfl, rfl⟩)⟩⟩, fun _ => ⟨rfl, rfl, rfl, .inl ⟨rfl, (o_p (v := (.int .i64 (w64 (x4.1 + 1)))) rfl ⟨rfl, rfl⟩)⟩⟩, fun _ => ⟨rfl, rfl, rfl, .inl ⟨rfl, (o_ix (s := s0) (n := w64 (x4.1 + 1)) (e := (enI .u8)) rfl rfl rfl rfl rfl rfl rm0 q0 hg173 ⟨rfl, rfl⟩)⟩⟩, fun _ => ⟨rfl, rfl, rfl, .inl ⟨rfl, (o_ldE (s := s0) (e := (enI .u8)) (n := w64 (x4.1 + 1)) (f := 0) (v := (.int .u8 (rd p0 (w64 (x4.1 + 1))))) rfl rm0 q0 hg173 rfl rfl ⟨rfl, rfl⟩)⟩⟩, fun _ => ⟨rfl, rfl, rfl, .inl ⟨rfl, (o_build (fs := [⟨ "Type", 5, 0, false, "", "", 0⟩, ⟨ "Value", 5, 1, false, "", "", 1⟩]) (ps := [(0, 1), (1, 1)]) (cs := [(.int .u8 (rd p0 x4.1)), (.int .u8 (rd p0 (w64 (x4.1 + 1))))]) rfl rfl rfl rfl rfl ⟨rfl, rfl⟩)⟩⟩, trivial⟩, rfl, .inr ⟨[10], rfl, rfl, ⟨rfl, .inl rfl, ?_⟩, trivial⟩⟩
          refine (o_alloc (cs := [(.int .u8 0), (.int .u8 0)]) rfl rfl (fun b174 => ?_))
          refine ⟨[], [0, 1, 2, 3, 4, 5, 6, 7, 8, 9], rfl, rfl, rfl, rfl, ?_⟩
          refine ⟨⟨fun _ => ⟨rfl, rfl, rfl, .inl ⟨rfl, (o_p rfl ⟨rfl, rfl⟩)⟩⟩, fun _ => ⟨rfl, rfl, rfl, .inl ⟨rfl, (o_p rfl ⟨rfl, rfl⟩)⟩⟩, fun _ => ⟨rfl, rfl, rfl, .inl ⟨rfl, (o_ix (s := s0) (n := x4.1) (e := (enI .u8)) rfl rfl rfl rfl rfl rfl rm1 q0 hg172 ⟨rfl, rfl⟩)⟩⟩, fun _ => ⟨rfl, rfl, rfl, .inl ⟨rfl, (o_ldE (s := s0) (e := (enI .u8)) (n := x4.1) (f := 0) (v := (.int .u8 (rd p0 x4.1))) rfl rm1 q0 hg172 rfl rfl ⟨rfl, rfl⟩)⟩⟩, fun _ => ⟨rfl, rfl, rfl, .inl ⟨rfl, (o_p rfl ⟨rfl, rfl⟩)⟩⟩, fun _ => ⟨rfl, rfl, rfl, .inl ⟨rfl, (o_p rfl ⟨rfl, rfl⟩)⟩⟩, fun _ => ⟨rfl, rfl, rfl, .inl ⟨rfl, (o_p (v := (.int .i64 (w64 (x4.1 + 1)))) rfl ⟨rfl, rfl⟩)⟩⟩, fun _ => ⟨rfl, rfl, rfl, .inl ⟨rfl, (o_ix (s := s0) (n := w64 (x4.1 + 1)) (e := (enI .u8)) rfl rfl rfl rfl rfl rfl rm1 q0 hg173 ⟨rfl, rfl⟩)⟩⟩, fun _ => ⟨rfl, rfl, rfl, .inl ⟨rfl, (o_ldE (s := s0) (e := (enI .u8)) (n := w64 (x4.1 + 1)) (f := 0) (v := (.int .u8 (rd p0 (w64 (x4.1 + 1))))) rfl rm1 q0 hg173 rfl rfl ⟨rfl, rfl⟩)⟩⟩, fun _ => ⟨rfl, rfl, rfl, .inl ⟨rfl, (o_build (fs := [⟨ "Type", 5, 0, false, "", "", 0⟩, ⟨ "Value", 5, 1, false, "", "", 1⟩]) (ps := [(0, 1), (1, 1)]) (cs := [(.int .u8 (rd p0 x4.1)), (.int .u8 (rd p0 (w64 (x4.1 + 1))))]) rfl rfl rfl rfl rfl ⟨rfl, rfl⟩)⟩⟩, trivial⟩, rfl, .inr ⟨[11], rfl, rfl, ⟨rfl, .inl rfl, ?_⟩, trivial⟩⟩
          refine (o_st (b := b174) (off := 0) (vs := [(.int .u8 (rd p0 x4.1)), (.int .u8 (rd p0 (w64 (x4.1 + 1))))]) (cs' := [(.int .u8 (rd p0 x4.1)), (.int .u8 (rd p0 (w64 (x4.1 + 1))))]) rfl rfl rp0 rfl rfl rfl rfl rfl rfl ?_)
          refine ⟨[], [], rfl, rfl, ?_⟩
          refine ⟨⟨(fun h => nomatch h), (fun h => nomatch h), (fun h => nomatch h), (fun h => nomatch h), (fun h => nomatch h), (fun h => nomatch h), (fun h => nomatch h), (fun h => nomatch h), (fun h => nomatch h), (fun h => nomatch h), trivial⟩, rfl, rfl, rfl, ?_⟩
          refine e_seq ?_
          refine c_seq ?_
          refine c_seq ?_
          refine c_region ?_
          refine o1 rfl (o_ld (b := b174) (off := 0) (v := (.agg (List.toArray [(.int .u8 (rd p0 x4.1)), (.int .u8 (rd p0 (w64 (x4.1 + 1))))]))) rfl rm0 rfl rfl ?_)
          replace h := bsome h
          obtain ⟨d8, h8, h⟩ := h
          refine o1 rfl (o_call has119 rfl (c_attr_Pair_Check X (⟨(rd p0 x4.1), (rd p0 (w64 (x4.1 + 1)))⟩ : Vattr_Pair) _ h8) (pc rm1 pn) ?_)
          refine o1 rfl (o_p rfl ?_)
          refine o_end ?_
          refine e_seq ?_
          refine c_seq ?_
          refine c_region ?_
          refine o1 rfl (o_p rfl ?_)
          refine o1 rfl (o_p (v := (.bool (d8 != 0))) rfl ?_)
          refine o_end ?_
          refine e_seq ?_
          refine c_cond (b := (d8 != 0)) rfl (fun hb176 => ?_) (fun hb176 => ?_)
          · replace h := cond_t hb176 h
            refine c_seq ?_
            refine c_region ?_
            refine o1 rfl (o_p rfl ?_)
            refine o1 rfl (o_p rfl ?_)
            refine o1 rfl (o_p rfl ?_)
            refine o1 rfl (o_p rfl ?_)
            refine o_end ?_
            refine e_seq ?_
            refine c_ret ?_
            refine e_then_ret ?_
            refine e_blk_ret ?_
            refine e_then_ret ?_
            refine e_then_ret ?_
            refine e_blk_ret ?_
            refine ej_ret ?_
            replace h := esc_some h
            obtain ⟨z3, h, rfl⟩ := h
            obtain rfl := (hk3 : z3 = _)
            refine e_then_ret ?_
            refine e_ret ?_
            refine r_add (slO SV.nil 196 en_Vattr_Pair []) (slO_nil _ _ _) ?_
            refine r_endt rfl rfl (kc rm1 (kc rm0 (kd (kd kr)))) ?_
            have hr := Option.some.inj h
            subst hr
            exact hk SV.nil
          · replace h := cond_f hb176 h
            refine c_skip ?_
            refine e_seq ?_
            refine c_region ?_
            refine o1 rfl (o_p rfl ?_)
            refine o1 rfl (o_ld (b := b174) (off := 0) (v := (.agg (List.toArray [(.int .u8 (rd p0 x4.1)), (.int .u8 (rd p0 (w64 (x4.1 + 1))))]))) rfl rm1 rfl rfl ?_)
            refine o1 rfl (o_bs (e := en_Vattr_Pair) (l := [(⟨(rd p0 x4.1), (rd p0 (w64 (x4.1 + 1)))⟩ : Vattr_Pair)]) (zs := [(.int .u8 0), (.int .u8 0)]) rfl rfl rfl rfl rfl rfl rfl rfl rfl rfl (fun s177 => ?_))
            replace h := gsome h
            obtain ⟨hg179, h⟩ := h
            refine o1 rfl (o_app (s := i4) (r := s177) (e := en_Vattr_Pair) (l := x4.2) (l2 := [(⟨(rd p0 x4.1), (rd p0 (w64 (x4.1 + 1)))⟩ : Vattr_Pair)]) (zs := [(.int .u8 0), (.int .u8 0)]) rfl rfl rfl rfl rfl rfl rfl rfl rfl rfl rfl rm3 rm0 (rd_own _ _ _ _) hg179 (fun s180 => ?_))
            refine o1 rfl (o_p rfl ?_)
            refine o_end ?_
            refine e_blk ?_
            refine e_seq ?_
            refine c_region ?_
            refine o1 rfl (o_p rfl ?_)
            refine o1 rfl (o_p (v := (.int .i64 (w64 (x4.1 + 2)))) rfl ?_)
            refine o1 rfl (o_p rfl ?_)
            refine o_end ?_
            exact e_loop (l_sub (sc rfl (sc rfl (sc rfl (sc rfl sn)))) (l_keep (kc rm2 (kc rm0 (kd (kd kr)))) (ih4 (w64 (x4.1 + 2), (x4.2 ++ [(⟨(rd p0 x4.1), (rd p0 (w64 (x4.1 + 1)))⟩ : Vattr_Pair)])) s180 trivial h)))
        · replace h := cond_f hb171 h
          refine c_exit ?_
          refine e_then_exit ?_
          refine e_then_exit ?_
          refine e_blk_exit ?_
          have hd := Option.some.inj h
          subst hd
          exact ej x4.2 i4 rfl (sc rfl (sc rfl sn)) (kc rm0 (kc rm0 kr))
      · rintro d3 i3 rfl
        replace h := JK_inl hk3
        clear hk3
        refine e_seq ?_
        refine c_seq ?_
        refine c_region ?_
        refine o1 rfl (o_p rfl ?_)
        refine o1 rfl (o_p rfl ?_)
        refine o1 rfl (o_p rfl ?_)
        refine o1 rfl (o_p rfl ?_)
        refine o1 rfl (o_p rfl ?_)
        refine o_end ?_
        refine e_seq ?_
        refine c_ret ?_
        refine e_ret ?_
        refine r_endt rfl rfl (kc rm0 (kc rm0 kr)) ?_
        have hr := Option.some.inj h
        subst hr
        exact hk i3

theorem c_order_scanner_pairs {g : Gw} (X : HP) (p0 : Vorder_scanner) (b0 : Nat) (s0 : SV) (q0 : Rd X s0 5 (enI .u8) p0.p) (r : Vorder_scanner × (List Vattr_Pair)) (h : m_order_scanner_pairs p0 = some r) : Tri env g 127 (List.toArray [(.pointer (some ⟨b0, 0, none⟩))]) [X, blk b0 (.cells (List.toArray [(SV.val s0), (.int .i64 p0.code)]) 188 (0, 0))] (fun K R => ∀ (i0 : HP × SV × SV), (Rd i0.1 i0.2.1 5 (enI .u8) r.1.p) → (Ext X i0.1) → K (SV.val i0.2.2) (i0.1 :: blk b0 (.cells (List.toArray [(SV.val i0.2.1), (.int .i64 r.1.code)]) 188 (0, 0)) :: slO i0.2.2 196 en_Vattr_Pair r.2 :: R)) := by
  refine tri_of (fn := Try.f127) (N := 24) Try.func127 rfl rfl rfl ?_
  intro R K hk
  unfold m_order_scanner_pairs at h
  change GC _ none _ [] [(0, (.pointer (some ⟨b0, 0, none⟩)))] (X :: blk b0 (.cells (List.toArray [(SV.val s0), (.int .i64 p0.code)]) 188 (0, 0)) :: R) g _ _
  refine c_seq ?_
  refine c_region ?_
  refine o1 rfl (o_p rfl ?_)
  refine o_end ?_
  refine e_seq ?_
  refine c_seq ?_
  refine c_region ?_
  refine o1 rfl (o_p rfl ?_)
  refine o1 rfl (o_p rfl ?_)
  refine o1 rfl (o_fa (fd := ⟨ "p", 31, 0, false, "", "vitrine/order", 0⟩) rfl rfl rfl rfl rfl ?_)
  refine o1 rfl (o_ld (b := b0) (off := 0) (v := (SV.val s0)) rfl rm1 rfl rfl ?_)
  replace h := bsome h
  obtain ⟨d1, h1, h⟩ := h
  refine o1 rfl (o_call has139 rfl (c_attr_Parse X p0.p s0 q0 _ h1) (pc rm0 pn) (fun i1 => ?_))
  refine o1 rfl (o_p rfl ?_)
  refine o1 rfl (o_p rfl ?_)
  refine o1 rfl (o_p rfl ?_)
  refine o1 rfl (o_p rfl ?_)
  refine o1 rfl (o_p rfl ?_)
  refine o1 rfl (o_p rfl ?_)
  refine o1 rfl (o_p rfl ?_)
  refine o_end ?_
  refine e_seq ?_
  refine c_seq ?_
  refine c_seq ?_
  refine c_region ?_
  refine o1 rfl (o_p rfl ?_)
  refine o1 rfl (o_p (v := (.bool (d1.2.2 != 0))) rfl ?_)
  refine o_end ?_
  refine e_seq ?_
  refine c_cond (b := (d1.2.2 != 0)) rfl (fun hb189 => ?_) (fun hb189 => ?_)
  · replace h := cond_t hb189 h
    refine c_seq ?_
    refine c_region ?_
    refine o1 rfl (o_p rfl ?_)
    refine o1 rfl (o_p rfl ?_)
    replace h := bsome h
    obtain ⟨d3, h3, h⟩ := h
    refine o1 rfl (o_call has138 rfl (c_order_scanner_fail X p0 b0 s0 q0 d1.2.2 _ h3) (pc rm0 (pc rm1 pn)) (fun f3_0 => ?_))
    refine o_end ?_
    refine e_seq ?_
    refine c_seq ?_
    refine c_region ?_
    refine o1 rfl (o_p rfl ?_)
    refine o_end ?_
    refine e_seq ?_
    refine c_ret ?_
    refine e_then_ret ?_
    refine e_ret ?_
    refine r_add (slO SV.nil 196 en_Vattr_Pair []) (slO_nil _ _ _) ?_
    refine r_endt rfl rfl (kc rm1 (kc rm1 (kc rm0 (kd kr)))) ?_
    have hr := Option.some.inj h
    subst hr
    exact hk (X, s0, SV.nil) f3_0 (Ext.refl _)
  · replace h := cond_f hb189 h
    refine c_skip ?_
    refine e_seq ?_
    refine c_seq ?_
    refine c_region ?_
    refine o1 rfl (o_p rfl ?_)
    refine o1 rfl (o_p rfl ?_)
    replace h := bsome h
    obtain ⟨d4, h4, h⟩ := h
    refine o1 rfl (o_call has123 rfl (c_order_scanner_take X p0 b0 s0 q0 d1.2.1 _ h4) (pc rm0 (pc rm1 pn)) (fun i4 f4_0 f4_1 f4_2 => ?_))
    refine o_end ?_
    refine e_seq ?_
    refine c_seq ?_
    refine c_region ?_
    refine o1 rfl (o_p rfl ?_)
    refine o1 rfl (o_p rfl ?_)
    refine o_end ?_
    refine e_seq ?_
    refine c_ret ?_
    refine e_ret ?_
    refine r_endt rfl rfl (kc rm0 (kc rm0 (kc rm0 kr))) ?_
    have hr := Option.some.inj h
    subst hr
    exact hk (i4.1, i4.2.1, i1) f4_0 f4_2

theorem c_order_scanner_op {g : Gw} (X : HP) (p0 : Vorder_scanner) (b0 : Nat) (s0 : SV) (q0 : Rd X s0 5 (enI .u8) p0.p) (r : Vorder_scanner × Vorder_Op) (h : m_order_scanner_op p0 = some r) : Tri env g 98 (List.toArray [(.pointer (some ⟨b0, 0, none⟩))]) [X, blk b0 (.cells (List.toArray [(SV.val s0), (.int .i64 p0.code)]) 188 (0, 0))] (fun K R => ∀ (i0 : HP × SV × SV × SV), (Rd i0.1 i0.2.1 5 (enI .u8) r.1.p) → (Ext X i0.1) → K (.agg (List.toArray [(.int .i64 r.2.Kind), (.int .i64 r.2.Addr), (.int .u8 r.2.Code), (.bool r.2.Graph), (.int .u8 r.2.FA), (SV.val i0.2.2.1), (SV.val i0.2.2.2)])) (i0.1 :: blk b0 (.cells (List.toArray [(SV.val i0.2.1), (.int .i64 r.1.code)]) 188 (0, 0)) :: slO i0.2.2.1 196 en_Vattr_Pair r.2.Pairs :: slO i0.2.2.2 5 (enI .u8) r.2.Text :: R)) := by
  refine tri_of (fn := Try.f98) (N := 79) Try.func98 rfl rfl rfl ?_
  intro R K hk
  unfold m_order_scanner_op at h
  change GC _ none _ [] [(0, (.pointer (some ⟨b0, 0, none⟩)))] (X :: blk b0 (.cells (List.toArray [(SV.val s0), (.int .i64 p0.code)]) 188 (0, 0)) :: R) g _ _
  refine c_seq ?_
  refine c_region ?_
  refine o1 rfl (o_alloc (cs := [(.int .i64 0), (.int .i64 0), (.int .u8 0), (.bool false), (.int .u8 0), (SV.val SV.nil), (SV.val SV.nil)]) rfl rfl (fun b50 => ?_))
  refine o_end ?_
  refine e_seq ?_
  refine c_seq ?_
  refine c_seq ?_
  refine c_region ?_
  refine o1 rfl (o_p rfl ?_)
  refine o1 rfl (o_p rfl ?_)
  refine o1 rfl (o_fa (fd := ⟨ "p", 31, 0, false, "", "vitrine/order", 0⟩) rfl rfl rfl rfl rfl ?_)
  refine o1 rfl (o_ld (b := b0) (off := 0) (v := (SV.val s0)) rfl rm2 rfl rfl ?_)
  replace h := gsome h
  obtain ⟨hg52, h⟩ := h
  refine o1 rfl (o_ix (s := s0) (n := 0) (e := (enI .u8)) rfl rfl rfl rfl rfl rfl rm1 q0 hg52 ?_)
  refine o1 rfl (o_ldE (s := s0) (e := (enI .u8)) (n := 0) (f := 0) (v := (.int .u8 (rd p0.p 0))) rfl rm1 q0 hg52 rfl rfl ?_)
  replace h := bsome h
  obtain ⟨d1, h1, h⟩ := h
  refine o1 rfl (o_call has104 rfl (c_order_Is X (rd p0.p 0) _ h1) (pc rm1 pn) ?_)
  refine o1 rfl (o_p (v := (.bool (!d1))) rfl ?_)
  refine o_end ?_
  refine e_seq ?_
  refine c_cond (b := (!d1)) rfl (fun hb65 => ?_) (fun hb65 => ?_)
  · replace h := cond_t hb65 h
    refine c_seq ?_
    refine c_region ?_
    refine o1 rfl (o_p rfl ?_)
    replace h := bsome h
    obtain ⟨d3, h3, h⟩ := h
    refine o1 rfl (o_call has122 rfl (c_order_scanner_text X p0 b0 s0 q0 _ h3) (pc rm0 (pc rm1 pn)) (fun i3 f3_0 f3_1 => ?_))
    refine o1 rfl (o_build (fs := [⟨ "Kind", 3, 0, false, "", "", 0⟩, ⟨ "Addr", 3, 1, false, "", "", 8⟩, ⟨ "Code", 5, 2, false, "", "", 16⟩, ⟨ "Graph", 4, 3, false, "", "", 17⟩, ⟨ "FA", 5, 4, false, "", "", 18⟩, ⟨ "Pairs", 113, 5, false, "", "", 24⟩, ⟨ "Text", 31, 6, false, "", "", 48⟩]) (ps := [(0, 1), (1, 1), (2, 1), (3, 1), (4, 1), (5, 1), (6, 1)]) (cs := [(.int .i64 0), (.int .i64 0), (.int .u8 0), (.bool false), (.int .u8 0), (SV.val SV.nil), (SV.val i3.2.2)]) rfl rfl rfl rfl rfl ?_)
    refine o0 (o_st (b := b50) (off := 0) (vs := [(.int .i64 0), (.int .i64 0), (.int .u8 0), (.bool false), (.int .u8 0), (SV.val SV.nil), (SV.val i3.2.2)]) (cs' := [(.int .i64 0), (.int .i64 0), (.int .u8 0), (.bool false), (.int .u8 0), (SV.val SV.nil), (SV.val i3.2.2)]) rfl rfl rp3 rfl rfl rfl rfl rfl rfl ?_)
    refine o_end ?_
    refine e_seq ?_
    refine c_ret ?_
    refine e_then_ret ?_
    refine e_ret ?_
    refine r_add (slO SV.nil 196 en_Vattr_Pair []) (slO_nil _ _ _) ?_
    refine r_endc (B := [[(.int .i64 0), (.int .i64 0), (.int .u8 0), (.bool false), (.int .u8 0), (SV.val SV.nil), (SV.val i3.2.2)]]) rfl ⟨⟨_, _, _, _, rfl, rm4⟩, trivial⟩ rfl (kc rm1 (kc rm1 (kc rm0 (kc rm0 (kd kr))))) ?_
    have hr := Option.some.inj h
    subst hr
    exact hk (i3.1, i3.2.1, SV.nil, i3.2.2) f3_0 f3_1
  · replace h := cond_f hb65 h
    refine c_skip ?_
    refine e_seq ?_
    refine c_seq ?_
    refine c_region ?_
    refine o1 rfl (o_p rfl ?_)
    replace h := bsome h
    obtain ⟨d4, h4, h⟩ := h
    refine o1 rfl (o_call has123 rfl (c_order_scanner_take X p0 b0 s0 q0 1 _ h4) (pc rm0 (pc rm1 pn)) (fun i4 f4_0 f4_1 f4_2 => ?_))
    replace h := gsome h
    obtain ⟨hg99, h⟩ := h
    refine o1 rfl (o_ix (s := i4.2.2) (n := 0) (e := (enI .u8)) rfl rfl rfl rfl rfl rfl rm0 f4_1 hg99 ?_)
    refine o1 rfl (o_ldE (s := i4.2.2) (e := (enI .u8)) (n := 0) (f := 0) (v := (.int .u8 (rd d4.2 0))) rfl rm0 f4_1 hg99 rfl rfl ?_)
    refine o1 rfl (o_p (v := (.int .i64 (w64 ((rd d4.2 0))))) rfl ?_)
    refine o1 rfl (o_build (fs := [⟨ "Kind", 3, 0, false, "", "", 0⟩, ⟨ "Addr", 3, 1, false, "", "", 8⟩, ⟨ "Code", 5, 2, false, "", "", 16⟩, ⟨ "Graph", 4, 3, false, "", "", 17⟩, ⟨ "FA", 5, 4, false, "", "", 18⟩, ⟨ "Pairs", 113, 5, false, "", "", 24⟩, ⟨ "Text", 31, 6, false, "", "", 48⟩]) (ps := [(0, 1), (1, 1), (2, 1), (3, 1), (4, 1), (5, 1), (6, 1)]) (cs := [(.int .i64 (w64 ((rd d4.2 0)))), (.int .i64 0), (.int .u8 0), (.bool false), (.int .u8 0), (SV.val SV.nil), (SV.val SV.nil)]) rfl rfl rfl rfl rfl ?_)
    refine o1 rfl (o_alloc (cs := [(.int .i64 0), (.int .i64 0), (.int .u8 0), (.bool false), (.int .u8 0), (SV.val SV.nil), (SV.val SV.nil)]) rfl rfl (fun b100 => ?_))
    refine o0 (o_st (b := b100) (off := 0) (vs := [(.int .i64 (w64 ((rd d4.2 0)))), (.int .i64 0), (.int .u8 0), (.bool false), (.int .u8 0), (SV.val SV.nil), (SV.val SV.nil)]) (cs' := [(.int .i64 (w64 ((rd d4.2 0)))), (.int .i64 0), (.int .u8 0), (.bool false), (.int .u8 0), (SV.val SV.nil), (SV.val SV.nil)]) rfl rfl rp0 rfl rfl rfl rfl rfl rfl ?_)
    refine o_end ?_
    refine e_seq ?_
    refine c_seq ?_
    refine c_seq ?_
    refine c_region ?_
    refine o1 rfl (o_fa (fd := ⟨ "Kind", 3, 0, false, "", "", 0⟩) rfl rfl rfl rfl rfl ?_)
    refine o1 rfl (o_ld (b := b100) (off := 0) (v := (.int .i64 (w64 ((rd d4.2 0))))) rfl rm0 rfl rfl ?_)
    refine o_end ?_
    refine e_seq ?_
    refine c_block ?_
    refine c_seq ?_
    refine c_seq ?_
    refine c_region ?_
    refine o1 rfl (o_p (v := (.bool ((w64 ((rd d4.2 0))) == 17))) rfl ?_)
    refine o1 rfl (o_p rfl ?_)
    refine o_end ?_
    refine e_seq ?_
    replace h := bsome h
    obtain ⟨d6, h, hk6⟩ := h
    refine cj (D := Unit) (ι := Unit) (fun _ i6 => True) (fun _ i6 => [(23, (.bool d6)), (22, (.int .i64 (w64 ((rd d4.2 0))))), (3, (.pointer (some ⟨b100, 0, none⟩))), (2, (.pointer (some ⟨b50, 0, none⟩))), (0, (.pointer (some ⟨b0, 0, none⟩)))]) (fun _ i6 => i4.1 :: blk b100 (.cells (List.toArray [(.int .i64 (w64 ((rd d4.2 0)))), (.int .i64 0), (.int .u8 0), (.bool false), (.int .u8 0), (SV.val SV.nil), (SV.val SV.nil)]) 115 (0, 0)) :: blk b50 (.cells (List.toArray [(.int .i64 0), (.int .i64 0), (.int .u8 0), (.bool false), (.int .u8 0), (SV.val SV.nil), (SV.val SV.nil)]) 115 (0, 0)) :: blk b0 (.cells (List.toArray [(SV.val i4.2.1), (.int .i64 d4.1.code)]) 188 (0, 0)) :: R) ?_ ?_
    · refine c_cond (b := ((w64 ((rd d4.2 0))) == 17)) rfl (fun hb102 => ?_) (fun hb102 => ?_)
      · replace h := cond_t hb102 h
        refine c_skip ?_
        have hd := Option.some.inj h
        subst hd
        exact ej () () trivial (sc rfl (sc rfl (sc rfl (sc rfl (sc rfl sn))))) (kc rm1 (kc rm0 (kc rm1 (kc rm0 kr))))
      · replace h := cond_f hb102 h
        refine c_region ?_
        refine o1 rfl (o_p (v := (.bool ((w64 ((rd d4.2 0))) == 18))) rfl ?_)
        refine o1 rfl (o_p rfl ?_)
        refine o_end ?_
        have hd := Option.some.inj h
        subst hd
        exact ej () () trivial (sc rfl (sc rfl (sc rfl (sc rfl (sc rfl sn))))) (kc rm1 (kc rm0 (kc rm1 (kc rm0 kr))))
    · rintro _ i6 _
      replace h := hk6
      clear hk6
      refine e_seq ?_
      replace h := bsome h
      obtain ⟨d7, h, hk7⟩ := h
      refine cj (D := Unit) (ι := HP × SV × SV) (fun _ i7 => (Rd i7.1 i7.2.2 5 (enI .u8) d7.2.2.2.2.2.1) ∧ (Ext X i7.1)) (fun _ i7 => [(3, (.pointer (some ⟨b100, 0, none⟩))), (2, (.pointer (some ⟨b50, 0, none⟩)))]) (fun _ i7 => i7.1 :: blk b100 (.cells (List.toArray [(.int .i64 (w64 ((rd d4.2 0)))), (.int .i64 d7.1), (.int .u8 d7.2.1), (.bool d7.2.2.1), (.int .u8 d7.2.2.2.1), (SV.val i7.2.1), (SV.val SV.nil)]) 115 (0, 0)) :: blk b50 (.cells (List.toArray [(.int .i64 0), (.int .i64 0), (.int .u8 0), (.bool false), (.int .u8 0), (SV.val SV.nil), (SV.val SV.nil)]) 115 (0, 0)) :: blk b0 (.cells (List.toArray [(SV.val i7.2.2), (.int .i64 d7.2.2.2.2.2.2)]) 188 (0, 0)) :: slO i7.2.1 196 en_Vattr_Pair d7.2.2.2.2.1 :: R) ?_ ?_
      · refine c_cond (b := d6) rfl (fun hb103 => ?_) (fun hb103 => ?_)
        · replace h := cond_t hb103 h
          refine c_region ?_
          refine o1 rfl (o_p rfl ?_)
          replace h := bsome h
          obtain ⟨d8, h8, h⟩ := h
          refine o1 rfl (o_call has124 rfl (c_order_scanner_addr i4.1 d4.1 b0 i4.2.1 f4_0 _ h8) (pc rm0 (pc rm2 pn)) (fun i8 f8_0 f8_1 => ?_))
          refine o1 rfl (o_fa (fd := ⟨ "Addr", 3, 1, false, "", "", 8⟩) rfl rfl rfl rfl rfl ?_)
          refine o0 (o_st (b := b100) (off := 1) (vs := [(.int .i64 d8.2)]) (cs' := [(.int .i64 (w64 ((rd d4.2 0)))), (.int .i64 d8.2), (.int .u8 0), (.bool false), (.int .u8 0), (SV.val SV.nil), (SV.val SV.nil)]) rfl rfl rp2 rfl rfl rfl rfl rfl rfl ?_)
          refine o_end ?_
          refine e_add (slO SV.nil 196 en_Vattr_Pair []) (slO_nil _ _ _) ?_
          have hd := Option.some.inj h
          subst hd
          exact ej () (i8.1, SV.nil, i8.2) ⟨f8_0, (Ext.trans f4_2 f8_1)⟩ (sc rfl (sc rfl sn)) (kc rm1 (kc rm2 (kc rm2 (kc rm1 (kc rm0 kr)))))
        · replace h := cond_f hb103 h
          refine c_seq ?_
          refine c_region ?_
          refine o1 rfl (o_p (v := (.bool ((w64 ((rd d4.2 0))) == 60))) rfl ?_)
          refine o1 rfl (o_p rfl ?_)
          refine o_end ?_
          refine e_seq ?_
          refine c_cond (b := ((w64 ((rd d4.2 0))) == 60)) rfl (fun hb106 => ?_) (fun hb106 => ?_)
          · replace h := cond_t hb106 h
            refine c_seq ?_
            refine c_region ?_
            refine o1 rfl (o_p rfl ?_)
            replace h := bsome h
            obtain ⟨d9, h9, h⟩ := h
            refine o1 rfl (o_call has124 rfl (c_order_scanner_addr i4.1 d4.1 b0 i4.2.1 f4_0 _ h9) (pc rm0 (pc rm2 pn)) (fun i9 f9_0 f9_1 => ?_))
            refine o1 rfl (o_fa (fd := ⟨ "Addr", 3, 1, false, "", "", 8⟩) rfl rfl rfl rfl rfl ?_)
            refine o0 (o_st (b := b100) (off := 1) (vs := [(.int .i64 d9.2)]) (cs' := [(.int .i64 (w64 ((rd d4.2 0)))), (.int .i64 d9.2), (.int .u8 0), (.bool false), (.int .u8 0), (SV.val SV.nil), (SV.val SV.nil)]) rfl rfl rp2 rfl rfl rfl rfl rfl rfl ?_)
            refine o_end ?_
            refine e_seq ?_
            refine c_seq ?_
            refine c_seq ?_
            replace h := bsome h
            obtain ⟨d10, h, hk10⟩ := h
            refine cj (D := Unit) (ι := Unit) (fun _ i10 => True) (fun _ i10 => [(48, (.bool d10)), (3, (.pointer (some ⟨b100, 0, none⟩))), (2, (.pointer (some ⟨b50, 0, none⟩))), (0, (.pointer (some ⟨b0, 0, none⟩)))]) (fun _ i10 => i9.1 :: blk b100 (.cells (List.toArray [(.int .i64 (w64 ((rd d4.2 0)))), (.int .i64 d9.2), (.int .u8 0), (.bool false), (.int .u8 0), (SV.val SV.nil), (SV.val SV.nil)]) 115 (0, 0)) :: blk b50 (.cells (List.toArray [(.int .i64 0), (.int .i64 0), (.int .u8 0), (.bool false), (.int .u8 0), (SV.val SV.nil), (SV.val SV.nil)]) 115 (0, 0)) :: blk b0 (.cells (List.toArray [(SV.val i9.2), (.int .i64 d9.1.code)]) 188 (0, 0)) :: R) ?_ ?_
            · refine c_region ?_
              refine o1 rfl (o_p rfl ?_)
              refine o1 rfl (o_p rfl ?_)
              refine o1 rfl (o_fa (fd := ⟨ "p", 31, 0, false, "", "vitrine/order", 0⟩) rfl rfl rfl rfl rfl ?_)
              refine o1 rfl (o_ld (b := b0) (off := 0) (v := (SV.val i9.2)) rfl rm1 rfl rfl ?_)
              refine o1 rfl (o_len (s := i9.2) rfl rfl rfl rm0 f9_0 ?_)
              refine o1 rfl (o_p (v := (.bool (decide ((d9.1.p.length : Int) > 0)))) rfl ?_)
              refine o1 rfl (o_p rfl ?_)
              rcases bool_or ((decide ((d9.1.p.length : Int) > 0))) with hb107 | hb107
              · replace h := cond_t hb107 h
                refine oy rfl rfl rfl hb107 (o_p rfl ?_)
                refine oy rfl rfl rfl hb107 (o_p rfl ?_)
                refine oy rfl rfl rfl hb107 (o_fa (fd := ⟨ "p", 31, 0, false, "", "vitrine/order", 0⟩) rfl rfl rfl rfl rfl ?_)
                refine oy rfl rfl rfl hb107 (o_ld (b := b0) (off := 0) (v := (SV.val i9.2)) rfl rm1 rfl rfl ?_)
                replace h := gsome h
                obtain ⟨hg108, h⟩ := h
                refine oy rfl rfl rfl hb107 (o_ix (s := i9.2) (n := 0) (e := (enI .u8)) rfl rfl rfl rfl rfl rfl rm0 f9_0 hg108 ?_)
                refine oy rfl rfl rfl hb107 (o_ldE (s := i9.2) (e := (enI .u8)) (n := 0) (f := 0) (v := (.int .u8 (rd d9.1.p 0))) rfl rm0 f9_0 hg108 rfl rfl ?_)
                refine oy rfl rfl rfl hb107 (o_p (v := (.bool ((rd d9.1.p 0) == 8))) rfl ?_)
                refine o1 rfl (o_pick_t rfl hb107 rfl ?_)
                refine o_end ?_
                have hd := Option.some.inj h
                subst hd
                exact ej () () trivial (sc rfl (sc rfl (sc rfl (sc rfl sn)))) (kc rm0 (kc rm1 (kc rm1 (kc rm0 kr))))
              · replace h := cond_f hb107 h
                refine on rfl rfl rfl hb107 ?_
                refine on rfl rfl rfl hb107 ?_
                refine on rfl rfl rfl hb107 ?_
                refine on rfl rfl rfl hb107 ?_
                refine on rfl rfl rfl hb107 ?_
                refine on rfl rfl rfl hb107 ?_
                refine on rfl rfl rfl hb107 ?_
                refine o1 rfl (o_pick_f rfl hb107 rfl ?_)
                refine o_end ?_
                have hd := Option.some.inj h
                subst hd
                exact ej () () trivial (sc rfl (sc rfl (sc rfl (sc rfl sn)))) (kc rm0 (kc rm1 (kc rm1 (kc rm0 kr))))
            · rintro _ i10 _
              replace h := hk10
              clear hk10
              refine e_seq ?_
              replace h := bsome h
              obtain ⟨d11, h, hk11⟩ := h
              refine cj (D := Unit) (ι := HP × SV) (fun _ i11 => (Rd i11.1 i11.2 5 (enI .u8) d11.2.1) ∧ (Ext X i11.1)) (fun _ i11 => [(3, (.pointer (some ⟨b100, 0, none⟩))), (2, (.pointer (some ⟨b50, 0, none⟩))), (0, (.pointer (some ⟨b0, 0, none⟩)))]) (fun _ i11 => i11.1 :: blk b100 (.cells (List.toArray [(.int .i64 (w64 ((rd d4.2 0)))), (.int .i64 d9.2), (.int .u8 0), (.bool d11.1), (.int .u8 0), (SV.val SV.nil), (SV.val SV.nil)]) 115 (0, 0)) :: blk b50 (.cells (List.toArray [(.int .i64 0), (.int .i64 0), (.int .u8 0), (.bool false), (.int .u8 0), (SV.val SV.nil), (SV.val SV.nil)]) 115 (0, 0)) :: blk b0 (.cells (List.toArray [(SV.val i11.2), (.int .i64 d11.2.2)]) 188 (0, 0)) :: R) ?_ ?_
              · refine c_cond (b := d10) rfl (fun hb109 => ?_) (fun hb109 => ?_)
                · replace h := cond_t hb109 h
                  refine c_seq ?_
                  refine c_region ?_
                  refine o1 rfl (o_p rfl ?_)
                  replace h := bsome h
                  obtain ⟨d12, h12, h⟩ := h
                  refine o1 rfl (o_call has123 rfl (c_order_scanner_take i9.1 d9.1 b0 i9.2 f9_0 1 _ h12) (pc rm0 (pc rm2 pn)) (fun i12 f12_0 f12_1 f12_2 => ?_))
                  refine o_end ?_
                  refine e_seq ?_
                  refine c_region ?_
                  refine o1 rfl (o_fa (fd := ⟨ "Graph", 4, 3, false, "", "", 17⟩) rfl rfl rfl rfl rfl ?_)
                  refine o0 (o_st (b := b100) (off := 3) (vs := [(.bool true)]) (cs' := [(.int .i64 (w64 ((rd d4.2 0)))), (.int .i64 d9.2), (.int .u8 0), (.bool true), (.int .u8 0), (SV.val SV.nil), (SV.val SV.nil)]) rfl rfl rp2 rfl rfl rfl rfl rfl rfl ?_)
                  refine o_end ?_
                  have hd := Option.some.inj h
                  subst hd
                  exact ej () (i12.1, i12.2.1) ⟨f12_0, (Ext.trans (Ext.trans f4_2 f9_1) f12_2)⟩ (sc rfl (sc rfl (sc rfl sn))) (kc rm0 (kc rm1 (kc rm1 (kc rm0 kr))))
                · replace h := cond_f hb109 h
                  refine c_skip ?_
                  have hd := Option.some.inj h
                  subst hd
                  exact ej () (i9.1, i9.2) ⟨f9_0, (Ext.trans f4_2 f9_1)⟩ (sc rfl (sc rfl (sc rfl sn))) (kc rm0 (kc rm0 (kc rm0 (kc rm0 kr))))
              · rintro _ i11 ⟨f11_0, f11_1⟩
                replace h := hk11
                clear hk11
                refine e_seq ?_
                refine c_region ?_
                refine o1 rfl (o_p rfl ?_)
                replace h := bsome h
                obtain ⟨d13, h13, h⟩ := h
                refine o1 rfl (o_call has125 rfl (c_order_scanner_character i11.1 (⟨d11.2.1, d11.2.2⟩ : Vorder_scanner) b0 i11.2 f11_0 _ h13) (pc rm0 (pc rm2 pn)) (fun i13 f13_0 f13_1 => ?_))
                refine o1 rfl (o_fa (fd := ⟨ "Code", 5, 2, false, "", "", 16⟩) rfl rfl rfl rfl rfl ?_)
                refine o0 (o_st (b := b100) (off := 2) (vs := [(.int .u8 d13.2)]) (cs' := [(.int .i64 (w64 ((rd d4.2 0)))), (.int .i64 d9.2), (.int .u8 d13.2), (.bool d11.1), (.int .u8 0), (SV.val SV.nil), (SV.val SV.nil)]) rfl rfl rp2 rfl rfl rfl rfl rfl rfl ?_)
                refine o_end ?_
                refine e_add (slO SV.nil 196 en_Vattr_Pair []) (slO_nil _ _ _) ?_
                have hd := Option.some.inj h
                subst hd
                exact ej () (i13.1, SV.nil, i13.2) ⟨f13_0, (Ext.trans f11_1 f13_1)⟩ (sc rfl (sc rfl sn)) (kc rm1 (kc rm2 (kc rm2 (kc rm1 (kc rm0 kr)))))
          · replace h := cond_f hb106 h
            refine c_seq ?_
            refine c_region ?_
            refine o1 rfl (o_p (v := (.bool ((w64 ((rd d4.2 0))) == 29))) rfl ?_)
            refine o1 rfl (o_p rfl ?_)
            refine o_end ?_
            refine e_seq ?_
            refine c_cond (b := ((w64 ((rd d4.2 0))) == 29)) rfl (fun hb112 => ?_) (fun hb112 => ?_)
            · replace h := cond_t hb112 h
              refine c_region ?_
              refine o1 rfl (o_p rfl ?_)
              replace h := bsome h
              obtain ⟨d14, h14, h⟩ := h
              refine o1 rfl (o_call has123 rfl (c_order_scanner_take i4.1 d4.1 b0 i4.2.1 f4_0 1 _ h14) (pc rm0 (pc rm2 pn)) (fun i14 f14_0 f14_1 f14_2 => ?_))
              replace h := gsome h
              obtain ⟨hg113, h⟩ := h
              refine o1 rfl (o_ix (s := i14.2.2) (n := 0) (e := (enI .u8)) rfl rfl rfl rfl rfl rfl rm0 f14_1 hg113 ?_)
              refine o1 rfl (o_ldE (s := i14.2.2) (e := (enI .u8)) (n := 0) (f := 0) (v := (.int .u8 (rd d14.2 0))) rfl rm0 f14_1 hg113 rfl rfl ?_)
              refine o1 rfl (o_fa (fd := ⟨ "FA", 5, 4, false, "", "", 18⟩) rfl rfl rfl rfl rfl ?_)
              refine o0 (o_st (b := b100) (off := 4) (vs := [(.int .u8 (rd d14.2 0))]) (cs' := [(.int .i64 (w64 ((rd d4.2 0)))), (.int .i64 0), (.int .u8 0), (.bool false), (.int .u8 (rd d14.2 0)), (SV.val SV.nil), (SV.val SV.nil)]) rfl rfl rp2 rfl rfl rfl rfl rfl rfl ?_)
              refine o_end ?_
              refine e_add (slO SV.nil 196 en_Vattr_Pair []) (slO_nil _ _ _) ?_
              have hd := Option.some.inj h
              subst hd
              exact ej () (i14.1, SV.nil, i14.2.1) ⟨f14_0, (Ext.trans f4_2 f14_2)⟩ (sc rfl (sc rfl sn)) (kc rm1 (kc rm2 (kc rm2 (kc rm1 (kc rm0 kr)))))
            · replace h := cond_f hb112 h
              refine c_seq ?_
              refine c_region ?_
              refine o1 rfl (o_p (v := (.bool ((w64 ((rd d4.2 0))) == 40))) rfl ?_)
              refine o1 rfl (o_p rfl ?_)
              refine o_end ?_
              refine e_seq ?_
              refine c_cond (b := ((w64 ((rd d4.2 0))) == 40)) rfl (fun hb114 => ?_) (fun hb114 => ?_)
              · replace h := cond_t hb114 h
                refine c_region ?_
                refine o1 rfl (o_p rfl ?_)
                replace h := bsome h
                obtain ⟨d15, h15, h⟩ := h
                refine o1 rfl (o_call has126 rfl (c_order_scanner_pair i4.1 d4.1 b0 i4.2.1 f4_0 _ h15) (pc rm0 (pc rm2 pn)) (fun i15 f15_0 f15_1 => ?_))
                refine o1 rfl (o_fa (fd := ⟨ "Pairs", 113, 5, false, "", "", 24⟩) rfl rfl rfl rfl rfl ?_)
                refine o0 (o_st (b := b100) (off := 5) (vs := [(SV.val i15.2.2)]) (cs' := [(.int .i64 (w64 ((rd d4.2 0)))), (.int .i64 0), (.int .u8 0), (.bool false), (.int .u8 0), (SV.val i15.2.2), (SV.val SV.nil)]) rfl rfl rp3 rfl rfl rfl rfl rfl rfl ?_)
                refine o_end ?_
                have hd := Option.some.inj h
                subst hd
                exact ej () (i15.1, i15.2.2, i15.2.1) ⟨f15_0, (Ext.trans f4_2 f15_1)⟩ (sc rfl (sc rfl sn)) (kc rm0 (kc rm2 (kc rm2 (kc rm0 (kc rm0 kr)))))
              · replace h := cond_f hb114 h
                refine c_seq ?_
                refine c_seq ?_
                refine c_region ?_
                refine o1 rfl (o_p (v := (.bool ((w64 ((rd d4.2 0))) == 41))) rfl ?_)
                refine o1 rfl (o_p rfl ?_)
                refine o_end ?_
                refine e_seq ?_
                replace h := bsome h
                obtain ⟨d16, h, hk16⟩ := h
                refine cj (D := Unit) (ι := Unit) (fun _ i16 => True) (fun _ i16 => [(67, (.bool d16)), (22, (.int .i64 (w64 ((rd d4.2 0))))), (3, (.pointer (some ⟨b100, 0, none⟩))), (2, (.pointer (some ⟨b50, 0, none⟩))), (0, (.pointer (some ⟨b0, 0, none⟩)))]) (fun _ i16 => i4.1 :: blk b100 (.cells (List.toArray [(.int .i64 (w64 ((rd d4.2 0)))), (.int .i64 0), (.int .u8 0), (.bool false), (.int .u8 0), (SV.val SV.nil), (SV.val SV.nil)]) 115 (0, 0)) :: blk b50 (.cells (List.toArray [(.int .i64 0), (.int .i64 0), (.int .u8 0), (.bool false), (.int .u8 0), (SV.val SV.nil), (SV.val SV.nil)]) 115 (0, 0)) :: blk b0 (.cells (List.toArray [(SV.val i4.2.1), (.int .i64 d4.1.code)]) 188 (0, 0)) :: R) ?_ ?_
                · refine c_cond (b := ((w64 ((rd d4.2 0))) == 41)) rfl (fun hb140 => ?_) (fun hb140 => ?_)
                  · replace h := cond_t hb140 h
                    refine c_skip ?_
                    have hd := Option.some.inj h
                    subst hd
                    exact ej () () trivial (sc rfl (sc rfl (sc rfl (sc rfl (sc rfl sn))))) (kc rm0 (kc rm0 (kc rm0 (kc rm0 kr))))
                  · replace h := cond_f hb140 h
                    refine c_region ?_
                    refine o1 rfl (o_p (v := (.bool ((w64 ((rd d4.2 0))) == 44))) rfl ?_)
                    refine o1 rfl (o_p rfl ?_)
                    refine o_end ?_
                    have hd := Option.some.inj h
                    subst hd
                    exact ej () () trivial (sc rfl (sc rfl (sc rfl (sc rfl (sc rfl sn))))) (kc rm0 (kc rm0 (kc rm0 (kc rm0 kr))))
                · rintro _ i16 _
                  replace h := hk16
                  clear hk16
                  refine e_seq ?_
                  refine c_cond (b := d16) rfl (fun hb141 => ?_) (fun hb141 => ?_)
                  · replace h := cond_t hb141 h
                    refine c_region ?_
                    refine o1 rfl (o_p rfl ?_)
                    replace h := bsome h
                    obtain ⟨d17, h17, h⟩ := h
                    refine o1 rfl (o_call has127 rfl (c_order_scanner_pairs i4.1 d4.1 b0 i4.2.1 f4_0 _ h17) (pc rm0 (pc rm2 pn)) (fun i17 f17_0 f17_1 => ?_))
                    refine o1 rfl (o_fa (fd := ⟨ "Pairs", 113, 5, false, "", "", 24⟩) rfl rfl rfl rfl rfl ?_)
                    refine o0 (o_st (b := b100) (off := 5) (vs := [(SV.val i17.2.2)]) (cs' := [(.int .i64 (w64 ((rd d4.2 0)))), (.int .i64 0), (.int .u8 0), (.bool false), (.int .u8 0), (SV.val i17.2.2), (SV.val SV.nil)]) rfl rfl rp3 rfl rfl rfl rfl rfl rfl ?_)
                    refine o_end ?_
                    have hd := Option.some.inj h
                    subst hd
                    exact ej () (i17.1, i17.2.2, i17.2.1) ⟨f17_0, (Ext.trans f4_2 f17_1)⟩ (sc rfl (sc rfl sn)) (kc rm0 (kc rm2 (kc rm2 (kc rm0 (kc rm0 kr)))))
                  · replace h := cond_f hb141 h
                    refine c_seq ?_
                    refine c_region ?_
                    refine o1 rfl (o_p (v := (.bool ((w64 ((rd d4.2 0))) == 8))) rfl ?_)
                    refine o1 rfl (o_p rfl ?_)
                    refine o_end ?_
                    refine e_seq ?_
                    refine c_cond (b := ((w64 ((rd d4.2 0))) == 8)) rfl (fun hb193 => ?_) (fun hb193 => ?_)
                    · replace h := cond_t hb193 h
                      refine c_region ?_
                      refine o1 rfl (o_p rfl ?_)
                      replace h := bsome h
                      obtain ⟨d18, h18, h⟩ := h
                      refine o1 rfl (o_call has125 rfl (c_order_scanner_character i4.1 d4.1 b0 i4.2.1 f4_0 _ h18) (pc rm0 (pc rm2 pn)) (fun i18 f18_0 f18_1 => ?_))
                      refine o1 rfl (o_fa (fd := ⟨ "Code", 5, 2, false, "", "", 16⟩) rfl rfl rfl rfl rfl ?_)
                      refine o0 (o_st (b := b100) (off := 2) (vs := [(.int .u8 d18.2)]) (cs' := [(.int .i64 (w64 ((rd d4.2 0)))), (.int .i64 0), (.int .u8 d18.2), (.bool false), (.int .u8 0), (SV.val SV.nil), (SV.val SV.nil)]) rfl rfl rp2 rfl rfl rfl rfl rfl rfl ?_)
                      refine o_end ?_
                      refine e_add (slO SV.nil 196 en_Vattr_Pair []) (slO_nil _ _ _) ?_
                      have hd := Option.some.inj h
                      subst hd
                      exact ej () (i18.1, SV.nil, i18.2) ⟨f18_0, (Ext.trans f4_2 f18_1)⟩ (sc rfl (sc rfl sn)) (kc rm1 (kc rm2 (kc rm2 (kc rm1 (kc rm0 kr)))))
                    · replace h := cond_f hb193 h
                      refine c_skip ?_
                      refine e_add (slO SV.nil 196 en_Vattr_Pair []) (slO_nil _ _ _) ?_
                      have hd := Option.some.inj h
                      subst hd
                      exact ej () (i4.1, SV.nil, i4.2.1) ⟨f4_0, f4_2⟩ (sc rfl (sc rfl sn)) (kc rm1 (kc rm1 (kc rm1 (kc rm1 (kc rm0 kr)))))
      · rintro _ i7 ⟨f7_0, f7_1⟩
        replace h := hk7
        clear hk7
        refine e_blk ?_
        refine e_seq ?_
        refine c_seq ?_
        refine c_region ?_
        refine o1 rfl (o_ld (b := b100) (off := 0) (v := (.agg (List.toArray [(.int .i64 (w64 ((rd d4.2 0)))), (.int .i64 d7.1), (.int .u8 d7.2.1), (.bool d7.2.2.1), (.int .u8 d7.2.2.2.1), (SV.val i7.2.1), (SV.val SV.nil)]))) rfl rm1 rfl rfl ?_)
        refine o0 (o_st (b := b50) (off := 0) (vs := [(.int .i64 (w64 ((rd d4.2 0)))), (.int .i64 d7.1), (.int .u8 d7.2.1), (.bool d7.2.2.1), (.int .u8 d7.2.2.2.1), (SV.val i7.2.1), (SV.val SV.nil)]) (cs' := [(.int .i64 (w64 ((rd d4.2 0)))), (.int .i64 d7.1), (.int .u8 d7.2.1), (.bool d7.2.2.1), (.int .u8 d7.2.2.2.1), (SV.val i7.2.1), (SV.val SV.nil)]) rfl rfl rp2 rfl rfl rfl rfl rfl rfl ?_)
        refine o_end ?_
        refine e_seq ?_
        refine c_ret ?_
        refine e_ret ?_
        refine r_add (slO SV.nil 5 (enI .u8) []) (slO_nil _ _ _) ?_
        refine r_endc (B := [[(.int .i64 (w64 ((rd d4.2 0)))), (.int .i64 d7.1), (.int .u8 d7.2.1), (.bool d7.2.2.1), (.int .u8 d7.2.2.2.1), (SV.val i7.2.1), (SV.val SV.nil)]]) rfl ⟨⟨_, _, _, _, rfl, rm3⟩, trivial⟩ rfl (kc rm1 (kc rm3 (kc rm3 (kc rm0 (kd (kd kr)))))) ?_
        have hr := Option.some.inj h
        subst hr
        exact hk (i7.1, i7.2.2, i7.2.1, SV.nil) f7_0 f7_1

theorem c_order_All {g : Gw} (X : HP) (p0 : List Int) (s0 : SV) (q0 : Rd X s0 5 (enI .u8) p0) (r : (List Vorder_Op) × Int × Int) (h : m_order_All p0 = some r) : Tri env g 64 (List.toArray [(SV.val s0)]) [X] (fun K R => ∀ (i0 : HP × SV × (List (Vorder_Op × SV × SV))), (NL (D_Vorder_Op i0.1) i0.2.2 r.1) → (Ext X i0.1) → K (.tuple (List.toArray [(SV.val i0.2.1), (.int .i64 r.2.1), (.int .i64 r.2.2)])) (i0.1 :: slO i0.2.1 115 en_Vorder_Op i0.2.2 :: R)) := by
  refine tri_of (fn := Try.f64) (N := 46) Try.func64 rfl rfl rfl ?_
  intro R K hk
  unfold m_order_All at h
  change GC _ none _ [] [(0, (SV.val s0))] (X :: R) g _ _
  refine c_seq ?_
  refine c_region ?_
  refine o1 rfl (o_p rfl ?_)
  refine o1 rfl (o_p rfl ?_)
  refine o1 rfl (o_p rfl ?_)
  refine o_end ?_
  refine e_seq ?_
  refine c_seq ?_
  refine c_region ?_
  refine o1 rfl (o_p rfl ?_)
  refine o_end ?_
  refine e_seq ?_
  refine c_seq ?_
  refine c_region ?_
  refine o1 rfl (o_p rfl ?_)
  refine o1 rfl (o_build (fs := [⟨ "p", 31, 0, false, "", "vitrine/order", 0⟩, ⟨ "code", 32, 1, false, "", "vitrine/order", 24⟩]) (ps := [(0, 1), (1, 1)]) (cs := [(SV.val s0), (.int .i64 0)]) rfl rfl rfl rfl rfl ?_)
  refine o1 rfl (o_box (cs := [(SV.val s0), (.int .i64 0)]) rfl rfl (fun b47 => ?_))
  refine o1 rfl (o_p rfl ?_)
  refine o_end ?_
  refine e_seq ?_
  refine c_seq ?_
  replace h := jn_some h
  obtain ⟨y1, h, hk1⟩ := h
  refine cj (D := (List Vorder_Op)) (ι := HP × SV × (List (Vorder_Op × SV × SV))) (fun d1 i1 => (y1 = Sum.inl d1) ∧ (NL (D_Vorder_Op i1.1) i1.2.2 d1) ∧ (Rd i1.1 s0 5 (enI .u8) p0) ∧ (Ext X i1.1)) (fun d1 i1 => [(5, (SV.val i1.2.1)), (0, (SV.val s0))]) (fun d1 i1 => i1.1 :: slO i1.2.1 115 en_Vorder_Op i1.2.2 :: R) ?_ ?_
  · refine c_block ?_
    refine c_add (slO SV.nil 115 en_Vorder_Op []) (slO_nil _ _ _) ?_
    refine c_loop (l_sub (sc rfl (sc rfl (sc rfl sn))) (l_keep (kc rm2 (kc rm1 (kc rm0 kr))) (lf (X := (List Vorder_Op) × (List Int) × Int) (ι := HP × SV × (List (Vorder_Op × SV × SV)) × SV) (fun k x => order_All_l2 p0 k x) _ (fun x2 i2 => (NL (D_Vorder_Op i2.1) i2.2.2.1 x2.1) ∧ (Rd i2.1 s0 5 (enI .u8) p0) ∧ (Rd i2.1 i2.2.2.2 5 (enI .u8) x2.2.1) ∧ (Ext X i2.1)) (fun x2 i2 => [(6, (.pointer (some ⟨b47, 0, none⟩))), (5, (SV.val i2.2.1)), (0, (SV.val s0))]) (fun x2 i2 => i2.1 :: blk b47 (.cells (List.toArray [(SV.val i2.2.2.2), (.int .i64 x2.2.2)]) 188 (0, 0)) :: slO i2.2.1 115 en_Vorder_Op i2.2.2.1 :: R) (fun _ => rfl) ?_ fuel (([] : List Vorder_Op), p0, 0) (X, SV.nil, [], s0) ⟨NL.nil, q0, q0, (Ext.refl _)⟩ h)))
    clear h
    rintro k2 ih2 x2 i2 ⟨f2_0, f2_1, f2_2, f2_3⟩ h
    rw [order_All_l2.eq_2] at h
    refine l_round ?_
    refine c_seq ?_
    refine c_seq ?_
    refine c_region ?_
    refine o1 rfl (o_p rfl ?_)
    refine o1 rfl (o_p rfl ?_)
    refine o1 rfl (o_fa (fd := ⟨ "p", 31, 0, false, "", "vitrine/order", 0⟩) rfl rfl rfl rfl rfl ?_)
    refine o1 rfl (o_ld (b := b47) (off := 0) (v := (SV.val i2.2.2.2)) rfl rm1 rfl rfl ?_)
    refine o1 rfl (o_len (s := i2.2.2.2) rfl rfl rfl rm0 f2_2 ?_)
    refine o1 rfl (o_p (v := (.bool (decide ((x2.2.1.length : Int) > 0)))) rfl ?_)
    refine o_end ?_
    refine e_seq ?_
    refine c_cond (b := (decide ((x2.2.1.length : Int) > 0))) rfl (fun hb240 => ?_) (fun hb240 => ?_)
    · replace h := cond_t hb240 h
      refine c_skip ?_
      refine e_seq ?_
      refine c_block ?_
      refine c_seq ?_
      refine c_region ?_
      refine o1 rfl (o_p rfl ?_)
      refine o1 rfl (o_p rfl ?_)
      refine o1 rfl (o_fa (fd := ⟨ "p", 31, 0, false, "", "vitrine/order", 0⟩) rfl rfl rfl rfl rfl ?_)
      refine o1 rfl (o_ld (b := b47) (off := 0) (v := (SV.val i2.2.2.2)) rfl rm1 rfl rfl ?_)
      refine o1 rfl (o_len (s := i2.2.2.2) rfl rfl rfl rm0 f2_2 ?_)
      refine o1 rfl (o_p rfl ?_)
      refine o_end ?_
      refine e_seq ?_
      refine c_seq ?_
      refine c_region ?_
      refine o1 rfl (o_p rfl ?_)
      replace h := bsome h
      obtain ⟨d4, h4, h⟩ := h
      refine o1 rfl (o_call has98 rfl (c_order_scanner_op i2.1 (⟨x2.2.1, x2.2.2⟩ : Vorder_scanner) b47 i2.2.2.2 f2_2 _ h4) (pc rm0 (pc rm0 pn)) (fun i4 f4_0 f4_1 => ?_))
      refine o1 rfl (o_alloc (cs := [(.int .i64 0), (.int .i64 0), (.int .u8 0), (.bool false), (.int .u8 0), (SV.val SV.nil), (SV.val SV.nil)]) rfl rfl (fun b243 => ?_))
      refine o0 (o_st (b := b243) (off := 0) (vs := [(.int .i64 d4.2.Kind), (.int .i64 d4.2.Addr), (.int .u8 d4.2.Code), (.bool d4.2.Graph), (.int .u8 d4.2.FA), (SV.val i4.2.2.1), (SV.val i4.2.2.2)]) (cs' := [(.int .i64 d4.2.Kind), (.int .i64 d4.2.Addr), (.int .u8 d4.2.Code), (.bool d4.2.Graph), (.int .u8 d4.2.FA), (SV.val i4.2.2.1), (SV.val i4.2.2.2)]) rfl rfl rp0 rfl rfl rfl rfl rfl rfl ?_)
      refine o_end ?_
      refine e_seq ?_
      refine c_seq ?_
      refine c_seq ?_
      refine c_region ?_
      refine o1 rfl (o_p rfl ?_)
      refine o1 rfl (o_p rfl ?_)
      refine o1 rfl (o_fa (fd := ⟨ "code", 32, 1, false, "", "vitrine/order", 24⟩) rfl rfl rfl rfl rfl ?_)
      refine o1 rfl (o_ld (b := b47) (off := 1) (v := (.int .i64 d4.1.code)) rfl rm2 rfl rfl ?_)
      refine o1 rfl (o_p (v := (.bool (d4.1.code != 0))) rfl ?_)
      refine o_end ?_
      refine e_seq ?_
      refine c_cond (b := (d4.1.code != 0)) rfl (fun hb245 => ?_) (fun hb245 => ?_)
      · replace h := cond_t hb245 h
        refine c_seq ?_
        refine c_draw (n := 0) (q := [(0, 30, (SV.val i2.2.1)), (1, 31, (SV.val s0)), (2, 32, (.int .i64 (p0.length : Int))), (3, 33, (.int .i64 (x2.2.1.length : Int))), (4, 34, (.int .i64 (w64 ((p0.length : Int) - (x2.2.1.length : Int))))), (5, 35, (.pointer (some ⟨b47, 0, none⟩))), (6, 36, (.pointer (some ⟨b47, 0, none⟩))), (7, 37, (.pointer (some ⟨b47, 1, none⟩))), (8, 38, (.int .i64 d4.1.code)), (9, 2, (SV.val i2.2.1)), (10, 3, (.int .i64 (w64 ((p0.length : Int) - (x2.2.1.length : Int))))), (11, 4, (.int .i64 d4.1.code))]) (pend := [0, 1, 2, 3, 4, 5, 6, 7, 8, 9, 10, 11]) rfl rfl rfl ?_
        refine ⟨⟨fun _ => ⟨rfl, rfl, rfl, .inl ⟨rfl, (o_p rfl ⟨rfl, rfl⟩)⟩⟩, fun _ => ⟨rfl, rfl, rfl, .inl ⟨rfl, (o_p rfl ⟨rfl, rfl⟩)⟩⟩, fun _ => ⟨rfl, rfl, rfl, .inl ⟨rfl, (o_len (s := s0) rfl rfl rfl rm1 (Rd.ext f2_1 f4_1) ⟨rfl, rfl⟩)⟩⟩, fun _ => ⟨rfl, rfl, rfl, .inl ⟨rfl, (o_p rfl ⟨rfl, rfl⟩)⟩⟩, fun _ => ⟨rfl, rfl, rfl, .inl ⟨rfl, (o_p (v := (.int .i64 (w64 ((p0.length : Int) - (x2.2.1.length : Int))))) rfl ⟨rfl, rfl⟩)⟩⟩, fun _ => ⟨rfl, rfl, rfl, .inl ⟨rfl, (o_p rfl ⟨rfl, rfl⟩)⟩⟩, fun _ => ⟨rfl, rfl, rfl, .inl ⟨rfl, (o_p rfl ⟨rfl, rfl⟩)⟩⟩, fun _ => ⟨rfl, rfl, rfl, .inl ⟨rfl, (o_fa (fd := ⟨ "code", 32, 1, false, "", "vitrine/order", 24⟩) rfl rfl rfl rfl rfl ⟨rfl, rfl⟩)⟩⟩, fun _ => ⟨rfl, rfl, rfl, .inl ⟨rfl, (o_ld (b := b47) (off := 1) (v := (.int .i64 d4.1.code)) rfl rm2 rfl rfl ⟨rfl, rfl⟩)⟩⟩, fun _ => ⟨rfl, rfl, rfl, .inl ⟨rfl, (o_p rfl ⟨rfl, rfl⟩)⟩⟩, fun _ => ⟨rfl, rfl, rfl, .inl ⟨rfl, (o_p rfl ⟨rfl, rfl⟩)⟩⟩, fun _ => ⟨rfl, rfl, rfl, .inl ⟨rfl, (o_p rfl ⟨rfl, rfl⟩)⟩⟩, trivial⟩, rfl, rfl, rfl, ?_⟩
        refine e_seq ?_
        refine c_ret ?_
        refine e_then_ret ?_
        refine e_blk_ret ?_
        refine e_then_ret ?_
        refine e_blk_ret ?_
        refine ej_ret ?_
        replace h := esc_some h
        obtain ⟨z1, h, rfl⟩ := h
        obtain rfl := (hk1 : z1 = _)
        refine e_then_ret ?_
        refine e_ret ?_
        refine r_endt rfl rfl (kc rm1 (kc rm4 (kd (kd (kd (kd kr)))))) ?_
        have hr := Option.some.inj h
        subst hr
        exact hk (i4.1, i2.2.1, i2.2.2.1) (NL.mono f2_0 (D_Vorder_Op.ext f4_1)) (Ext.trans f2_3 f4_1)
      · replace h := cond_f hb245 h
        refine c_skip ?_
        refine e_seq ?_
        refine c_region ?_
        refine o1 rfl (o_p rfl ?_)
        refine o1 rfl (o_ld (b := b243) (off := 0) (v := (.agg (List.toArray [(.int .i64 d4.2.Kind), (.int .i64 d4.2.Addr), (.int .u8 d4.2.Code), (.bool d4.2.Graph), (.int .u8 d4.2.FA), (SV.val i4.2.2.1), (SV.val i4.2.2.2)]))) rfl rm0 rfl rfl ?_)
        refine o_fz rm3 rm1 (fun X246 hx247 hs248 => ?_)
        refine o_fz rm3 rm0 (fun X249 hx250 hs251 => ?_)
        refine o1 rfl (o_bs (e := en_Vorder_Op) (l := [(d4.2, (i4.2.2.1, i4.2.2.2))]) (zs := [(.int .i64 0), (.int .i64 0), (.int .u8 0), (.bool false), (.int .u8 0), (SV.val SV.nil), (SV.val SV.nil)]) rfl rfl rfl rfl rfl rfl rfl rfl rfl rfl (fun s252 => ?_))
        replace h := gsome h
        obtain ⟨hg254, h⟩ := h
        refine o1 rfl (o_app (s := i2.2.1) (r := s252) (e := en_Vorder_Op) (l := i2.2.2.1) (l2 := [(d4.2, (i4.2.2.1, i4.2.2.2))]) (zs := [(.int .i64 0), (.int .i64 0), (.int .u8 0), (.bool false), (.int .u8 0), (SV.val SV.nil), (SV.val SV.nil)]) rfl rfl rfl rfl rfl rfl rfl rfl rfl rfl rfl rm4 rm0 (rd_own _ _ _ _) (len2 (D := D_Vorder_Op X249) (D' := D_Vorder_Op X249) (NL.mono f2_0 (D_Vorder_Op.ext (Ext.trans (Ext.trans f4_1 hx247) hx250))) (NL.cons (D := D_Vorder_Op X249) (x := d4.2) (s := (i4.2.2.1, i4.2.2.2)) ⟨(Rd.ext hs248 hx250), hs251⟩ NL.nil) hg254) (fun s255 => ?_))
        refine o1 rfl (o_p rfl ?_)
        refine o_end ?_
        refine e_blk ?_
        exact e_loop (l_sub (sc rfl (sc rfl (sc rfl sn))) (l_keep (kc rm2 (kc rm3 (kc rm0 (kd (kd kr))))) (ih2 ((x2.1 ++ [d4.2]), d4.1.p, d4.1.code) (X249, s255, (i2.2.2.1 ++ [(d4.2, (i4.2.2.1, i4.2.2.2))]), i4.2.1) ⟨(NL.app (NL.mono f2_0 (D_Vorder_Op.ext (Ext.trans (Ext.trans f4_1 hx247) hx250))) (NL.cons (D := D_Vorder_Op X249) (x := d4.2) (s := (i4.2.2.1, i4.2.2.2)) ⟨(Rd.ext hs248 hx250), hs251⟩ NL.nil)), (Rd.ext f2_1 (Ext.trans (Ext.trans f4_1 hx247) hx250)), (Rd.ext f4_0 (Ext.trans hx247 hx250)), (Ext.trans (Ext.trans (Ext.trans f2_3 f4_1) hx247) hx250)⟩ h)))
    · replace h := cond_f hb240 h
      refine c_exit ?_
      refine e_then_exit ?_
      refine e_then_exit ?_
      refine e_blk_exit ?_
      have hd := Option.some.inj h
      subst hd
      exact ej x2.1 (i2.1, i2.2.1, i2.2.2.1) ⟨rfl, f2_0, f2_1, f2_3⟩ (sc rfl (sc rfl sn)) (kc rm0 (kc rm1 (kd kr)))
  · rintro d1 i1 ⟨rfl, f1_0, f1_1, f1_2⟩
    replace h := JK_inl hk1
    clear hk1
    refine e_seq ?_
    refine c_seq ?_
    refine c_region ?_
    refine o1 rfl (o_p rfl ?_)
    refine o1 rfl (o_p rfl ?_)
    refine o1 rfl (o_len (s := s0) rfl rfl rfl rm0 f1_1 ?_)
    refine o1 rfl (o_p rfl ?_)
    refine o1 rfl (o_p rfl ?_)
    refine o1 rfl (o_p rfl ?_)
    refine o_end ?_
    refine e_seq ?_
    refine c_ret ?_
    refine e_ret ?_
    refine r_endt rfl rfl (kc rm0 (kc rm0 kr)) ?_
    have hr := Option.some.inj h
    subst hr
    exact hk (i1.1, i1.2.1, i1.2.2) f1_0 f1_2

theorem c_entry_Report_add {g : Gw} (X : HP) (p0 : Ventry_Report) (b0 : Nat) (s0 : SV) (L0 : List (Ventry_Entry × SV)) (q0 : NL DT L0 p0.Entries) (p1 : List Int) (s1 : SV) (q1 : Rd X s1 5 (enI .u8) p1) (r : Ventry_Report) (h : m_entry_Report_add p0 p1 = some r) : Tri env g 65 (List.toArray [(.pointer (some ⟨b0, 0, none⟩)), (SV.val s1)]) [X, blk b0 (.cells (List.toArray [(.int .u8 p0.AID), (.bool p0.Short), (.int .i64 p0.Cursor), (SV.val s0)]) 65 (0, 0)), slE 5 (enI .u8) (fun y : Ventry_Entry => y.Text) s0 109 en_Ventry_Entry L0] (fun K R => ∀ (i0 : SV × (List (Ventry_Entry × SV))), (NL DT i0.2 r.Entries) → K (.tuple (List.toArray [])) (X :: blk b0 (.cells (List.toArray [(.int .u8 r.AID), (.bool r.Short), (.int .i64 r.Cursor), (SV.val i0.1)]) 65 (0, 0)) :: slE 5 (enI .u8) (fun y : Ventry_Entry => y.Text) i0.1 109 en_Ventry_Entry i0.2 :: R)) := by
  refine tri_of (fn := Try.f65) (N := 36) Try.func65 rfl rfl rfl ?_
  intro R K hk
  unfold m_entry_Report_add at h
  change GC _ none _ [] [(0, (.pointer (some ⟨b0, 0, none⟩))), (1, (SV.val s1))] (X :: blk b0 (.cells (List.toArray [(.int .u8 p0.AID), (.bool p0.Short), (.int .i64 p0.Cursor), (SV.val s0)]) 65 (0, 0)) :: slE 5 (enI .u8) (fun y : Ventry_Entry => y.Text) s0 109 en_Ventry_Entry L0 :: R) g _ _
  refine c_seq ?_
  refine c_seq ?_
  refine c_region ?_
  refine o1 rfl (o_p rfl ?_)
  refine o1 rfl (o_p rfl ?_)
  refine o1 rfl (o_fa (fd := ⟨ "Entries", 63, 3, false, "", "", 16⟩) rfl rfl rfl rfl rfl ?_)
  refine o1 rfl (o_ld (b := b0) (off := 3) (v := (SV.val s0)) rfl rm1 rfl rfl ?_)
  refine o1 rfl (o_lenN (s := s0) rfl rfl rfl rm2 rd_E q0 ?_)
  refine o1 rfl (o_p (v := (.bool ((p0.Entries.length : Int) == 0))) rfl ?_)
  refine o_end ?_
  refine e_seq ?_
  replace h := bsome h
  obtain ⟨d1, h, hk1⟩ := h
  refine cj (D := Unit) (ι := SV × (List (Ventry_Entry × SV))) (fun _ i1 => NL DT i1.2 d1) (fun _ i1 => [(0, (.pointer (some ⟨b0, 0, none⟩))), (1, (SV.val s1))]) (fun _ i1 => X :: blk b0 (.cells (List.toArray [(.int .u8 p0.AID), (.bool p0.Short), (.int .i64 p0.Cursor), (SV.val i1.1)]) 65 (0, 0)) :: slE 5 (enI .u8) (fun y : Ventry_Entry => y.Text) i1.1 109 en_Ventry_Entry i1.2 :: R) ?_ ?_
  · refine c_cond (b := ((p0.Entries.length : Int) == 0)) rfl (fun hb279 => ?_) (fun hb279 => ?_)
    · replace h := cond_t hb279 h
      refine c_region ?_
      refine o1 rfl (o_p rfl ?_)
      refine o1 rfl (o_build (fs := [⟨ "Addr", 3, 0, false, "", "", 0⟩, ⟨ "Text", 31, 1, false, "", "", 8⟩]) (ps := [(0, 1), (1, 1)]) (cs := [(.int .i64 0), (SV.val SV.nil)]) rfl rfl rfl rfl rfl ?_)
      refine o1 rfl (o_bs (e := en_Ventry_Entry) (l := [((⟨0, ([] : List Int)⟩ : Ventry_Entry), SV.nil)]) (zs := [(.int .i64 0), (SV.val SV.nil)]) rfl rfl rfl rfl rfl rfl rfl rfl rfl rfl (fun s280 => ?_))
      refine o1 rfl (o_p rfl ?_)
      refine o1 rfl (o_fa (fd := ⟨ "Entries", 63, 3, false, "", "", 16⟩) rfl rfl rfl rfl rfl ?_)
      refine o_toE (t2 := 5) (e2 := (enI .u8)) (π := (fun y : Ventry_Entry => y.Text)) rm0 (nilE_cons rfl nilE_nil) ?_
      refine o0 (o_st (b := b0) (off := 3) (vs := [(SV.val s280)]) (cs' := [(.int .u8 p0.AID), (.bool p0.Short), (.int .i64 p0.Cursor), (SV.val s280)]) rfl rfl rp2 rfl rfl rfl rfl rfl rfl ?_)
      refine o_end ?_
      have hd := Option.some.inj h
      subst hd
      exact ej () (s280, [((⟨0, ([] : List Int)⟩ : Ventry_Entry), SV.nil)]) (NL.dt (NL.cons (D := D_Ventry_Entry X) (x := (⟨0, ([] : List Int)⟩ : Ventry_Entry)) (s := SV.nil) (rd_nil _ _ _) NL.nil)) (sc rfl (sc rfl sn)) (kc rm1 (kc rm1 (kc rm0 (kd kr))))
    · replace h := cond_f hb279 h
      refine c_skip ?_
      have hd := Option.some.inj h
      subst hd
      exact ej () (s0, L0) q0 (sc rfl (sc rfl sn)) (kc rm0 (kc rm0 (kc rm0 kr)))
  · rintro _ i1 f1_0
    replace h := hk1
    clear hk1
    refine e_seq ?_
    refine c_seq ?_
    replace h := gsome h
    obtain ⟨hg283, h⟩ := h
    refine c_draw (n := 0) (q := [(0, 16, (.pointer (some ⟨b0, 0, none⟩))), (1, 17, (.pointer (some ⟨b0, 0, none⟩))), (2, 18, (.pointer (some ⟨b0, 3, none⟩))), (3, 19, (SV.val i1.1)), (4, 20, (.pointer (some ⟨b0, 0, none⟩))), (5, 21, (.pointer (some ⟨b0, 0, none⟩))), (6, 22, (.pointer (some ⟨b0, 3, none⟩))), (7, 23, (SV.val i1.1)), (8, 24, (.int .i64 (d1.length : Int))), (9, 25, (.int .i64 (w64 ((d1.length : Int) - 1)))), (10, 26, (.pointer (some ⟨SV.blk i1.1, SV.off i1.1 + Int.toNat (w64 ((d1.length : Int) - 1)) * 2, none⟩))), (11, 4, (.pointer (some ⟨SV.blk i1.1, SV.off i1.1 + Int.toNat (w64 ((d1.length : Int) - 1)) * 2, none⟩)))]) (pend := [0, 1, 2, 3, 4, 5, 6, 7, 8, 9, 10, 11]) rfl rfl rfl ?_
    refine ⟨⟨fun _ => ⟨rfl, rfl, rfl, .inl ⟨rfl, (o_p rfl ⟨rfl, rfl⟩)⟩⟩, fun _ => ⟨rfl, rfl, rfl, .inl ⟨rfl, (o_p rfl ⟨rfl, rfl⟩)⟩⟩, fun _ => ⟨rfl, rfl, rfl, .inl ⟨rfl, (o_fa (fd := ⟨ "Entries", 63, 3, false, "", "", 16⟩) rfl rfl rfl rfl rfl ⟨rfl, rfl⟩)⟩⟩, fun _ => ⟨rfl, rfl, rfl, .inl ⟨rfl, (o_ld (b := b0) (off := 3) (v := (SV.val i1.1)) rfl rm1 rfl rfl ⟨rfl, rfl⟩)⟩⟩, fun _ => ⟨rfl, rfl, rfl, .inl ⟨rfl, (o_p rfl ⟨rfl, rfl⟩)⟩⟩, fun _ => ⟨rfl, rfl, rfl, .inl ⟨rfl, (o_p rfl ⟨rfl, rfl⟩)⟩⟩, fun _ => ⟨rfl, rfl, rfl, .inl ⟨rfl, (o_fa (fd := ⟨ "Entries", 63, 3, false, "", "", 16⟩) rfl rfl rfl rfl rfl ⟨rfl, rfl⟩)⟩⟩, fun _ => ⟨rfl, rfl, rfl, .inl ⟨rfl, (o_ld (b := b0) (off := 3) (v := (SV.val i1.1)) rfl rm1 rfl rfl ⟨rfl, rfl⟩)⟩⟩, fun _ => ⟨rfl, rfl, rfl, .inl ⟨rfl, (o_lenN (s := i1.1) rfl rfl rfl rm2 rd_E f1_0 ⟨rfl, rfl⟩)⟩⟩, fun _ => ⟨rfl, rfl, rfl, .inl ⟨rfl, (o_p (v := (.int .i64 (w64 ((d1.length : Int) - 1)))) rfl ⟨rfl, rfl⟩)⟩⟩, fun _ => ⟨rfl, rfl, rfl, .inl ⟨rfl, (o_ix (s := i1.1) (n := w64 ((d1.length : Int) - 1)) (e := en_Ventry_Entry) rfl rfl rfl rfl rfl rfl rm2 rd_E (NL.lt f1_0 hg283) ⟨rfl, rfl⟩)⟩⟩, fun _ => ⟨rfl, rfl, rfl, .inl ⟨rfl, (o_p rfl ⟨rfl, rfl⟩)⟩⟩, trivial⟩, rfl, rfl, rfl, ?_⟩
    refine e_seq ?_
    refine c_region ?_
    refine o1 rfl (o_p rfl ?_)
    refine o1 rfl (o_p rfl ?_)
    refine o1 rfl (o_p rfl ?_)
    refine o1 rfl (o_fa (fd := ⟨ "Text", 31, 1, false, "", "", 8⟩) rfl rfl rfl rfl rfl ?_)
    obtain ⟨sv284, he_sv284, _⟩ := NL.rd f1_0 hg283
    refine o_open (n := w64 ((d1.length : Int) - 1)) (x := (rd d1 (w64 ((d1.length : Int) - 1)))) (sv := sv284) rm2 (NL.lt f1_0 hg283) ⟨inferInstance, he_sv284⟩ ?_
    refine o1 rfl (o_ldE (s := i1.1) (e := en_Ventry_Entry) (n := w64 ((d1.length : Int) - 1)) (f := 1) (v := (SV.val sv284)) rfl rm0 (rd_own _ _ _ _) (NL.lt f1_0 hg283) rfl (by rw [he_sv284]; rfl) ?_)
    refine o1 rfl (o_p rfl ?_)
    replace h := gsome h
    obtain ⟨hg288, h⟩ := h
    refine o1 rfl (o_app (s := sv284) (r := s1) (e := (enI .u8)) (l := (rd d1 (w64 ((d1.length : Int) - 1))).Text) (l2 := p1) (zs := [(.int .u8 0)]) rfl rfl rfl rfl rfl rfl rfl rfl rfl rfl rfl rm2 rm3 q1 hg288 (fun s289 => ?_))
    refine o1 rfl (o_p rfl ?_)
    refine o1 rfl (o_fa (fd := ⟨ "Text", 31, 1, false, "", "", 8⟩) rfl rfl rfl rfl rfl ?_)
    refine o0 (o_stE (s := i1.1) (e := en_Ventry_Entry) (n := w64 ((d1.length : Int) - 1)) (f := 1) (vs := [(SV.val s289)]) (u := ((⟨(rd d1 (w64 ((d1.length : Int) - 1))).Addr, ((rd d1 (w64 ((d1.length : Int) - 1))).Text ++ p1)⟩ : Ventry_Entry), s289)) rfl rfl rp1 (NL.lt f1_0 hg283) rfl rfl rfl rfl rfl (by rw [he_sv284]; rfl) ?_)
    refine o_close (L := i1.2) (n := w64 ((d1.length : Int) - 1)) (NL.lt f1_0 hg283) rm1 rm1 rm0 rm0 ?_
    refine o_end ?_
    refine e_fall ?_
    refine r_endt rfl rfl (kc rm1 (kc rm1 (kc rm0 kr))) ?_
    have hr := Option.some.inj h
    subst hr
    exact hk (i1.1, (List.set i1.2 (Int.toNat (w64 ((d1.length : Int) - 1))) ((⟨(rd d1 (w64 ((d1.length : Int) - 1))).Addr, ((rd d1 (w64 ((d1.length : Int) - 1))).Text ++ p1)⟩ : Ventry_Entry), s289))) (NL.set f1_0 trivial)

theorem c_entry_Parse {g : Gw} (X : HP) (p0 : List Int) (s0 : SV) (q0 : Rd X s0 5 (enI .u8) p0) (r : Ventry_Report × Int) (h : m_entry_Parse p0 = some r) : Tri env g 28 (List.toArray [(SV.val s0)]) [X] (fun K R => ∀ (i0 : HP × SV × (List (Ventry_Entry × SV))), (NL DT i0.2.2 r.1.Entries) → (Ext X i0.1) → K (.tuple (List.toArray [(.agg (List.toArray [(.int .u8 r.1.AID), (.bool r.1.Short), (.int .i64 r.1.Cursor), (SV.val i0.2.1)])), (.int .i64 r.2)])) (i0.1 :: slE 5 (enI .u8) (fun y : Ventry_Entry => y.Text) i0.2.1 109 en_Ventry_Entry i0.2.2 :: R)) := by
  refine tri_of (fn := Try.f28) (N := 65) Try.func28 rfl rfl rfl ?_
  intro R K hk
  unfold m_entry_Parse at h
  change GC _ none _ [] [(0, (SV.val s0))] (X :: R) g _ _
  refine c_seq ?_
  refine c_region ?_
  refine o1 rfl (o_alloc (cs := [(.int .u8 0), (.bool false), (.int .i64 0), (SV.val SV.nil)]) rfl rfl (fun b6 => ?_))
  refine o1 rfl (o_p rfl ?_)
  refine o_end ?_
  refine e_seq ?_
  refine c_seq ?_
  refine c_region ?_
  refine o1 rfl (o_p rfl ?_)
  replace h := bsome h
  obtain ⟨d1, h1, h⟩ := h
  refine o1 rfl (o_call has63 rfl (c_entry_begin X p0 s0 q0 _ h1) (pc rm1 pn) (fun i1 f1_0 => ?_))
  refine o1 rfl (o_p rfl ?_)
  refine o1 rfl (o_p rfl ?_)
  refine o1 rfl (o_p rfl ?_)
  refine o1 rfl (o_p rfl ?_)
  refine o1 rfl (o_alloc (cs := [(.int .u8 0), (.bool false), (.int .i64 0), (SV.val SV.nil)]) rfl rfl (fun b44 => ?_))
  refine o0 (o_st (b := b44) (off := 0) (vs := [(.int .u8 d1.1.AID), (.bool d1.1.Short), (.int .i64 d1.1.Cursor), (SV.val SV.nil)]) (cs' := [(.int .u8 d1.1.AID), (.bool d1.1.Short), (.int .i64 d1.1.Cursor), (SV.val SV.nil)]) rfl rfl rp0 rfl rfl rfl rfl rfl rfl ?_)
  refine o1 rfl (o_p rfl ?_)
  refine o1 rfl (o_p rfl ?_)
  refine o_end ?_
  refine e_seq ?_
  refine c_seq ?_
  refine c_seq ?_
  refine c_region ?_
  refine o1 rfl (o_p rfl ?_)
  refine o1 rfl (o_p (v := (.bool (d1.2.2 != 0))) rfl ?_)
  refine o_end ?_
  refine e_seq ?_
  refine c_cond (b := (d1.2.2 != 0)) rfl (fun hb46 => ?_) (fun hb46 => ?_)
  · replace h := cond_t hb46 h
    refine c_seq ?_
    refine c_region ?_
    refine o1 rfl (o_build (fs := [⟨ "AID", 5, 0, false, "", "", 0⟩, ⟨ "Short", 4, 1, false, "", "", 1⟩, ⟨ "Cursor", 3, 2, false, "", "", 8⟩, ⟨ "Entries", 63, 3, false, "", "", 16⟩]) (ps := [(0, 1), (1, 1), (2, 1), (3, 1)]) (cs := [(.int .u8 0), (.bool false), (.int .i64 0), (SV.val SV.nil)]) rfl rfl rfl rfl rfl ?_)
    refine o1 rfl (o_p rfl ?_)
    refine o0 (o_st (b := b6) (off := 0) (vs := [(.int .u8 0), (.bool false), (.int .i64 0), (SV.val SV.nil)]) (cs' := [(.int .u8 0), (.bool false), (.int .i64 0), (SV.val SV.nil)]) rfl rfl rp2 rfl rfl rfl rfl rfl rfl ?_)
    refine o1 rfl (o_p rfl ?_)
    refine o_end ?_
    refine e_seq ?_
    refine c_ret ?_
    refine e_then_ret ?_
    refine e_ret ?_
    refine r_add (slE 5 (enI .u8) (fun y : Ventry_Entry => y.Text) SV.nil 109 en_Ventry_Entry []) (slE_nil _ _ _) ?_
    refine r_endc (B := [[(.int .u8 0), (.bool false), (.int .i64 0), (SV.val SV.nil)]]) rfl ⟨⟨_, _, _, _, rfl, rm3⟩, trivial⟩ rfl (kc rm2 (kc rm0 (kd (kd kr)))) ?_
    have hr := Option.some.inj h
    subst hr
    exact hk (X, SV.nil, []) NL.nil (Ext.refl _)
  · replace h := cond_f hb46 h
    refine c_skip ?_
    refine e_seq ?_
    refine c_seq ?_
    refine c_region ?_
    refine o1 rfl (o_p rfl ?_)
    replace h := bsome h
    obtain ⟨d3, h3, h⟩ := h
    refine o1 rfl (o_call has64 rfl (c_order_All X d1.2.1 i1 f1_0 _ h3) (pc rm1 pn) (fun i3 f3_0 f3_1 => ?_))
    refine o1 rfl (o_p rfl ?_)
    refine o1 rfl (o_p rfl ?_)
    refine o1 rfl (o_p rfl ?_)
    refine o1 rfl (o_p rfl ?_)
    refine o1 rfl (o_p rfl ?_)
    refine o1 rfl (o_p rfl ?_)
    refine o1 rfl (o_p rfl ?_)
    refine o_end ?_
    refine e_seq ?_
    refine c_seq ?_
    refine c_seq ?_
    refine c_region ?_
    refine o1 rfl (o_p rfl ?_)
    refine o1 rfl (o_p (v := (.bool (d3.2.2 != 0))) rfl ?_)
    refine o_end ?_
    refine e_seq ?_
    refine c_cond (b := (d3.2.2 != 0)) rfl (fun hb262 => ?_) (fun hb262 => ?_)
    · replace h := cond_t hb262 h
      refine c_seq ?_
      refine c_region ?_
      refine o1 rfl (o_build (fs := [⟨ "AID", 5, 0, false, "", "", 0⟩, ⟨ "Short", 4, 1, false, "", "", 1⟩, ⟨ "Cursor", 3, 2, false, "", "", 8⟩, ⟨ "Entries", 63, 3, false, "", "", 16⟩]) (ps := [(0, 1), (1, 1), (2, 1), (3, 1)]) (cs := [(.int .u8 0), (.bool false), (.int .i64 0), (SV.val SV.nil)]) rfl rfl rfl rfl rfl ?_)
      refine o1 rfl (o_p rfl ?_)
      refine o0 (o_st (b := b6) (off := 0) (vs := [(.int .u8 0), (.bool false), (.int .i64 0), (SV.val SV.nil)]) (cs' := [(.int .u8 0), (.bool false), (.int .i64 0), (SV.val SV.nil)]) rfl rfl rp3 rfl rfl rfl rfl rfl rfl ?_)
      refine o1 rfl (o_p rfl ?_)
      refine o_end ?_
      refine e_seq ?_
      refine c_ret ?_
      refine e_then_ret ?_
      refine e_ret ?_
      refine r_add (slE 5 (enI .u8) (fun y : Ventry_Entry => y.Text) SV.nil 109 en_Ventry_Entry []) (slE_nil _ _ _) ?_
      refine r_endc (B := [[(.int .u8 0), (.bool false), (.int .i64 0), (SV.val SV.nil)]]) rfl ⟨⟨_, _, _, _, rfl, rm4⟩, trivial⟩ rfl (kc rm1 (kc rm0 (kd (kd (kd kr))))) ?_
      have hr := Option.some.inj h
      subst hr
      exact hk (i3.1, SV.nil, []) NL.nil f3_1
    · replace h := cond_f hb262 h
      refine c_skip ?_
      refine e_seq ?_
      refine c_seq ?_
      refine c_seq ?_
      refine c_region ?_
      refine o1 rfl (o_p rfl ?_)
      refine o1 rfl (o_lenN (s := i3.2.1) rfl rfl rfl rm1 (rd_own _ _ _ _) f3_0 ?_)
      refine o1 rfl (o_p rfl ?_)
      refine o_end ?_
      refine e_seq ?_
      replace h := jn_some h
      obtain ⟨y5, h, hk5⟩ := h
      refine cj (D := Int × Bool × Int × (List Ventry_Entry)) (ι := HP × SV × (List (Ventry_Entry × SV))) (fun d5 i5 => (y5 = Sum.inl d5) ∧ (NL DT i5.2.2 d5.2.2.2) ∧ (Ext X i5.1)) (fun d5 i5 => [(4, (.pointer (some ⟨b44, 0, none⟩))), (2, (.pointer (some ⟨b6, 0, none⟩)))]) (fun d5 i5 => i5.1 :: blk b44 (.cells (List.toArray [(.int .u8 d5.1), (.bool d5.2.1), (.int .i64 d5.2.2.1), (SV.val i5.2.1)]) 65 (0, 0)) :: blk b6 (.cells (List.toArray [(.int .u8 0), (.bool false), (.int .i64 0), (SV.val SV.nil)]) 65 (0, 0)) :: slE 5 (enI .u8) (fun y : Ventry_Entry => y.Text) i5.2.1 109 en_Ventry_Entry i5.2.2 :: R) ?_ ?_
      · refine c_block ?_
        refine c_add (slE 5 (enI .u8) (fun y : Ventry_Entry => y.Text) SV.nil 109 en_Ventry_Entry []) (slE_nil _ _ _) ?_
        refine c_loop (l_sub (sc rfl (sc rfl (sc rfl (sc rfl (sc rfl sn))))) (l_keep (kc rm1 (kc rm1 (kc rm1 (kc rm1 (kc rm0 kr))))) (lf (X := Int × Int × Bool × Int × (List Ventry_Entry)) (ι := HP × (List (Vorder_Op × SV × SV)) × SV × (List (Ventry_Entry × SV))) (fun k x => entry_Parse_l6 d3 k x) _ (fun x6 i6 => (NL (D_Vorder_Op i6.1) i6.2.1 d3.1) ∧ (NL DT i6.2.2.2 x6.2.2.2.2) ∧ (Ext X i6.1)) (fun x6 i6 => [(33, (.int .i64 x6.1)), (32, (.int .i64 (d3.1.length : Int))), (31, (SV.val i3.2.1)), (4, (.pointer (some ⟨b44, 0, none⟩))), (2, (.pointer (some ⟨b6, 0, none⟩)))]) (fun x6 i6 => i6.1 :: slO i3.2.1 115 en_Vorder_Op i6.2.1 :: blk b44 (.cells (List.toArray [(.int .u8 x6.2.1), (.bool x6.2.2.1), (.int .i64 x6.2.2.2.1), (SV.val i6.2.2.1)]) 65 (0, 0)) :: blk b6 (.cells (List.toArray [(.int .u8 0), (.bool false), (.int .i64 0), (SV.val SV.nil)]) 65 (0, 0)) :: slE 5 (enI .u8) (fun y : Ventry_Entry => y.Text) i6.2.2.1 109 en_Ventry_Entry i6.2.2.2 :: R) (fun _ => rfl) ?_ fuel (0, d1.1.AID, d1.1.Short, d1.1.Cursor, ([] : List Ventry_Entry)) (i3.1, i3.2.2, SV.nil, []) ⟨f3_0, NL.nil, f3_1⟩ h)))
        clear h
        rintro k6 ih6 x6 i6 ⟨f6_0, f6_1, f6_2⟩ h
        rw [entry_Parse_l6.eq_2] at h
        refine l_round ?_
        refine c_seq ?_
        refine c_region ?_
        refine o1 rfl (o_p (v := (.bool (decide (x6.1 < (d3.1.length : Int))))) rfl ?_)
        refine o_end ?_
        refine e_seq ?_
        refine c_seq ?_
        refine c_cond (b := (decide (x6.1 < (d3.1.length : Int)))) rfl (fun hb334 => ?_) (fun hb334 => ?_)
        · replace h := cond_t hb334 h
          refine c_skip ?_
          refine e_seq ?_
          refine c_seq ?_
          refine c_block ?_
          refine c_seq ?_
          refine c_region ?_
          replace h := gsome h
          obtain ⟨hg335, h⟩ := h
          refine o1 rfl (o_ix (s := i3.2.1) (n := x6.1) (e := en_Vorder_Op) rfl rfl rfl rfl rfl rfl rm1 (rd_own _ _ _ _) (NL.lt f6_0 hg335) ?_)
          obtain ⟨sv336, he_sv336, hd_sv336⟩ := NL.rd f6_0 hg335
          have hr337 : Rd i6.1 sv336.1 196 en_Vattr_Pair ((rd d3.1 x6.1).Pairs) := hd_sv336.1
          have hr338 : Rd i6.1 sv336.2 5 (enI .u8) ((rd d3.1 x6.1).Text) := hd_sv336.2
          refine o1 rfl (o_ldE (s := i3.2.1) (e := en_Vorder_Op) (n := x6.1) (f := 0) (v := (.agg (List.toArray [(.int .i64 ((rd d3.1 x6.1).Kind)), (.int .i64 ((rd d3.1 x6.1).Addr)), (.int .u8 ((rd d3.1 x6.1).Code)), (.bool ((rd d3.1 x6.1).Graph)), (.int .u8 ((rd d3.1 x6.1).FA)), (SV.val sv336.1), (SV.val sv336.2)]))) rfl rm1 (rd_own _ _ _ _) (NL.lt f6_0 hg335) rfl (by rw [he_sv336]; rfl) ?_)
          refine o1 rfl (o_alloc (cs := [(.int .i64 0), (.int .i64 0), (.int .u8 0), (.bool false), (.int .u8 0), (SV.val SV.nil), (SV.val SV.nil)]) rfl rfl (fun b339 => ?_))
          refine o0 (o_st (b := b339) (off := 0) (vs := [(.int .i64 ((rd d3.1 x6.1).Kind)), (.int .i64 ((rd d3.1 x6.1).Addr)), (.int .u8 ((rd d3.1 x6.1).Code)), (.bool ((rd d3.1 x6.1).Graph)), (.int .u8 ((rd d3.1 x6.1).FA)), (SV.val sv336.1), (SV.val sv336.2)]) (cs' := [(.int .i64 ((rd d3.1 x6.1).Kind)), (.int .i64 ((rd d3.1 x6.1).Addr)), (.int .u8 ((rd d3.1 x6.1).Code)), (.bool ((rd d3.1 x6.1).Graph)), (.int .u8 ((rd d3.1 x6.1).FA)), (SV.val sv336.1), (SV.val sv336.2)]) rfl rfl rp0 rfl rfl rfl rfl rfl rfl ?_)
          refine o_end ?_
          refine e_seq ?_
          refine c_seq ?_
          refine c_region ?_
          refine o1 rfl (o_fa (fd := ⟨ "Kind", 3, 0, false, "", "", 0⟩) rfl rfl rfl rfl rfl ?_)
          refine o1 rfl (o_ld (b := b339) (off := 0) (v := (.int .i64 ((rd d3.1 x6.1).Kind))) rfl rm0 rfl rfl ?_)
          refine o_end ?_
          refine e_seq ?_
          refine c_block ?_
          refine c_seq ?_
          refine c_region ?_
          refine o1 rfl (o_p (v := (.bool (((rd d3.1 x6.1).Kind) == 17))) rfl ?_)
          refine o1 rfl (o_p rfl ?_)
          refine o_end ?_
          refine e_seq ?_
          replace h := jn_some h
          obtain ⟨y10, h, hk10⟩ := h
          refine cj (D := Int × Bool × Int × (List Ventry_Entry)) (ι := HP × (List (Vorder_Op × SV × SV)) × SV × (List (Ventry_Entry × SV))) (fun d10 i10 => (y10 = Sum.inl d10) ∧ (NL (D_Vorder_Op i10.1) i10.2.1 d3.1) ∧ (NL DT i10.2.2.2 d10.2.2.2) ∧ (Ext X i10.1)) (fun d10 i10 => [(33, (.int .i64 x6.1)), (32, (.int .i64 (d3.1.length : Int))), (31, (SV.val i3.2.1)), (4, (.pointer (some ⟨b44, 0, none⟩))), (2, (.pointer (some ⟨b6, 0, none⟩)))]) (fun d10 i10 => i10.1 :: slO i3.2.1 115 en_Vorder_Op i10.2.1 :: blk b44 (.cells (List.toArray [(.int .u8 d10.1), (.bool d10.2.1), (.int .i64 d10.2.2.1), (SV.val i10.2.2.1)]) 65 (0, 0)) :: blk b6 (.cells (List.toArray [(.int .u8 0), (.bool false), (.int .i64 0), (SV.val SV.nil)]) 65 (0, 0)) :: slE 5 (enI .u8) (fun y : Ventry_Entry => y.Text) i10.2.2.1 109 en_Ventry_Entry i10.2.2.2 :: R) ?_ ?_
          · refine c_cond (b := (((rd d3.1 x6.1).Kind) == 17)) rfl (fun hb341 => ?_) (fun hb341 => ?_)
            · replace h := cond_t hb341 h
              refine c_region ?_
              refine o1 rfl (o_fa (fd := ⟨ "Entries", 63, 3, false, "", "", 16⟩) rfl rfl rfl rfl rfl ?_)
              refine o1 rfl (o_ld (b := b44) (off := 3) (v := (SV.val i6.2.2.1)) rfl rm3 rfl rfl ?_)
              refine o1 rfl (o_fa (fd := ⟨ "Addr", 3, 1, false, "", "", 8⟩) rfl rfl rfl rfl rfl ?_)
              refine o1 rfl (o_ld (b := b339) (off := 1) (v := (.int .i64 ((rd d3.1 x6.1).Addr))) rfl rm0 rfl rfl ?_)
              refine o1 rfl (o_build (fs := [⟨ "Addr", 3, 0, false, "", "", 0⟩, ⟨ "Text", 31, 1, false, "", "", 8⟩]) (ps := [(0, 1), (1, 1)]) (cs := [(.int .i64 ((rd d3.1 x6.1).Addr)), (SV.val SV.nil)]) rfl rfl rfl rfl rfl ?_)
              refine o1 rfl (o_bs (e := en_Ventry_Entry) (l := [((⟨(rd d3.1 x6.1).Addr, ([] : List Int)⟩ : Ventry_Entry), SV.nil)]) (zs := [(.int .i64 0), (SV.val SV.nil)]) rfl rfl rfl rfl rfl rfl rfl rfl rfl rfl (fun s342 => ?_))
              replace h := gsome h
              obtain ⟨hg344, h⟩ := h
              refine o_unE rm6 ?_
              refine o1 rfl (o_app (s := i6.2.2.1) (r := s342) (e := en_Ventry_Entry) (l := i6.2.2.2) (l2 := [((⟨(rd d3.1 x6.1).Addr, ([] : List Int)⟩ : Ventry_Entry), SV.nil)]) (zs := [(.int .i64 0), (SV.val SV.nil)]) rfl rfl rfl rfl rfl rfl rfl rfl rfl rfl rfl rm0 rm1 (rd_own _ _ _ _) (len2 f6_1 (NL.cons (D := D_Ventry_Entry i6.1) (x := (⟨(rd d3.1 x6.1).Addr, ([] : List Int)⟩ : Ventry_Entry)) (s := SV.nil) (rd_nil _ _ _) NL.nil) hg344) (fun s345 => ?_))
              refine o_mkE (t2 := 5) (e2 := (enI .u8)) (π := (fun y : Ventry_Entry => y.Text)) (L := i6.2.2.2) rm0 rm0 (nilE_cons rfl nilE_nil) ?_
              refine o1 rfl (o_fa (fd := ⟨ "Entries", 63, 3, false, "", "", 16⟩) rfl rfl rfl rfl rfl ?_)
              refine o0 (o_st (b := b44) (off := 3) (vs := [(SV.val s345)]) (cs' := [(.int .u8 x6.2.1), (.bool x6.2.2.1), (.int .i64 x6.2.2.2.1), (SV.val s345)]) rfl rfl rp5 rfl rfl rfl rfl rfl rfl ?_)
              refine o_end ?_
              have hd := Option.some.inj h
              subst hd
              exact ej (x6.2.1, x6.2.2.1, x6.2.2.2.1, (x6.2.2.2.2 ++ [(⟨(rd d3.1 x6.1).Addr, ([] : List Int)⟩ : Ventry_Entry)])) (i6.1, i6.2.1, s345, (i6.2.2.2 ++ [((⟨(rd d3.1 x6.1).Addr, ([] : List Int)⟩ : Ventry_Entry), SV.nil)])) ⟨rfl, f6_0, (NL.app f6_1 (NL.dt (NL.cons (D := D_Ventry_Entry i6.1) (x := (⟨(rd d3.1 x6.1).Addr, ([] : List Int)⟩ : Ventry_Entry)) (s := SV.nil) (rd_nil _ _ _) NL.nil))), f6_2⟩ (sc rfl (sc rfl (sc rfl (sc rfl (sc rfl sn))))) (kc rm3 (kc rm3 (kc rm3 (kc rm3 (kc rm0 (kd (kd kr)))))))
            · replace h := cond_f hb341 h
              refine c_seq ?_
              refine c_region ?_
              refine o1 rfl (o_p (v := (.bool (((rd d3.1 x6.1).Kind) == 0))) rfl ?_)
              refine o1 rfl (o_p rfl ?_)
              refine o_end ?_
              refine e_seq ?_
              refine c_cond (b := (((rd d3.1 x6.1).Kind) == 0)) rfl (fun hb347 => ?_) (fun hb347 => ?_)
              · replace h := cond_t hb347 h
                refine c_region ?_
                refine o1 rfl (o_fa (fd := ⟨ "Text", 31, 6, false, "", "", 48⟩) rfl rfl rfl rfl rfl ?_)
                refine o1 rfl (o_ld (b := b339) (off := 6) (v := (SV.val sv336.2)) rfl rm0 rfl rfl ?_)
                replace h := bsome h
                obtain ⟨d11, h11, h⟩ := h
                refine o1 rfl (o_call has65 rfl (c_entry_Report_add i6.1 (⟨x6.2.1, x6.2.2.1, x6.2.2.2.1, x6.2.2.2.2⟩ : Ventry_Report) b44 i6.2.2.1 i6.2.2.2 f6_1 ((rd d3.1 x6.1).Text) sv336.2 hr338 _ h11) (pc rm1 (pc rm2 (pc rm3 pn))) (fun i11 f11_0 => ?_))
                refine o_end ?_
                have hd := Option.some.inj h
                subst hd
                exact ej (d11.AID, d11.Short, d11.Cursor, d11.Entries) (i6.1, i6.2.1, i11.1, i11.2) ⟨rfl, f6_0, f11_0, f6_2⟩ (sc rfl (sc rfl (sc rfl (sc rfl (sc rfl sn))))) (kc rm0 (kc rm3 (kc rm0 (kc rm2 (kc rm0 (kd kr))))))
              · replace h := cond_f hb347 h
                refine c_seq ?_
                refine c_region ?_
                refine o1 rfl (o_p (v := (.bool (((rd d3.1 x6.1).Kind) == 8))) rfl ?_)
                refine o1 rfl (o_p rfl ?_)
                refine o_end ?_
                refine e_seq ?_
                refine c_cond (b := (((rd d3.1 x6.1).Kind) == 8)) rfl (fun hb349 => ?_) (fun hb349 => ?_)
                · replace h := cond_t hb349 h
                  refine c_region ?_
                  refine o1 rfl (o_fa (fd := ⟨ "Code", 5, 2, false, "", "", 16⟩) rfl rfl rfl rfl rfl ?_)
                  refine o1 rfl (o_ld (b := b339) (off := 2) (v := (.int .u8 ((rd d3.1 x6.1).Code))) rfl rm0 rfl rfl ?_)
                  refine o1 rfl (o_bs (e := (enI .u8)) (l := [(rd d3.1 x6.1).Code]) (zs := [(.int .u8 0)]) rfl rfl rfl rfl rfl rfl rfl rfl rfl rfl (fun s350 => ?_))
                  refine o_fz rm0 rm1 (fun X352 hx353 hs354 => ?_)
                  replace h := bsome h
                  obtain ⟨d12, h12, h⟩ := h
                  refine o1 rfl (o_call has65 rfl (c_entry_Report_add X352 (⟨x6.2.1, x6.2.2.1, x6.2.2.2.1, x6.2.2.2.2⟩ : Ventry_Report) b44 i6.2.2.1 i6.2.2.2 f6_1 [(rd d3.1 x6.1).Code] s350 hs354 _ h12) (pc rm0 (pc rm2 (pc rm3 pn))) (fun i12 f12_0 => ?_))
                  refine o_end ?_
                  have hd := Option.some.inj h
                  subst hd
                  exact ej (d12.AID, d12.Short, d12.Cursor, d12.Entries) (X352, i6.2.1, i12.1, i12.2) ⟨rfl, (NL.mono f6_0 (D_Vorder_Op.ext hx353)), f12_0, (Ext.trans f6_2 hx353)⟩ (sc rfl (sc rfl (sc rfl (sc rfl (sc rfl sn))))) (kc rm0 (kc rm3 (kc rm0 (kc rm2 (kc rm0 (kd kr))))))
                · replace h := cond_f hb349 h
                  refine c_seq ?_
                  refine c_region ?_
                  refine o1 rfl (o_p (v := (.bool (((rd d3.1 x6.1).Kind) == 40))) rfl ?_)
                  refine o1 rfl (o_p rfl ?_)
                  refine o_end ?_
                  refine e_seq ?_
                  refine c_cond (b := (((rd d3.1 x6.1).Kind) == 40)) rfl (fun hb356 => ?_) (fun hb356 => ?_)
                  · replace h := cond_t hb356 h
                    refine c_skip ?_
                    have hd := Option.some.inj h
                    subst hd
                    exact ej (x6.2.1, x6.2.2.1, x6.2.2.2.1, x6.2.2.2.2) (i6.1, i6.2.1, i6.2.2.1, i6.2.2.2) ⟨rfl, f6_0, f6_1, f6_2⟩ (sc rfl (sc rfl (sc rfl (sc rfl (sc rfl sn))))) (kc rm1 (kc rm1 (kc rm1 (kc rm1 (kc rm1 (kd kr))))))
                  · replace h := cond_f hb356 h
                    refine c_seq ?_
                    refine c_region ?_
                    refine o1 rfl (o_build (fs := [⟨ "AID", 5, 0, false, "", "", 0⟩, ⟨ "Short", 4, 1, false, "", "", 1⟩, ⟨ "Cursor", 3, 2, false, "", "", 8⟩, ⟨ "Entries", 63, 3, false, "", "", 16⟩]) (ps := [(0, 1), (1, 1), (2, 1), (3, 1)]) (cs := [(.int .u8 0), (.bool false), (.int .i64 0), (SV.val SV.nil)]) rfl rfl rfl rfl rfl ?_)
                    refine o0 (o_st (b := b6) (off := 0) (vs := [(.int .u8 0), (.bool false), (.int .i64 0), (SV.val SV.nil)]) (cs' := [(.int .u8 0), (.bool false), (.int .i64 0), (SV.val SV.nil)]) rfl rfl rp4 rfl rfl rfl rfl rfl rfl ?_)
                    refine o1 rfl (o_p rfl ?_)
                    refine o_end ?_
                    refine e_seq ?_
                    refine c_ret ?_
                    refine ej_ret ?_
                    replace h := esc_some h
                    obtain ⟨z10, h, rfl⟩ := h
                    obtain rfl := (hk10 : z10 = _)
                    refine e_blk_ret ?_
                    refine e_blk_ret ?_
                    refine e_then_ret ?_
                    refine e_then_ret ?_
                    refine e_blk_ret ?_
                    refine ej_ret ?_
                    replace h := esc_some h
                    obtain ⟨z5, h, rfl⟩ := h
                    obtain rfl := (hk5 : z5 = _)
                    refine e_then_ret ?_
                    refine e_ret ?_
                    refine r_add (slE 5 (enI .u8) (fun y : Ventry_Entry => y.Text) SV.nil 109 en_Ventry_Entry []) (slE_nil _ _ _) ?_
                    refine r_endc (B := [[(.int .u8 0), (.bool false), (.int .i64 0), (SV.val SV.nil)]]) rfl ⟨⟨_, _, _, _, rfl, rm5⟩, trivial⟩ rfl (kc rm2 (kc rm0 (kd (kd (kd (kd (kd kr))))))) ?_
                    have hr := Option.some.inj h
                    subst hr
                    exact hk (i6.1, SV.nil, []) NL.nil f6_2
          · rintro d10 i10 ⟨rfl, f10_0, f10_1, f10_2⟩
            replace h := JK_inl hk10
            clear hk10
            refine e_blk ?_
            refine e_blk ?_
            refine e_seq ?_
            refine c_region ?_
            refine o1 rfl (o_p (v := (.int .i64 (w64 (x6.1 + 1)))) rfl ?_)
            refine o1 rfl (o_p rfl ?_)
            refine o_end ?_
            exact e_loop (l_sub (sc rfl (sc rfl (sc rfl (sc rfl (sc rfl sn))))) (l_keep (kc rm0 (kc rm0 (kc rm0 (kc rm0 (kc rm0 kr))))) (ih6 (w64 (x6.1 + 1), d10.1, d10.2.1, d10.2.2.1, d10.2.2.2) (i10.1, i10.2.1, i10.2.2.1, i10.2.2.2) ⟨f10_0, f10_1, f10_2⟩ h)))
        · replace h := cond_f hb334 h
          refine c_exit ?_
          refine e_then_exit ?_
          refine e_then_exit ?_
          refine e_blk_exit ?_
          have hd := Option.some.inj h
          subst hd
          exact ej (x6.2.1, x6.2.2.1, x6.2.2.2.1, x6.2.2.2.2) (i6.1, i6.2.2.1, i6.2.2.2) ⟨rfl, f6_1, f6_2⟩ (sc rfl (sc rfl sn)) (kc rm0 (kc rm1 (kc rm1 (kc rm1 (kd kr)))))
      · rintro d5 i5 ⟨rfl, f5_0, f5_1⟩
        replace h := JK_inl hk5
        clear hk5
        refine e_seq ?_
        refine c_seq ?_
        refine c_region ?_
        refine o1 rfl (o_ld (b := b44) (off := 0) (v := (.agg (List.toArray [(.int .u8 d5.1), (.bool d5.2.1), (.int .i64 d5.2.2.1), (SV.val i5.2.1)]))) rfl rm1 rfl rfl ?_)
        refine o0 (o_st (b := b6) (off := 0) (vs := [(.int .u8 d5.1), (.bool d5.2.1), (.int .i64 d5.2.2.1), (SV.val i5.2.1)]) (cs' := [(.int .u8 d5.1), (.bool d5.2.1), (.int .i64 d5.2.2.1), (SV.val i5.2.1)]) rfl rfl rp2 rfl rfl rfl rfl rfl rfl ?_)
        refine o1 rfl (o_p rfl ?_)
        refine o_end ?_
        refine e_seq ?_
        refine c_ret ?_
        refine e_ret ?_
        refine r_endc (B := [[(.int .u8 d5.1), (.bool d5.2.1), (.int .i64 d5.2.2.1), (SV.val i5.2.1)]]) rfl ⟨⟨_, _, _, _, rfl, rm2⟩, trivial⟩ rfl (kc rm0 (kc rm2 (kd (kd kr)))) ?_
        have hr := Option.some.inj h
        subst hr
        exact hk (i5.1, i5.2.1, i5.2.2) f5_0 f5_1

theorem c_vitrinelaw20_awake {g : Gw} (X : HP) (r : Bool) (h : m_vitrinelaw20_awake = some r) : Tri env g 23 (List.toArray []) [X] (fun K R => ∀ (i0 : HP), (Ext X i0) → K (.bool r) (i0 :: R)) := by
  refine tri_of (fn := Try.f23) (N := 43) Try.func23 rfl rfl rfl ?_
  intro R K hk
  unfold m_vitrinelaw20_awake at h
  change GC _ none _ [] [] (X :: R) g _ _
  refine c_seq ?_
  refine c_region ?_
  refine o1 rfl (o_p rfl ?_)
  refine o_end ?_
  refine e_seq ?_
  refine c_seq ?_
  refine c_region ?_
  refine o1 rfl (o_bs (e := (enI .u8)) (l := [125, 64, 194, 17, 64, 193, 193, 194]) (zs := [(.int .u8 0)]) rfl rfl rfl rfl rfl rfl rfl rfl rfl rfl (fun s1 => ?_))
  refine o_fz rm0 rm0 (fun X3 hx4 hs5 => ?_)
  replace h := bsome h
  obtain ⟨d1, h1, h⟩ := h
  refine o1 rfl (o_call has28 rfl (c_entry_Parse X3 [125, 64, 194, 17, 64, 193, 193, 194] s1 hs5 _ h1) (pc rm0 pn) (fun i1 f1_0 f1_1 => ?_))
  refine o1 rfl (o_p rfl ?_)
  refine o1 rfl (o_p rfl ?_)
  refine o1 rfl (o_p rfl ?_)
  refine o1 rfl (o_alloc (cs := [(.int .u8 0), (.bool false), (.int .i64 0), (SV.val SV.nil)]) rfl rfl (fun b368 => ?_))
  refine o0 (o_st (b := b368) (off := 0) (vs := [(.int .u8 d1.1.AID), (.bool d1.1.Short), (.int .i64 d1.1.Cursor), (SV.val i1.2.1)]) (cs' := [(.int .u8 d1.1.AID), (.bool d1.1.Short), (.int .i64 d1.1.Cursor), (SV.val i1.2.1)]) rfl rfl rp0 rfl rfl rfl rfl rfl rfl ?_)
  refine o1 rfl (o_p rfl ?_)
  refine o_end ?_
  refine e_seq ?_
  refine c_seq ?_
  replace h := bsome h
  obtain ⟨d2, h, hk2⟩ := h
  refine cj (D := Unit) (ι := Unit) (fun _ i2 => True) (fun _ i2 => [(0, (.bool d2))]) (fun _ i2 => i1.1 :: R) ?_ ?_
  · refine c_region ?_
    refine o1 rfl (o_p rfl ?_)
    refine o1 rfl (o_p (v := (.bool (d1.2 == 0))) rfl ?_)
    refine o1 rfl (o_p rfl ?_)
    rcases bool_or ((d1.2 == 0)) with hb370 | hb370
    · replace h := cond_t hb370 h
      refine oy rfl rfl rfl hb370 (o_fa (fd := ⟨ "AID", 5, 0, false, "", "", 0⟩) rfl rfl rfl rfl rfl ?_)
      refine oy rfl rfl rfl hb370 (o_ld (b := b368) (off := 0) (v := (.int .u8 d1.1.AID)) rfl rm0 rfl rfl ?_)
      refine oy rfl rfl rfl hb370 (o_p (v := (.bool (d1.1.AID == 125))) rfl ?_)
      refine o1 rfl (o_pick_t rfl hb370 rfl ?_)
      refine o1 rfl (o_p rfl ?_)
      rcases bool_or ((d1.1.AID == 125)) with hb371 | hb371
      · replace h := cond_t hb371 h
        refine oy rfl rfl rfl hb371 (o_fa (fd := ⟨ "Cursor", 3, 2, false, "", "", 8⟩) rfl rfl rfl rfl rfl ?_)
        refine oy rfl rfl rfl hb371 (o_ld (b := b368) (off := 2) (v := (.int .i64 d1.1.Cursor)) rfl rm0 rfl rfl ?_)
        refine oy rfl rfl rfl hb371 (o_p (v := (.bool (d1.1.Cursor == 2))) rfl ?_)
        refine o1 rfl (o_pick_t rfl hb371 rfl ?_)
        refine o1 rfl (o_p rfl ?_)
        rcases bool_or ((d1.1.Cursor == 2)) with hb372 | hb372
        · replace h := cond_t hb372 h
          refine oy rfl rfl rfl hb372 (o_fa (fd := ⟨ "Entries", 63, 3, false, "", "", 16⟩) rfl rfl rfl rfl rfl ?_)
          refine oy rfl rfl rfl hb372 (o_ld (b := b368) (off := 3) (v := (SV.val i1.2.1)) rfl rm0 rfl rfl ?_)
          refine oy rfl rfl rfl hb372 (o_lenN (s := i1.2.1) rfl rfl rfl rm2 rd_E f1_0 ?_)
          refine oy rfl rfl rfl hb372 (o_p (v := (.bool ((d1.1.Entries.length : Int) == 1))) rfl ?_)
          refine o1 rfl (o_pick_t rfl hb372 rfl ?_)
          refine o1 rfl (o_p rfl ?_)
          rcases bool_or (((d1.1.Entries.length : Int) == 1)) with hb373 | hb373
          · replace h := cond_t hb373 h
            refine oy rfl rfl rfl hb373 (o_fa (fd := ⟨ "Entries", 63, 3, false, "", "", 16⟩) rfl rfl rfl rfl rfl ?_)
            refine oy rfl rfl rfl hb373 (o_ld (b := b368) (off := 3) (v := (SV.val i1.2.1)) rfl rm0 rfl rfl ?_)
            replace h := gsome h
            obtain ⟨hg374, h⟩ := h
            refine oy rfl rfl rfl hb373 (o_ix (s := i1.2.1) (n := 0) (e := en_Ventry_Entry) rfl rfl rfl rfl rfl rfl rm2 rd_E (NL.lt f1_0 hg374) ?_)
            refine oy rfl rfl rfl hb373 (o_fa (fd := ⟨ "Addr", 3, 0, false, "", "", 0⟩) rfl rfl rfl rfl rfl ?_)
            obtain ⟨sv375, he_sv375, _⟩ := NL.rd f1_0 hg374
            refine oy rfl rfl rfl hb373 (o_ldE (s := i1.2.1) (e := en_Ventry_Entry) (n := 0) (f := 0) (v := (.int .i64 ((rd d1.1.Entries 0).Addr))) rfl rm2 rd_E (NL.lt f1_0 hg374) rfl (by rw [he_sv375]; rfl) ?_)
            refine oy rfl rfl rfl hb373 (o_p (v := (.bool (((rd d1.1.Entries 0).Addr) == 1))) rfl ?_)
            refine o1 rfl (o_pick_t rfl hb373 rfl ?_)
            refine o1 rfl (o_p rfl ?_)
            rcases bool_or ((((rd d1.1.Entries 0).Addr) == 1)) with hb376 | hb376
            · replace h := cond_t hb376 h
              refine oy rfl rfl rfl hb376 (o_fa (fd := ⟨ "Entries", 63, 3, false, "", "", 16⟩) rfl rfl rfl rfl rfl ?_)
              refine oy rfl rfl rfl hb376 (o_ld (b := b368) (off := 3) (v := (SV.val i1.2.1)) rfl rm0 rfl rfl ?_)
              replace h := gsome h
              obtain ⟨hg377, h⟩ := h
              refine oy rfl rfl rfl hb376 (o_ix (s := i1.2.1) (n := 0) (e := en_Ventry_Entry) rfl rfl rfl rfl rfl rfl rm2 rd_E (NL.lt f1_0 hg377) ?_)
              refine oy rfl rfl rfl hb376 (o_fa (fd := ⟨ "Text", 31, 1, false, "", "", 8⟩) rfl rfl rfl rfl rfl ?_)
              obtain ⟨sv378, he_sv378, _⟩ := NL.rd f1_0 hg377
              refine o_open (n := 0) (x := (rd d1.1.Entries 0)) (sv := sv378) rm2 (NL.lt f1_0 hg377) ⟨inferInstance, he_sv378⟩ ?_
              refine oy rfl rfl rfl hb376 (o_ldE (s := i1.2.1) (e := en_Ventry_Entry) (n := 0) (f := 1) (v := (SV.val sv378)) rfl rm0 (rd_own _ _ _ _) (NL.lt f1_0 hg377) rfl (by rw [he_sv378]; rfl) ?_)
              refine oy rfl rfl rfl hb376 (o_b2s (s := sv378) rfl rfl rfl rfl rfl rfl rfl rm2 (rd_own _ _ _ _) ?_)
              refine oy rfl rfl rfl hb376 (o_p (v := (.bool ((bstr ((rd d1.1.Entries 0).Text)).data.toList == (ByteArray.mk (List.toArray [193, 194])).data.toList))) rfl ?_)
              refine o1 rfl (o_pick_t rfl hb376 rfl ?_)
              refine o1 rfl (o_p rfl ?_)
              refine o_end ?_
              have hd := Option.some.inj h
              subst hd
              exact ej () () trivial (sc rfl sn) (kc rm5 (kd (kd (kd (kd (kd kr))))))
            · replace h := cond_f hb376 h
              refine on rfl rfl rfl hb376 ?_
              refine on rfl rfl rfl hb376 ?_
              refine on rfl rfl rfl hb376 ?_
              refine on rfl rfl rfl hb376 ?_
              refine on rfl rfl rfl hb376 ?_
              refine on rfl rfl rfl hb376 ?_
              refine on rfl rfl rfl hb376 ?_
              refine o1 rfl (o_pick_f rfl hb376 rfl ?_)
              refine o1 rfl (o_p rfl ?_)
              refine o_end ?_
              have hd := Option.some.inj h
              subst hd
              exact ej () () trivial (sc rfl sn) (kc rm1 (kd (kd kr)))
          · replace h := cond_f hb373 h
            refine on rfl rfl rfl hb373 ?_
            refine on rfl rfl rfl hb373 ?_
            refine on rfl rfl rfl hb373 ?_
            refine on rfl rfl rfl hb373 ?_
            refine on rfl rfl rfl hb373 ?_
            refine on rfl rfl rfl hb373 ?_
            refine o1 rfl (o_pick_f rfl hb373 rfl ?_)
            refine o1 rfl (o_p rfl ?_)
            refine on rfl rfl rfl rfl ?_
            refine on rfl rfl rfl rfl ?_
            refine on rfl rfl rfl rfl ?_
            refine on rfl rfl rfl rfl ?_
            refine on rfl rfl rfl rfl ?_
            refine on rfl rfl rfl rfl ?_
            refine on rfl rfl rfl rfl ?_
            refine o1 rfl (o_pick_f rfl rfl rfl ?_)
            refine o1 rfl (o_p rfl ?_)
            refine o_end ?_
            have hd := Option.some.inj h
            subst hd
            exact ej () () trivial (sc rfl sn) (kc rm1 (kd (kd kr)))
        · replace h := cond_f hb372 h
          refine on rfl rfl rfl hb372 ?_
          refine on rfl rfl rfl hb372 ?_
          refine on rfl rfl rfl hb372 ?_
          refine on rfl rfl rfl hb372 ?_
          refine o1 rfl (o_pick_f rfl hb372 rfl ?_)
          refine o1 rfl (o_p rfl ?_)
          refine on rfl rfl rfl rfl ?_
          refine on rfl rfl rfl rfl ?_
          refine on rfl rfl rfl rfl ?_
          refine on rfl rfl rfl rfl ?_
          refine on rfl rfl rfl rfl ?_
          refine on rfl rfl rfl rfl ?_
          refine o1 rfl (o_pick_f rfl rfl rfl ?_)
          refine o1 rfl (o_p rfl ?_)
          refine on rfl rfl rfl rfl ?_
          refine on rfl rfl rfl rfl ?_
          refine on rfl rfl rfl rfl ?_
          refine on rfl rfl rfl rfl ?_
          refine on rfl rfl rfl rfl ?_
          refine on rfl rfl rfl rfl ?_
          refine on rfl rfl rfl rfl ?_
          refine o1 rfl (o_pick_f rfl rfl rfl ?_)
          refine o1 rfl (o_p rfl ?_)
          refine o_end ?_
          have hd := Option.some.inj h
          subst hd
          exact ej () () trivial (sc rfl sn) (kc rm1 (kd (kd kr)))
      · replace h := cond_f hb371 h
        refine on rfl rfl rfl hb371 ?_
        refine on rfl rfl rfl hb371 ?_
        refine on rfl rfl rfl hb371 ?_
        refine o1 rfl (o_pick_f rfl hb371 rfl ?_)
        refine o1 rfl (o_p rfl ?_)
        refine on rfl rfl rfl rfl ?_
        refine on rfl rfl rfl rfl ?_
        refine on rfl rfl rfl rfl ?_
        refine on rfl rfl rfl rfl ?_
        refine o1 rfl (o_pick_f rfl rfl rfl ?_)
        refine o1 rfl (o_p rfl ?_)
        refine on rfl rfl rfl rfl ?_
        refine on rfl rfl rfl rfl ?_
        refine on rfl rfl rfl rfl ?_
        refine on rfl rfl rfl rfl ?_
        refine on rfl rfl rfl rfl ?_
        refine on rfl rfl rfl rfl ?_
        refine o1 rfl (o_pick_f rfl rfl rfl ?_)
        refine o1 rfl (o_p rfl ?_)
        refine on rfl rfl rfl rfl ?_
        refine on rfl rfl rfl rfl ?_
        refine on rfl rfl rfl rfl ?_
        refine on rfl rfl rfl rfl ?_
        refine on rfl rfl rfl rfl ?_
        refine on rfl rfl rfl rfl ?_
        refine on rfl rfl rfl rfl ?_
        refine o1 rfl (o_pick_f rfl rfl rfl ?_)
        refine o1 rfl (o_p rfl ?_)
        refine o_end ?_
        have hd := Option.some.inj h
        subst hd
        exact ej () () trivial (sc rfl sn) (kc rm1 (kd (kd kr)))
    · replace h := cond_f hb370 h
      refine on rfl rfl rfl hb370 ?_
      refine on rfl rfl rfl hb370 ?_
      refine on rfl rfl rfl hb370 ?_
      refine o1 rfl (o_pick_f rfl hb370 rfl ?_)
      refine o1 rfl (o_p rfl ?_)
      refine on rfl rfl rfl rfl ?_
      refine on rfl rfl rfl rfl ?_
      refine on rfl rfl rfl rfl ?_
      refine o1 rfl (o_pick_f rfl rfl rfl ?_)
      refine o1 rfl (o_p rfl ?_)
      refine on rfl rfl rfl rfl ?_
      refine on rfl rfl rfl rfl ?_
      refine on rfl rfl rfl rfl ?_
      refine on rfl rfl rfl rfl ?_
      refine o1 rfl (o_pick_f rfl rfl rfl ?_)
      refine o1 rfl (o_p rfl ?_)
      refine on rfl rfl rfl rfl ?_
      refine on rfl rfl rfl rfl ?_
      refine on rfl rfl rfl rfl ?_
      refine on rfl rfl rfl rfl ?_
      refine on rfl rfl rfl rfl ?_
      refine on rfl rfl rfl rfl ?_
      refine o1 rfl (o_pick_f rfl rfl rfl ?_)
      refine o1 rfl (o_p rfl ?_)
      refine on rfl rfl rfl rfl ?_
      refine on rfl rfl rfl rfl ?_
      refine on rfl rfl rfl rfl ?_
      refine on rfl rfl rfl rfl ?_
      refine on rfl rfl rfl rfl ?_
      refine on rfl rfl rfl rfl ?_
      refine on rfl rfl rfl rfl ?_
      refine o1 rfl (o_pick_f rfl rfl rfl ?_)
      refine o1 rfl (o_p rfl ?_)
      refine o_end ?_
      have hd := Option.some.inj h
      subst hd
      exact ej () () trivial (sc rfl sn) (kc rm1 (kd (kd kr)))
  · rintro _ i2 _
    replace h := hk2
    clear hk2
    refine e_seq ?_
    refine c_ret ?_
    refine e_ret ?_
    refine r_endt rfl rfl (kc rm0 kr) ?_
    have hr := Option.some.inj h
    subst hr
    exact hk i1.1 (Ext.trans hx4 f1_1)

theorem c_vitrineref01_Copy {g : Gw} (X : HP) (p0 : List Int) (s0 : SV) (q0 : Rd X s0 5 (enI .u8) p0) (r : (List Int)) (h : m_vitrineref01_Copy p0 = some r) : Tri env g 59 (List.toArray [(SV.val s0)]) [X] (fun K R => ∀ (i0 : SV), K (SV.val i0) (X :: slO i0 5 (enI .u8) r :: R)) := by
  refine tri_of (fn := Try.f59) (N := 6) Try.func59 rfl rfl rfl ?_
  intro R K hk
  unfold m_vitrineref01_Copy at h
  change GC _ none _ [] [(0, (SV.val s0))] (X :: R) g _ _
  refine c_seq ?_
  refine c_region ?_
  refine o1 rfl (o_p rfl ?_)
  refine o_end ?_
  refine e_seq ?_
  refine c_seq ?_
  refine c_region ?_
  refine o1 rfl (o_bs (e := (enI .u8)) (l := ([] : List Int)) (zs := [(.int .u8 0)]) rfl rfl rfl rfl rfl rfl rfl rfl rfl rfl (fun s387 => ?_))
  refine o1 rfl (o_p rfl ?_)
  replace h := gsome h
  obtain ⟨hg389, h⟩ := h
  refine o1 rfl (o_app (s := s387) (r := s0) (e := (enI .u8)) (l := ([] : List Int)) (l2 := p0) (zs := [(.int .u8 0)]) rfl rfl rfl rfl rfl rfl rfl rfl rfl rfl rfl rm0 rm0 q0 hg389 (fun s390 => ?_))
  refine o1 rfl (o_p rfl ?_)
  refine o_end ?_
  refine e_seq ?_
  refine c_ret ?_
  refine e_ret ?_
  refine r_endt rfl rfl (kc rm1 (kc rm0 kr)) ?_
  have hr := Option.some.inj h
  subst hr
  exact hk s390

theorem c_vitrineref01_Cut {g : Gw} (X : HP) (p0 : List Int) (s0 : SV) (q0 : Rd X s0 5 (enI .u8) p0) (p1 : Int) (r : (List Int)) (h : m_vitrineref01_Cut p0 p1 = some r) : Tri env g 24 (List.toArray [(SV.val s0), (.int .i64 p1)]) [X] (fun K R => ∀ (i0 : SV), K (SV.val i0) (X :: slO i0 5 (enI .u8) r :: R)) := by
  refine tri_of (fn := Try.f24) (N := 14) Try.func24 rfl rfl rfl ?_
  intro R K hk
  unfold m_vitrineref01_Cut at h
  change GC _ none _ [] [(0, (SV.val s0)), (1, (.int .i64 p1))] (X :: R) g _ _
  refine c_seq ?_
  refine c_region ?_
  refine o1 rfl (o_p rfl ?_)
  refine o_end ?_
  refine e_seq ?_
  refine c_seq ?_
  refine c_seq ?_
  refine c_region ?_
  refine o1 rfl (o_p rfl ?_)
  refine o1 rfl (o_len (s := s0) rfl rfl rfl rm0 q0 ?_)
  refine o1 rfl (o_p rfl ?_)
  refine o1 rfl (o_p (v := (.bool (decide ((p0.length : Int) > p1)))) rfl ?_)
  refine o_end ?_
  refine e_seq ?_
  replace h := bsome h
  obtain ⟨d1, h, hk1⟩ := h
  refine cj (D := Unit) (ι := SV) (fun _ i1 => Rd X i1 5 (enI .u8) d1) (fun _ i1 => [(0, (SV.val i1))]) (fun _ i1 => X :: R) ?_ ?_
  · refine c_cond (b := (decide ((p0.length : Int) > p1))) rfl (fun hb383 => ?_) (fun hb383 => ?_)
    · replace h := cond_t hb383 h
      refine c_region ?_
      refine o1 rfl (o_p rfl ?_)
      refine o1 rfl (o_p rfl ?_)
      replace h := gsome h
      obtain ⟨hg384, h⟩ := h
      refine o1 rfl (o_sl (a := 0) (b := p1) (m := none) rfl rfl rfl rfl rfl rm0 q0 rfl rfl rfl (by decide) hg384 mx_none (fun s386 hr385 => ?_))
      refine o1 rfl (o_p rfl ?_)
      refine o_end ?_
      have hd := Option.some.inj h
      subst hd
      exact ej () s386 hr385 (sc rfl sn) (kc rm0 kr)
    · replace h := cond_f hb383 h
      refine c_skip ?_
      have hd := Option.some.inj h
      subst hd
      exact ej () s0 q0 (sc rfl sn) (kc rm0 kr)
  · rintro _ i1 f1_0
    replace h := hk1
    clear hk1
    refine e_seq ?_
    refine c_seq ?_
    refine c_region ?_
    refine o1 rfl (o_p rfl ?_)
    replace h := bsome h
    obtain ⟨d2, h2, h⟩ := h
    refine o1 rfl (o_call has59 rfl (c_vitrineref01_Copy X d1 i1 f1_0 _ h2) (pc rm0 pn) (fun i2 => ?_))
    refine o1 rfl (o_p rfl ?_)
    refine o_end ?_
    refine e_seq ?_
    refine c_ret ?_
    refine e_ret ?_
    refine r_endt rfl rfl (kc rm0 (kc rm0 kr)) ?_
    have hr := Option.some.inj h
    subst hr
    exact hk i2

theorem c_addr_Encode {g : Gw} (X : HP) (p0 : Int) (p1 : Int) (r : (List Int) × Int) (h : m_addr_Encode p0 p1 = some r) : Tri env g 60 (List.toArray [(.int .i64 p0), (.int .i64 p1)]) [X] (fun K R => ∀ (i0 : SV), K (.tuple (List.toArray [(SV.val i0), (.int .i64 r.2)])) (X :: slO i0 5 (enI .u8) r.1 :: R)) := by
  refine tri_of (fn := Try.f60) (N := 41) Try.func60 rfl rfl rfl ?_
  intro R K hk
  unfold m_addr_Encode at h
  change GC _ none _ [] [(0, (.int .i64 p0)), (1, (.int .i64 p1))] (X :: R) g _ _
  refine c_seq ?_
  refine c_region ?_
  refine o1 rfl (o_p rfl ?_)
  refine o1 rfl (o_p rfl ?_)
  refine o_end ?_
  refine e_seq ?_
  refine c_seq ?_
  refine c_block ?_
  refine c_seq ?_
  replace h := bsome h
  obtain ⟨d2, h, hk2⟩ := h
  refine cj (D := Unit) (ι := Unit) (fun _ i2 => True) (fun _ i2 => [(6, (.bool d2)), (0, (.int .i64 p0)), (1, (.int .i64 p1))]) (fun _ i2 => X :: R) ?_ ?_
  · refine c_region ?_
    refine o1 rfl (o_p rfl ?_)
    refine o1 rfl (o_p (v := (.bool (p0 != 12))) rfl ?_)
    refine o1 rfl (o_p rfl ?_)
    rcases bool_or ((p0 != 12)) with hb411 | hb411
    · replace h := cond_t hb411 h
      refine oy rfl rfl rfl hb411 (o_p rfl ?_)
      refine oy rfl rfl rfl hb411 (o_p (v := (.bool (p0 != 14))) rfl ?_)
      refine o1 rfl (o_pick_t rfl hb411 rfl ?_)
      refine o1 rfl (o_p rfl ?_)
      rcases bool_or ((p0 != 14)) with hb412 | hb412
      · replace h := cond_t hb412 h
        refine oy rfl rfl rfl hb412 (o_p rfl ?_)
        refine oy rfl rfl rfl hb412 (o_p (v := (.bool (p0 != 16))) rfl ?_)
        refine o1 rfl (o_pick_t rfl hb412 rfl ?_)
        refine o1 rfl (o_p rfl ?_)
        refine o_end ?_
        have hd := Option.some.inj h
        subst hd
        exact ej () () trivial (sc rfl (sc rfl (sc rfl sn))) (kc rm0 kr)
      · replace h := cond_f hb412 h
        refine on rfl rfl rfl hb412 ?_
        refine on rfl rfl rfl hb412 ?_
        refine o1 rfl (o_pick_f rfl hb412 rfl ?_)
        refine o1 rfl (o_p rfl ?_)
        refine o_end ?_
        have hd := Option.some.inj h
        subst hd
        exact ej () () trivial (sc rfl (sc rfl (sc rfl sn))) (kc rm0 kr)
    · replace h := cond_f hb411 h
      refine on rfl rfl rfl hb411 ?_
      refine on rfl rfl rfl hb411 ?_
      refine o1 rfl (o_pick_f rfl hb411 rfl ?_)
      refine o1 rfl (o_p rfl ?_)
      refine on rfl rfl rfl rfl ?_
      refine on rfl rfl rfl rfl ?_
      refine o1 rfl (o_pick_f rfl rfl rfl ?_)
      refine o1 rfl (o_p rfl ?_)
      refine o_end ?_
      have hd := Option.some.inj h
      subst hd
      exact ej () () trivial (sc rfl (sc rfl (sc rfl sn))) (kc rm0 kr)
  · rintro _ i2 _
    replace h := hk2
    clear hk2
    refine e_seq ?_
    refine c_cond (b := d2) rfl (fun hb413 => ?_) (fun hb413 => ?_)
    · replace h := cond_t hb413 h
      refine c_seq ?_
      refine c_region ?_
      refine o1 rfl (o_p rfl ?_)
      refine o1 rfl (o_p rfl ?_)
      refine o_end ?_
      refine e_seq ?_
      refine c_ret ?_
      refine e_blk_ret ?_
      refine e_then_ret ?_
      refine e_ret ?_
      refine r_add (slO SV.nil 5 (enI .u8) []) (slO_nil _ _ _) ?_
      refine r_endt rfl rfl (kc rm1 (kc rm0 kr)) ?_
      have hr := Option.some.inj h
      subst hr
      exact hk SV.nil
    · replace h := cond_f hb413 h
      refine c_seq ?_
      replace h := bsome h
      obtain ⟨d4, h, hk4⟩ := h
      refine cj (D := Unit) (ι := Unit) (fun _ i4 => True) (fun _ i4 => [(17, (.bool d4)), (0, (.int .i64 p0)), (1, (.int .i64 p1))]) (fun _ i4 => X :: R) ?_ ?_
      · refine c_region ?_
        refine o1 rfl (o_p rfl ?_)
        refine o1 rfl (o_p (v := (.bool (decide (p1 < 0)))) rfl ?_)
        refine o1 rfl (o_p rfl ?_)
        rcases bool_or ((decide (p1 < 0))) with hb414 | hb414
        · replace h := cond_t hb414 h
          refine on rfl rfl rfl hb414 ?_
          refine on rfl rfl rfl hb414 ?_
          refine on rfl rfl rfl hb414 ?_
          refine on rfl rfl rfl hb414 ?_
          refine o1 rfl (o_pick_t rfl hb414 rfl ?_)
          refine o1 rfl (o_p rfl ?_)
          refine o_end ?_
          have hd := Option.some.inj h
          subst hd
          exact ej () () trivial (sc rfl (sc rfl (sc rfl sn))) (kc rm0 kr)
        · replace h := cond_f hb414 h
          refine oy rfl rfl rfl hb414 (o_p rfl ?_)
          refine oy rfl rfl rfl hb414 (o_p rfl ?_)
          replace h := gsome h
          obtain ⟨hg415, h⟩ := h
          refine oy rfl rfl rfl hb414 (o_shl (m := 1) (n := p0) rfl rfl hg415 ?_)
          refine oy rfl rfl rfl hb414 (o_p (v := (.bool (decide (p1 ≥ (ishl .i64 1 p0))))) rfl ?_)
          refine o1 rfl (o_pick_f rfl hb414 rfl ?_)
          refine o1 rfl (o_p rfl ?_)
          refine o_end ?_
          have hd := Option.some.inj h
          subst hd
          exact ej () () trivial (sc rfl (sc rfl (sc rfl sn))) (kc rm0 kr)
      · rintro _ i4 _
        replace h := hk4
        clear hk4
        refine e_seq ?_
        refine c_cond (b := d4) rfl (fun hb416 => ?_) (fun hb416 => ?_)
        · replace h := cond_t hb416 h
          refine c_seq ?_
          refine c_region ?_
          refine o1 rfl (o_p rfl ?_)
          refine o1 rfl (o_p rfl ?_)
          refine o_end ?_
          refine e_seq ?_
          refine c_ret ?_
          refine e_blk_ret ?_
          refine e_then_ret ?_
          refine e_ret ?_
          refine r_add (slO SV.nil 5 (enI .u8) []) (slO_nil _ _ _) ?_
          refine r_endt rfl rfl (kc rm1 (kc rm0 kr)) ?_
          have hr := Option.some.inj h
          subst hr
          exact hk SV.nil
        · replace h := cond_f hb416 h
          refine c_seq ?_
          refine c_region ?_
          refine o1 rfl (o_p rfl ?_)
          refine o1 rfl (o_p (v := (.bool (p0 == 12))) rfl ?_)
          refine o1 rfl (o_p rfl ?_)
          refine o_end ?_
          refine e_seq ?_
          refine c_cond (b := (p0 == 12)) rfl (fun hb417 => ?_) (fun hb417 => ?_)
          · replace h := cond_t hb417 h
            refine c_seq ?_
            refine c_region ?_
            refine o1 rfl (o_p rfl ?_)
            refine o1 rfl (o_shr (m := p1) (n := 6) rfl rfl (by decide) ?_)
            replace h := bsome h
            obtain ⟨d5, h5, h⟩ := h
            refine o1 rfl (o_call has94 rfl (c_addr_Six X (ishr .i64 p1 6) _ h5) (pc rm0 pn) ?_)
            refine o1 rfl (o_p rfl ?_)
            replace h := bsome h
            obtain ⟨d6, h6, h⟩ := h
            refine o1 rfl (o_call has94 rfl (c_addr_Six X p1 _ h6) (pc rm0 pn) ?_)
            refine o1 rfl (o_bs (e := (enI .u8)) (l := [d5, d6]) (zs := [(.int .u8 0)]) rfl rfl rfl rfl rfl rfl rfl rfl rfl rfl (fun s418 => ?_))
            refine o1 rfl (o_p rfl ?_)
            refine o1 rfl (o_p rfl ?_)
            refine o_end ?_
            refine e_seq ?_
            refine c_ret ?_
            refine e_blk_ret ?_
            refine e_then_ret ?_
            refine e_ret ?_
            refine r_endt rfl rfl (kc rm1 (kc rm0 kr)) ?_
            have hr := Option.some.inj h
            subst hr
            exact hk s418
          · replace h := cond_f hb417 h
            refine c_skip ?_
            refine e_blk ?_
            refine e_seq ?_
            refine c_seq ?_
            refine c_region ?_
            refine o1 rfl (o_p rfl ?_)
            refine o1 rfl (o_shr (m := p1) (n := 8) rfl rfl (by decide) ?_)
            refine o1 rfl (o_p (v := (.int .u8 (IntKind.wrap .u8 (ishr .i64 p1 8)))) rfl ?_)
            refine o1 rfl (o_p rfl ?_)
            refine o1 rfl (o_p (v := (.int .u8 (IntKind.wrap .u8 (p1)))) rfl ?_)
            refine o1 rfl (o_bs (e := (enI .u8)) (l := [IntKind.wrap .u8 (ishr .i64 p1 8), IntKind.wrap .u8 (p1)]) (zs := [(.int .u8 0)]) rfl rfl rfl rfl rfl rfl rfl rfl rfl rfl (fun s420 => ?_))
            refine o1 rfl (o_p rfl ?_)
            refine o1 rfl (o_p rfl ?_)
            refine o_end ?_
            refine e_seq ?_
            refine c_ret ?_
            refine e_ret ?_
            refine r_endt rfl rfl (kc rm1 (kc rm0 kr)) ?_
            have hr := Option.some.inj h
            subst hr
            exact hk s420

theorem c_slices_IndexFunc {g : Gw} (X : HP) (p0 : List Int) (s0 : SV) (q0 : Rd X s0 5 (enI .u8) p0) (r : Int) (h : m_slices_IndexFunc p0 = some r) : Tri env g 137 (List.toArray [(SV.val s0), (.func (.func 104) #[] (List.toArray []))]) [X] (fun K R => K (.int .i64 r) (X :: R)) := by
  refine tri_of (fn := Try.f137) (N := 19) Try.func137 rfl rfl rfl ?_
  intro R K hk
  unfold m_slices_IndexFunc at h
  change GC _ none _ [] [(0, (SV.val s0)), (1, (.func (.func 104) #[] (List.toArray [])))] (X :: R) g _ _
  refine c_seq ?_
  refine c_region ?_
  refine o1 rfl (o_p rfl ?_)
  refine o_end ?_
  refine e_seq ?_
  refine c_seq ?_
  refine c_seq ?_
  refine c_region ?_
  refine o1 rfl (o_p rfl ?_)
  refine o1 rfl (o_len (s := s0) rfl rfl rfl rm0 q0 ?_)
  refine o1 rfl (o_p rfl ?_)
  refine o_end ?_
  refine e_seq ?_
  replace h := jn_some h
  obtain ⟨y1, h, hk1⟩ := h
  refine cj (D := Unit) (ι := Unit) (fun d1 i1 => y1 = Sum.inl d1) (fun d1 i1 => []) (fun d1 i1 => X :: R) ?_ ?_
  · refine c_block ?_
    refine c_loop (l_sub (sc rfl (sc rfl (sc rfl (sc rfl sn)))) (l_keep (kc rm0 kr) (lf (X := Int) (ι := Unit) (fun k x => slices_IndexFunc_l2 p0 k x) _ (fun x2 i2 => True) (fun x2 i2 => [(8, (.int .i64 x2)), (7, (.int .i64 (p0.length : Int))), (0, (SV.val s0)), (1, (.func (.func 104) #[] (List.toArray [])))]) (fun x2 i2 => X :: R) (fun _ => rfl) ?_ fuel 0 () trivial h)))
    clear h
    rintro k2 ih2 x2 i2 _ h
    rw [slices_IndexFunc_l2.eq_2] at h
    refine l_round ?_
    refine c_seq ?_
    refine c_region ?_
    refine o1 rfl (o_p (v := (.bool (decide (x2 < (p0.length : Int))))) rfl ?_)
    refine o_end ?_
    refine e_seq ?_
    refine c_seq ?_
    refine c_cond (b := (decide (x2 < (p0.length : Int)))) rfl (fun hb481 => ?_) (fun hb481 => ?_)
    · replace h := cond_t hb481 h
      refine c_skip ?_
      refine e_seq ?_
      refine c_seq ?_
      refine c_block ?_
      refine c_seq ?_
      refine c_region ?_
      refine o1 rfl (o_p rfl ?_)
      refine o1 rfl (o_p rfl ?_)
      refine o_end ?_
      refine e_seq ?_
      refine c_seq ?_
      refine c_region ?_
      refine o1 rfl (o_p rfl ?_)
      refine o1 rfl (o_p rfl ?_)
      refine o1 rfl (o_p rfl ?_)
      replace h := gsome h
      obtain ⟨hg482, h⟩ := h
      refine o1 rfl (o_ix (s := s0) (n := x2) (e := (enI .u8)) rfl rfl rfl rfl rfl rfl rm0 q0 hg482 ?_)
      refine o1 rfl (o_ldE (s := s0) (e := (enI .u8)) (n := x2) (f := 0) (v := (.int .u8 (rd p0 x2))) rfl rm0 q0 hg482 rfl rfl ?_)
      replace h := bsome h
      obtain ⟨d5, h5, h⟩ := h
      refine o1 rfl (o_callv (vs := [(.int .u8 (rd p0 x2))]) (cap := []) has104 rfl rfl (c_order_Is X (rd p0 x2) _ h5) (pc rm0 pn) ?_)
      refine o_end ?_
      refine e_seq ?_
      refine c_cond (b := d5) rfl (fun hb483 => ?_) (fun hb483 => ?_)
      · replace h := cond_t hb483 h
        refine c_seq ?_
        refine c_region ?_
        refine o1 rfl (o_p rfl ?_)
        refine o1 rfl (o_p rfl ?_)
        refine o_end ?_
        refine e_seq ?_
        refine c_ret ?_
        refine e_blk_ret ?_
        refine e_then_ret ?_
        refine e_then_ret ?_
        refine e_blk_ret ?_
        refine ej_ret ?_
        replace h := esc_some h
        obtain ⟨z1, h, rfl⟩ := h
        obtain rfl := (hk1 : z1 = _)
        refine e_then_ret ?_
        refine e_ret ?_
        refine r_endt rfl rfl (kc rm0 kr) ?_
        have hr := Option.some.inj h
        subst hr
        exact hk
      · replace h := cond_f hb483 h
        refine c_skip ?_
        refine e_blk ?_
        refine e_seq ?_
        refine c_region ?_
        refine o1 rfl (o_p (v := (.int .i64 (w64 (x2 + 1)))) rfl ?_)
        refine o1 rfl (o_p rfl ?_)
        refine o_end ?_
        exact e_loop (l_sub (sc rfl (sc rfl (sc rfl (sc rfl sn)))) (l_keep (kc rm0 kr) (ih2 (w64 (x2 + 1)) () trivial h)))
    · replace h := cond_f hb481 h
      refine c_exit ?_
      refine e_then_exit ?_
      refine e_then_exit ?_
      refine e_blk_exit ?_
      have hd := Option.some.inj h
      subst hd
      exact ej () () rfl sn (kc rm0 kr)
  · rintro d1 i1 rfl
    replace h := JK_inl hk1
    clear hk1
    refine e_seq ?_
    refine c_seq ?_
    refine c_region ?_
    refine o1 rfl (o_p rfl ?_)
    refine o_end ?_
    refine e_seq ?_
    refine c_ret ?_
    refine e_ret ?_
    refine r_endt rfl rfl (kc rm0 kr) ?_
    have hr := Option.some.inj h
    subst hr
    exact hk

theorem c_slices_ContainsFunc {g : Gw} (X : HP) (p0 : List Int) (s0 : SV) (q0 : Rd X s0 5 (enI .u8) p0) (r : Bool) (h : m_slices_ContainsFunc p0 = some r) : Tri env g 116 (List.toArray [(SV.val s0), (.func (.func 104) #[] (List.toArray []))]) [X] (fun K R => K (.bool r) (X :: R)) := by
  refine tri_of (fn := Try.f116) (N := 9) Try.func116 rfl rfl rfl ?_
  intro R K hk
  unfold m_slices_ContainsFunc at h
  change GC _ none _ [] [(0, (SV.val s0)), (1, (.func (.func 104) #[] (List.toArray [])))] (X :: R) g _ _
  refine c_seq ?_
  refine c_region ?_
  refine o1 rfl (o_p rfl ?_)
  refine o_end ?_
  refine e_seq ?_
  refine c_seq ?_
  refine c_region ?_
  refine o1 rfl (o_p rfl ?_)
  refine o1 rfl (o_p rfl ?_)
  replace h := bsome h
  obtain ⟨d1, h1, h⟩ := h
  refine o1 rfl (o_call has137 rfl (c_slices_IndexFunc X p0 s0 q0 _ h1) (pc rm0 pn) ?_)
  refine o1 rfl (o_p (v := (.bool (decide (d1 ≥ 0)))) rfl ?_)
  refine o1 rfl (o_p rfl ?_)
  refine o_end ?_
  refine e_seq ?_
  refine c_ret ?_
  refine e_ret ?_
  refine r_endt rfl rfl (kc rm0 kr) ?_
  have hr := Option.some.inj h
  subst hr
  exact hk

theorem c_order_place {g : Gw} (X : HP) (p0 : Int) (p1 : Int) (r : (List Int) × Int) (h : m_order_place p0 p1 = some r) : Tri env g 118 (List.toArray [(.int .u8 p0), (.int .i64 p1)]) [X] (fun K R => ∀ (i0 : SV), K (.tuple (List.toArray [(SV.val i0), (.int .i64 r.2)])) (X :: slO i0 5 (enI .u8) r.1 :: R)) := by
  refine tri_of (fn := Try.f118) (N := 20) Try.func118 rfl rfl rfl ?_
  intro R K hk
  unfold m_order_place at h
  change GC _ none _ [] [(0, (.int .u8 p0)), (1, (.int .i64 p1))] (X :: R) g _ _
  refine c_seq ?_
  refine c_region ?_
  refine o1 rfl (o_p rfl ?_)
  refine o1 rfl (o_p rfl ?_)
  refine o_end ?_
  refine e_seq ?_
  refine c_seq ?_
  refine c_region ?_
  refine o1 rfl (o_p rfl ?_)
  replace h := bsome h
  obtain ⟨d1, h1, h⟩ := h
  refine o1 rfl (o_call has60 rfl (c_addr_Encode X 12 p1 _ h1) (pc rm0 pn) (fun i1 => ?_))
  refine o1 rfl (o_p rfl ?_)
  refine o1 rfl (o_p rfl ?_)
  refine o1 rfl (o_p rfl ?_)
  refine o1 rfl (o_p rfl ?_)
  refine o1 rfl (o_p rfl ?_)
  refine o_end ?_
  refine e_seq ?_
  refine c_seq ?_
  refine c_seq ?_
  refine c_region ?_
  refine o1 rfl (o_p rfl ?_)
  refine o1 rfl (o_p (v := (.bool (d1.2 != 0))) rfl ?_)
  refine o_end ?_
  refine e_seq ?_
  refine c_cond (b := (d1.2 != 0)) rfl (fun hb500 => ?_) (fun hb500 => ?_)
  · replace h := cond_t hb500 h
    refine c_seq ?_
    refine c_region ?_
    refine o1 rfl (o_p rfl ?_)
    refine o1 rfl (o_p rfl ?_)
    refine o1 rfl (o_p rfl ?_)
    refine o_end ?_
    refine e_seq ?_
    refine c_ret ?_
    refine e_then_ret ?_
    refine e_ret ?_
    refine r_add (slO SV.nil 5 (enI .u8) []) (slO_nil _ _ _) ?_
    refine r_endt rfl rfl (kc rm1 (kc rm0 (kd kr))) ?_
    have hr := Option.some.inj h
    subst hr
    exact hk SV.nil
  · replace h := cond_f hb500 h
    refine c_skip ?_
    refine e_seq ?_
    refine c_seq ?_
    refine c_region ?_
    refine o1 rfl (o_p rfl ?_)
    refine o1 rfl (o_bs (e := (enI .u8)) (l := [p0]) (zs := [(.int .u8 0)]) rfl rfl rfl rfl rfl rfl rfl rfl rfl rfl (fun s501 => ?_))
    refine o1 rfl (o_p rfl ?_)
    replace h := gsome h
    obtain ⟨hg503, h⟩ := h
    refine o1 rfl (o_app (s := s501) (r := i1) (e := (enI .u8)) (l := [p0]) (l2 := d1.1) (zs := [(.int .u8 0)]) rfl rfl rfl rfl rfl rfl rfl rfl rfl rfl rfl rm0 rm1 (rd_own _ _ _ _) hg503 (fun s504 => ?_))
    refine o1 rfl (o_p rfl ?_)
    refine o1 rfl (o_p rfl ?_)
    refine o_end ?_
    refine e_seq ?_
    refine c_ret ?_
    refine e_ret ?_
    refine r_endt rfl rfl (kc rm1 (kc rm0 (kd kr))) ?_
    have hr := Option.some.inj h
    subst hr
    exact hk s504

theorem c_attr_Bytes {g : Gw} (X : HP) (p0 : List Vattr_Pair) (s0 : SV) (q0 : Rd X s0 196 en_Vattr_Pair p0) (r : (List Int) × Int) (h : m_attr_Bytes p0 = some r) : Tri env g 101 (List.toArray [(SV.val s0)]) [X] (fun K R => ∀ (i0 : SV), K (.tuple (List.toArray [(SV.val i0), (.int .i64 r.2)])) (X :: slO i0 5 (enI .u8) r.1 :: R)) := by
  refine tri_of (fn := Try.f101) (N := 35) Try.func101 rfl rfl rfl ?_
  intro R K hk
  unfold m_attr_Bytes at h
  change GC _ none _ [] [(0, (SV.val s0))] (X :: R) g _ _
  refine c_seq ?_
  refine c_region ?_
  refine o1 rfl (o_p rfl ?_)
  refine o1 rfl (o_p rfl ?_)
  refine o_end ?_
  refine e_seq ?_
  refine c_seq ?_
  refine c_seq ?_
  refine c_region ?_
  refine o1 rfl (o_p rfl ?_)
  refine o1 rfl (o_len (s := s0) rfl rfl rfl rm0 q0 ?_)
  refine o1 rfl (o_p (v := (.bool (decide ((p0.length : Int) > 255)))) rfl ?_)
  refine o_end ?_
  refine e_seq ?_
  refine c_cond (b := (decide ((p0.length : Int) > 255))) rfl (fun hb535 => ?_) (fun hb535 => ?_)
  · replace h := cond_t hb535 h
    refine c_seq ?_
    refine c_region ?_
    refine o1 rfl (o_p rfl ?_)
    refine o1 rfl (o_p rfl ?_)
    refine o_end ?_
    refine e_seq ?_
    refine c_ret ?_
    refine e_then_ret ?_
    refine e_ret ?_
    refine r_add (slO SV.nil 5 (enI .u8) []) (slO_nil _ _ _) ?_
    refine r_endt rfl rfl (kc rm1 (kc rm0 kr)) ?_
    have hr := Option.some.inj h
    subst hr
    exact hk SV.nil
  · replace h := cond_f hb535 h
    refine c_skip ?_
    refine e_seq ?_
    refine c_seq ?_
    refine c_region ?_
    refine o1 rfl (o_p rfl ?_)
    refine o1 rfl (o_len (s := s0) rfl rfl rfl rm0 q0 ?_)
    refine o1 rfl (o_p (v := (.int .u8 (IntKind.wrap .u8 ((p0.length : Int))))) rfl ?_)
    refine o1 rfl (o_bs (e := (enI .u8)) (l := [IntKind.wrap .u8 ((p0.length : Int))]) (zs := [(.int .u8 0)]) rfl rfl rfl rfl rfl rfl rfl rfl rfl rfl (fun s536 => ?_))
    refine o1 rfl (o_p rfl ?_)
    refine o_end ?_
    refine e_seq ?_
    refine c_seq ?_
    refine c_seq ?_
    refine c_region ?_
    refine o1 rfl (o_p rfl ?_)
    refine o1 rfl (o_len (s := s0) rfl rfl rfl rm1 q0 ?_)
    refine o1 rfl (o_p rfl ?_)
    refine o_end ?_
    refine e_seq ?_
    replace h := jn_some h
    obtain ⟨y2, h, hk2⟩ := h
    refine cj (D := (List Int)) (ι := SV) (fun d2 i2 => y2 = Sum.inl d2) (fun d2 i2 => [(4, (SV.val i2))]) (fun d2 i2 => X :: slO i2 5 (enI .u8) d2 :: R) ?_ ?_
    · refine c_block ?_
      refine c_loop (l_sub (sc rfl (sc rfl (sc rfl (sc rfl sn)))) (l_keep (kc rm1 (kc rm0 kr)) (lf (X := Int × (List Int)) (ι := SV) (fun k x => attr_Bytes_l3 p0 k x) _ (fun x3 i3 => True) (fun x3 i3 => [(17, (.int .i64 x3.1)), (16, (.int .i64 (p0.length : Int))), (15, (SV.val s0)), (4, (SV.val i3))]) (fun x3 i3 => X :: slO i3 5 (enI .u8) x3.2 :: R) (fun _ => rfl) ?_ fuel (0, [IntKind.wrap .u8 ((p0.length : Int))]) s536 trivial h)))
      clear h
      rintro k3 ih3 x3 i3 _ h
      rw [attr_Bytes_l3.eq_2] at h
      refine l_round ?_
      refine c_seq ?_
      refine c_region ?_
      refine o1 rfl (o_p (v := (.bool (decide (x3.1 < (p0.length : Int))))) rfl ?_)
      refine o_end ?_
      refine e_seq ?_
      refine c_seq ?_
      refine c_cond (b := (decide (x3.1 < (p0.length : Int)))) rfl (fun hb560 => ?_) (fun hb560 => ?_)
      · replace h := cond_t hb560 h
        refine c_skip ?_
        refine e_seq ?_
        refine c_seq ?_
        refine c_block ?_
        refine c_seq ?_
        refine c_region ?_
        replace h := gsome h
        obtain ⟨hg561, h⟩ := h
        refine o1 rfl (o_ix (s := s0) (n := x3.1) (e := en_Vattr_Pair) rfl rfl rfl rfl rfl rfl rm0 q0 hg561 ?_)
        refine o1 rfl (o_ldE (s := s0) (e := en_Vattr_Pair) (n := x3.1) (f := 0) (v := (.agg (List.toArray [(.int .u8 ((rd p0 x3.1).f_Type)), (.int .u8 ((rd p0 x3.1).Value))]))) rfl rm0 q0 hg561 rfl rfl ?_)
        refine o1 rfl (o_alloc (cs := [(.int .u8 0), (.int .u8 0)]) rfl rfl (fun b562 => ?_))
        refine o0 (o_st (b := b562) (off := 0) (vs := [(.int .u8 ((rd p0 x3.1).f_Type)), (.int .u8 ((rd p0 x3.1).Value))]) (cs' := [(.int .u8 ((rd p0 x3.1).f_Type)), (.int .u8 ((rd p0 x3.1).Value))]) rfl rfl rp0 rfl rfl rfl rfl rfl rfl ?_)
        refine o_end ?_
        refine e_seq ?_
        refine c_seq ?_
        refine c_seq ?_
        refine c_region ?_
        refine o1 rfl (o_ld (b := b562) (off := 0) (v := (.agg (List.toArray [(.int .u8 ((rd p0 x3.1).f_Type)), (.int .u8 ((rd p0 x3.1).Value))]))) rfl rm0 rfl rfl ?_)
        replace h := bsome h
        obtain ⟨d6, h6, h⟩ := h
        refine o1 rfl (o_call has119 rfl (c_attr_Pair_Check X (rd p0 x3.1) _ h6) (pc rm1 pn) ?_)
        refine o1 rfl (o_p rfl ?_)
        refine o_end ?_
        refine e_seq ?_
        refine c_seq ?_
        refine c_region ?_
        refine o1 rfl (o_p rfl ?_)
        refine o1 rfl (o_p (v := (.bool (d6 != 0))) rfl ?_)
        refine o_end ?_
        refine e_seq ?_
        refine c_cond (b := (d6 != 0)) rfl (fun hb564 => ?_) (fun hb564 => ?_)
        · replace h := cond_t hb564 h
          refine c_seq ?_
          refine c_region ?_
          refine o1 rfl (o_p rfl ?_)
          refine o1 rfl (o_p rfl ?_)
          refine o1 rfl (o_p rfl ?_)
          refine o_end ?_
          refine e_seq ?_
          refine c_ret ?_
          refine e_then_ret ?_
          refine e_blk_ret ?_
          refine e_then_ret ?_
          refine e_then_ret ?_
          refine e_blk_ret ?_
          refine ej_ret ?_
          replace h := esc_some h
          obtain ⟨z2, h, rfl⟩ := h
          obtain rfl := (hk2 : z2 = _)
          refine e_then_ret ?_
          refine e_ret ?_
          refine r_add (slO SV.nil 5 (enI .u8) []) (slO_nil _ _ _) ?_
          refine r_endt rfl rfl (kc rm1 (kc rm0 (kd (kd kr)))) ?_
          have hr := Option.some.inj h
          subst hr
          exact hk SV.nil
        · replace h := cond_f hb564 h
          refine c_skip ?_
          refine e_seq ?_
          refine c_region ?_
          refine o1 rfl (o_p rfl ?_)
          refine o1 rfl (o_fa (fd := ⟨ "Type", 5, 0, false, "", "", 0⟩) rfl rfl rfl rfl rfl ?_)
          refine o1 rfl (o_ld (b := b562) (off := 0) (v := (.int .u8 ((rd p0 x3.1).f_Type))) rfl rm1 rfl rfl ?_)
          refine o1 rfl (o_fa (fd := ⟨ "Value", 5, 1, false, "", "", 1⟩) rfl rfl rfl rfl rfl ?_)
          refine o1 rfl (o_ld (b := b562) (off := 1) (v := (.int .u8 ((rd p0 x3.1).Value))) rfl rm1 rfl rfl ?_)
          refine o1 rfl (o_bs (e := (enI .u8)) (l := [(rd p0 x3.1).f_Type, (rd p0 x3.1).Value]) (zs := [(.int .u8 0)]) rfl rfl rfl rfl rfl rfl rfl rfl rfl rfl (fun s565 => ?_))
          replace h := gsome h
          obtain ⟨hg567, h⟩ := h
          refine o1 rfl (o_app (s := i3) (r := s565) (e := (enI .u8)) (l := x3.2) (l2 := [(rd p0 x3.1).f_Type, (rd p0 x3.1).Value]) (zs := [(.int .u8 0)]) rfl rfl rfl rfl rfl rfl rfl rfl rfl rfl rfl rm3 rm0 (rd_own _ _ _ _) hg567 (fun s568 => ?_))
          refine o1 rfl (o_p rfl ?_)
          refine o_end ?_
          refine e_blk ?_
          refine e_seq ?_
          refine c_region ?_
          refine o1 rfl (o_p (v := (.int .i64 (w64 (x3.1 + 1)))) rfl ?_)
          refine o1 rfl (o_p rfl ?_)
          refine o_end ?_
          exact e_loop (l_sub (sc rfl (sc rfl (sc rfl (sc rfl sn)))) (l_keep (kc rm2 (kc rm0 (kd (kd kr)))) (ih3 (w64 (x3.1 + 1), (x3.2 ++ [(rd p0 x3.1).f_Type, (rd p0 x3.1).Value])) s568 trivial h)))
      · replace h := cond_f hb560 h
        refine c_exit ?_
        refine e_then_exit ?_
        refine e_then_exit ?_
        refine e_blk_exit ?_
        have hd := Option.some.inj h
        subst hd
        exact ej x3.2 i3 rfl (sc rfl sn) (kc rm0 (kc rm0 kr))
    · rintro d2 i2 rfl
      replace h := JK_inl hk2
      clear hk2
      refine e_seq ?_
      refine c_seq ?_
      refine c_region ?_
      refine o1 rfl (o_p rfl ?_)
      refine o1 rfl (o_p rfl ?_)
      refine o1 rfl (o_p rfl ?_)
      refine o_end ?_
      refine e_seq ?_
      refine c_ret ?_
      refine e_ret ?_
      refine r_endt rfl rfl (kc rm0 (kc rm0 kr)) ?_
      have hr := Option.some.inj h
      subst hr
      exact hk i2

theorem c_order_looks {g : Gw} (X : HP) (p0 : Int) (p1 : List Vattr_Pair) (s0 : SV) (q0 : Rd X s0 196 en_Vattr_Pair p1) (r : (List Int) × Int) (h : m_order_looks p0 p1 = some r) : Tri env g 120 (List.toArray [(.int .u8 p0), (SV.val s0)]) [X] (fun K R => ∀ (i0 : SV), K (.tuple (List.toArray [(SV.val i0), (.int .i64 r.2)])) (X :: slO i0 5 (enI .u8) r.1 :: R)) := by
  refine tri_of (fn := Try.f120) (N := 20) Try.func120 rfl rfl rfl ?_
  intro R K hk
  unfold m_order_looks at h
  change GC _ none _ [] [(0, (.int .u8 p0)), (1, (SV.val s0))] (X :: R) g _ _
  refine c_seq ?_
  refine c_region ?_
  refine o1 rfl (o_p rfl ?_)
  refine o1 rfl (o_p rfl ?_)
  refine o_end ?_
  refine e_seq ?_
  refine c_seq ?_
  refine c_region ?_
  refine o1 rfl (o_p rfl ?_)
  replace h := bsome h
  obtain ⟨d1, h1, h⟩ := h
  refine o1 rfl (o_call has101 rfl (c_attr_Bytes X p1 s0 q0 _ h1) (pc rm0 pn) (fun i1 => ?_))
  refine o1 rfl (o_p rfl ?_)
  refine o1 rfl (o_p rfl ?_)
  refine o1 rfl (o_p rfl ?_)
  refine o1 rfl (o_p rfl ?_)
  refine o1 rfl (o_p rfl ?_)
  refine o_end ?_
  refine e_seq ?_
  refine c_seq ?_
  refine c_seq ?_
  refine c_region ?_
  refine o1 rfl (o_p rfl ?_)
  refine o1 rfl (o_p (v := (.bool (d1.2 != 0))) rfl ?_)
  refine o_end ?_
  refine e_seq ?_
  refine c_cond (b := (d1.2 != 0)) rfl (fun hb576 => ?_) (fun hb576 => ?_)
  · replace h := cond_t hb576 h
    refine c_seq ?_
    refine c_region ?_
    refine o1 rfl (o_p rfl ?_)
    refine o1 rfl (o_p rfl ?_)
    refine o1 rfl (o_p rfl ?_)
    refine o_end ?_
    refine e_seq ?_
    refine c_ret ?_
    refine e_then_ret ?_
    refine e_ret ?_
    refine r_add (slO SV.nil 5 (enI .u8) []) (slO_nil _ _ _) ?_
    refine r_endt rfl rfl (kc rm1 (kc rm0 (kd kr))) ?_
    have hr := Option.some.inj h
    subst hr
    exact hk SV.nil
  · replace h := cond_f hb576 h
    refine c_skip ?_
    refine e_seq ?_
    refine c_seq ?_
    refine c_region ?_
    refine o1 rfl (o_p rfl ?_)
    refine o1 rfl (o_bs (e := (enI .u8)) (l := [p0]) (zs := [(.int .u8 0)]) rfl rfl rfl rfl rfl rfl rfl rfl rfl rfl (fun s577 => ?_))
    refine o1 rfl (o_p rfl ?_)
    replace h := gsome h
    obtain ⟨hg579, h⟩ := h
    refine o1 rfl (o_app (s := s577) (r := i1) (e := (enI .u8)) (l := [p0]) (l2 := d1.1) (zs := [(.int .u8 0)]) rfl rfl rfl rfl rfl rfl rfl rfl rfl rfl rfl rm0 rm1 (rd_own _ _ _ _) hg579 (fun s580 => ?_))
    refine o1 rfl (o_p rfl ?_)
    refine o1 rfl (o_p rfl ?_)
    refine o_end ?_
    refine e_seq ?_
    refine c_ret ?_
    refine e_ret ?_
    refine r_endt rfl rfl (kc rm1 (kc rm0 (kd kr))) ?_
    have hr := Option.some.inj h
    subst hr
    exact hk s580

end Go.Vt
