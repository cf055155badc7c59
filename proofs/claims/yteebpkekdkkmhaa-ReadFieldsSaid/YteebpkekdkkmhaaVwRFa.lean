/- The walks: each function does what its model says. No conditions. -/
import Derived.Test.YteebpkekdkkmhaaVmCM
import Derived.Test.YteebpkekdkkmhaaProg
import Derived.KernelRfl
set_option linter.unusedVariables false
set_option maxRecDepth 100000
set_option maxHeartbeats 4000000
namespace Go.Vt
open Go.Proofs
def tt : List (Nat × TI) := [
  (3, ⟨(.int .i64), 1, (.int .i64 0), 8⟩),
  (4, ⟨.bool, 1, (.bool false), 1⟩),
  (5, ⟨(.int .u8), 1, (.int .u8 0), 1⟩),
  (9, ⟨.string, 1, (.string ⟨#[]⟩), 16⟩),
  (22, ⟨(.slice 94), 1, (.slice none 0 0), 24⟩),
  (24, ⟨(.pointer 165), 1, (.pointer none), 8⟩),
  (25, ⟨(.pointer 41), 1, (.pointer none), 8⟩),
  (28, ⟨(.slice 3), 1, (.slice none 0 0), 24⟩),
  (30, ⟨(.func #[5] #[4] false), 1, .nilFunc, 8⟩),
  (31, ⟨(.slice 5), 1, (.slice none 0 0), 24⟩),
  (32, ⟨(.int .i64), 1, (.int .i64 0), 8⟩),
  (38, ⟨(.struct #[⟨ "Rows", 3, 0, false, "", "", 0⟩, ⟨ "Cols", 3, 1, false, "", "", 8⟩]), 2, (.agg #[(.int .i64 0), (.int .i64 0)]), 16⟩),
  (39, ⟨(.slice 48), 1, (.slice none 0 0), 24⟩),
  (41, ⟨(.struct #[⟨ "Model", 3, 0, false, "", "", 0⟩, ⟨ "Alt", 4, 1, false, "", "", 8⟩, ⟨ "Size", 38, 2, false, "", "", 16⟩, ⟨ "L", 39, 4, false, "", "", 32⟩, ⟨ "Cursor", 3, 5, false, "", "", 56⟩]), 6, (.agg #[(.int .i64 0), (.bool false), (.int .i64 0), (.int .i64 0), (.slice none 0 0), (.int .i64 0)]), 64⟩),
  (43, ⟨(.struct #[⟨ "Protected", 4, 0, false, "", "", 0⟩, ⟨ "Numeric", 4, 1, false, "", "", 1⟩, ⟨ "Display", 3, 2, false, "", "", 8⟩, ⟨ "Modified", 4, 3, false, "", "", 16⟩]), 4, (.agg #[(.bool false), (.bool false), (.int .i64 0), (.bool false)]), 24⟩),
  (48, ⟨(.struct #[⟨ "Char", 5, 0, false, "", "", 0⟩, ⟨ "Attr", 4, 1, false, "", "", 1⟩, ⟨ "FA", 5, 2, false, "", "", 2⟩, ⟨ "High", 5, 3, false, "", "", 3⟩, ⟨ "Color", 5, 4, false, "", "", 4⟩, ⟨ "Set", 5, 5, false, "", "", 5⟩]), 6, (.agg #[(.int .u8 0), (.bool false), (.int .u8 0), (.int .u8 0), (.int .u8 0), (.int .u8 0)]), 6⟩),
  (56, ⟨(.slice 60), 1, (.slice none 0 0), 24⟩),
  (58, ⟨(.struct #[⟨ "AID", 5, 0, false, "", "", 0⟩, ⟨ "Short", 4, 1, false, "", "", 1⟩, ⟨ "Cursor", 3, 2, false, "", "", 8⟩, ⟨ "Entries", 56, 3, false, "", "", 16⟩]), 4, (.agg #[(.int .u8 0), (.bool false), (.int .i64 0), (.slice none 0 0)]), 40⟩),
  (60, ⟨(.struct #[⟨ "Addr", 3, 0, false, "", "", 0⟩, ⟨ "Text", 31, 1, false, "", "", 8⟩]), 2, (.agg #[(.int .i64 0), (.slice none 0 0)]), 32⟩),
  (63, ⟨(.slice 109), 1, (.slice none 0 0), 24⟩),
  (65, ⟨(.struct #[⟨ "AID", 5, 0, false, "", "", 0⟩, ⟨ "Short", 4, 1, false, "", "", 1⟩, ⟨ "Cursor", 3, 2, false, "", "", 8⟩, ⟨ "Entries", 63, 3, false, "", "", 16⟩]), 4, (.agg #[(.int .u8 0), (.bool false), (.int .i64 0), (.slice none 0 0)]), 40⟩),
  (94, ⟨(.struct #[⟨ "Do", 5, 0, false, "", "", 0⟩, ⟨ "N", 3, 1, false, "", "", 8⟩, ⟨ "On", 4, 2, false, "", "", 16⟩, ⟨ "Code", 5, 3, false, "", "", 17⟩, ⟨ "C", 48, 4, false, "", "", 18⟩, ⟨ "Text", 31, 10, false, "", "", 24⟩]), 11, (.agg #[(.int .u8 0), (.int .i64 0), (.bool false), (.int .u8 0), (.int .u8 0), (.bool false), (.int .u8 0), (.int .u8 0), (.int .u8 0), (.int .u8 0), (.slice none 0 0)]), 48⟩),
  (109, ⟨(.struct #[⟨ "Addr", 3, 0, false, "", "", 0⟩, ⟨ "Text", 31, 1, false, "", "", 8⟩]), 2, (.agg #[(.int .i64 0), (.slice none 0 0)]), 32⟩),
  (112, ⟨(.slice 115), 1, (.slice none 0 0), 24⟩),
  (113, ⟨(.slice 196), 1, (.slice none 0 0), 24⟩),
  (115, ⟨(.struct #[⟨ "Kind", 3, 0, false, "", "", 0⟩, ⟨ "Addr", 3, 1, false, "", "", 8⟩, ⟨ "Code", 5, 2, false, "", "", 16⟩, ⟨ "Graph", 4, 3, false, "", "", 17⟩, ⟨ "FA", 5, 4, false, "", "", 18⟩, ⟨ "Pairs", 113, 5, false, "", "", 24⟩, ⟨ "Text", 31, 6, false, "", "", 48⟩]), 7, (.agg #[(.int .i64 0), (.int .i64 0), (.int .u8 0), (.bool false), (.int .u8 0), (.slice none 0 0), (.slice none 0 0)]), 72⟩),
  (122, ⟨(.pointer 130), 1, (.pointer none), 8⟩),
  (130, ⟨(.struct #[⟨ "out", 31, 0, false, "", "vitrine/read", 0⟩, ⟨ "last", 48, 1, false, "", "vitrine/read", 24⟩, ⟨ "mode", 3, 7, false, "", "vitrine/read", 32⟩]), 8, (.agg #[(.slice none 0 0), (.int .u8 0), (.bool false), (.int .u8 0), (.int .u8 0), (.int .u8 0), (.int .u8 0), (.int .i64 0)]), 40⟩),
  (131, ⟨(.struct #[⟨ "Rows", 3, 0, false, "", "", 0⟩, ⟨ "Cols", 3, 1, false, "", "", 8⟩]), 2, (.agg #[(.int .i64 0), (.int .i64 0)]), 16⟩),
  (157, ⟨(.slice 160), 1, (.slice none 0 0), 24⟩),
  (160, ⟨(.struct #[⟨ "Type", 5, 0, false, "", "", 0⟩, ⟨ "Value", 5, 1, false, "", "", 1⟩]), 2, (.agg #[(.int .u8 0), (.int .u8 0)]), 2⟩),
  (165, ⟨(.struct #[⟨ "model", 3, 0, false, "", "vitrine/space", 0⟩, ⟨ "alternate", 4, 1, false, "", "vitrine/space", 8⟩, ⟨ "size", 131, 2, false, "", "vitrine/space", 16⟩, ⟨ "cells", 39, 4, false, "", "vitrine/space", 32⟩, ⟨ "cursor", 3, 5, false, "", "vitrine/space", 56⟩, ⟨ "attrs", 3, 6, false, "", "vitrine/space", 64⟩]), 7, (.agg #[(.int .i64 0), (.bool false), (.int .i64 0), (.int .i64 0), (.slice none 0 0), (.int .i64 0), (.int .i64 0)]), 72⟩),
  (186, ⟨(.pointer 188), 1, (.pointer none), 8⟩),
  (188, ⟨(.struct #[⟨ "p", 31, 0, false, "", "vitrine/order", 0⟩, ⟨ "code", 32, 1, false, "", "vitrine/order", 24⟩]), 2, (.agg #[(.slice none 0 0), (.int .i64 0)]), 32⟩),
  (190, ⟨(.pointer 65), 1, (.pointer none), 8⟩),
  (196, ⟨(.struct #[⟨ "Type", 5, 0, false, "", "", 0⟩, ⟨ "Value", 5, 1, false, "", "", 1⟩]), 2, (.agg #[(.int .u8 0), (.int .u8 0)]), 2⟩),
  (209, ⟨(.slice 38), 1, (.slice none 0 0), 24⟩),
  (211, ⟨(.func #[3] #[4] false), 1, .nilFunc, 8⟩),
  (215, ⟨(.struct #[⟨ "Protected", 4, 0, false, "", "", 0⟩, ⟨ "Numeric", 4, 1, false, "", "", 1⟩, ⟨ "Display", 3, 2, false, "", "", 8⟩, ⟨ "Modified", 4, 3, false, "", "", 16⟩]), 4, (.agg #[(.bool false), (.bool false), (.int .i64 0), (.bool false)]), 24⟩),
  (223, ⟨(.slice 9), 1, (.slice none 0 0), 24⟩),
  (228, ⟨(.array 3 196), 6, (.agg #[(.int .u8 0), (.int .u8 0), (.int .u8 0), (.int .u8 0), (.int .u8 0), (.int .u8 0)]), 6⟩),
  (233, ⟨(.func #[3, 215] #[4] false), 1, .nilFunc, 8⟩)]
theorem ttOk : tik Try.prog tt := ⟨⟨by kernel_rfl, by kernel_rfl⟩, ⟨by kernel_rfl, by kernel_rfl⟩, ⟨by kernel_rfl, by kernel_rfl⟩, ⟨by kernel_rfl, by kernel_rfl⟩, ⟨by kernel_rfl, by kernel_rfl⟩, ⟨by kernel_rfl, by kernel_rfl⟩, ⟨by kernel_rfl, by kernel_rfl⟩, ⟨by kernel_rfl, by kernel_rfl⟩, ⟨by kernel_rfl, by kernel_rfl⟩, ⟨by kernel_rfl, by kernel_rfl⟩, ⟨by kernel_rfl, by kernel_rfl⟩, ⟨by kernel_rfl, by kernel_rfl⟩, ⟨by kernel_rfl, by kernel_rfl⟩, ⟨by kernel_rfl, by kernel_rfl⟩, ⟨by kernel_rfl, by kernel_rfl⟩, ⟨by kernel_rfl, by kernel_rfl⟩, ⟨by kernel_rfl, by kernel_rfl⟩, ⟨by kernel_rfl, by kernel_rfl⟩, ⟨by kernel_rfl, by kernel_rfl⟩, ⟨by kernel_rfl, by kernel_rfl⟩, ⟨by kernel_rfl, by kernel_rfl⟩, ⟨by kernel_rfl, by kernel_rfl⟩, ⟨by kernel_rfl, by kernel_rfl⟩, ⟨by kernel_rfl, by kernel_rfl⟩, ⟨by kernel_rfl, by kernel_rfl⟩, ⟨by kernel_rfl, by kernel_rfl⟩, ⟨by kernel_rfl, by kernel_rfl⟩, ⟨by kernel_rfl, by kernel_rfl⟩, ⟨by kernel_rfl, by kernel_rfl⟩, ⟨by kernel_rfl, by kernel_rfl⟩, ⟨by kernel_rfl, by kernel_rfl⟩, ⟨by kernel_rfl, by kernel_rfl⟩, ⟨by kernel_rfl, by kernel_rfl⟩, ⟨by kernel_rfl, by kernel_rfl⟩, ⟨by kernel_rfl, by kernel_rfl⟩, ⟨by kernel_rfl, by kernel_rfl⟩, ⟨by kernel_rfl, by kernel_rfl⟩, ⟨by kernel_rfl, by kernel_rfl⟩, ⟨by kernel_rfl, by kernel_rfl⟩, ⟨by kernel_rfl, by kernel_rfl⟩, ⟨by kernel_rfl, by kernel_rfl⟩, ⟨by kernel_rfl, by kernel_rfl⟩, trivial⟩
noncomputable def env : Env := ⟨Try.prog, tt, tik_ok ttOk⟩
theorem stood : Stood env.P env.tt := stood_of (show stk Try.prog tt from ⟨by kernel_rfl, by kernel_rfl, by kernel_rfl, by kernel_rfl, by kernel_rfl, by kernel_rfl, by kernel_rfl, by kernel_rfl, by kernel_rfl, by kernel_rfl, by kernel_rfl, by kernel_rfl, by kernel_rfl, by kernel_rfl, by kernel_rfl, by kernel_rfl, by kernel_rfl, by kernel_rfl, by kernel_rfl, by kernel_rfl, by kernel_rfl, by kernel_rfl, by kernel_rfl, by kernel_rfl, by kernel_rfl, by kernel_rfl, by kernel_rfl, by kernel_rfl, by kernel_rfl, by kernel_rfl, by kernel_rfl, by kernel_rfl, by kernel_rfl, by kernel_rfl, by kernel_rfl, by kernel_rfl, by kernel_rfl, by kernel_rfl, by kernel_rfl, by kernel_rfl, by kernel_rfl, by kernel_rfl, trivial⟩)
def en_Vattr_Pair : En Vattr_Pair := ⟨2, fun y => [(.int .u8 y.f_Type), (.int .u8 y.Value)], fun _ => rfl, by decide, fun _ => rfl⟩
def en_Vorder_Op : En (Vorder_Op × SV × SV) := ⟨7, fun y => [(.int .i64 y.1.Kind), (.int .i64 y.1.Addr), (.int .u8 y.1.Code), (.bool y.1.Graph), (.int .u8 y.1.FA), (SV.val y.2.1), (SV.val y.2.2)], fun _ => rfl, by decide, fun _ => rfl⟩
abbrev D_Vorder_Op (X : HP) (y : Vorder_Op × SV × SV) : Prop := Rd X y.2.1 196 en_Vattr_Pair y.1.Pairs ∧ Rd X y.2.2 5 (enI .u8) y.1.Text
theorem D_Vorder_Op.ext {X X' : HP} (a : Ext X X') (y : Vorder_Op × SV × SV) (h : D_Vorder_Op X y) : D_Vorder_Op X' y := ⟨Rd.ext h.1 a, Rd.ext h.2 a⟩
def en_Ventry_Entry : En (Ventry_Entry × SV) := ⟨2, fun y => [(.int .i64 y.1.Addr), (SV.val y.2)], fun _ => rfl, by decide, fun _ => rfl⟩
abbrev D_Ventry_Entry (X : HP) (y : Ventry_Entry × SV) : Prop := Rd X y.2 5 (enI .u8) y.1.Text
theorem D_Ventry_Entry.ext {X X' : HP} (a : Ext X X') (y : Ventry_Entry × SV) (h : D_Ventry_Entry X y) : D_Ventry_Entry X' y := Rd.ext h a
def en_Vvitrineref20_Entry : En (Vvitrineref20_Entry × SV) := ⟨2, fun y => [(.int .i64 y.1.Addr), (SV.val y.2)], fun _ => rfl, by decide, fun _ => rfl⟩
abbrev D_Vvitrineref20_Entry (X : HP) (y : Vvitrineref20_Entry × SV) : Prop := Rd X y.2 5 (enI .u8) y.1.Text
theorem D_Vvitrineref20_Entry.ext {X X' : HP} (a : Ext X X') (y : Vvitrineref20_Entry × SV) (h : D_Vvitrineref20_Entry X y) : D_Vvitrineref20_Entry X' y := Rd.ext h a
def en_Vvitrineref12_Act : En (Vvitrineref12_Act × SV) := ⟨11, fun y => [(.int .u8 y.1.Do), (.int .i64 y.1.N), (.bool y.1.On), (.int .u8 y.1.Code), (.int .u8 y.1.C.Char), (.bool y.1.C.Attr), (.int .u8 y.1.C.FA), (.int .u8 y.1.C.High), (.int .u8 y.1.C.Color), (.int .u8 y.1.C.f_Set), (SV.val y.2)], fun _ => rfl, by decide, fun _ => rfl⟩
abbrev D_Vvitrineref12_Act (X : HP) (y : Vvitrineref12_Act × SV) : Prop := Rd X y.2 5 (enI .u8) y.1.Text
theorem D_Vvitrineref12_Act.ext {X X' : HP} (a : Ext X X') (y : Vvitrineref12_Act × SV) (h : D_Vvitrineref12_Act X y) : D_Vvitrineref12_Act X' y := Rd.ext h a
def en_Vapi_Cell : En Vapi_Cell := ⟨6, fun y => [(.int .u8 y.Char), (.bool y.Attr), (.int .u8 y.FA), (.int .u8 y.High), (.int .u8 y.Color), (.int .u8 y.f_Set)], fun _ => rfl, by decide, fun _ => rfl⟩
def en_Vvitrineref04_Size : En Vvitrineref04_Size := ⟨2, fun y => [(.int .i64 y.Rows), (.int .i64 y.Cols)], fun _ => rfl, by decide, fun _ => rfl⟩
def en_Vvitrineref05_Pair : En Vvitrineref05_Pair := ⟨2, fun y => [(.int .u8 y.f_Type), (.int .u8 y.Value)], fun _ => rfl, by decide, fun _ => rfl⟩
theorem has10 : HasBody env.P 10 := ⟨_, Try.func10, rfl, rfl⟩
theorem has11 : HasBody env.P 11 := ⟨_, Try.func11, rfl, rfl⟩
theorem has12 : HasBody env.P 12 := ⟨_, Try.func12, rfl, rfl⟩
theorem has13 : HasBody env.P 13 := ⟨_, Try.func13, rfl, rfl⟩
theorem has14 : HasBody env.P 14 := ⟨_, Try.func14, rfl, rfl⟩
theorem has15 : HasBody env.P 15 := ⟨_, Try.func15, rfl, rfl⟩
theorem has16 : HasBody env.P 16 := ⟨_, Try.func16, rfl, rfl⟩
theorem has17 : HasBody env.P 17 := ⟨_, Try.func17, rfl, rfl⟩
theorem has18 : HasBody env.P 18 := ⟨_, Try.func18, rfl, rfl⟩
theorem has19 : HasBody env.P 19 := ⟨_, Try.func19, rfl, rfl⟩
theorem has20 : HasBody env.P 20 := ⟨_, Try.func20, rfl, rfl⟩
theorem has42 : HasBody env.P 42 := ⟨_, Try.func42, rfl, rfl⟩
theorem has44 : HasBody env.P 44 := ⟨_, Try.func44, rfl, rfl⟩
theorem has45 : HasBody env.P 45 := ⟨_, Try.func45, rfl, rfl⟩
theorem has46 : HasBody env.P 46 := ⟨_, Try.func46, rfl, rfl⟩
theorem has47 : HasBody env.P 47 := ⟨_, Try.func47, rfl, rfl⟩
theorem has48 : HasBody env.P 48 := ⟨_, Try.func48, rfl, rfl⟩
theorem has49 : HasBody env.P 49 := ⟨_, Try.func49, rfl, rfl⟩
theorem has50 : HasBody env.P 50 := ⟨_, Try.func50, rfl, rfl⟩
theorem has51 : HasBody env.P 51 := ⟨_, Try.func51, rfl, rfl⟩
theorem has52 : HasBody env.P 52 := ⟨_, Try.func52, rfl, rfl⟩
theorem has53 : HasBody env.P 53 := ⟨_, Try.func53, rfl, rfl⟩
theorem has54 : HasBody env.P 54 := ⟨_, Try.func54, rfl, rfl⟩
theorem has55 : HasBody env.P 55 := ⟨_, Try.func55, rfl, rfl⟩
theorem has56 : HasBody env.P 56 := ⟨_, Try.func56, rfl, rfl⟩
theorem has57 : HasBody env.P 57 := ⟨_, Try.func57, rfl, rfl⟩
theorem has60 : HasBody env.P 60 := ⟨_, Try.func60, rfl, rfl⟩
theorem has62 : HasBody env.P 62 := ⟨_, Try.func62, rfl, rfl⟩
theorem has66 : HasBody env.P 66 := ⟨_, Try.func66, rfl, rfl⟩
theorem has67 : HasBody env.P 67 := ⟨_, Try.func67, rfl, rfl⟩
theorem has69 : HasBody env.P 69 := ⟨_, Try.func69, rfl, rfl⟩
theorem has70 : HasBody env.P 70 := ⟨_, Try.func70, rfl, rfl⟩
theorem has71 : HasBody env.P 71 := ⟨_, Try.func71, rfl, rfl⟩
theorem has74 : HasBody env.P 74 := ⟨_, Try.func74, rfl, rfl⟩
theorem has76 : HasBody env.P 76 := ⟨_, Try.func76, rfl, rfl⟩
theorem has78 : HasBody env.P 78 := ⟨_, Try.func78, rfl, rfl⟩
theorem has79 : HasBody env.P 79 := ⟨_, Try.func79, rfl, rfl⟩
theorem has80 : HasBody env.P 80 := ⟨_, Try.func80, rfl, rfl⟩
theorem has81 : HasBody env.P 81 := ⟨_, Try.func81, rfl, rfl⟩
theorem has82 : HasBody env.P 82 := ⟨_, Try.func82, rfl, rfl⟩
theorem has83 : HasBody env.P 83 := ⟨_, Try.func83, rfl, rfl⟩
theorem has84 : HasBody env.P 84 := ⟨_, Try.func84, rfl, rfl⟩
theorem has85 : HasBody env.P 85 := ⟨_, Try.func85, rfl, rfl⟩
theorem has86 : HasBody env.P 86 := ⟨_, Try.func86, rfl, rfl⟩
theorem has87 : HasBody env.P 87 := ⟨_, Try.func87, rfl, rfl⟩
theorem has88 : HasBody env.P 88 := ⟨_, Try.func88, rfl, rfl⟩
theorem has89 : HasBody env.P 89 := ⟨_, Try.func89, rfl, rfl⟩
theorem has90 : HasBody env.P 90 := ⟨_, Try.func90, rfl, rfl⟩
theorem has91 : HasBody env.P 91 := ⟨_, Try.func91, rfl, rfl⟩
theorem has92 : HasBody env.P 92 := ⟨_, Try.func92, rfl, rfl⟩
theorem has93 : HasBody env.P 93 := ⟨_, Try.func93, rfl, rfl⟩
theorem has94 : HasBody env.P 94 := ⟨_, Try.func94, rfl, rfl⟩
theorem has96 : HasBody env.P 96 := ⟨_, Try.func96, rfl, rfl⟩
theorem has99 : HasBody env.P 99 := ⟨_, Try.func99, rfl, rfl⟩
theorem has100 : HasBody env.P 100 := ⟨_, Try.func100, rfl, rfl⟩
theorem has103 : HasBody env.P 103 := ⟨_, Try.func103, rfl, rfl⟩
theorem has104 : HasBody env.P 104 := ⟨_, Try.func104, rfl, rfl⟩
theorem has105 : HasBody env.P 105 := ⟨_, Try.func105, rfl, rfl⟩
theorem has109 : HasBody env.P 109 := ⟨_, Try.func109, rfl, rfl⟩
theorem has110 : HasBody env.P 110 := ⟨_, Try.func110, rfl, rfl⟩
theorem has111 : HasBody env.P 111 := ⟨_, Try.func111, rfl, rfl⟩
theorem has112 : HasBody env.P 112 := ⟨_, Try.func112, rfl, rfl⟩
theorem has113 : HasBody env.P 113 := ⟨_, Try.func113, rfl, rfl⟩
theorem has114 : HasBody env.P 114 := ⟨_, Try.func114, rfl, rfl⟩
theorem has115 : HasBody env.P 115 := ⟨_, Try.func115, rfl, rfl⟩
theorem has128 : HasBody env.P 128 := ⟨_, Try.func128, rfl, rfl⟩
theorem has129 : HasBody env.P 129 := ⟨_, Try.func129, rfl, rfl⟩
theorem has133 : HasBody env.P 133 := ⟨_, Try.func133, rfl, rfl⟩
theorem has134 : HasBody env.P 134 := ⟨_, Try.func134, rfl, rfl⟩
theorem has135 : HasBody env.P 135 := ⟨_, Try.func135, rfl, rfl⟩
theorem has136 : HasBody env.P 136 := ⟨_, Try.func136, rfl, rfl⟩
theorem has144 : HasBody env.P 144 := ⟨_, Try.func144, rfl, rfl⟩
theorem has145 : HasBody env.P 145 := ⟨_, Try.func145, rfl, rfl⟩

theorem c_addr_zone {g : Gw} (X : HP) (p0 : Int) (r : Int × Int × Int × Int) (h : m_addr_zone p0 = some r) : Tri env g 115 (List.toArray [(.int .i64 p0)]) [X] (fun K R => K (.tuple (List.toArray [(.int .u8 r.1), (.int .u8 r.2.1), (.int .i64 r.2.2.1), (.int .i64 r.2.2.2)])) (X :: R)) := by
  refine tri_of (fn := Try.f115) (N := 14) Try.func115 rfl rfl rfl ?_
  intro R K hk
  unfold m_addr_zone at h
  change GC _ none _ [] [(0, (.int .i64 p0))] (X :: R) g _ _
  refine c_seq ?_
  refine c_region ?_
  refine o1 rfl (o_p rfl ?_)
  refine o1 rfl (o_p rfl ?_)
  refine o1 rfl (o_p rfl ?_)
  refine o1 rfl (o_p rfl ?_)
  refine o_end ?_
  refine e_seq ?_
  refine c_seq ?_
  refine c_seq ?_
  refine c_region ?_
  refine o1 rfl (o_p rfl ?_)
  refine o1 rfl (o_shr (m := p0) (n := 4) rfl rfl (by decide) ?_)
  refine o_end ?_
  refine e_seq ?_
  refine c_block ?_
  refine c_seq ?_
  refine c_region ?_
  refine o1 rfl (o_p (v := (.bool ((ishr .i64 p0 4) == 0))) rfl ?_)
  refine o1 rfl (o_p rfl ?_)
  refine o_end ?_
  refine e_seq ?_
  refine c_cond (b := ((ishr .i64 p0 4) == 0)) rfl (fun hb30 => ?_) (fun hb30 => ?_)
  · replace h := cond_t hb30 h
    refine c_seq ?_
    refine c_region ?_
    refine o1 rfl (o_p rfl ?_)
    refine o1 rfl (o_p rfl ?_)
    refine o1 rfl (o_p rfl ?_)
    refine o1 rfl (o_p rfl ?_)
    refine o_end ?_
    refine e_seq ?_
    refine c_ret ?_
    refine e_blk_ret ?_
    refine e_then_ret ?_
    refine e_ret ?_
    refine r_endt rfl rfl (kc rm0 kr) ?_
    have hr := Option.some.inj h
    subst hr
    exact hk
  · replace h := cond_f hb30 h
    refine c_seq ?_
    refine c_region ?_
    refine o1 rfl (o_p (v := (.bool ((ishr .i64 p0 4) == 1))) rfl ?_)
    refine o1 rfl (o_p rfl ?_)
    refine o_end ?_
    refine e_seq ?_
    refine c_cond (b := ((ishr .i64 p0 4) == 1)) rfl (fun hb31 => ?_) (fun hb31 => ?_)
    · replace h := cond_t hb31 h
      refine c_seq ?_
      refine c_region ?_
      refine o1 rfl (o_p rfl ?_)
      refine o1 rfl (o_p rfl ?_)
      refine o1 rfl (o_p rfl ?_)
      refine o1 rfl (o_p rfl ?_)
      refine o_end ?_
      refine e_seq ?_
      refine c_ret ?_
      refine e_blk_ret ?_
      refine e_then_ret ?_
      refine e_ret ?_
      refine r_endt rfl rfl (kc rm0 kr) ?_
      have hr := Option.some.inj h
      subst hr
      exact hk
    · replace h := cond_f hb31 h
      refine c_seq ?_
      refine c_region ?_
      refine o1 rfl (o_p (v := (.bool ((ishr .i64 p0 4) == 2))) rfl ?_)
      refine o1 rfl (o_p rfl ?_)
      refine o_end ?_
      refine e_seq ?_
      refine c_cond (b := ((ishr .i64 p0 4) == 2)) rfl (fun hb32 => ?_) (fun hb32 => ?_)
      · replace h := cond_t hb32 h
        refine c_seq ?_
        refine c_region ?_
        refine o1 rfl (o_p rfl ?_)
        refine o1 rfl (o_p rfl ?_)
        refine o1 rfl (o_p rfl ?_)
        refine o1 rfl (o_p rfl ?_)
        refine o_end ?_
        refine e_seq ?_
        refine c_ret ?_
        refine e_blk_ret ?_
        refine e_then_ret ?_
        refine e_ret ?_
        refine r_endt rfl rfl (kc rm0 kr) ?_
        have hr := Option.some.inj h
        subst hr
        exact hk
      · replace h := cond_f hb32 h
        refine c_skip ?_
        refine e_blk ?_
        refine e_seq ?_
        refine c_seq ?_
        refine c_region ?_
        refine o1 rfl (o_p rfl ?_)
        refine o1 rfl (o_p rfl ?_)
        refine o1 rfl (o_p rfl ?_)
        refine o1 rfl (o_p rfl ?_)
        refine o_end ?_
        refine e_seq ?_
        refine c_ret ?_
        refine e_ret ?_
        refine r_endt rfl rfl (kc rm0 kr) ?_
        have hr := Option.some.inj h
        subst hr
        exact hk

theorem c_addr_Six {g : Gw} (X : HP) (p0 : Int) (r : Int) (h : m_addr_Six p0 = some r) : Tri env g 94 (List.toArray [(.int .i64 p0)]) [X] (fun K R => K (.int .u8 r) (X :: R)) := by
  refine tri_of (fn := Try.f94) (N := 35) Try.func94 rfl rfl rfl ?_
  intro R K hk
  unfold m_addr_Six at h
  change GC _ none _ [] [(0, (.int .i64 p0))] (X :: R) g _ _
  refine c_seq ?_
  refine c_region ?_
  refine o1 rfl (o_p rfl ?_)
  refine o_end ?_
  refine e_seq ?_
  refine c_seq ?_
  refine c_region ?_
  refine o1 rfl (o_p rfl ?_)
  refine o1 rfl (o_p (v := (.int .i64 (iband .i64 p0 63))) rfl ?_)
  refine o1 rfl (o_p rfl ?_)
  refine o_end ?_
  refine e_seq ?_
  refine c_seq ?_
  refine c_region ?_
  refine o1 rfl (o_p rfl ?_)
  replace h := bsome h
  obtain ⟨d1, h1, h⟩ := h
  refine o1 rfl (o_call has115 rfl (c_addr_zone X (iband .i64 p0 63) _ h1) (pc rm0 pn) ?_)
  refine o1 rfl (o_p rfl ?_)
  refine o1 rfl (o_p rfl ?_)
  refine o1 rfl (o_p rfl ?_)
  refine o1 rfl (o_p rfl ?_)
  refine o1 rfl (o_p rfl ?_)
  refine o1 rfl (o_p rfl ?_)
  refine o1 rfl (o_p rfl ?_)
  refine o1 rfl (o_p rfl ?_)
  refine o1 rfl (o_p rfl ?_)
  refine o_end ?_
  refine e_seq ?_
  refine c_seq ?_
  refine c_region ?_
  refine o1 rfl (o_p rfl ?_)
  refine o1 rfl (o_p (v := (.int .i64 (iband .i64 (iband .i64 p0 63) 15))) rfl ?_)
  refine o1 rfl (o_p rfl ?_)
  refine o_end ?_
  refine e_seq ?_
  refine c_seq ?_
  refine c_seq ?_
  replace h := bsome h
  obtain ⟨d2, h, hk2⟩ := h
  refine cj (D := Unit) (ι := Unit) (fun _ i2 => True) (fun _ i2 => [(26, (.bool d2)), (7, (.int .i64 (iband .i64 (iband .i64 p0 63) 15))), (4, (.int .u8 d1.2.1)), (3, (.int .u8 d1.1))]) (fun _ i2 => X :: R) ?_ ?_
  · refine c_region ?_
    refine o1 rfl (o_p rfl ?_)
    refine o1 rfl (o_p rfl ?_)
    refine o1 rfl (o_p (v := (.bool (decide ((iband .i64 (iband .i64 p0 63) 15) ≥ d1.2.2.1)))) rfl ?_)
    refine o1 rfl (o_p rfl ?_)
    rcases bool_or ((decide ((iband .i64 (iband .i64 p0 63) 15) ≥ d1.2.2.1))) with hb33 | hb33
    · replace h := cond_t hb33 h
      refine oy rfl rfl rfl hb33 (o_p rfl ?_)
      refine oy rfl rfl rfl hb33 (o_p rfl ?_)
      refine oy rfl rfl rfl hb33 (o_p (v := (.bool (decide ((iband .i64 (iband .i64 p0 63) 15) ≤ d1.2.2.2)))) rfl ?_)
      refine o1 rfl (o_pick_t rfl hb33 rfl ?_)
      refine o_end ?_
      have hd := Option.some.inj h
      subst hd
      exact ej () () trivial (sc rfl (sc rfl (sc rfl (sc rfl sn)))) (kc rm0 kr)
    · replace h := cond_f hb33 h
      refine on rfl rfl rfl hb33 ?_
      refine on rfl rfl rfl hb33 ?_
      refine on rfl rfl rfl hb33 ?_
      refine o1 rfl (o_pick_f rfl hb33 rfl ?_)
      refine o_end ?_
      have hd := Option.some.inj h
      subst hd
      exact ej () () trivial (sc rfl (sc rfl (sc rfl (sc rfl sn)))) (kc rm0 kr)
  · rintro _ i2 _
    replace h := hk2
    clear hk2
    refine e_seq ?_
    refine c_cond (b := d2) rfl (fun hb34 => ?_) (fun hb34 => ?_)
    · replace h := cond_t hb34 h
      refine c_seq ?_
      refine c_region ?_
      refine o1 rfl (o_p rfl ?_)
      refine o1 rfl (o_p rfl ?_)
      refine o1 rfl (o_p (v := (.int .u8 (IntKind.wrap .u8 (iband .i64 (iband .i64 p0 63) 15)))) rfl ?_)
      refine o1 rfl (o_p (v := (.int .u8 (ibor .u8 d1.2.1 (IntKind.wrap .u8 (iband .i64 (iband .i64 p0 63) 15))))) rfl ?_)
      refine o1 rfl (o_p rfl ?_)
      refine o_end ?_
      refine e_seq ?_
      refine c_ret ?_
      refine e_then_ret ?_
      refine e_ret ?_
      refine r_endt rfl rfl (kc rm0 kr) ?_
      have hr := Option.some.inj h
      subst hr
      exact hk
    · replace h := cond_f hb34 h
      refine c_skip ?_
      refine e_seq ?_
      refine c_seq ?_
      refine c_region ?_
      refine o1 rfl (o_p rfl ?_)
      refine o1 rfl (o_p rfl ?_)
      refine o1 rfl (o_p (v := (.int .u8 (IntKind.wrap .u8 (iband .i64 (iband .i64 p0 63) 15)))) rfl ?_)
      refine o1 rfl (o_p (v := (.int .u8 (ibor .u8 d1.1 (IntKind.wrap .u8 (iband .i64 (iband .i64 p0 63) 15))))) rfl ?_)
      refine o1 rfl (o_p rfl ?_)
      refine o_end ?_
      refine e_seq ?_
      refine c_ret ?_
      refine e_ret ?_
      refine r_endt rfl rfl (kc rm0 kr) ?_
      have hr := Option.some.inj h
      subst hr
      exact hk

theorem c_order_Name {g : Gw} (X : HP) (p0 : Int) (r : ByteArray) (h : m_order_Name p0 = some r) : Tri env g 129 (List.toArray [(.int .i64 p0)]) [X] (fun K R => K (.string r) (X :: R)) := by
  refine tri_of (fn := Try.f129) (N := 26) Try.func129 rfl rfl rfl ?_
  intro R K hk
  unfold m_order_Name at h
  change GC _ none _ [] [(0, (.int .i64 p0))] (X :: R) g _ _
  refine c_seq ?_
  refine c_region ?_
  refine o1 rfl (o_p rfl ?_)
  refine o_end ?_
  refine e_seq ?_
  refine c_seq ?_
  refine c_seq ?_
  refine c_region ?_
  refine o1 rfl (o_p rfl ?_)
  refine o_end ?_
  refine e_seq ?_
  refine c_block ?_
  refine c_seq ?_
  refine c_region ?_
  refine o1 rfl (o_p (v := (.bool (p0 == 0))) rfl ?_)
  refine o1 rfl (o_p rfl ?_)
  refine o_end ?_
  refine e_seq ?_
  refine c_cond (b := (p0 == 0)) rfl (fun hb54 => ?_) (fun hb54 => ?_)
  · replace h := cond_t hb54 h
    refine c_seq ?_
    refine c_region ?_
    refine o1 rfl (o_p rfl ?_)
    refine o_end ?_
    refine e_seq ?_
    refine c_ret ?_
    refine e_blk_ret ?_
    refine e_then_ret ?_
    refine e_ret ?_
    refine r_endt rfl rfl (kc rm0 kr) ?_
    have hr := Option.some.inj h
    subst hr
    exact hk
  · replace h := cond_f hb54 h
    refine c_seq ?_
    refine c_region ?_
    refine o1 rfl (o_p (v := (.bool (p0 == 5))) rfl ?_)
    refine o1 rfl (o_p rfl ?_)
    refine o_end ?_
    refine e_seq ?_
    refine c_cond (b := (p0 == 5)) rfl (fun hb55 => ?_) (fun hb55 => ?_)
    · replace h := cond_t hb55 h
      refine c_seq ?_
      refine c_region ?_
      refine o1 rfl (o_p rfl ?_)
      refine o_end ?_
      refine e_seq ?_
      refine c_ret ?_
      refine e_blk_ret ?_
      refine e_then_ret ?_
      refine e_ret ?_
      refine r_endt rfl rfl (kc rm0 kr) ?_
      have hr := Option.some.inj h
      subst hr
      exact hk
    · replace h := cond_f hb55 h
      refine c_seq ?_
      refine c_region ?_
      refine o1 rfl (o_p (v := (.bool (p0 == 8))) rfl ?_)
      refine o1 rfl (o_p rfl ?_)
      refine o_end ?_
      refine e_seq ?_
      refine c_cond (b := (p0 == 8)) rfl (fun hb56 => ?_) (fun hb56 => ?_)
      · replace h := cond_t hb56 h
        refine c_seq ?_
        refine c_region ?_
        refine o1 rfl (o_p rfl ?_)
        refine o_end ?_
        refine e_seq ?_
        refine c_ret ?_
        refine e_blk_ret ?_
        refine e_then_ret ?_
        refine e_ret ?_
        refine r_endt rfl rfl (kc rm0 kr) ?_
        have hr := Option.some.inj h
        subst hr
        exact hk
      · replace h := cond_f hb56 h
        refine c_seq ?_
        refine c_region ?_
        refine o1 rfl (o_p (v := (.bool (p0 == 17))) rfl ?_)
        refine o1 rfl (o_p rfl ?_)
        refine o_end ?_
        refine e_seq ?_
        refine c_cond (b := (p0 == 17)) rfl (fun hb57 => ?_) (fun hb57 => ?_)
        · replace h := cond_t hb57 h
          refine c_seq ?_
          refine c_region ?_
          refine o1 rfl (o_p rfl ?_)
          refine o_end ?_
          refine e_seq ?_
          refine c_ret ?_
          refine e_blk_ret ?_
          refine e_then_ret ?_
          refine e_ret ?_
          refine r_endt rfl rfl (kc rm0 kr) ?_
          have hr := Option.some.inj h
          subst hr
          exact hk
        · replace h := cond_f hb57 h
          refine c_seq ?_
          refine c_region ?_
          refine o1 rfl (o_p (v := (.bool (p0 == 18))) rfl ?_)
          refine o1 rfl (o_p rfl ?_)
          refine o_end ?_
          refine e_seq ?_
          refine c_cond (b := (p0 == 18)) rfl (fun hb58 => ?_) (fun hb58 => ?_)
          · replace h := cond_t hb58 h
            refine c_seq ?_
            refine c_region ?_
            refine o1 rfl (o_p rfl ?_)
            refine o_end ?_
            refine e_seq ?_
            refine c_ret ?_
            refine e_blk_ret ?_
            refine e_then_ret ?_
            refine e_ret ?_
            refine r_endt rfl rfl (kc rm0 kr) ?_
            have hr := Option.some.inj h
            subst hr
            exact hk
          · replace h := cond_f hb58 h
            refine c_seq ?_
            refine c_region ?_
            refine o1 rfl (o_p (v := (.bool (p0 == 19))) rfl ?_)
            refine o1 rfl (o_p rfl ?_)
            refine o_end ?_
            refine e_seq ?_
            refine c_cond (b := (p0 == 19)) rfl (fun hb59 => ?_) (fun hb59 => ?_)
            · replace h := cond_t hb59 h
              refine c_seq ?_
              refine c_region ?_
              refine o1 rfl (o_p rfl ?_)
              refine o_end ?_
              refine e_seq ?_
              refine c_ret ?_
              refine e_blk_ret ?_
              refine e_then_ret ?_
              refine e_ret ?_
              refine r_endt rfl rfl (kc rm0 kr) ?_
              have hr := Option.some.inj h
              subst hr
              exact hk
            · replace h := cond_f hb59 h
              refine c_seq ?_
              refine c_region ?_
              refine o1 rfl (o_p (v := (.bool (p0 == 29))) rfl ?_)
              refine o1 rfl (o_p rfl ?_)
              refine o_end ?_
              refine e_seq ?_
              refine c_cond (b := (p0 == 29)) rfl (fun hb60 => ?_) (fun hb60 => ?_)
              · replace h := cond_t hb60 h
                refine c_seq ?_
                refine c_region ?_
                refine o1 rfl (o_p rfl ?_)
                refine o_end ?_
                refine e_seq ?_
                refine c_ret ?_
                refine e_blk_ret ?_
                refine e_then_ret ?_
                refine e_ret ?_
                refine r_endt rfl rfl (kc rm0 kr) ?_
                have hr := Option.some.inj h
                subst hr
                exact hk
              · replace h := cond_f hb60 h
                refine c_seq ?_
                refine c_region ?_
                refine o1 rfl (o_p (v := (.bool (p0 == 40))) rfl ?_)
                refine o1 rfl (o_p rfl ?_)
                refine o_end ?_
                refine e_seq ?_
                refine c_cond (b := (p0 == 40)) rfl (fun hb61 => ?_) (fun hb61 => ?_)
                · replace h := cond_t hb61 h
                  refine c_seq ?_
                  refine c_region ?_
                  refine o1 rfl (o_p rfl ?_)
                  refine o_end ?_
                  refine e_seq ?_
                  refine c_ret ?_
                  refine e_blk_ret ?_
                  refine e_then_ret ?_
                  refine e_ret ?_
                  refine r_endt rfl rfl (kc rm0 kr) ?_
                  have hr := Option.some.inj h
                  subst hr
                  exact hk
                · replace h := cond_f hb61 h
                  refine c_seq ?_
                  refine c_region ?_
                  refine o1 rfl (o_p (v := (.bool (p0 == 41))) rfl ?_)
                  refine o1 rfl (o_p rfl ?_)
                  refine o_end ?_
                  refine e_seq ?_
                  refine c_cond (b := (p0 == 41)) rfl (fun hb62 => ?_) (fun hb62 => ?_)
                  · replace h := cond_t hb62 h
                    refine c_seq ?_
                    refine c_region ?_
                    refine o1 rfl (o_p rfl ?_)
                    refine o_end ?_
                    refine e_seq ?_
                    refine c_ret ?_
                    refine e_blk_ret ?_
                    refine e_then_ret ?_
                    refine e_ret ?_
                    refine r_endt rfl rfl (kc rm0 kr) ?_
                    have hr := Option.some.inj h
                    subst hr
                    exact hk
                  · replace h := cond_f hb62 h
                    refine c_seq ?_
                    refine c_region ?_
                    refine o1 rfl (o_p (v := (.bool (p0 == 44))) rfl ?_)
                    refine o1 rfl (o_p rfl ?_)
                    refine o_end ?_
                    refine e_seq ?_
                    refine c_cond (b := (p0 == 44)) rfl (fun hb63 => ?_) (fun hb63 => ?_)
                    · replace h := cond_t hb63 h
                      refine c_seq ?_
                      refine c_region ?_
                      refine o1 rfl (o_p rfl ?_)
                      refine o_end ?_
                      refine e_seq ?_
                      refine c_ret ?_
                      refine e_blk_ret ?_
                      refine e_then_ret ?_
                      refine e_ret ?_
                      refine r_endt rfl rfl (kc rm0 kr) ?_
                      have hr := Option.some.inj h
                      subst hr
                      exact hk
                    · replace h := cond_f hb63 h
                      refine c_seq ?_
                      refine c_region ?_
                      refine o1 rfl (o_p (v := (.bool (p0 == 60))) rfl ?_)
                      refine o1 rfl (o_p rfl ?_)
                      refine o_end ?_
                      refine e_seq ?_
                      refine c_cond (b := (p0 == 60)) rfl (fun hb64 => ?_) (fun hb64 => ?_)
                      · replace h := cond_t hb64 h
                        refine c_seq ?_
                        refine c_region ?_
                        refine o1 rfl (o_p rfl ?_)
                        refine o_end ?_
                        refine e_seq ?_
                        refine c_ret ?_
                        refine e_blk_ret ?_
                        refine e_then_ret ?_
                        refine e_ret ?_
                        refine r_endt rfl rfl (kc rm0 kr) ?_
                        have hr := Option.some.inj h
                        subst hr
                        exact hk
                      · replace h := cond_f hb64 h
                        refine c_skip ?_
                        refine e_blk ?_
                        refine e_seq ?_
                        refine c_seq ?_
                        refine c_region ?_
                        refine o1 rfl (o_p rfl ?_)
                        refine o_end ?_
                        refine e_seq ?_
                        refine c_ret ?_
                        refine e_ret ?_
                        refine r_endt rfl rfl (kc rm0 kr) ?_
                        have hr := Option.some.inj h
                        subst hr
                        exact hk

theorem c_order_Is {g : Gw} (X : HP) (p0 : Int) (r : Bool) (h : m_order_Is p0 = some r) : Tri env g 104 (List.toArray [(.int .u8 p0)]) [X] (fun K R => K (.bool r) (X :: R)) := by
  refine tri_of (fn := Try.f104) (N := 11) Try.func104 rfl rfl rfl ?_
  intro R K hk
  unfold m_order_Is at h
  change GC _ none _ [] [(0, (.int .u8 p0))] (X :: R) g _ _
  refine c_seq ?_
  refine c_region ?_
  refine o1 rfl (o_p rfl ?_)
  refine o_end ?_
  refine e_seq ?_
  refine c_seq ?_
  replace h := bsome h
  obtain ⟨d1, h, hk1⟩ := h
  refine cj (D := Unit) (ι := Unit) (fun _ i1 => True) (fun _ i1 => [(2, (.bool d1))]) (fun _ i1 => X :: R) ?_ ?_
  · refine c_region ?_
    refine o1 rfl (o_p rfl ?_)
    refine o1 rfl (o_p (v := (.bool (p0 != 0))) rfl ?_)
    refine o1 rfl (o_p rfl ?_)
    rcases bool_or ((p0 != 0)) with hb53 | hb53
    · replace h := cond_t hb53 h
      refine oy rfl rfl rfl hb53 (o_p rfl ?_)
      refine oy rfl rfl rfl hb53 (o_p (v := (.int .i64 (w64 (p0)))) rfl ?_)
      replace h := bsome h
      obtain ⟨d2, h2, h⟩ := h
      refine oy rfl rfl rfl hb53 (o_call has129 rfl (c_order_Name X (w64 (p0)) _ h2) (pc rm0 pn) ?_)
      refine oy rfl rfl rfl hb53 (o_p (v := (.bool (!(d2.data.toList == (ByteArray.mk (List.toArray [])).data.toList)))) rfl ?_)
      refine o1 rfl (o_pick_t rfl hb53 rfl ?_)
      refine o1 rfl (o_p rfl ?_)
      refine o_end ?_
      have hd := Option.some.inj h
      subst hd
      exact ej () () trivial (sc rfl sn) (kc rm0 kr)
    · replace h := cond_f hb53 h
      refine on rfl rfl rfl hb53 ?_
      refine on rfl rfl rfl hb53 ?_
      refine on rfl rfl rfl hb53 ?_
      refine on rfl rfl rfl hb53 ?_
      refine o1 rfl (o_pick_f rfl hb53 rfl ?_)
      refine o1 rfl (o_p rfl ?_)
      refine o_end ?_
      have hd := Option.some.inj h
      subst hd
      exact ej () () trivial (sc rfl sn) (kc rm0 kr)
  · rintro _ i1 _
    replace h := hk1
    clear hk1
    refine e_seq ?_
    refine c_ret ?_
    refine e_ret ?_
    refine r_endt rfl rfl (kc rm0 kr) ?_
    have hr := Option.some.inj h
    subst hr
    exact hk

theorem c_addr_Encode {g : Gw} (X : HP) (p0 : Int) (p1 : Int) (r : (List Int) × Int) (h : m_addr_Encode p0 p1 = some r) : Tri env g 60 (List.toArray [(.int .i64 p0), (.int .i64 p1)]) [X] (fun K R => ∀ (i0 : SV), K (.tuple (List.toArray [(SV.val i0), (.int .i64 r.2)])) (X :: slO i0 5 (enI .u8) r.1 :: R)) := by
  refine tri_of (fn := Try.f60) (N := 41) Try.func60 rfl rfl rfl ?_
  intro R K hk
  unfold m_addr_Encode at h
  change GC _ none _ [] [(0, (.int .i64 p0)), (1, (.int .i64 p1))] (X :: R) g _ _
  refine c_seq ?_
  refine c_region ?_
  refine o1 rfl (o_p rfl ?_)
  refine o1 rfl (o_p rfl ?_)
  refine o_end ?_
  refine e_seq ?_
  refine c_seq ?_
  refine c_block ?_
  refine c_seq ?_
  replace h := bsome h
  obtain ⟨d2, h, hk2⟩ := h
  refine cj (D := Unit) (ι := Unit) (fun _ i2 => True) (fun _ i2 => [(6, (.bool d2)), (0, (.int .i64 p0)), (1, (.int .i64 p1))]) (fun _ i2 => X :: R) ?_ ?_
  · refine c_region ?_
    refine o1 rfl (o_p rfl ?_)
    refine o1 rfl (o_p (v := (.bool (p0 != 12))) rfl ?_)
    refine o1 rfl (o_p rfl ?_)
    rcases bool_or ((p0 != 12)) with hb411 | hb411
    · replace h := cond_t hb411 h
      refine oy rfl rfl rfl hb411 (o_p rfl ?_)
      refine oy rfl rfl rfl hb411 (o_p (v := (.bool (p0 != 14))) rfl ?_)
      refine o1 rfl (o_pick_t rfl hb411 rfl ?_)
      refine o1 rfl (o_p rfl ?_)
      rcases bool_or ((p0 != 14)) with hb412 | hb412
      · replace h := cond_t hb412 h
        refine oy rfl rfl rfl hb412 (o_p rfl ?_)
        refine oy rfl rfl rfl hb412 (o_p (v := (.bool (p0 != 16))) rfl ?_)
        refine o1 rfl (o_pick_t rfl hb412 rfl ?_)
        refine o1 rfl (o_p rfl ?_)
        refine o_end ?_
        have hd := Option.some.inj h
        subst hd
        exact ej () () trivial (sc rfl (sc rfl (sc rfl sn))) (kc rm0 kr)
      · replace h := cond_f hb412 h
        refine on rfl rfl rfl hb412 ?_
        refine on rfl rfl rfl hb412 ?_
        refine o1 rfl (o_pick_f rfl hb412 rfl ?_)
        refine o1 rfl (o_p rfl ?_)
        refine o_end ?_
        have hd := Option.some.inj h
        subst hd
        exact ej () () trivial (sc rfl (sc rfl (sc rfl sn))) (kc rm0 kr)
    · replace h := cond_f hb411 h
      refine on rfl rfl rfl hb411 ?_
      refine on rfl rfl rfl hb411 ?_
      refine o1 rfl (o_pick_f rfl hb411 rfl ?_)
      refine o1 rfl (o_p rfl ?_)
      refine on rfl rfl rfl rfl ?_
      refine on rfl rfl rfl rfl ?_
      refine o1 rfl (o_pick_f rfl rfl rfl ?_)
      refine o1 rfl (o_p rfl ?_)
      refine o_end ?_
      have hd := Option.some.inj h
      subst hd
      exact ej () () trivial (sc rfl (sc rfl (sc rfl sn))) (kc rm0 kr)
  · rintro _ i2 _
    replace h := hk2
    clear hk2
    refine e_seq ?_
    refine c_cond (b := d2) rfl (fun hb413 => ?_) (fun hb413 => ?_)
    · replace h := cond_t hb413 h
      refine c_seq ?_
      refine c_region ?_
      refine o1 rfl (o_p rfl ?_)
      refine o1 rfl (o_p rfl ?_)
      refine o_end ?_
      refine e_seq ?_
      refine c_ret ?_
      refine e_blk_ret ?_
      refine e_then_ret ?_
      refine e_ret ?_
      refine r_add (slO SV.nil 5 (enI .u8) []) (slO_nil _ _ _) ?_
      refine r_endt rfl rfl (kc rm1 (kc rm0 kr)) ?_
      have hr := Option.some.inj h
      subst hr
      exact hk SV.nil
    · replace h := cond_f hb413 h
      refine c_seq ?_
      replace h := bsome h
      obtain ⟨d4, h, hk4⟩ := h
      refine cj (D := Unit) (ι := Unit) (fun _ i4 => True) (fun _ i4 => [(17, (.bool d4)), (0, (.int .i64 p0)), (1, (.int .i64 p1))]) (fun _ i4 => X :: R) ?_ ?_
      · refine c_region ?_
        refine o1 rfl (o_p rfl ?_)
        refine o1 rfl (o_p (v := (.bool (decide (p1 < 0)))) rfl ?_)
        refine o1 rfl (o_p rfl ?_)
        rcases bool_or ((decide (p1 < 0))) with hb414 | hb414
        · replace h := cond_t hb414 h
          refine on rfl rfl rfl hb414 ?_
          refine on rfl rfl rfl hb414 ?_
          refine on rfl rfl rfl hb414 ?_
          refine on rfl rfl rfl hb414 ?_
          refine o1 rfl (o_pick_t rfl hb414 rfl ?_)
          refine o1 rfl (o_p rfl ?_)
          refine o_end ?_
          have hd := Option.some.inj h
          subst hd
          exact ej () () trivial (sc rfl (sc rfl (sc rfl sn))) (kc rm0 kr)
        · replace h := cond_f hb414 h
          refine oy rfl rfl rfl hb414 (o_p rfl ?_)
          refine oy rfl rfl rfl hb414 (o_p rfl ?_)
          replace h := gsome h
          obtain ⟨hg415, h⟩ := h
          refine oy rfl rfl rfl hb414 (o_shl (m := 1) (n := p0) rfl rfl hg415 ?_)
          refine oy rfl rfl rfl hb414 (o_p (v := (.bool (decide (p1 ≥ (ishl .i64 1 p0))))) rfl ?_)
          refine o1 rfl (o_pick_f rfl hb414 rfl ?_)
          refine o1 rfl (o_p rfl ?_)
          refine o_end ?_
          have hd := Option.some.inj h
          subst hd
          exact ej () () trivial (sc rfl (sc rfl (sc rfl sn))) (kc rm0 kr)
      · rintro _ i4 _
        replace h := hk4
        clear hk4
        refine e_seq ?_
        refine c_cond (b := d4) rfl (fun hb416 => ?_) (fun hb416 => ?_)
        · replace h := cond_t hb416 h
          refine c_seq ?_
          refine c_region ?_
          refine o1 rfl (o_p rfl ?_)
          refine o1 rfl (o_p rfl ?_)
          refine o_end ?_
          refine e_seq ?_
          refine c_ret ?_
          refine e_blk_ret ?_
          refine e_then_ret ?_
          refine e_ret ?_
          refine r_add (slO SV.nil 5 (enI .u8) []) (slO_nil _ _ _) ?_
          refine r_endt rfl rfl (kc rm1 (kc rm0 kr)) ?_
          have hr := Option.some.inj h
          subst hr
          exact hk SV.nil
        · replace h := cond_f hb416 h
          refine c_seq ?_
          refine c_region ?_
          refine o1 rfl (o_p rfl ?_)
          refine o1 rfl (o_p (v := (.bool (p0 == 12))) rfl ?_)
          refine o1 rfl (o_p rfl ?_)
          refine o_end ?_
          refine e_seq ?_
          refine c_cond (b := (p0 == 12)) rfl (fun hb417 => ?_) (fun hb417 => ?_)
          · replace h := cond_t hb417 h
            refine c_seq ?_
            refine c_region ?_
            refine o1 rfl (o_p rfl ?_)
            refine o1 rfl (o_shr (m := p1) (n := 6) rfl rfl (by decide) ?_)
            replace h := bsome h
            obtain ⟨d5, h5, h⟩ := h
            refine o1 rfl (o_call has94 rfl (c_addr_Six X (ishr .i64 p1 6) _ h5) (pc rm0 pn) ?_)
            refine o1 rfl (o_p rfl ?_)
            replace h := bsome h
            obtain ⟨d6, h6, h⟩ := h
            refine o1 rfl (o_call has94 rfl (c_addr_Six X p1 _ h6) (pc rm0 pn) ?_)
            refine o1 rfl (o_bs (e := (enI .u8)) (l := [d5, d6]) (zs := [(.int .u8 0)]) rfl rfl rfl rfl rfl rfl rfl rfl rfl rfl (fun s418 => ?_))
            refine o1 rfl (o_p rfl ?_)
            refine o1 rfl (o_p rfl ?_)
            refine o_end ?_
            refine e_seq ?_
            refine c_ret ?_
            refine e_blk_ret ?_
            refine e_then_ret ?_
            refine e_ret ?_
            refine r_endt rfl rfl (kc rm1 (kc rm0 kr)) ?_
            have hr := Option.some.inj h
            subst hr
            exact hk s418
          · replace h := cond_f hb417 h
            refine c_skip ?_
            refine e_blk ?_
            refine e_seq ?_
            refine c_seq ?_
            refine c_region ?_
            refine o1 rfl (o_p rfl ?_)
            refine o1 rfl (o_shr (m := p1) (n := 8) rfl rfl (by decide) ?_)
            refine o1 rfl (o_p (v := (.int .u8 (IntKind.wrap .u8 (ishr .i64 p1 8)))) rfl ?_)
            refine o1 rfl (o_p rfl ?_)
            refine o1 rfl (o_p (v := (.int .u8 (IntKind.wrap .u8 (p1)))) rfl ?_)
            refine o1 rfl (o_bs (e := (enI .u8)) (l := [IntKind.wrap .u8 (ishr .i64 p1 8), IntKind.wrap .u8 (p1)]) (zs := [(.int .u8 0)]) rfl rfl rfl rfl rfl rfl rfl rfl rfl rfl (fun s420 => ?_))
            refine o1 rfl (o_p rfl ?_)
            refine o1 rfl (o_p rfl ?_)
            refine o_end ?_
            refine e_seq ?_
            refine c_ret ?_
            refine e_ret ?_
            refine r_endt rfl rfl (kc rm1 (kc rm0 kr)) ?_
            have hr := Option.some.inj h
            subst hr
            exact hk s420

theorem c_vitrineref01_Same {g : Gw} (X : HP) (p0 : List Int) (s0 : SV) (q0 : Rd X s0 5 (enI .u8) p0) (p1 : List Int) (s1 : SV) (q1 : Rd X s1 5 (enI .u8) p1) (r : Bool) (h : m_vitrineref01_Same p0 p1 = some r) : Tri env g 20 (List.toArray [(SV.val s0), (SV.val s1)]) [X] (fun K R => K (.bool r) (X :: R)) := by
  refine tri_of (fn := Try.f20) (N := 10) Try.func20 rfl rfl rfl ?_
  intro R K hk
  unfold m_vitrineref01_Same at h
  change GC _ none _ [] [(0, (SV.val s0)), (1, (SV.val s1))] (X :: R) g _ _
  refine c_seq ?_
  refine c_region ?_
  refine o1 rfl (o_p rfl ?_)
  refine o_end ?_
  refine e_seq ?_
  refine c_seq ?_
  refine c_region ?_
  refine o1 rfl (o_p rfl ?_)
  refine o1 rfl (o_b2s (s := s0) rfl rfl rfl rfl rfl rfl rfl rm0 q0 ?_)
  refine o1 rfl (o_p rfl ?_)
  refine o1 rfl (o_b2s (s := s1) rfl rfl rfl rfl rfl rfl rfl rm0 q1 ?_)
  refine o1 rfl (o_p (v := (.bool ((bstr p0).data.toList == (bstr p1).data.toList))) rfl ?_)
  refine o1 rfl (o_p rfl ?_)
  refine o_end ?_
  refine e_seq ?_
  refine c_ret ?_
  refine e_ret ?_
  refine r_endt rfl rfl (kc rm0 kr) ?_
  have hr := Option.some.inj h
  subst hr
  exact hk

theorem c_vitrineref04_Mod {g : Gw} (X : HP) (p0 : Int) (p1 : Int) (r : Int) (h : m_vitrineref04_Mod p0 p1 = some r) : Tri env g 56 (List.toArray [(.int .i64 p0), (.int .i64 p1)]) [X] (fun K R => K (.int .i64 r) (X :: R)) := by
  refine tri_of (fn := Try.f56) (N := 14) Try.func56 rfl rfl rfl ?_
  intro R K hk
  unfold m_vitrineref04_Mod at h
  change GC _ none _ [] [(0, (.int .i64 p0)), (1, (.int .i64 p1))] (X :: R) g _ _
  refine c_seq ?_
  refine c_region ?_
  refine o1 rfl (o_p rfl ?_)
  refine o_end ?_
  refine e_seq ?_
  refine c_seq ?_
  refine c_seq ?_
  refine c_region ?_
  refine o1 rfl (o_p rfl ?_)
  refine o1 rfl (o_p (v := (.bool (decide (p1 < 1)))) rfl ?_)
  refine o_end ?_
  refine e_seq ?_
  refine c_cond (b := (decide (p1 < 1))) rfl (fun hb975 => ?_) (fun hb975 => ?_)
  · replace h := cond_t hb975 h
    refine c_seq ?_
    refine c_region ?_
    refine o1 rfl (o_p rfl ?_)
    refine o_end ?_
    refine e_seq ?_
    refine c_ret ?_
    refine e_then_ret ?_
    refine e_ret ?_
    refine r_endt rfl rfl (kc rm0 kr) ?_
    have hr := Option.some.inj h
    subst hr
    exact hk
  · replace h := cond_f hb975 h
    refine c_skip ?_
    refine e_seq ?_
    refine c_seq ?_
    refine c_region ?_
    refine o1 rfl (o_p rfl ?_)
    refine o1 rfl (o_p rfl ?_)
    replace h := gsome h
    obtain ⟨hg976, h⟩ := h
    refine o1 rfl (o_rem (m := p0) (n := p1) rfl rfl hg976 ?_)
    refine o1 rfl (o_p rfl ?_)
    refine o1 rfl (o_p (v := (.int .i64 (w64 ((Int.tmod p0 p1) + p1)))) rfl ?_)
    refine o1 rfl (o_p rfl ?_)
    replace h := gsome h
    obtain ⟨hg977, h⟩ := h
    refine o1 rfl (o_rem (m := w64 ((Int.tmod p0 p1) + p1)) (n := p1) rfl rfl hg977 ?_)
    refine o1 rfl (o_p rfl ?_)
    refine o_end ?_
    refine e_seq ?_
    refine c_ret ?_
    refine e_ret ?_
    refine r_endt rfl rfl (kc rm0 kr) ?_
    have hr := Option.some.inj h
    subst hr
    exact hk

theorem c_vitrineref01_Num {g : Gw} (X : HP) (p0 : ByteArray) (r : Int) (h : m_vitrineref01_Num p0 = some r) : Tri env g 74 (List.toArray [(.string p0)]) [X] (fun K R => K (.int .i64 r) (X :: R)) := by
  refine tri_of (fn := Try.f74) (N := 32) Try.func74 rfl rfl rfl ?_
  intro R K hk
  unfold m_vitrineref01_Num at h
  change GC _ none _ [] [(0, (.string p0))] (X :: R) g _ _
  refine c_seq ?_
  refine c_region ?_
  refine o1 rfl (o_p rfl ?_)
  refine o_end ?_
  refine e_seq ?_
  refine c_seq ?_
  refine c_region ?_
  refine o1 rfl (o_p rfl ?_)
  refine o_end ?_
  refine e_seq ?_
  refine c_seq ?_
  refine c_seq ?_
  refine c_region ?_
  refine o1 rfl (o_p rfl ?_)
  refine o_end ?_
  refine e_seq ?_
  replace h := bsome h
  obtain ⟨d1, h, hk1⟩ := h
  refine cj (D := Unit) (ι := Unit) (fun _ i1 => True) (fun _ i1 => [(3, (.int .i64 d1))]) (fun _ i1 => X :: R) ?_ ?_
  · refine c_block ?_
    refine c_loop (l_sub (sc rfl (sc rfl (sc rfl sn))) (l_keep (kc rm0 kr) (lf (X := Int × Int) (ι := Unit) (fun k x => vitrineref01_Num_l2 p0 k x) _ (fun x2 i2 => True) (fun x2 i2 => [(4, (.int .i64 x2.1)), (3, (.int .i64 x2.2)), (0, (.string p0))]) (fun x2 i2 => X :: R) (fun _ => rfl) ?_ fuel (0, 0) () trivial h)))
    clear h
    rintro k2 ih2 x2 i2 _ h
    rw [vitrineref01_Num_l2.eq_2] at h
    refine l_round ?_
    refine c_seq ?_
    refine c_seq ?_
    refine c_region ?_
    refine o1 rfl (o_p rfl ?_)
    refine o1 rfl (o_p rfl ?_)
    refine o1 rfl (o_lens (s := p0) rfl rfl rfl ?_)
    refine o1 rfl (o_p (v := (.bool (decide (x2.1 < (p0.size : Int))))) rfl ?_)
    refine o_end ?_
    refine e_seq ?_
    refine c_cond (b := (decide (x2.1 < (p0.size : Int)))) rfl (fun hb989 => ?_) (fun hb989 => ?_)
    · replace h := cond_t hb989 h
      refine c_skip ?_
      refine e_seq ?_
      refine c_seq ?_
      refine c_block ?_
      refine c_seq ?_
      refine c_region ?_
      refine o1 rfl (o_p rfl ?_)
      refine o1 rfl (o_p rfl ?_)
      replace h := gsome h
      obtain ⟨hg990, h⟩ := h
      refine o1 rfl (o_sidx (s := p0) (n := x2.1) rfl rfl rfl rfl hg990 ?_)
      refine o1 rfl (o_p (v := (.int .u8 (IntKind.wrap .u8 ((sbyte p0 x2.1) - 48)))) rfl ?_)
      refine o1 rfl (o_p (v := (.int .i64 (w64 (IntKind.wrap .u8 ((sbyte p0 x2.1) - 48))))) rfl ?_)
      refine o1 rfl (o_p rfl ?_)
      refine o_end ?_
      refine e_seq ?_
      refine c_seq ?_
      refine c_seq ?_
      refine c_region ?_
      refine o1 rfl (o_p rfl ?_)
      refine o1 rfl (o_p rfl ?_)
      replace h := gsome h
      obtain ⟨hg991, h⟩ := h
      refine o1 rfl (o_sidx (s := p0) (n := x2.1) rfl rfl rfl rfl hg991 ?_)
      refine o1 rfl (o_p (v := (.bool (decide ((sbyte p0 x2.1) ≥ 97)))) rfl ?_)
      refine o_end ?_
      refine e_seq ?_
      replace h := bsome h
      obtain ⟨d5, h, hk5⟩ := h
      refine cj (D := Unit) (ι := Unit) (fun _ i5 => True) (fun _ i5 => [(5, (.int .i64 d5)), (4, (.int .i64 x2.1)), (3, (.int .i64 x2.2)), (0, (.string p0))]) (fun _ i5 => X :: R) ?_ ?_
      · refine c_cond (b := (decide ((sbyte p0 x2.1) ≥ 97))) rfl (fun hb992 => ?_) (fun hb992 => ?_)
        · replace h := cond_t hb992 h
          refine c_region ?_
          refine o1 rfl (o_p rfl ?_)
          refine o1 rfl (o_p rfl ?_)
          replace h := gsome h
          obtain ⟨hg993, h⟩ := h
          refine o1 rfl (o_sidx (s := p0) (n := x2.1) rfl rfl rfl rfl hg993 ?_)
          refine o1 rfl (o_p (v := (.int .u8 (IntKind.wrap .u8 ((sbyte p0 x2.1) - 97)))) rfl ?_)
          refine o1 rfl (o_p (v := (.int .i64 (w64 (IntKind.wrap .u8 ((sbyte p0 x2.1) - 97))))) rfl ?_)
          refine o1 rfl (o_p (v := (.int .i64 (w64 ((w64 (IntKind.wrap .u8 ((sbyte p0 x2.1) - 97))) + 10)))) rfl ?_)
          refine o1 rfl (o_p rfl ?_)
          refine o_end ?_
          have hd := Option.some.inj h
          subst hd
          exact ej () () trivial (sc rfl (sc rfl (sc rfl (sc rfl sn)))) (kc rm0 kr)
        · replace h := cond_f hb992 h
          refine c_skip ?_
          have hd := Option.some.inj h
          subst hd
          exact ej () () trivial (sc rfl (sc rfl (sc rfl (sc rfl sn)))) (kc rm0 kr)
      · rintro _ i5 _
        replace h := hk5
        clear hk5
        refine e_seq ?_
        refine c_region ?_
        refine o1 rfl (o_p rfl ?_)
        refine o1 rfl (o_p (v := (.int .i64 (w64 (16 * x2.2)))) rfl ?_)
        refine o1 rfl (o_p rfl ?_)
        refine o1 rfl (o_p (v := (.int .i64 (w64 ((w64 (16 * x2.2)) + d5)))) rfl ?_)
        refine o1 rfl (o_p rfl ?_)
        refine o_end ?_
        refine e_blk ?_
        refine e_seq ?_
        refine c_region ?_
        refine o1 rfl (o_p rfl ?_)
        refine o1 rfl (o_p (v := (.int .i64 (w64 (x2.1 + 1)))) rfl ?_)
        refine o1 rfl (o_p rfl ?_)
        refine o_end ?_
        exact e_loop (l_sub (sc rfl (sc rfl (sc rfl sn))) (l_keep (kc rm0 kr) (ih2 (w64 (x2.1 + 1), w64 ((w64 (16 * x2.2)) + d5)) () trivial h)))
    · replace h := cond_f hb989 h
      refine c_exit ?_
      refine e_then_exit ?_
      refine e_then_exit ?_
      refine e_blk_exit ?_
      have hd := Option.some.inj h
      subst hd
      exact ej () () trivial (sc rfl sn) (kc rm0 kr)
  · rintro _ i1 _
    replace h := hk1
    clear hk1
    refine e_seq ?_
    refine c_seq ?_
    refine c_region ?_
    refine o1 rfl (o_p rfl ?_)
    refine o1 rfl (o_p rfl ?_)
    refine o_end ?_
    refine e_seq ?_
    refine c_ret ?_
    refine e_ret ?_
    refine r_endt rfl rfl (kc rm0 kr) ?_
    have hr := Option.some.inj h
    subst hr
    exact hk

theorem c_vitrineref04_Six {g : Gw} (X : HP) (p0 : Int) (r : Int) (h : m_vitrineref04_Six p0 = some r) : Tri env g 52 (List.toArray [(.int .i64 p0)]) [X] (fun K R => K (.int .u8 r) (X :: R)) := by
  refine tri_of (fn := Try.f52) (N := 13) Try.func52 rfl rfl rfl ?_
  intro R K hk
  unfold m_vitrineref04_Six at h
  change GC _ none _ [] [(0, (.int .i64 p0))] (X :: R) g _ _
  refine c_seq ?_
  refine c_region ?_
  refine o1 rfl (o_p rfl ?_)
  refine o_end ?_
  refine e_seq ?_
  refine c_seq ?_
  refine c_region ?_
  refine o1 rfl (o_p rfl ?_)
  replace h := bsome h
  obtain ⟨d1, h1, h⟩ := h
  refine o1 rfl (o_call has56 rfl (c_vitrineref04_Mod X p0 64 _ h1) (pc rm0 pn) ?_)
  refine o1 rfl (o_p (v := (.int .i64 (w64 (2 * d1)))) rfl ?_)
  refine o1 rfl (o_p rfl ?_)
  refine o_end ?_
  refine e_seq ?_
  refine c_seq ?_
  refine c_region ?_
  refine o1 rfl (o_p rfl ?_)
  refine o1 rfl (o_p rfl ?_)
  refine o1 rfl (o_p (v := (.int .i64 (w64 ((w64 (2 * d1)) + 2)))) rfl ?_)
  replace h := gsome h
  obtain ⟨hg978, h⟩ := h
  refine o1 rfl (o_ssl (s := (ByteArray.mk (List.toArray [52, 48, 99, 49, 99, 50, 99, 51, 99, 52, 99, 53, 99, 54, 99, 55, 99, 56, 99, 57, 52, 97, 52, 98, 52, 99, 52, 100, 52, 101, 52, 102, 53, 48, 100, 49, 100, 50, 100, 51, 100, 52, 100, 53, 100, 54, 100, 55, 100, 56, 100, 57, 53, 97, 53, 98, 53, 99, 53, 100, 53, 101, 53, 102, 54, 48, 54, 49, 101, 50, 101, 51, 101, 52, 101, 53, 101, 54, 101, 55, 101, 56, 101, 57, 54, 97, 54, 98, 54, 99, 54, 100, 54, 101, 54, 102, 102, 48, 102, 49, 102, 50, 102, 51, 102, 52, 102, 53, 102, 54, 102, 55, 102, 56, 102, 57, 55, 97, 55, 98, 55, 99, 55, 100, 55, 101, 55, 102]))) (a := w64 (2 * d1)) (b := w64 ((w64 (2 * d1)) + 2)) rfl rfl rfl rfl rfl hg978 ?_)
  replace h := bsome h
  obtain ⟨d2, h2, h⟩ := h
  refine o1 rfl (o_call has74 rfl (c_vitrineref01_Num X (ByteArray.extract (ByteArray.mk (List.toArray [52, 48, 99, 49, 99, 50, 99, 51, 99, 52, 99, 53, 99, 54, 99, 55, 99, 56, 99, 57, 52, 97, 52, 98, 52, 99, 52, 100, 52, 101, 52, 102, 53, 48, 100, 49, 100, 50, 100, 51, 100, 52, 100, 53, 100, 54, 100, 55, 100, 56, 100, 57, 53, 97, 53, 98, 53, 99, 53, 100, 53, 101, 53, 102, 54, 48, 54, 49, 101, 50, 101, 51, 101, 52, 101, 53, 101, 54, 101, 55, 101, 56, 101, 57, 54, 97, 54, 98, 54, 99, 54, 100, 54, 101, 54, 102, 102, 48, 102, 49, 102, 50, 102, 51, 102, 52, 102, 53, 102, 54, 102, 55, 102, 56, 102, 57, 55, 97, 55, 98, 55, 99, 55, 100, 55, 101, 55, 102])) (Int.toNat (w64 (2 * d1))) (Int.toNat (w64 ((w64 (2 * d1)) + 2)))) _ h2) (pc rm0 pn) ?_)
  refine o1 rfl (o_p (v := (.int .u8 (IntKind.wrap .u8 (d2)))) rfl ?_)
  refine o1 rfl (o_p rfl ?_)
  refine o_end ?_
  refine e_seq ?_
  refine c_ret ?_
  refine e_ret ?_
  refine r_endt rfl rfl (kc rm0 kr) ?_
  have hr := Option.some.inj h
  subst hr
  exact hk

theorem c_vitrineref04_Encode {g : Gw} (X : HP) (p0 : Int) (p1 : Int) (r : (List Int) × Int) (h : m_vitrineref04_Encode p0 p1 = some r) : Tri env g 15 (List.toArray [(.int .i64 p0), (.int .i64 p1)]) [X] (fun K R => ∀ (i0 : SV), K (.tuple (List.toArray [(SV.val i0), (.int .i64 r.2)])) (X :: slO i0 5 (enI .u8) r.1 :: R)) := by
  refine tri_of (fn := Try.f15) (N := 37) Try.func15 rfl rfl rfl ?_
  intro R K hk
  unfold m_vitrineref04_Encode at h
  change GC _ none _ [] [(0, (.int .i64 p0)), (1, (.int .i64 p1))] (X :: R) g _ _
  refine c_seq ?_
  refine c_region ?_
  refine o1 rfl (o_p rfl ?_)
  refine o1 rfl (o_p rfl ?_)
  refine o_end ?_
  refine e_seq ?_
  refine c_seq ?_
  refine c_region ?_
  refine o1 rfl (o_p rfl ?_)
  refine o_end ?_
  refine e_seq ?_
  refine c_seq ?_
  refine c_seq ?_
  refine c_region ?_
  refine o1 rfl (o_p rfl ?_)
  refine o_end ?_
  refine e_seq ?_
  refine c_block ?_
  refine c_seq ?_
  refine c_region ?_
  refine o1 rfl (o_p (v := (.bool (p0 == 12))) rfl ?_)
  refine o1 rfl (o_p rfl ?_)
  refine o_end ?_
  refine e_seq ?_
  replace h := jn_some h
  obtain ⟨y2, h, hk2⟩ := h
  refine cj (D := Int) (ι := Unit) (fun d2 i2 => y2 = Sum.inl d2) (fun d2 i2 => [(6, (.int .i64 d2)), (0, (.int .i64 p0)), (1, (.int .i64 p1))]) (fun d2 i2 => X :: R) ?_ ?_
  · refine c_cond (b := (p0 == 12)) rfl (fun hb969 => ?_) (fun hb969 => ?_)
    · replace h := cond_t hb969 h
      refine c_region ?_
      refine o1 rfl (o_p rfl ?_)
      refine o_end ?_
      have hd := Option.some.inj h
      subst hd
      exact ej 4095 () rfl (sc rfl (sc rfl (sc rfl sn))) (kc rm0 kr)
    · replace h := cond_f hb969 h
      refine c_seq ?_
      refine c_region ?_
      refine o1 rfl (o_p (v := (.bool (p0 == 14))) rfl ?_)
      refine o1 rfl (o_p rfl ?_)
      refine o_end ?_
      refine e_seq ?_
      refine c_cond (b := (p0 == 14)) rfl (fun hb970 => ?_) (fun hb970 => ?_)
      · replace h := cond_t hb970 h
        refine c_region ?_
        refine o1 rfl (o_p rfl ?_)
        refine o_end ?_
        have hd := Option.some.inj h
        subst hd
        exact ej 16383 () rfl (sc rfl (sc rfl (sc rfl sn))) (kc rm0 kr)
      · replace h := cond_f hb970 h
        refine c_seq ?_
        refine c_region ?_
        refine o1 rfl (o_p (v := (.bool (p0 == 16))) rfl ?_)
        refine o1 rfl (o_p rfl ?_)
        refine o_end ?_
        refine e_seq ?_
        refine c_cond (b := (p0 == 16)) rfl (fun hb971 => ?_) (fun hb971 => ?_)
        · replace h := cond_t hb971 h
          refine c_region ?_
          refine o1 rfl (o_p rfl ?_)
          refine o_end ?_
          have hd := Option.some.inj h
          subst hd
          exact ej 65535 () rfl (sc rfl (sc rfl (sc rfl sn))) (kc rm0 kr)
        · replace h := cond_f hb971 h
          refine c_seq ?_
          refine c_region ?_
          refine o1 rfl (o_p rfl ?_)
          refine o1 rfl (o_p rfl ?_)
          refine o_end ?_
          refine e_seq ?_
          refine c_ret ?_
          refine ej_ret ?_
          replace h := esc_some h
          obtain ⟨z2, h, rfl⟩ := h
          obtain rfl := (hk2 : z2 = _)
          refine e_blk_ret ?_
          refine e_then_ret ?_
          refine e_ret ?_
          refine r_add (slO SV.nil 5 (enI .u8) []) (slO_nil _ _ _) ?_
          refine r_endt rfl rfl (kc rm1 (kc rm0 kr)) ?_
          have hr := Option.some.inj h
          subst hr
          exact hk SV.nil
  · rintro d2 i2 rfl
    replace h := JK_inl hk2
    clear hk2
    refine e_blk ?_
    refine e_seq ?_
    refine c_seq ?_
    refine c_seq ?_
    replace h := bsome h
    obtain ⟨d3, h, hk3⟩ := h
    refine cj (D := Unit) (ι := Unit) (fun _ i3 => True) (fun _ i3 => [(20, (.bool d3)), (0, (.int .i64 p0)), (1, (.int .i64 p1))]) (fun _ i3 => X :: R) ?_ ?_
    · refine c_region ?_
      refine o1 rfl (o_p rfl ?_)
      refine o1 rfl (o_p (v := (.bool (decide (p1 < 0)))) rfl ?_)
      refine o1 rfl (o_p rfl ?_)
      rcases bool_or ((decide (p1 < 0))) with hb972 | hb972
      · replace h := cond_t hb972 h
        refine on rfl rfl rfl hb972 ?_
        refine on rfl rfl rfl hb972 ?_
        refine on rfl rfl rfl hb972 ?_
        refine o1 rfl (o_pick_t rfl hb972 rfl ?_)
        refine o_end ?_
        have hd := Option.some.inj h
        subst hd
        exact ej () () trivial (sc rfl (sc rfl (sc rfl sn))) (kc rm0 kr)
      · replace h := cond_f hb972 h
        refine oy rfl rfl rfl hb972 (o_p rfl ?_)
        refine oy rfl rfl rfl hb972 (o_p rfl ?_)
        refine oy rfl rfl rfl hb972 (o_p (v := (.bool (decide (p1 > d2)))) rfl ?_)
        refine o1 rfl (o_pick_f rfl hb972 rfl ?_)
        refine o_end ?_
        have hd := Option.some.inj h
        subst hd
        exact ej () () trivial (sc rfl (sc rfl (sc rfl sn))) (kc rm0 kr)
    · rintro _ i3 _
      replace h := hk3
      clear hk3
      refine e_seq ?_
      refine c_cond (b := d3) rfl (fun hb973 => ?_) (fun hb973 => ?_)
      · replace h := cond_t hb973 h
        refine c_seq ?_
        refine c_region ?_
        refine o1 rfl (o_p rfl ?_)
        refine o1 rfl (o_p rfl ?_)
        refine o_end ?_
        refine e_seq ?_
        refine c_ret ?_
        refine e_then_ret ?_
        refine e_ret ?_
        refine r_add (slO SV.nil 5 (enI .u8) []) (slO_nil _ _ _) ?_
        refine r_endt rfl rfl (kc rm1 (kc rm0 kr)) ?_
        have hr := Option.some.inj h
        subst hr
        exact hk SV.nil
      · replace h := cond_f hb973 h
        refine c_skip ?_
        refine e_seq ?_
        refine c_seq ?_
        refine c_seq ?_
        refine c_region ?_
        refine o1 rfl (o_p rfl ?_)
        refine o1 rfl (o_p (v := (.bool (p0 == 12))) rfl ?_)
        refine o_end ?_
        refine e_seq ?_
        refine c_cond (b := (p0 == 12)) rfl (fun hb974 => ?_) (fun hb974 => ?_)
        · replace h := cond_t hb974 h
          refine c_seq ?_
          refine c_region ?_
          refine o1 rfl (o_p rfl ?_)
          refine o1 rfl (o_quo (m := p1) (n := 64) rfl rfl (by decide) ?_)
          replace h := bsome h
          obtain ⟨d6, h6, h⟩ := h
          refine o1 rfl (o_call has52 rfl (c_vitrineref04_Six X (w64 (Int.tdiv p1 64)) _ h6) (pc rm0 pn) ?_)
          refine o1 rfl (o_p rfl ?_)
          refine o1 rfl (o_rem (m := p1) (n := 64) rfl rfl (by decide) ?_)
          replace h := bsome h
          obtain ⟨d7, h7, h⟩ := h
          refine o1 rfl (o_call has52 rfl (c_vitrineref04_Six X (Int.tmod p1 64) _ h7) (pc rm0 pn) ?_)
          refine o1 rfl (o_bs (e := (enI .u8)) (l := [d6, d7]) (zs := [(.int .u8 0)]) rfl rfl rfl rfl rfl rfl rfl rfl rfl rfl (fun s994 => ?_))
          refine o1 rfl (o_p rfl ?_)
          refine o1 rfl (o_p rfl ?_)
          refine o_end ?_
          refine e_seq ?_
          refine c_ret ?_
          refine e_then_ret ?_
          refine e_ret ?_
          refine r_endt rfl rfl (kc rm1 (kc rm0 kr)) ?_
          have hr := Option.some.inj h
          subst hr
          exact hk s994
        · replace h := cond_f hb974 h
          refine c_skip ?_
          refine e_seq ?_
          refine c_seq ?_
          refine c_region ?_
          refine o1 rfl (o_p rfl ?_)
          refine o1 rfl (o_quo (m := p1) (n := 256) rfl rfl (by decide) ?_)
          refine o1 rfl (o_p (v := (.int .u8 (IntKind.wrap .u8 (w64 (Int.tdiv p1 256))))) rfl ?_)
          refine o1 rfl (o_p rfl ?_)
          refine o1 rfl (o_rem (m := p1) (n := 256) rfl rfl (by decide) ?_)
          refine o1 rfl (o_p (v := (.int .u8 (IntKind.wrap .u8 (Int.tmod p1 256)))) rfl ?_)
          refine o1 rfl (o_bs (e := (enI .u8)) (l := [IntKind.wrap .u8 (w64 (Int.tdiv p1 256)), IntKind.wrap .u8 (Int.tmod p1 256)]) (zs := [(.int .u8 0)]) rfl rfl rfl rfl rfl rfl rfl rfl rfl rfl (fun s996 => ?_))
          refine o1 rfl (o_p rfl ?_)
          refine o1 rfl (o_p rfl ?_)
          refine o_end ?_
          refine e_seq ?_
          refine c_ret ?_
          refine e_ret ?_
          refine r_endt rfl rfl (kc rm1 (kc rm0 kr)) ?_
          have hr := Option.some.inj h
          subst hr
          exact hk s996

theorem c_vitrineref16_Name {g : Gw} (X : HP) (p0 : Int) (r : ByteArray) (h : m_vitrineref16_Name p0 = some r) : Tri env g 96 (List.toArray [(.int .i64 p0)]) [X] (fun K R => K (.string r) (X :: R)) := by
  refine tri_of (fn := Try.f96) (N := 22) Try.func96 rfl rfl rfl ?_
  intro R K hk
  unfold m_vitrineref16_Name at h
  change GC _ none _ [] [(0, (.int .i64 p0))] (X :: R) g _ _
  refine c_seq ?_
  refine c_region ?_
  refine o1 rfl (o_p rfl ?_)
  refine o_end ?_
  refine e_seq ?_
  refine c_seq ?_
  refine c_region ?_
  refine o1 rfl (o_bs (e := enS) (l := [(ByteArray.mk (List.toArray [84, 101, 120, 116])), (ByteArray.mk (List.toArray [80, 84])), (ByteArray.mk (List.toArray [71, 69])), (ByteArray.mk (List.toArray [83, 66, 65])), (ByteArray.mk (List.toArray [69, 85, 65])), (ByteArray.mk (List.toArray [73, 67])), (ByteArray.mk (List.toArray [83, 70])), (ByteArray.mk (List.toArray [83, 65])), (ByteArray.mk (List.toArray [83, 70, 69])), (ByteArray.mk (List.toArray [77, 70])), (ByteArray.mk (List.toArray [82, 65]))]) (zs := [(.string ByteArray.empty)]) rfl rfl rfl rfl rfl rfl rfl rfl rfl rfl (fun s1031 => ?_))
  refine o1 rfl (o_p rfl ?_)
  refine o_end ?_
  refine e_seq ?_
  refine c_seq ?_
  refine c_seq ?_
  refine c_region ?_
  refine o1 rfl (o_bs (e := (enI .i64)) (l := [0, 5, 8, 17, 18, 19, 29, 40, 41, 44, 60]) (zs := [(.int .i64 0)]) rfl rfl rfl rfl rfl rfl rfl rfl rfl rfl (fun s1033 => ?_))
  refine o1 rfl (o_len (s := s1033) rfl rfl rfl rm0 (rd_own _ _ _ _) ?_)
  refine o1 rfl (o_p rfl ?_)
  refine o_end ?_
  refine e_seq ?_
  replace h := jn_some h
  obtain ⟨y1, h, hk1⟩ := h
  refine cj (D := Unit) (ι := Unit) (fun d1 i1 => y1 = Sum.inl d1) (fun d1 i1 => []) (fun d1 i1 => X :: R) ?_ ?_
  · refine c_block ?_
    refine c_loop (l_sub (sc rfl (sc rfl (sc rfl (sc rfl (sc rfl sn))))) (l_keep (kc rm2 (kc rm0 (kc rm0 kr))) (lf (X := Int) (ι := Unit) (fun k x => vitrineref16_Name_l2 p0 k x) _ (fun x2 i2 => True) (fun x2 i2 => [(9, (.int .i64 x2)), (8, (.int .i64 ([0, 5, 8, 17, 18, 19, 29, 40, 41, 44, 60].length : Int))), (7, (SV.val s1033)), (3, (SV.val s1031)), (0, (.int .i64 p0))]) (fun x2 i2 => X :: slO s1033 3 (enI .i64) [0, 5, 8, 17, 18, 19, 29, 40, 41, 44, 60] :: slO s1031 9 enS [(ByteArray.mk (List.toArray [84, 101, 120, 116])), (ByteArray.mk (List.toArray [80, 84])), (ByteArray.mk (List.toArray [71, 69])), (ByteArray.mk (List.toArray [83, 66, 65])), (ByteArray.mk (List.toArray [69, 85, 65])), (ByteArray.mk (List.toArray [73, 67])), (ByteArray.mk (List.toArray [83, 70])), (ByteArray.mk (List.toArray [83, 65])), (ByteArray.mk (List.toArray [83, 70, 69])), (ByteArray.mk (List.toArray [77, 70])), (ByteArray.mk (List.toArray [82, 65]))] :: R) (fun _ => rfl) ?_ fuel 0 () trivial h)))
    clear h
    rintro k2 ih2 x2 i2 _ h
    rw [vitrineref16_Name_l2.eq_2] at h
    refine l_round ?_
    refine c_seq ?_
    refine c_region ?_
    refine o1 rfl (o_p (v := (.bool (decide (x2 < ([0, 5, 8, 17, 18, 19, 29, 40, 41, 44, 60].length : Int))))) rfl ?_)
    refine o_end ?_
    refine e_seq ?_
    refine c_seq ?_
    refine c_cond (b := (decide (x2 < ([0, 5, 8, 17, 18, 19, 29, 40, 41, 44, 60].length : Int)))) rfl (fun hb1043 => ?_) (fun hb1043 => ?_)
    · replace h := cond_t hb1043 h
      refine c_skip ?_
      refine e_seq ?_
      refine c_seq ?_
      refine c_block ?_
      refine c_seq ?_
      refine c_region ?_
      refine o1 rfl (o_p rfl ?_)
      replace h := gsome h
      obtain ⟨hg1044, h⟩ := h
      refine o1 rfl (o_ix (s := s1033) (n := x2) (e := (enI .i64)) rfl rfl rfl rfl rfl rfl rm1 (rd_own _ _ _ _) hg1044 ?_)
      refine o1 rfl (o_ldE (s := s1033) (e := (enI .i64)) (n := x2) (f := 0) (v := (.int .i64 (rd [0, 5, 8, 17, 18, 19, 29, 40, 41, 44, 60] x2))) rfl rm1 (rd_own _ _ _ _) hg1044 rfl rfl ?_)
      refine o1 rfl (o_p rfl ?_)
      refine o1 rfl (o_p rfl ?_)
      refine o_end ?_
      refine e_seq ?_
      refine c_seq ?_
      refine c_region ?_
      refine o1 rfl (o_p rfl ?_)
      refine o1 rfl (o_p rfl ?_)
      refine o1 rfl (o_p (v := (.bool ((rd [0, 5, 8, 17, 18, 19, 29, 40, 41, 44, 60] x2) == p0))) rfl ?_)
      refine o_end ?_
      refine e_seq ?_
      refine c_cond (b := ((rd [0, 5, 8, 17, 18, 19, 29, 40, 41, 44, 60] x2) == p0)) rfl (fun hb1045 => ?_) (fun hb1045 => ?_)
      · replace h := cond_t hb1045 h
        refine c_seq ?_
        refine c_region ?_
        refine o1 rfl (o_p rfl ?_)
        refine o1 rfl (o_p rfl ?_)
        replace h := gsome h
        obtain ⟨hg1046, h⟩ := h
        refine o1 rfl (o_ix (s := s1031) (n := x2) (e := enS) rfl rfl rfl rfl rfl rfl rm2 (rd_own _ _ _ _) hg1046 ?_)
        refine o1 rfl (o_ldE (s := s1031) (e := enS) (n := x2) (f := 0) (v := (.string (rd [(ByteArray.mk (List.toArray [84, 101, 120, 116])), (ByteArray.mk (List.toArray [80, 84])), (ByteArray.mk (List.toArray [71, 69])), (ByteArray.mk (List.toArray [83, 66, 65])), (ByteArray.mk (List.toArray [69, 85, 65])), (ByteArray.mk (List.toArray [73, 67])), (ByteArray.mk (List.toArray [83, 70])), (ByteArray.mk (List.toArray [83, 65])), (ByteArray.mk (List.toArray [83, 70, 69])), (ByteArray.mk (List.toArray [77, 70])), (ByteArray.mk (List.toArray [82, 65]))] x2))) rfl rm2 (rd_own _ _ _ _) hg1046 rfl rfl ?_)
        refine o1 rfl (o_p rfl ?_)
        refine o_end ?_
        refine e_seq ?_
        refine c_ret ?_
        refine e_blk_ret ?_
        refine e_then_ret ?_
        refine e_then_ret ?_
        refine e_blk_ret ?_
        refine ej_ret ?_
        replace h := esc_some h
        obtain ⟨z1, h, rfl⟩ := h
        obtain rfl := (hk1 : z1 = _)
        refine e_then_ret ?_
        refine e_ret ?_
        refine r_endt rfl rfl (kc rm0 (kd (kd kr))) ?_
        have hr := Option.some.inj h
        subst hr
        exact hk
      · replace h := cond_f hb1045 h
        refine c_skip ?_
        refine e_blk ?_
        refine e_seq ?_
        refine c_region ?_
        refine o1 rfl (o_p (v := (.int .i64 (w64 (x2 + 1)))) rfl ?_)
        refine o1 rfl (o_p rfl ?_)
        refine o_end ?_
        exact e_loop (l_sub (sc rfl (sc rfl (sc rfl (sc rfl (sc rfl sn))))) (l_keep (kc rm0 (kc rm0 (kc rm0 kr))) (ih2 (w64 (x2 + 1)) () trivial h)))
    · replace h := cond_f hb1043 h
      refine c_exit ?_
      refine e_then_exit ?_
      refine e_then_exit ?_
      refine e_blk_exit ?_
      have hd := Option.some.inj h
      subst hd
      exact ej () () rfl sn (kc rm0 (kd (kd kr)))
  · rintro d1 i1 rfl
    replace h := JK_inl hk1
    clear hk1
    refine e_seq ?_
    refine c_seq ?_
    refine c_region ?_
    refine o1 rfl (o_p rfl ?_)
    refine o_end ?_
    refine e_seq ?_
    refine c_ret ?_
    refine e_ret ?_
    refine r_endt rfl rfl (kc rm0 kr) ?_
    have hr := Option.some.inj h
    subst hr
    exact hk

theorem c_vitrineref16_Is {g : Gw} (X : HP) (p0 : Int) (r : Bool) (h : m_vitrineref16_Is p0 = some r) : Tri env g 62 (List.toArray [(.int .u8 p0)]) [X] (fun K R => K (.bool r) (X :: R)) := by
  refine tri_of (fn := Try.f62) (N := 11) Try.func62 rfl rfl rfl ?_
  intro R K hk
  unfold m_vitrineref16_Is at h
  change GC _ none _ [] [(0, (.int .u8 p0))] (X :: R) g _ _
  refine c_seq ?_
  refine c_region ?_
  refine o1 rfl (o_p rfl ?_)
  refine o_end ?_
  refine e_seq ?_
  refine c_seq ?_
  replace h := bsome h
  obtain ⟨d1, h, hk1⟩ := h
  refine cj (D := Unit) (ι := Unit) (fun _ i1 => True) (fun _ i1 => [(2, (.bool d1))]) (fun _ i1 => X :: R) ?_ ?_
  · refine c_region ?_
    refine o1 rfl (o_p rfl ?_)
    refine o1 rfl (o_p (v := (.bool (p0 != 0))) rfl ?_)
    refine o1 rfl (o_p rfl ?_)
    rcases bool_or ((p0 != 0)) with hb1030 | hb1030
    · replace h := cond_t hb1030 h
      refine oy rfl rfl rfl hb1030 (o_p rfl ?_)
      refine oy rfl rfl rfl hb1030 (o_p (v := (.int .i64 (w64 (p0)))) rfl ?_)
      replace h := bsome h
      obtain ⟨d2, h2, h⟩ := h
      refine oy rfl rfl rfl hb1030 (o_call has96 rfl (c_vitrineref16_Name X (w64 (p0)) _ h2) (pc rm0 pn) ?_)
      refine oy rfl rfl rfl hb1030 (o_p (v := (.bool (!(d2.data.toList == (ByteArray.mk (List.toArray [])).data.toList)))) rfl ?_)
      refine o1 rfl (o_pick_t rfl hb1030 rfl ?_)
      refine o1 rfl (o_p rfl ?_)
      refine o_end ?_
      have hd := Option.some.inj h
      subst hd
      exact ej () () trivial (sc rfl sn) (kc rm0 kr)
    · replace h := cond_f hb1030 h
      refine on rfl rfl rfl hb1030 ?_
      refine on rfl rfl rfl hb1030 ?_
      refine on rfl rfl rfl hb1030 ?_
      refine on rfl rfl rfl hb1030 ?_
      refine o1 rfl (o_pick_f rfl hb1030 rfl ?_)
      refine o1 rfl (o_p rfl ?_)
      refine o_end ?_
      have hd := Option.some.inj h
      subst hd
      exact ej () () trivial (sc rfl sn) (kc rm0 kr)
  · rintro _ i1 _
    replace h := hk1
    clear hk1
    refine e_seq ?_
    refine c_ret ?_
    refine e_ret ?_
    refine r_endt rfl rfl (kc rm0 kr) ?_
    have hr := Option.some.inj h
    subst hr
    exact hk

theorem c_addr_Model {g : Gw} (X : HP) (p0 : Int) (r : Vaddr_Size × Int) (h : m_addr_Model p0 = some r) : Tri env g 78 (List.toArray [(.int .i64 p0)]) [X] (fun K R => K (.tuple (List.toArray [(.agg (List.toArray [(.int .i64 r.1.Rows), (.int .i64 r.1.Cols)])), (.int .i64 r.2)])) (X :: R)) := by
  refine tri_of (fn := Try.f78) (N := 18) Try.func78 rfl rfl rfl ?_
  intro R K hk
  unfold m_addr_Model at h
  change GC _ none _ [] [(0, (.int .i64 p0))] (X :: R) g _ _
  refine c_seq ?_
  refine c_region ?_
  refine o1 rfl (o_alloc (cs := [(.int .i64 0), (.int .i64 0)]) rfl rfl (fun b1215 => ?_))
  refine o1 rfl (o_p rfl ?_)
  refine o_end ?_
  refine e_seq ?_
  refine c_seq ?_
  refine c_seq ?_
  refine c_region ?_
  refine o1 rfl (o_p rfl ?_)
  refine o_end ?_
  refine e_seq ?_
  refine c_block ?_
  refine c_seq ?_
  refine c_region ?_
  refine o1 rfl (o_p (v := (.bool (p0 == 2))) rfl ?_)
  refine o1 rfl (o_p rfl ?_)
  refine o_end ?_
  refine e_seq ?_
  refine c_cond (b := (p0 == 2)) rfl (fun hb1217 => ?_) (fun hb1217 => ?_)
  · replace h := cond_t hb1217 h
    refine c_seq ?_
    refine c_region ?_
    refine o1 rfl (o_build (fs := [⟨ "Rows", 3, 0, false, "", "", 0⟩, ⟨ "Cols", 3, 1, false, "", "", 8⟩]) (ps := [(0, 1), (1, 1)]) (cs := [(.int .i64 24), (.int .i64 80)]) rfl rfl rfl rfl rfl ?_)
    refine o0 (o_st (b := b1215) (off := 0) (vs := [(.int .i64 24), (.int .i64 80)]) (cs' := [(.int .i64 24), (.int .i64 80)]) rfl rfl rp0 rfl rfl rfl rfl rfl rfl ?_)
    refine o1 rfl (o_p rfl ?_)
    refine o_end ?_
    refine e_seq ?_
    refine c_ret ?_
    refine e_blk_ret ?_
    refine e_then_ret ?_
    refine e_ret ?_
    refine r_endc (B := [[(.int .i64 24), (.int .i64 80)]]) rfl ⟨⟨_, _, _, _, rfl, rm0⟩, trivial⟩ rfl (kc rm1 (kd kr)) ?_
    have hr := Option.some.inj h
    subst hr
    exact hk
  · replace h := cond_f hb1217 h
    refine c_seq ?_
    refine c_region ?_
    refine o1 rfl (o_p (v := (.bool (p0 == 3))) rfl ?_)
    refine o1 rfl (o_p rfl ?_)
    refine o_end ?_
    refine e_seq ?_
    refine c_cond (b := (p0 == 3)) rfl (fun hb1218 => ?_) (fun hb1218 => ?_)
    · replace h := cond_t hb1218 h
      refine c_seq ?_
      refine c_region ?_
      refine o1 rfl (o_build (fs := [⟨ "Rows", 3, 0, false, "", "", 0⟩, ⟨ "Cols", 3, 1, false, "", "", 8⟩]) (ps := [(0, 1), (1, 1)]) (cs := [(.int .i64 32), (.int .i64 80)]) rfl rfl rfl rfl rfl ?_)
      refine o0 (o_st (b := b1215) (off := 0) (vs := [(.int .i64 32), (.int .i64 80)]) (cs' := [(.int .i64 32), (.int .i64 80)]) rfl rfl rp0 rfl rfl rfl rfl rfl rfl ?_)
      refine o1 rfl (o_p rfl ?_)
      refine o_end ?_
      refine e_seq ?_
      refine c_ret ?_
      refine e_blk_ret ?_
      refine e_then_ret ?_
      refine e_ret ?_
      refine r_endc (B := [[(.int .i64 32), (.int .i64 80)]]) rfl ⟨⟨_, _, _, _, rfl, rm0⟩, trivial⟩ rfl (kc rm1 (kd kr)) ?_
      have hr := Option.some.inj h
      subst hr
      exact hk
    · replace h := cond_f hb1218 h
      refine c_seq ?_
      refine c_region ?_
      refine o1 rfl (o_p (v := (.bool (p0 == 4))) rfl ?_)
      refine o1 rfl (o_p rfl ?_)
      refine o_end ?_
      refine e_seq ?_
      refine c_cond (b := (p0 == 4)) rfl (fun hb1219 => ?_) (fun hb1219 => ?_)
      · replace h := cond_t hb1219 h
        refine c_seq ?_
        refine c_region ?_
        refine o1 rfl (o_build (fs := [⟨ "Rows", 3, 0, false, "", "", 0⟩, ⟨ "Cols", 3, 1, false, "", "", 8⟩]) (ps := [(0, 1), (1, 1)]) (cs := [(.int .i64 43), (.int .i64 80)]) rfl rfl rfl rfl rfl ?_)
        refine o0 (o_st (b := b1215) (off := 0) (vs := [(.int .i64 43), (.int .i64 80)]) (cs' := [(.int .i64 43), (.int .i64 80)]) rfl rfl rp0 rfl rfl rfl rfl rfl rfl ?_)
        refine o1 rfl (o_p rfl ?_)
        refine o_end ?_
        refine e_seq ?_
        refine c_ret ?_
        refine e_blk_ret ?_
        refine e_then_ret ?_
        refine e_ret ?_
        refine r_endc (B := [[(.int .i64 43), (.int .i64 80)]]) rfl ⟨⟨_, _, _, _, rfl, rm0⟩, trivial⟩ rfl (kc rm1 (kd kr)) ?_
        have hr := Option.some.inj h
        subst hr
        exact hk
      · replace h := cond_f hb1219 h
        refine c_seq ?_
        refine c_region ?_
        refine o1 rfl (o_p (v := (.bool (p0 == 5))) rfl ?_)
        refine o1 rfl (o_p rfl ?_)
        refine o_end ?_
        refine e_seq ?_
        refine c_cond (b := (p0 == 5)) rfl (fun hb1220 => ?_) (fun hb1220 => ?_)
        · replace h := cond_t hb1220 h
          refine c_seq ?_
          refine c_region ?_
          refine o1 rfl (o_build (fs := [⟨ "Rows", 3, 0, false, "", "", 0⟩, ⟨ "Cols", 3, 1, false, "", "", 8⟩]) (ps := [(0, 1), (1, 1)]) (cs := [(.int .i64 27), (.int .i64 132)]) rfl rfl rfl rfl rfl ?_)
          refine o0 (o_st (b := b1215) (off := 0) (vs := [(.int .i64 27), (.int .i64 132)]) (cs' := [(.int .i64 27), (.int .i64 132)]) rfl rfl rp0 rfl rfl rfl rfl rfl rfl ?_)
          refine o1 rfl (o_p rfl ?_)
          refine o_end ?_
          refine e_seq ?_
          refine c_ret ?_
          refine e_blk_ret ?_
          refine e_then_ret ?_
          refine e_ret ?_
          refine r_endc (B := [[(.int .i64 27), (.int .i64 132)]]) rfl ⟨⟨_, _, _, _, rfl, rm0⟩, trivial⟩ rfl (kc rm1 (kd kr)) ?_
          have hr := Option.some.inj h
          subst hr
          exact hk
        · replace h := cond_f hb1220 h
          refine c_skip ?_
          refine e_blk ?_
          refine e_seq ?_
          refine c_seq ?_
          refine c_region ?_
          refine o1 rfl (o_build (fs := [⟨ "Rows", 3, 0, false, "", "", 0⟩, ⟨ "Cols", 3, 1, false, "", "", 8⟩]) (ps := [(0, 1), (1, 1)]) (cs := [(.int .i64 0), (.int .i64 0)]) rfl rfl rfl rfl rfl ?_)
          refine o0 (o_st (b := b1215) (off := 0) (vs := [(.int .i64 0), (.int .i64 0)]) (cs' := [(.int .i64 0), (.int .i64 0)]) rfl rfl rp0 rfl rfl rfl rfl rfl rfl ?_)
          refine o1 rfl (o_p rfl ?_)
          refine o_end ?_
          refine e_seq ?_
          refine c_ret ?_
          refine e_ret ?_
          refine r_endc (B := [[(.int .i64 0), (.int .i64 0)]]) rfl ⟨⟨_, _, _, _, rfl, rm0⟩, trivial⟩ rfl (kc rm1 (kd kr)) ?_
          have hr := Option.some.inj h
          subst hr
          exact hk

theorem c_addr_Size_Valid {g : Gw} (X : HP) (p0 : Vaddr_Size) (r : Bool) (h : m_addr_Size_Valid p0 = some r) : Tri env g 105 (List.toArray [(.agg (List.toArray [(.int .i64 p0.Rows), (.int .i64 p0.Cols)]))]) [X] (fun K R => K (.bool r) (X :: R)) := by
  refine tri_of (fn := Try.f105) (N := 29) Try.func105 rfl rfl rfl ?_
  intro R K hk
  unfold m_addr_Size_Valid at h
  change GC _ none _ [] [(0, (.agg (List.toArray [(.int .i64 p0.Rows), (.int .i64 p0.Cols)])))] (X :: R) g _ _
  refine c_seq ?_
  refine c_region ?_
  refine o1 rfl (o_box (cs := [(.int .i64 p0.Rows), (.int .i64 p0.Cols)]) rfl rfl (fun b1229 => ?_))
  refine o1 rfl (o_p rfl ?_)
  refine o_end ?_
  refine e_seq ?_
  refine c_seq ?_
  replace h := bsome h
  obtain ⟨d1, h, hk1⟩ := h
  refine cj (D := Unit) (ι := Unit) (fun _ i1 => True) (fun _ i1 => [(2, (.bool d1))]) (fun _ i1 => X :: R) ?_ ?_
  · refine c_region ?_
    refine o1 rfl (o_fa (fd := ⟨ "Rows", 3, 0, false, "", "", 0⟩) rfl rfl rfl rfl rfl ?_)
    refine o1 rfl (o_ld (b := b1229) (off := 0) (v := (.int .i64 p0.Rows)) rfl rm0 rfl rfl ?_)
    refine o1 rfl (o_p (v := (.bool (decide (p0.Rows ≥ 1)))) rfl ?_)
    refine o1 rfl (o_p rfl ?_)
    rcases bool_or ((decide (p0.Rows ≥ 1))) with hb1231 | hb1231
    · replace h := cond_t hb1231 h
      refine oy rfl rfl rfl hb1231 (o_fa (fd := ⟨ "Rows", 3, 0, false, "", "", 0⟩) rfl rfl rfl rfl rfl ?_)
      refine oy rfl rfl rfl hb1231 (o_ld (b := b1229) (off := 0) (v := (.int .i64 p0.Rows)) rfl rm0 rfl rfl ?_)
      refine oy rfl rfl rfl hb1231 (o_p (v := (.bool (decide (p0.Rows ≤ 43)))) rfl ?_)
      refine o1 rfl (o_pick_t rfl hb1231 rfl ?_)
      refine o1 rfl (o_p rfl ?_)
      rcases bool_or ((decide (p0.Rows ≤ 43))) with hb1232 | hb1232
      · replace h := cond_t hb1232 h
        refine oy rfl rfl rfl hb1232 (o_fa (fd := ⟨ "Cols", 3, 1, false, "", "", 8⟩) rfl rfl rfl rfl rfl ?_)
        refine oy rfl rfl rfl hb1232 (o_ld (b := b1229) (off := 1) (v := (.int .i64 p0.Cols)) rfl rm0 rfl rfl ?_)
        refine oy rfl rfl rfl hb1232 (o_p (v := (.bool (decide (p0.Cols ≥ 1)))) rfl ?_)
        refine o1 rfl (o_pick_t rfl hb1232 rfl ?_)
        refine o1 rfl (o_p rfl ?_)
        rcases bool_or ((decide (p0.Cols ≥ 1))) with hb1233 | hb1233
        · replace h := cond_t hb1233 h
          refine oy rfl rfl rfl hb1233 (o_fa (fd := ⟨ "Cols", 3, 1, false, "", "", 8⟩) rfl rfl rfl rfl rfl ?_)
          refine oy rfl rfl rfl hb1233 (o_ld (b := b1229) (off := 1) (v := (.int .i64 p0.Cols)) rfl rm0 rfl rfl ?_)
          refine oy rfl rfl rfl hb1233 (o_p (v := (.bool (decide (p0.Cols ≤ 132)))) rfl ?_)
          refine o1 rfl (o_pick_t rfl hb1233 rfl ?_)
          refine o1 rfl (o_p rfl ?_)
          rcases bool_or ((decide (p0.Cols ≤ 132))) with hb1234 | hb1234
          · replace h := cond_t hb1234 h
            refine oy rfl rfl rfl hb1234 (o_fa (fd := ⟨ "Rows", 3, 0, false, "", "", 0⟩) rfl rfl rfl rfl rfl ?_)
            refine oy rfl rfl rfl hb1234 (o_ld (b := b1229) (off := 0) (v := (.int .i64 p0.Rows)) rfl rm0 rfl rfl ?_)
            refine oy rfl rfl rfl hb1234 (o_fa (fd := ⟨ "Cols", 3, 1, false, "", "", 8⟩) rfl rfl rfl rfl rfl ?_)
            refine oy rfl rfl rfl hb1234 (o_ld (b := b1229) (off := 1) (v := (.int .i64 p0.Cols)) rfl rm0 rfl rfl ?_)
            refine oy rfl rfl rfl hb1234 (o_p (v := (.int .i64 (w64 (p0.Rows * p0.Cols)))) rfl ?_)
            refine oy rfl rfl rfl hb1234 (o_p (v := (.bool (decide ((w64 (p0.Rows * p0.Cols)) ≤ 3564)))) rfl ?_)
            refine o1 rfl (o_pick_t rfl hb1234 rfl ?_)
            refine o1 rfl (o_p rfl ?_)
            refine o_end ?_
            have hd := Option.some.inj h
            subst hd
            exact ej () () trivial (sc rfl sn) (kc rm1 (kd kr))
          · replace h := cond_f hb1234 h
            refine on rfl rfl rfl hb1234 ?_
            refine on rfl rfl rfl hb1234 ?_
            refine on rfl rfl rfl hb1234 ?_
            refine on rfl rfl rfl hb1234 ?_
            refine on rfl rfl rfl hb1234 ?_
            refine on rfl rfl rfl hb1234 ?_
            refine o1 rfl (o_pick_f rfl hb1234 rfl ?_)
            refine o1 rfl (o_p rfl ?_)
            refine o_end ?_
            have hd := Option.some.inj h
            subst hd
            exact ej () () trivial (sc rfl sn) (kc rm1 (kd kr))
        · replace h := cond_f hb1233 h
          refine on rfl rfl rfl hb1233 ?_
          refine on rfl rfl rfl hb1233 ?_
          refine on rfl rfl rfl hb1233 ?_
          refine o1 rfl (o_pick_f rfl hb1233 rfl ?_)
          refine o1 rfl (o_p rfl ?_)
          refine on rfl rfl rfl rfl ?_
          refine on rfl rfl rfl rfl ?_
          refine on rfl rfl rfl rfl ?_
          refine on rfl rfl rfl rfl ?_
          refine on rfl rfl rfl rfl ?_
          refine on rfl rfl rfl rfl ?_
          refine o1 rfl (o_pick_f rfl rfl rfl ?_)
          refine o1 rfl (o_p rfl ?_)
          refine o_end ?_
          have hd := Option.some.inj h
          subst hd
          exact ej () () trivial (sc rfl sn) (kc rm1 (kd kr))
      · replace h := cond_f hb1232 h
        refine on rfl rfl rfl hb1232 ?_
        refine on rfl rfl rfl hb1232 ?_
        refine on rfl rfl rfl hb1232 ?_
        refine o1 rfl (o_pick_f rfl hb1232 rfl ?_)
        refine o1 rfl (o_p rfl ?_)
        refine on rfl rfl rfl rfl ?_
        refine on rfl rfl rfl rfl ?_
        refine on rfl rfl rfl rfl ?_
        refine o1 rfl (o_pick_f rfl rfl rfl ?_)
        refine o1 rfl (o_p rfl ?_)
        refine on rfl rfl rfl rfl ?_
        refine on rfl rfl rfl rfl ?_
        refine on rfl rfl rfl rfl ?_
        refine on rfl rfl rfl rfl ?_
        refine on rfl rfl rfl rfl ?_
        refine on rfl rfl rfl rfl ?_
        refine o1 rfl (o_pick_f rfl rfl rfl ?_)
        refine o1 rfl (o_p rfl ?_)
        refine o_end ?_
        have hd := Option.some.inj h
        subst hd
        exact ej () () trivial (sc rfl sn) (kc rm1 (kd kr))
    · replace h := cond_f hb1231 h
      refine on rfl rfl rfl hb1231 ?_
      refine on rfl rfl rfl hb1231 ?_
      refine on rfl rfl rfl hb1231 ?_
      refine o1 rfl (o_pick_f rfl hb1231 rfl ?_)
      refine o1 rfl (o_p rfl ?_)
      refine on rfl rfl rfl rfl ?_
      refine on rfl rfl rfl rfl ?_
      refine on rfl rfl rfl rfl ?_
      refine o1 rfl (o_pick_f rfl rfl rfl ?_)
      refine o1 rfl (o_p rfl ?_)
      refine on rfl rfl rfl rfl ?_
      refine on rfl rfl rfl rfl ?_
      refine on rfl rfl rfl rfl ?_
      refine o1 rfl (o_pick_f rfl rfl rfl ?_)
      refine o1 rfl (o_p rfl ?_)
      refine on rfl rfl rfl rfl ?_
      refine on rfl rfl rfl rfl ?_
      refine on rfl rfl rfl rfl ?_
      refine on rfl rfl rfl rfl ?_
      refine on rfl rfl rfl rfl ?_
      refine on rfl rfl rfl rfl ?_
      refine o1 rfl (o_pick_f rfl rfl rfl ?_)
      refine o1 rfl (o_p rfl ?_)
      refine o_end ?_
      have hd := Option.some.inj h
      subst hd
      exact ej () () trivial (sc rfl sn) (kc rm1 (kd kr))
  · rintro _ i1 _
    replace h := hk1
    clear hk1
    refine e_seq ?_
    refine c_ret ?_
    refine e_ret ?_
    refine r_endt rfl rfl (kc rm0 kr) ?_
    have hr := Option.some.inj h
    subst hr
    exact hk

theorem c_addr_Size_Cells {g : Gw} (X : HP) (p0 : Vaddr_Size) (r : Int) (h : m_addr_Size_Cells p0 = some r) : Tri env g 71 (List.toArray [(.agg (List.toArray [(.int .i64 p0.Rows), (.int .i64 p0.Cols)]))]) [X] (fun K R => K (.int .i64 r) (X :: R)) := by
  refine tri_of (fn := Try.f71) (N := 11) Try.func71 rfl rfl rfl ?_
  intro R K hk
  unfold m_addr_Size_Cells at h
  change GC _ none _ [] [(0, (.agg (List.toArray [(.int .i64 p0.Rows), (.int .i64 p0.Cols)])))] (X :: R) g _ _
  refine c_seq ?_
  refine c_region ?_
  refine o1 rfl (o_box (cs := [(.int .i64 p0.Rows), (.int .i64 p0.Cols)]) rfl rfl (fun b1227 => ?_))
  refine o1 rfl (o_p rfl ?_)
  refine o_end ?_
  refine e_seq ?_
  refine c_seq ?_
  refine c_seq ?_
  refine c_region ?_
  refine o1 rfl (o_ld (b := b1227) (off := 0) (v := (.agg (List.toArray [(.int .i64 p0.Rows), (.int .i64 p0.Cols)]))) rfl rm0 rfl rfl ?_)
  replace h := bsome h
  obtain ⟨d1, h1, h⟩ := h
  refine o1 rfl (o_call has105 rfl (c_addr_Size_Valid X p0 _ h1) (pc rm1 pn) ?_)
  refine o1 rfl (o_p (v := (.bool (!d1))) rfl ?_)
  refine o_end ?_
  refine e_seq ?_
  refine c_cond (b := (!d1)) rfl (fun hb1235 => ?_) (fun hb1235 => ?_)
  · replace h := cond_t hb1235 h
    refine c_seq ?_
    refine c_region ?_
    refine o1 rfl (o_p rfl ?_)
    refine o_end ?_
    refine e_seq ?_
    refine c_ret ?_
    refine e_then_ret ?_
    refine e_ret ?_
    refine r_endt rfl rfl (kc rm0 (kd kr)) ?_
    have hr := Option.some.inj h
    subst hr
    exact hk
  · replace h := cond_f hb1235 h
    refine c_skip ?_
    refine e_seq ?_
    refine c_seq ?_
    refine c_region ?_
    refine o1 rfl (o_fa (fd := ⟨ "Rows", 3, 0, false, "", "", 0⟩) rfl rfl rfl rfl rfl ?_)
    refine o1 rfl (o_ld (b := b1227) (off := 0) (v := (.int .i64 p0.Rows)) rfl rm1 rfl rfl ?_)
    refine o1 rfl (o_fa (fd := ⟨ "Cols", 3, 1, false, "", "", 8⟩) rfl rfl rfl rfl rfl ?_)
    refine o1 rfl (o_ld (b := b1227) (off := 1) (v := (.int .i64 p0.Cols)) rfl rm1 rfl rfl ?_)
    refine o1 rfl (o_p (v := (.int .i64 (w64 (p0.Rows * p0.Cols)))) rfl ?_)
    refine o1 rfl (o_p rfl ?_)
    refine o_end ?_
    refine e_seq ?_
    refine c_ret ?_
    refine e_ret ?_
    refine r_endt rfl rfl (kc rm0 (kd kr)) ?_
    have hr := Option.some.inj h
    subst hr
    exact hk

theorem c_space_Space_Clear {g : Gw} (X : HP) (p0 : Vspace_Space) (b0 : Nat) (s0 : SV) (q0 : Rd X s0 48 en_Vapi_Cell p0.cells) (p1 : Bool) (r : Vspace_Space) (h : m_space_Space_Clear p0 p1 = some r) : Tri env g 47 (List.toArray [(.pointer (some ⟨b0, 0, none⟩)), (.bool p1)]) [X, blk b0 (.cells (List.toArray [(.int .i64 p0.model), (.bool p0.alternate), (.int .i64 p0.size.Rows), (.int .i64 p0.size.Cols), (SV.val s0), (.int .i64 p0.cursor), (.int .i64 p0.attrs)]) 165 (0, 0))] (fun K R => ∀ (i0 : SV), K (.tuple (List.toArray [])) (X :: blk b0 (.cells (List.toArray [(.int .i64 r.model), (.bool r.alternate), (.int .i64 r.size.Rows), (.int .i64 r.size.Cols), (SV.val i0), (.int .i64 r.cursor), (.int .i64 r.attrs)]) 165 (0, 0)) :: slO i0 48 en_Vapi_Cell r.cells :: R)) := by
  refine tri_of (fn := Try.f47) (N := 39) Try.func47 rfl rfl rfl ?_
  intro R K hk
  unfold m_space_Space_Clear at h
  change GC _ none _ [] [(0, (.pointer (some ⟨b0, 0, none⟩))), (1, (.bool p1))] (X :: blk b0 (.cells (List.toArray [(.int .i64 p0.model), (.bool p0.alternate), (.int .i64 p0.size.Rows), (.int .i64 p0.size.Cols), (SV.val s0), (.int .i64 p0.cursor), (.int .i64 p0.attrs)]) 165 (0, 0)) :: R) g _ _
  refine c_seq ?_
  refine c_seq ?_
  refine c_region ?_
  refine o1 rfl (o_p rfl ?_)
  refine o1 rfl (o_p (v := (.bool false)) rfl ?_)
  refine o_end ?_
  refine e_seq ?_
  refine c_cond_f rfl rfl ?_
  refine c_skip ?_
  refine e_seq ?_
  refine c_seq ?_
  refine c_region ?_
  refine o1 rfl (o_p rfl ?_)
  refine o_end ?_
  refine e_seq ?_
  refine c_seq ?_
  refine c_seq ?_
  refine c_region ?_
  refine o1 rfl (o_p rfl ?_)
  refine o_end ?_
  refine e_seq ?_
  replace h := bsome h
  obtain ⟨d1, h, hk1⟩ := h
  refine cj (D := Unit) (ι := Unit) (fun _ i1 => True) (fun _ i1 => [(4, (.int .i64 d1)), (0, (.pointer (some ⟨b0, 0, none⟩))), (1, (.bool p1))]) (fun _ i1 => X :: blk b0 (.cells (List.toArray [(.int .i64 p0.model), (.bool p0.alternate), (.int .i64 p0.size.Rows), (.int .i64 p0.size.Cols), (SV.val s0), (.int .i64 p0.cursor), (.int .i64 p0.attrs)]) 165 (0, 0)) :: R) ?_ ?_
  · refine c_cond (b := p1) rfl (fun hb1226 => ?_) (fun hb1226 => ?_)
    · replace h := cond_t hb1226 h
      refine c_region ?_
      refine o1 rfl (o_p rfl ?_)
      refine o1 rfl (o_p rfl ?_)
      refine o1 rfl (o_fa (fd := ⟨ "model", 3, 0, false, "", "vitrine/space", 0⟩) rfl rfl rfl rfl rfl ?_)
      refine o1 rfl (o_ld (b := b0) (off := 0) (v := (.int .i64 p0.model)) rfl rm1 rfl rfl ?_)
      refine o1 rfl (o_p rfl ?_)
      refine o_end ?_
      have hd := Option.some.inj h
      subst hd
      exact ej () () trivial (sc rfl (sc rfl (sc rfl sn))) (kc rm0 (kc rm0 kr))
    · replace h := cond_f hb1226 h
      refine c_skip ?_
      have hd := Option.some.inj h
      subst hd
      exact ej () () trivial (sc rfl (sc rfl (sc rfl sn))) (kc rm0 (kc rm0 kr))
  · rintro _ i1 _
    replace h := hk1
    clear hk1
    refine e_seq ?_
    refine c_seq ?_
    refine c_region ?_
    refine o1 rfl (o_p rfl ?_)
    refine o1 rfl (o_p rfl ?_)
    refine o1 rfl (o_p rfl ?_)
    refine o1 rfl (o_fa (fd := ⟨ "alternate", 4, 1, false, "", "vitrine/space", 8⟩) rfl rfl rfl rfl rfl ?_)
    refine o0 (o_st (b := b0) (off := 1) (vs := [(.bool p1)]) (cs' := [(.int .i64 p0.model), (.bool p1), (.int .i64 p0.size.Rows), (.int .i64 p0.size.Cols), (SV.val s0), (.int .i64 p0.cursor), (.int .i64 p0.attrs)]) rfl rfl rp1 rfl rfl rfl rfl rfl rfl ?_)
    refine o_end ?_
    refine e_seq ?_
    refine c_seq ?_
    refine c_region ?_
    refine o1 rfl (o_p rfl ?_)
    refine o1 rfl (o_p rfl ?_)
    replace h := bsome h
    obtain ⟨d2, h2, h⟩ := h
    refine o1 rfl (o_call has78 rfl (c_addr_Model X d1 _ h2) (pc rm0 pn) ?_)
    refine o1 rfl (o_p rfl ?_)
    refine o1 rfl (o_p rfl ?_)
    refine o1 rfl (o_p rfl ?_)
    refine o1 rfl (o_p rfl ?_)
    refine o1 rfl (o_fa (fd := ⟨ "size", 131, 2, false, "", "vitrine/space", 16⟩) rfl rfl rfl rfl rfl ?_)
    refine o0 (o_st (b := b0) (off := 2) (vs := [(.int .i64 d2.1.Rows), (.int .i64 d2.1.Cols)]) (cs' := [(.int .i64 p0.model), (.bool p1), (.int .i64 d2.1.Rows), (.int .i64 d2.1.Cols), (SV.val s0), (.int .i64 p0.cursor), (.int .i64 p0.attrs)]) rfl rfl rp1 rfl rfl rfl rfl rfl rfl ?_)
    refine o_end ?_
    refine e_seq ?_
    refine c_seq ?_
    refine c_region ?_
    refine o1 rfl (o_p rfl ?_)
    refine o1 rfl (o_p rfl ?_)
    refine o1 rfl (o_p rfl ?_)
    refine o1 rfl (o_fa (fd := ⟨ "size", 131, 2, false, "", "vitrine/space", 16⟩) rfl rfl rfl rfl rfl ?_)
    refine o1 rfl (o_ld (b := b0) (off := 2) (v := (.agg (List.toArray [(.int .i64 d2.1.Rows), (.int .i64 d2.1.Cols)]))) rfl rm1 rfl rfl ?_)
    replace h := bsome h
    obtain ⟨d3, h3, h⟩ := h
    refine o1 rfl (o_call has71 rfl (c_addr_Size_Cells X d2.1 _ h3) (pc rm0 pn) ?_)
    replace h := gsome h
    obtain ⟨hg1236, h⟩ := h
    refine o1 rfl (o_mk (e := en_Vapi_Cell) (z := (⟨0, false, 0, 0, 0, 0⟩ : Vapi_Cell)) (zs := [(.int .u8 0), (.bool false), (.int .u8 0), (.int .u8 0), (.int .u8 0), (.int .u8 0)]) rfl rfl rfl rfl rfl rfl rfl rfl rfl hg1236 (fun s1237 => ?_))
    refine o1 rfl (o_p rfl ?_)
    refine o1 rfl (o_fa (fd := ⟨ "cells", 39, 4, false, "", "vitrine/space", 32⟩) rfl rfl rfl rfl rfl ?_)
    refine o0 (o_st (b := b0) (off := 4) (vs := [(SV.val s1237)]) (cs' := [(.int .i64 p0.model), (.bool p1), (.int .i64 d2.1.Rows), (.int .i64 d2.1.Cols), (SV.val s1237), (.int .i64 p0.cursor), (.int .i64 p0.attrs)]) rfl rfl rp2 rfl rfl rfl rfl rfl rfl ?_)
    refine o_end ?_
    refine e_seq ?_
    refine c_region ?_
    refine o1 rfl (o_p rfl ?_)
    refine o1 rfl (o_p rfl ?_)
    refine o1 rfl (o_p rfl ?_)
    refine o1 rfl (o_fa (fd := ⟨ "cursor", 3, 5, false, "", "vitrine/space", 56⟩) rfl rfl rfl rfl rfl ?_)
    refine o0 (o_st (b := b0) (off := 5) (vs := [(.int .i64 0)]) (cs' := [(.int .i64 p0.model), (.bool p1), (.int .i64 d2.1.Rows), (.int .i64 d2.1.Cols), (SV.val s1237), (.int .i64 0), (.int .i64 p0.attrs)]) rfl rfl rp2 rfl rfl rfl rfl rfl rfl ?_)
    refine o1 rfl (o_p rfl ?_)
    refine o1 rfl (o_fa (fd := ⟨ "attrs", 3, 6, false, "", "vitrine/space", 64⟩) rfl rfl rfl rfl rfl ?_)
    refine o0 (o_st (b := b0) (off := 6) (vs := [(.int .i64 0)]) (cs' := [(.int .i64 p0.model), (.bool p1), (.int .i64 d2.1.Rows), (.int .i64 d2.1.Cols), (SV.val s1237), (.int .i64 0), (.int .i64 0)]) rfl rfl rp2 rfl rfl rfl rfl rfl rfl ?_)
    refine o_end ?_
    refine e_fall ?_
    refine r_endt rfl rfl (kc rm1 (kc rm1 (kc rm0 kr))) ?_
    have hr := Option.some.inj h
    subst hr
    exact hk s1237

theorem c_space_New {g : Gw} (X : HP) (p0 : Int) (r : (Int) ⊕ (Vspace_Space × Int)) (h : m_space_New p0 = some r) : Tri env g 44 (List.toArray [(.int .i64 p0)]) [X] (fun K R => match r with | .inl r => K (.tuple (List.toArray [(.pointer none), (.int .i64 r)])) (X :: R) | .inr r => ∀ (i0 : Nat × SV), K (.tuple (List.toArray [(.pointer (some ⟨i0.1, 0, none⟩)), (.int .i64 r.2)])) (X :: blk i0.1 (.cells (List.toArray [(.int .i64 r.1.model), (.bool r.1.alternate), (.int .i64 r.1.size.Rows), (.int .i64 r.1.size.Cols), (SV.val i0.2), (.int .i64 r.1.cursor), (.int .i64 r.1.attrs)]) 165 (0, 0)) :: slO i0.2 48 en_Vapi_Cell r.1.cells :: R)) := by
  refine tri_of (fn := Try.f44) (N := 21) Try.func44 rfl rfl rfl ?_
  intro R K hk
  unfold m_space_New at h
  change GC _ none _ [] [(0, (.int .i64 p0))] (X :: R) g _ _
  refine c_seq ?_
  refine c_region ?_
  refine o1 rfl (o_p rfl ?_)
  refine o1 rfl (o_p rfl ?_)
  refine o_end ?_
  refine e_seq ?_
  refine c_seq ?_
  refine c_seq ?_
  refine c_region ?_
  refine o1 rfl (o_p rfl ?_)
  replace h := bsome h
  obtain ⟨d1, h1, h⟩ := h
  refine o1 rfl (o_call has78 rfl (c_addr_Model X p0 _ h1) (pc rm0 pn) ?_)
  refine o1 rfl (o_p rfl ?_)
  refine o1 rfl (o_p rfl ?_)
  refine o1 rfl (o_p rfl ?_)
  refine o1 rfl (o_alloc (cs := [(.int .i64 0), (.int .i64 0)]) rfl rfl (fun b1221 => ?_))
  refine o0 (o_st (b := b1221) (off := 0) (vs := [(.int .i64 d1.1.Rows), (.int .i64 d1.1.Cols)]) (cs' := [(.int .i64 d1.1.Rows), (.int .i64 d1.1.Cols)]) rfl rfl rp0 rfl rfl rfl rfl rfl rfl ?_)
  refine o1 rfl (o_p rfl ?_)
  refine o_end ?_
  refine e_seq ?_
  refine c_seq ?_
  refine c_region ?_
  refine o1 rfl (o_p rfl ?_)
  refine o1 rfl (o_p (v := (.bool (d1.2 != 0))) rfl ?_)
  refine o_end ?_
  refine e_seq ?_
  refine c_cond (b := (d1.2 != 0)) rfl (fun hb1223 => ?_) (fun hb1223 => ?_)
  · replace h := cond_t hb1223 h
    refine c_seq ?_
    refine c_region ?_
    refine o1 rfl (o_p rfl ?_)
    refine o1 rfl (o_p rfl ?_)
    refine o1 rfl (o_p rfl ?_)
    refine o_end ?_
    refine e_seq ?_
    refine c_ret ?_
    refine e_then_ret ?_
    refine e_ret ?_
    refine r_endt rfl rfl (kc rm1 (kd kr)) ?_
    have hr := Option.some.inj h
    subst hr
    exact hk
  · replace h := cond_f hb1223 h
    refine c_skip ?_
    refine e_seq ?_
    refine c_seq ?_
    refine c_region ?_
    refine o1 rfl (o_p rfl ?_)
    refine o1 rfl (o_build (fs := [⟨ "model", 3, 0, false, "", "vitrine/space", 0⟩, ⟨ "alternate", 4, 1, false, "", "vitrine/space", 8⟩, ⟨ "size", 131, 2, false, "", "vitrine/space", 16⟩, ⟨ "cells", 39, 4, false, "", "vitrine/space", 32⟩, ⟨ "cursor", 3, 5, false, "", "vitrine/space", 56⟩, ⟨ "attrs", 3, 6, false, "", "vitrine/space", 64⟩]) (ps := [(0, 1), (1, 1), (2, 2), (4, 1), (5, 1), (6, 1)]) (cs := [(.int .i64 p0), (.bool false), (.int .i64 0), (.int .i64 0), (SV.val SV.nil), (.int .i64 0), (.int .i64 0)]) rfl rfl rfl rfl rfl ?_)
    refine o1 rfl (o_box (cs := [(.int .i64 p0), (.bool false), (.int .i64 0), (.int .i64 0), (SV.val SV.nil), (.int .i64 0), (.int .i64 0)]) rfl rfl (fun b1224 => ?_))
    refine o1 rfl (o_p rfl ?_)
    refine o_end ?_
    refine e_seq ?_
    refine c_seq ?_
    refine c_region ?_
    refine o1 rfl (o_p rfl ?_)
    replace h := bsome h
    obtain ⟨d3, h3, h⟩ := h
    refine o1 rfl (o_call has47 rfl (c_space_Space_Clear X (⟨p0, false, (⟨0, 0⟩ : Vaddr_Size), ([] : List Vapi_Cell), 0, 0⟩ : Vspace_Space) b1224 SV.nil (rd_nil _ _ _) false _ h3) (pc rm2 (pc rm0 pn)) (fun i3 => ?_))
    refine o_end ?_
    refine e_seq ?_
    refine c_seq ?_
    refine c_region ?_
    refine o1 rfl (o_p rfl ?_)
    refine o1 rfl (o_p rfl ?_)
    refine o1 rfl (o_p rfl ?_)
    refine o_end ?_
    refine e_seq ?_
    refine c_ret ?_
    refine e_ret ?_
    refine r_endt rfl rfl (kc rm0 (kc rm0 (kc rm0 (kd kr)))) ?_
    have hr := Option.some.inj h
    subst hr
    exact hk (b1224, i3)

theorem c_vitrineref04_Model {g : Gw} (X : HP) (p0 : Int) (r : Vvitrineref04_Size × Bool) (h : m_vitrineref04_Model p0 = some r) : Tri env g 79 (List.toArray [(.int .i64 p0)]) [X] (fun K R => K (.tuple (List.toArray [(.agg (List.toArray [(.int .i64 r.1.Rows), (.int .i64 r.1.Cols)])), (.bool r.2)])) (X :: R)) := by
  refine tri_of (fn := Try.f79) (N := 20) Try.func79 rfl rfl rfl ?_
  intro R K hk
  unfold m_vitrineref04_Model at h
  change GC _ none _ [] [(0, (.int .i64 p0))] (X :: R) g _ _
  refine c_seq ?_
  refine c_region ?_
  refine o1 rfl (o_alloc (cs := [(.int .i64 0), (.int .i64 0)]) rfl rfl (fun b1245 => ?_))
  refine o1 rfl (o_p rfl ?_)
  refine o_end ?_
  refine e_seq ?_
  refine c_seq ?_
  refine c_seq ?_
  replace h := bsome h
  obtain ⟨d1, h, hk1⟩ := h
  refine cj (D := Unit) (ι := Unit) (fun _ i1 => True) (fun _ i1 => [(9, (.bool d1)), (2, (.pointer (some ⟨b1245, 0, none⟩))), (0, (.int .i64 p0))]) (fun _ i1 => X :: blk b1245 (.cells (List.toArray [(.int .i64 0), (.int .i64 0)]) 38 (0, 0)) :: R) ?_ ?_
  · refine c_region ?_
    refine o1 rfl (o_p rfl ?_)
    refine o1 rfl (o_p (v := (.bool (decide (p0 < 2)))) rfl ?_)
    refine o1 rfl (o_p rfl ?_)
    rcases bool_or ((decide (p0 < 2))) with hb1247 | hb1247
    · replace h := cond_t hb1247 h
      refine on rfl rfl rfl hb1247 ?_
      refine on rfl rfl rfl hb1247 ?_
      refine o1 rfl (o_pick_t rfl hb1247 rfl ?_)
      refine o_end ?_
      have hd := Option.some.inj h
      subst hd
      exact ej () () trivial (sc rfl (sc rfl (sc rfl sn))) (kc rm1 (kc rm0 kr))
    · replace h := cond_f hb1247 h
      refine oy rfl rfl rfl hb1247 (o_p rfl ?_)
      refine oy rfl rfl rfl hb1247 (o_p (v := (.bool (decide (p0 > 5)))) rfl ?_)
      refine o1 rfl (o_pick_f rfl hb1247 rfl ?_)
      refine o_end ?_
      have hd := Option.some.inj h
      subst hd
      exact ej () () trivial (sc rfl (sc rfl (sc rfl sn))) (kc rm1 (kc rm0 kr))
  · rintro _ i1 _
    replace h := hk1
    clear hk1
    refine e_seq ?_
    refine c_cond (b := d1) rfl (fun hb1248 => ?_) (fun hb1248 => ?_)
    · replace h := cond_t hb1248 h
      refine c_seq ?_
      refine c_region ?_
      refine o1 rfl (o_build (fs := [⟨ "Rows", 3, 0, false, "", "", 0⟩, ⟨ "Cols", 3, 1, false, "", "", 8⟩]) (ps := [(0, 1), (1, 1)]) (cs := [(.int .i64 0), (.int .i64 0)]) rfl rfl rfl rfl rfl ?_)
      refine o0 (o_st (b := b1245) (off := 0) (vs := [(.int .i64 0), (.int .i64 0)]) (cs' := [(.int .i64 0), (.int .i64 0)]) rfl rfl rp1 rfl rfl rfl rfl rfl rfl ?_)
      refine o1 rfl (o_p rfl ?_)
      refine o_end ?_
      refine e_seq ?_
      refine c_ret ?_
      refine e_then_ret ?_
      refine e_ret ?_
      refine r_endc (B := [[(.int .i64 0), (.int .i64 0)]]) rfl ⟨⟨_, _, _, _, rfl, rm1⟩, trivial⟩ rfl (kc rm0 (kd kr)) ?_
      have hr := Option.some.inj h
      subst hr
      exact hk
    · replace h := cond_f hb1248 h
      refine c_skip ?_
      refine e_seq ?_
      refine c_seq ?_
      refine c_region ?_
      refine o1 rfl (o_build (fs := [⟨ "Rows", 3, 0, false, "", "", 0⟩, ⟨ "Cols", 3, 1, false, "", "", 8⟩]) (ps := [(0, 1), (1, 1)]) (cs := [(.int .i64 24), (.int .i64 80)]) rfl rfl rfl rfl rfl ?_)
      refine o1 rfl (o_build (fs := [⟨ "Rows", 3, 0, false, "", "", 0⟩, ⟨ "Cols", 3, 1, false, "", "", 8⟩]) (ps := [(0, 1), (1, 1)]) (cs := [(.int .i64 32), (.int .i64 80)]) rfl rfl rfl rfl rfl ?_)
      refine o1 rfl (o_build (fs := [⟨ "Rows", 3, 0, false, "", "", 0⟩, ⟨ "Cols", 3, 1, false, "", "", 8⟩]) (ps := [(0, 1), (1, 1)]) (cs := [(.int .i64 43), (.int .i64 80)]) rfl rfl rfl rfl rfl ?_)
      refine o1 rfl (o_build (fs := [⟨ "Rows", 3, 0, false, "", "", 0⟩, ⟨ "Cols", 3, 1, false, "", "", 8⟩]) (ps := [(0, 1), (1, 1)]) (cs := [(.int .i64 27), (.int .i64 132)]) rfl rfl rfl rfl rfl ?_)
      refine o1 rfl (o_bs (e := en_Vvitrineref04_Size) (l := [(⟨24, 80⟩ : Vvitrineref04_Size), (⟨32, 80⟩ : Vvitrineref04_Size), (⟨43, 80⟩ : Vvitrineref04_Size), (⟨27, 132⟩ : Vvitrineref04_Size)]) (zs := [(.int .i64 0), (.int .i64 0)]) rfl rfl rfl rfl rfl rfl rfl rfl rfl rfl (fun s1249 => ?_))
      refine o1 rfl (o_p rfl ?_)
      refine o1 rfl (o_p (v := (.int .i64 (w64 (p0 - 2)))) rfl ?_)
      replace h := gsome h
      obtain ⟨hg1251, h⟩ := h
      refine o1 rfl (o_ix (s := s1249) (n := w64 (p0 - 2)) (e := en_Vvitrineref04_Size) rfl rfl rfl rfl rfl rfl rm0 (rd_own _ _ _ _) hg1251 ?_)
      refine o1 rfl (o_ldE (s := s1249) (e := en_Vvitrineref04_Size) (n := w64 (p0 - 2)) (f := 0) (v := (.agg (List.toArray [(.int .i64 ((rd [(⟨24, 80⟩ : Vvitrineref04_Size), (⟨32, 80⟩ : Vvitrineref04_Size), (⟨43, 80⟩ : Vvitrineref04_Size), (⟨27, 132⟩ : Vvitrineref04_Size)] (w64 (p0 - 2))).Rows)), (.int .i64 ((rd [(⟨24, 80⟩ : Vvitrineref04_Size), (⟨32, 80⟩ : Vvitrineref04_Size), (⟨43, 80⟩ : Vvitrineref04_Size), (⟨27, 132⟩ : Vvitrineref04_Size)] (w64 (p0 - 2))).Cols))]))) rfl rm0 (rd_own _ _ _ _) hg1251 rfl rfl ?_)
      refine o0 (o_st (b := b1245) (off := 0) (vs := [(.int .i64 ((rd [(⟨24, 80⟩ : Vvitrineref04_Size), (⟨32, 80⟩ : Vvitrineref04_Size), (⟨43, 80⟩ : Vvitrineref04_Size), (⟨27, 132⟩ : Vvitrineref04_Size)] (w64 (p0 - 2))).Rows)), (.int .i64 ((rd [(⟨24, 80⟩ : Vvitrineref04_Size), (⟨32, 80⟩ : Vvitrineref04_Size), (⟨43, 80⟩ : Vvitrineref04_Size), (⟨27, 132⟩ : Vvitrineref04_Size)] (w64 (p0 - 2))).Cols))]) (cs' := [(.int .i64 ((rd [(⟨24, 80⟩ : Vvitrineref04_Size), (⟨32, 80⟩ : Vvitrineref04_Size), (⟨43, 80⟩ : Vvitrineref04_Size), (⟨27, 132⟩ : Vvitrineref04_Size)] (w64 (p0 - 2))).Rows)), (.int .i64 ((rd [(⟨24, 80⟩ : Vvitrineref04_Size), (⟨32, 80⟩ : Vvitrineref04_Size), (⟨43, 80⟩ : Vvitrineref04_Size), (⟨27, 132⟩ : Vvitrineref04_Size)] (w64 (p0 - 2))).Cols))]) rfl rfl rp2 rfl rfl rfl rfl rfl rfl ?_)
      refine o1 rfl (o_p rfl ?_)
      refine o_end ?_
      refine e_seq ?_
      refine c_ret ?_
      refine e_ret ?_
      refine r_endc (B := [[(.int .i64 ((rd [(⟨24, 80⟩ : Vvitrineref04_Size), (⟨32, 80⟩ : Vvitrineref04_Size), (⟨43, 80⟩ : Vvitrineref04_Size), (⟨27, 132⟩ : Vvitrineref04_Size)] (w64 (p0 - 2))).Rows)), (.int .i64 ((rd [(⟨24, 80⟩ : Vvitrineref04_Size), (⟨32, 80⟩ : Vvitrineref04_Size), (⟨43, 80⟩ : Vvitrineref04_Size), (⟨27, 132⟩ : Vvitrineref04_Size)] (w64 (p0 - 2))).Cols))]]) rfl ⟨⟨_, _, _, _, rfl, rm2⟩, trivial⟩ rfl (kc rm1 (kd (kd kr))) ?_
      have hr := Option.some.inj h
      subst hr
      exact hk

theorem c_vitrineref04_Valid {g : Gw} (X : HP) (p0 : Vvitrineref04_Size) (r : Bool) (h : m_vitrineref04_Valid p0 = some r) : Tri env g 114 (List.toArray [(.agg (List.toArray [(.int .i64 p0.Rows), (.int .i64 p0.Cols)]))]) [X] (fun K R => K (.bool r) (X :: R)) := by
  refine tri_of (fn := Try.f114) (N := 29) Try.func114 rfl rfl rfl ?_
  intro R K hk
  unfold m_vitrineref04_Valid at h
  change GC _ none _ [] [(0, (.agg (List.toArray [(.int .i64 p0.Rows), (.int .i64 p0.Cols)])))] (X :: R) g _ _
  refine c_seq ?_
  refine c_region ?_
  refine o1 rfl (o_box (cs := [(.int .i64 p0.Rows), (.int .i64 p0.Cols)]) rfl rfl (fun b1260 => ?_))
  refine o1 rfl (o_p rfl ?_)
  refine o_end ?_
  refine e_seq ?_
  refine c_seq ?_
  replace h := bsome h
  obtain ⟨d1, h, hk1⟩ := h
  refine cj (D := Unit) (ι := Unit) (fun _ i1 => True) (fun _ i1 => [(2, (.bool d1))]) (fun _ i1 => X :: R) ?_ ?_
  · refine c_region ?_
    refine o1 rfl (o_fa (fd := ⟨ "Rows", 3, 0, false, "", "", 0⟩) rfl rfl rfl rfl rfl ?_)
    refine o1 rfl (o_ld (b := b1260) (off := 0) (v := (.int .i64 p0.Rows)) rfl rm0 rfl rfl ?_)
    refine o1 rfl (o_p (v := (.bool (decide (p0.Rows ≥ 1)))) rfl ?_)
    refine o1 rfl (o_p rfl ?_)
    rcases bool_or ((decide (p0.Rows ≥ 1))) with hb1262 | hb1262
    · replace h := cond_t hb1262 h
      refine oy rfl rfl rfl hb1262 (o_fa (fd := ⟨ "Rows", 3, 0, false, "", "", 0⟩) rfl rfl rfl rfl rfl ?_)
      refine oy rfl rfl rfl hb1262 (o_ld (b := b1260) (off := 0) (v := (.int .i64 p0.Rows)) rfl rm0 rfl rfl ?_)
      refine oy rfl rfl rfl hb1262 (o_p (v := (.bool (decide (p0.Rows ≤ 43)))) rfl ?_)
      refine o1 rfl (o_pick_t rfl hb1262 rfl ?_)
      refine o1 rfl (o_p rfl ?_)
      rcases bool_or ((decide (p0.Rows ≤ 43))) with hb1263 | hb1263
      · replace h := cond_t hb1263 h
        refine oy rfl rfl rfl hb1263 (o_fa (fd := ⟨ "Cols", 3, 1, false, "", "", 8⟩) rfl rfl rfl rfl rfl ?_)
        refine oy rfl rfl rfl hb1263 (o_ld (b := b1260) (off := 1) (v := (.int .i64 p0.Cols)) rfl rm0 rfl rfl ?_)
        refine oy rfl rfl rfl hb1263 (o_p (v := (.bool (decide (p0.Cols ≥ 1)))) rfl ?_)
        refine o1 rfl (o_pick_t rfl hb1263 rfl ?_)
        refine o1 rfl (o_p rfl ?_)
        rcases bool_or ((decide (p0.Cols ≥ 1))) with hb1264 | hb1264
        · replace h := cond_t hb1264 h
          refine oy rfl rfl rfl hb1264 (o_fa (fd := ⟨ "Cols", 3, 1, false, "", "", 8⟩) rfl rfl rfl rfl rfl ?_)
          refine oy rfl rfl rfl hb1264 (o_ld (b := b1260) (off := 1) (v := (.int .i64 p0.Cols)) rfl rm0 rfl rfl ?_)
          refine oy rfl rfl rfl hb1264 (o_p (v := (.bool (decide (p0.Cols ≤ 132)))) rfl ?_)
          refine o1 rfl (o_pick_t rfl hb1264 rfl ?_)
          refine o1 rfl (o_p rfl ?_)
          rcases bool_or ((decide (p0.Cols ≤ 132))) with hb1265 | hb1265
          · replace h := cond_t hb1265 h
            refine oy rfl rfl rfl hb1265 (o_fa (fd := ⟨ "Rows", 3, 0, false, "", "", 0⟩) rfl rfl rfl rfl rfl ?_)
            refine oy rfl rfl rfl hb1265 (o_ld (b := b1260) (off := 0) (v := (.int .i64 p0.Rows)) rfl rm0 rfl rfl ?_)
            refine oy rfl rfl rfl hb1265 (o_fa (fd := ⟨ "Cols", 3, 1, false, "", "", 8⟩) rfl rfl rfl rfl rfl ?_)
            refine oy rfl rfl rfl hb1265 (o_ld (b := b1260) (off := 1) (v := (.int .i64 p0.Cols)) rfl rm0 rfl rfl ?_)
            refine oy rfl rfl rfl hb1265 (o_p (v := (.int .i64 (w64 (p0.Rows * p0.Cols)))) rfl ?_)
            refine oy rfl rfl rfl hb1265 (o_p (v := (.bool (decide ((w64 (p0.Rows * p0.Cols)) ≤ 3564)))) rfl ?_)
            refine o1 rfl (o_pick_t rfl hb1265 rfl ?_)
            refine o1 rfl (o_p rfl ?_)
            refine o_end ?_
            have hd := Option.some.inj h
            subst hd
            exact ej () () trivial (sc rfl sn) (kc rm1 (kd kr))
          · replace h := cond_f hb1265 h
            refine on rfl rfl rfl hb1265 ?_
            refine on rfl rfl rfl hb1265 ?_
            refine on rfl rfl rfl hb1265 ?_
            refine on rfl rfl rfl hb1265 ?_
            refine on rfl rfl rfl hb1265 ?_
            refine on rfl rfl rfl hb1265 ?_
            refine o1 rfl (o_pick_f rfl hb1265 rfl ?_)
            refine o1 rfl (o_p rfl ?_)
            refine o_end ?_
            have hd := Option.some.inj h
            subst hd
            exact ej () () trivial (sc rfl sn) (kc rm1 (kd kr))
        · replace h := cond_f hb1264 h
          refine on rfl rfl rfl hb1264 ?_
          refine on rfl rfl rfl hb1264 ?_
          refine on rfl rfl rfl hb1264 ?_
          refine o1 rfl (o_pick_f rfl hb1264 rfl ?_)
          refine o1 rfl (o_p rfl ?_)
          refine on rfl rfl rfl rfl ?_
          refine on rfl rfl rfl rfl ?_
          refine on rfl rfl rfl rfl ?_
          refine on rfl rfl rfl rfl ?_
          refine on rfl rfl rfl rfl ?_
          refine on rfl rfl rfl rfl ?_
          refine o1 rfl (o_pick_f rfl rfl rfl ?_)
          refine o1 rfl (o_p rfl ?_)
          refine o_end ?_
          have hd := Option.some.inj h
          subst hd
          exact ej () () trivial (sc rfl sn) (kc rm1 (kd kr))
      · replace h := cond_f hb1263 h
        refine on rfl rfl rfl hb1263 ?_
        refine on rfl rfl rfl hb1263 ?_
        refine on rfl rfl rfl hb1263 ?_
        refine o1 rfl (o_pick_f rfl hb1263 rfl ?_)
        refine o1 rfl (o_p rfl ?_)
        refine on rfl rfl rfl rfl ?_
        refine on rfl rfl rfl rfl ?_
        refine on rfl rfl rfl rfl ?_
        refine o1 rfl (o_pick_f rfl rfl rfl ?_)
        refine o1 rfl (o_p rfl ?_)
        refine on rfl rfl rfl rfl ?_
        refine on rfl rfl rfl rfl ?_
        refine on rfl rfl rfl rfl ?_
        refine on rfl rfl rfl rfl ?_
        refine on rfl rfl rfl rfl ?_
        refine on rfl rfl rfl rfl ?_
        refine o1 rfl (o_pick_f rfl rfl rfl ?_)
        refine o1 rfl (o_p rfl ?_)
        refine o_end ?_
        have hd := Option.some.inj h
        subst hd
        exact ej () () trivial (sc rfl sn) (kc rm1 (kd kr))
    · replace h := cond_f hb1262 h
      refine on rfl rfl rfl hb1262 ?_
      refine on rfl rfl rfl hb1262 ?_
      refine on rfl rfl rfl hb1262 ?_
      refine o1 rfl (o_pick_f rfl hb1262 rfl ?_)
      refine o1 rfl (o_p rfl ?_)
      refine on rfl rfl rfl rfl ?_
      refine on rfl rfl rfl rfl ?_
      refine on rfl rfl rfl rfl ?_
      refine o1 rfl (o_pick_f rfl rfl rfl ?_)
      refine o1 rfl (o_p rfl ?_)
      refine on rfl rfl rfl rfl ?_
      refine on rfl rfl rfl rfl ?_
      refine on rfl rfl rfl rfl ?_
      refine o1 rfl (o_pick_f rfl rfl rfl ?_)
      refine o1 rfl (o_p rfl ?_)
      refine on rfl rfl rfl rfl ?_
      refine on rfl rfl rfl rfl ?_
      refine on rfl rfl rfl rfl ?_
      refine on rfl rfl rfl rfl ?_
      refine on rfl rfl rfl rfl ?_
      refine on rfl rfl rfl rfl ?_
      refine o1 rfl (o_pick_f rfl rfl rfl ?_)
      refine o1 rfl (o_p rfl ?_)
      refine o_end ?_
      have hd := Option.some.inj h
      subst hd
      exact ej () () trivial (sc rfl sn) (kc rm1 (kd kr))
  · rintro _ i1 _
    replace h := hk1
    clear hk1
    refine e_seq ?_
    refine c_ret ?_
    refine e_ret ?_
    refine r_endt rfl rfl (kc rm0 kr) ?_
    have hr := Option.some.inj h
    subst hr
    exact hk

theorem c_vitrineref04_Cells {g : Gw} (X : HP) (p0 : Vvitrineref04_Size) (r : Int) (h : m_vitrineref04_Cells p0 = some r) : Tri env g 93 (List.toArray [(.agg (List.toArray [(.int .i64 p0.Rows), (.int .i64 p0.Cols)]))]) [X] (fun K R => K (.int .i64 r) (X :: R)) := by
  refine tri_of (fn := Try.f93) (N := 11) Try.func93 rfl rfl rfl ?_
  intro R K hk
  unfold m_vitrineref04_Cells at h
  change GC _ none _ [] [(0, (.agg (List.toArray [(.int .i64 p0.Rows), (.int .i64 p0.Cols)])))] (X :: R) g _ _
  refine c_seq ?_
  refine c_region ?_
  refine o1 rfl (o_box (cs := [(.int .i64 p0.Rows), (.int .i64 p0.Cols)]) rfl rfl (fun b1258 => ?_))
  refine o1 rfl (o_p rfl ?_)
  refine o_end ?_
  refine e_seq ?_
  refine c_seq ?_
  refine c_seq ?_
  refine c_region ?_
  refine o1 rfl (o_ld (b := b1258) (off := 0) (v := (.agg (List.toArray [(.int .i64 p0.Rows), (.int .i64 p0.Cols)]))) rfl rm0 rfl rfl ?_)
  replace h := bsome h
  obtain ⟨d1, h1, h⟩ := h
  refine o1 rfl (o_call has114 rfl (c_vitrineref04_Valid X p0 _ h1) (pc rm1 pn) ?_)
  refine o1 rfl (o_p (v := (.bool (!d1))) rfl ?_)
  refine o_end ?_
  refine e_seq ?_
  refine c_cond (b := (!d1)) rfl (fun hb1266 => ?_) (fun hb1266 => ?_)
  · replace h := cond_t hb1266 h
    refine c_seq ?_
    refine c_region ?_
    refine o1 rfl (o_p rfl ?_)
    refine o_end ?_
    refine e_seq ?_
    refine c_ret ?_
    refine e_then_ret ?_
    refine e_ret ?_
    refine r_endt rfl rfl (kc rm0 (kd kr)) ?_
    have hr := Option.some.inj h
    subst hr
    exact hk
  · replace h := cond_f hb1266 h
    refine c_skip ?_
    refine e_seq ?_
    refine c_seq ?_
    refine c_region ?_
    refine o1 rfl (o_fa (fd := ⟨ "Rows", 3, 0, false, "", "", 0⟩) rfl rfl rfl rfl rfl ?_)
    refine o1 rfl (o_ld (b := b1258) (off := 0) (v := (.int .i64 p0.Rows)) rfl rm1 rfl rfl ?_)
    refine o1 rfl (o_fa (fd := ⟨ "Cols", 3, 1, false, "", "", 8⟩) rfl rfl rfl rfl rfl ?_)
    refine o1 rfl (o_ld (b := b1258) (off := 1) (v := (.int .i64 p0.Cols)) rfl rm1 rfl rfl ?_)
    refine o1 rfl (o_p (v := (.int .i64 (w64 (p0.Rows * p0.Cols)))) rfl ?_)
    refine o1 rfl (o_p rfl ?_)
    refine o_end ?_
    refine e_seq ?_
    refine c_ret ?_
    refine e_ret ?_
    refine r_endt rfl rfl (kc rm0 (kd kr)) ?_
    have hr := Option.some.inj h
    subst hr
    exact hk

theorem c_vitrineref12_Clear {g : Gw} (X : HP) (p0 : Vvitrineref12_Space) (b0 : Nat) (s0 : SV) (q0 : Rd X s0 48 en_Vapi_Cell p0.L) (p1 : Bool) (r : Vvitrineref12_Space) (h : m_vitrineref12_Clear p0 p1 = some r) : Tri env g 80 (List.toArray [(.pointer (some ⟨b0, 0, none⟩)), (.bool p1)]) [X, blk b0 (.cells (List.toArray [(.int .i64 p0.Model), (.bool p0.Alt), (.int .i64 p0.Size.Rows), (.int .i64 p0.Size.Cols), (SV.val s0), (.int .i64 p0.Cursor)]) 41 (0, 0))] (fun K R => ∀ (i0 : SV), K (.tuple (List.toArray [])) (X :: blk b0 (.cells (List.toArray [(.int .i64 r.Model), (.bool r.Alt), (.int .i64 r.Size.Rows), (.int .i64 r.Size.Cols), (SV.val i0), (.int .i64 r.Cursor)]) 41 (0, 0)) :: slO i0 48 en_Vapi_Cell r.L :: R)) := by
  refine tri_of (fn := Try.f80) (N := 39) Try.func80 rfl rfl rfl ?_
  intro R K hk
  unfold m_vitrineref12_Clear at h
  change GC _ none _ [] [(0, (.pointer (some ⟨b0, 0, none⟩))), (1, (.bool p1))] (X :: blk b0 (.cells (List.toArray [(.int .i64 p0.Model), (.bool p0.Alt), (.int .i64 p0.Size.Rows), (.int .i64 p0.Size.Cols), (SV.val s0), (.int .i64 p0.Cursor)]) 41 (0, 0)) :: R) g _ _
  refine c_seq ?_
  refine c_region ?_
  refine o1 rfl (o_p rfl ?_)
  refine o1 rfl (o_p rfl ?_)
  refine o1 rfl (o_p rfl ?_)
  refine o1 rfl (o_fa (fd := ⟨ "Alt", 4, 1, false, "", "", 8⟩) rfl rfl rfl rfl rfl ?_)
  refine o0 (o_st (b := b0) (off := 1) (vs := [(.bool p1)]) (cs' := [(.int .i64 p0.Model), (.bool p1), (.int .i64 p0.Size.Rows), (.int .i64 p0.Size.Cols), (SV.val s0), (.int .i64 p0.Cursor)]) rfl rfl rp1 rfl rfl rfl rfl rfl rfl ?_)
  refine o_end ?_
  refine e_seq ?_
  refine c_seq ?_
  refine c_region ?_
  refine o1 rfl (o_p rfl ?_)
  replace h := bsome h
  obtain ⟨d1, h1, h⟩ := h
  refine o1 rfl (o_call has79 rfl (c_vitrineref04_Model X 2 _ h1) (pc rm0 pn) ?_)
  refine o1 rfl (o_p rfl ?_)
  refine o1 rfl (o_p rfl ?_)
  refine o1 rfl (o_p rfl ?_)
  refine o1 rfl (o_p rfl ?_)
  refine o1 rfl (o_fa (fd := ⟨ "Size", 38, 2, false, "", "", 16⟩) rfl rfl rfl rfl rfl ?_)
  refine o0 (o_st (b := b0) (off := 2) (vs := [(.int .i64 d1.1.Rows), (.int .i64 d1.1.Cols)]) (cs' := [(.int .i64 p0.Model), (.bool p1), (.int .i64 d1.1.Rows), (.int .i64 d1.1.Cols), (SV.val s0), (.int .i64 p0.Cursor)]) rfl rfl rp1 rfl rfl rfl rfl rfl rfl ?_)
  refine o_end ?_
  refine e_seq ?_
  refine c_seq ?_
  refine c_seq ?_
  refine c_region ?_
  refine o1 rfl (o_p rfl ?_)
  refine o_end ?_
  refine e_seq ?_
  replace h := bsome h
  obtain ⟨d2, h, hk2⟩ := h
  refine cj (D := Unit) (ι := Unit) (fun _ i2 => True) (fun _ i2 => [(0, (.pointer (some ⟨b0, 0, none⟩)))]) (fun _ i2 => X :: blk b0 (.cells (List.toArray [(.int .i64 p0.Model), (.bool p1), (.int .i64 d2.1), (.int .i64 d2.2), (SV.val s0), (.int .i64 p0.Cursor)]) 41 (0, 0)) :: R) ?_ ?_
  · refine c_cond (b := p1) rfl (fun hb1257 => ?_) (fun hb1257 => ?_)
    · replace h := cond_t hb1257 h
      refine c_region ?_
      refine o1 rfl (o_p rfl ?_)
      refine o1 rfl (o_p rfl ?_)
      refine o1 rfl (o_p rfl ?_)
      refine o1 rfl (o_fa (fd := ⟨ "Model", 3, 0, false, "", "", 0⟩) rfl rfl rfl rfl rfl ?_)
      refine o1 rfl (o_ld (b := b0) (off := 0) (v := (.int .i64 p0.Model)) rfl rm1 rfl rfl ?_)
      replace h := bsome h
      obtain ⟨d3, h3, h⟩ := h
      refine o1 rfl (o_call has79 rfl (c_vitrineref04_Model X p0.Model _ h3) (pc rm0 pn) ?_)
      refine o1 rfl (o_p rfl ?_)
      refine o1 rfl (o_p rfl ?_)
      refine o1 rfl (o_p rfl ?_)
      refine o1 rfl (o_p rfl ?_)
      refine o1 rfl (o_fa (fd := ⟨ "Size", 38, 2, false, "", "", 16⟩) rfl rfl rfl rfl rfl ?_)
      refine o0 (o_st (b := b0) (off := 2) (vs := [(.int .i64 d3.1.Rows), (.int .i64 d3.1.Cols)]) (cs' := [(.int .i64 p0.Model), (.bool p1), (.int .i64 d3.1.Rows), (.int .i64 d3.1.Cols), (SV.val s0), (.int .i64 p0.Cursor)]) rfl rfl rp1 rfl rfl rfl rfl rfl rfl ?_)
      refine o_end ?_
      have hd := Option.some.inj h
      subst hd
      exact ej () () trivial (sc rfl sn) (kc rm0 (kc rm0 kr))
    · replace h := cond_f hb1257 h
      refine c_skip ?_
      have hd := Option.some.inj h
      subst hd
      exact ej () () trivial (sc rfl sn) (kc rm0 (kc rm0 kr))
  · rintro _ i2 _
    replace h := hk2
    clear hk2
    refine e_seq ?_
    refine c_seq ?_
    refine c_region ?_
    refine o1 rfl (o_p rfl ?_)
    refine o1 rfl (o_p rfl ?_)
    refine o1 rfl (o_p rfl ?_)
    refine o1 rfl (o_fa (fd := ⟨ "Size", 38, 2, false, "", "", 16⟩) rfl rfl rfl rfl rfl ?_)
    refine o1 rfl (o_ld (b := b0) (off := 2) (v := (.agg (List.toArray [(.int .i64 d2.1), (.int .i64 d2.2)]))) rfl rm1 rfl rfl ?_)
    replace h := bsome h
    obtain ⟨d4, h4, h⟩ := h
    refine o1 rfl (o_call has93 rfl (c_vitrineref04_Cells X (⟨d2.1, d2.2⟩ : Vvitrineref04_Size) _ h4) (pc rm0 pn) ?_)
    replace h := gsome h
    obtain ⟨hg1267, h⟩ := h
    refine o1 rfl (o_mk (e := en_Vapi_Cell) (z := (⟨0, false, 0, 0, 0, 0⟩ : Vapi_Cell)) (zs := [(.int .u8 0), (.bool false), (.int .u8 0), (.int .u8 0), (.int .u8 0), (.int .u8 0)]) rfl rfl rfl rfl rfl rfl rfl rfl rfl hg1267 (fun s1268 => ?_))
    refine o1 rfl (o_p rfl ?_)
    refine o1 rfl (o_fa (fd := ⟨ "L", 39, 4, false, "", "", 32⟩) rfl rfl rfl rfl rfl ?_)
    refine o0 (o_st (b := b0) (off := 4) (vs := [(SV.val s1268)]) (cs' := [(.int .i64 p0.Model), (.bool p1), (.int .i64 d2.1), (.int .i64 d2.2), (SV.val s1268), (.int .i64 p0.Cursor)]) rfl rfl rp2 rfl rfl rfl rfl rfl rfl ?_)
    refine o_end ?_
    refine e_seq ?_
    refine c_region ?_
    refine o1 rfl (o_p rfl ?_)
    refine o1 rfl (o_p rfl ?_)
    refine o1 rfl (o_fa (fd := ⟨ "Cursor", 3, 5, false, "", "", 56⟩) rfl rfl rfl rfl rfl ?_)
    refine o0 (o_st (b := b0) (off := 5) (vs := [(.int .i64 0)]) (cs' := [(.int .i64 p0.Model), (.bool p1), (.int .i64 d2.1), (.int .i64 d2.2), (SV.val s1268), (.int .i64 0)]) rfl rfl rp2 rfl rfl rfl rfl rfl rfl ?_)
    refine o_end ?_
    refine e_fall ?_
    refine r_endt rfl rfl (kc rm1 (kc rm1 (kc rm0 kr))) ?_
    have hr := Option.some.inj h
    subst hr
    exact hk s1268

theorem c_vitrineref12_New {g : Gw} (X : HP) (p0 : Int) (r : (Unit) ⊕ (Vvitrineref12_Space)) (h : m_vitrineref12_New p0 = some r) : Tri env g 45 (List.toArray [(.int .i64 p0)]) [X] (fun K R => match r with | .inl r => K (.pointer none) (X :: R) | .inr r => ∀ (i0 : Nat × SV), K (.pointer (some ⟨i0.1, 0, none⟩)) (X :: blk i0.1 (.cells (List.toArray [(.int .i64 r.Model), (.bool r.Alt), (.int .i64 r.Size.Rows), (.int .i64 r.Size.Cols), (SV.val i0.2), (.int .i64 r.Cursor)]) 41 (0, 0)) :: slO i0.2 48 en_Vapi_Cell r.L :: R)) := by
  refine tri_of (fn := Try.f45) (N := 19) Try.func45 rfl rfl rfl ?_
  intro R K hk
  unfold m_vitrineref12_New at h
  change GC _ none _ [] [(0, (.int .i64 p0))] (X :: R) g _ _
  refine c_seq ?_
  refine c_region ?_
  refine o1 rfl (o_p rfl ?_)
  refine o_end ?_
  refine e_seq ?_
  refine c_seq ?_
  refine c_seq ?_
  refine c_region ?_
  refine o1 rfl (o_p rfl ?_)
  replace h := bsome h
  obtain ⟨d1, h1, h⟩ := h
  refine o1 rfl (o_call has79 rfl (c_vitrineref04_Model X p0 _ h1) (pc rm0 pn) ?_)
  refine o1 rfl (o_p rfl ?_)
  refine o1 rfl (o_p rfl ?_)
  refine o1 rfl (o_p rfl ?_)
  refine o1 rfl (o_alloc (cs := [(.int .i64 0), (.int .i64 0)]) rfl rfl (fun b1252 => ?_))
  refine o0 (o_st (b := b1252) (off := 0) (vs := [(.int .i64 d1.1.Rows), (.int .i64 d1.1.Cols)]) (cs' := [(.int .i64 d1.1.Rows), (.int .i64 d1.1.Cols)]) rfl rfl rp0 rfl rfl rfl rfl rfl rfl ?_)
  refine o1 rfl (o_p rfl ?_)
  refine o_end ?_
  refine e_seq ?_
  refine c_seq ?_
  refine c_region ?_
  refine o1 rfl (o_p rfl ?_)
  refine o1 rfl (o_p (v := (.bool (!d1.2))) rfl ?_)
  refine o_end ?_
  refine e_seq ?_
  refine c_cond (b := (!d1.2)) rfl (fun hb1254 => ?_) (fun hb1254 => ?_)
  · replace h := cond_t hb1254 h
    refine c_seq ?_
    refine c_region ?_
    refine o1 rfl (o_p rfl ?_)
    refine o_end ?_
    refine e_seq ?_
    refine c_ret ?_
    refine e_then_ret ?_
    refine e_ret ?_
    refine r_endt rfl rfl (kc rm1 (kd kr)) ?_
    have hr := Option.some.inj h
    subst hr
    exact hk
  · replace h := cond_f hb1254 h
    refine c_skip ?_
    refine e_seq ?_
    refine c_seq ?_
    refine c_region ?_
    refine o1 rfl (o_p rfl ?_)
    refine o1 rfl (o_build (fs := [⟨ "Model", 3, 0, false, "", "", 0⟩, ⟨ "Alt", 4, 1, false, "", "", 8⟩, ⟨ "Size", 38, 2, false, "", "", 16⟩, ⟨ "L", 39, 4, false, "", "", 32⟩, ⟨ "Cursor", 3, 5, false, "", "", 56⟩]) (ps := [(0, 1), (1, 1), (2, 2), (4, 1), (5, 1)]) (cs := [(.int .i64 p0), (.bool false), (.int .i64 0), (.int .i64 0), (SV.val SV.nil), (.int .i64 0)]) rfl rfl rfl rfl rfl ?_)
    refine o1 rfl (o_box (cs := [(.int .i64 p0), (.bool false), (.int .i64 0), (.int .i64 0), (SV.val SV.nil), (.int .i64 0)]) rfl rfl (fun b1255 => ?_))
    refine o1 rfl (o_p rfl ?_)
    refine o_end ?_
    refine e_seq ?_
    refine c_seq ?_
    refine c_region ?_
    refine o1 rfl (o_p rfl ?_)
    replace h := bsome h
    obtain ⟨d3, h3, h⟩ := h
    refine o1 rfl (o_call has80 rfl (c_vitrineref12_Clear X (⟨p0, false, (⟨0, 0⟩ : Vvitrineref04_Size), ([] : List Vapi_Cell), 0⟩ : Vvitrineref12_Space) b1255 SV.nil (rd_nil _ _ _) false _ h3) (pc rm2 (pc rm0 pn)) (fun i3 => ?_))
    refine o_end ?_
    refine e_seq ?_
    refine c_seq ?_
    refine c_region ?_
    refine o1 rfl (o_p rfl ?_)
    refine o1 rfl (o_p rfl ?_)
    refine o_end ?_
    refine e_seq ?_
    refine c_ret ?_
    refine e_ret ?_
    refine r_endt rfl rfl (kc rm0 (kc rm0 (kc rm0 (kd kr)))) ?_
    have hr := Option.some.inj h
    subst hr
    exact hk (b1255, i3)

theorem c_vitrineref12_Clear_2 {g : Gw} (X : HP) (p0 : Vvitrineref12_Space) (b0 : Nat) (s0 : SV) (p1 : Bool) (r : Vvitrineref12_Space) (h : m_vitrineref12_Clear_2 p0 p1 = some r) : Tri env g 80 (List.toArray [(.pointer (some ⟨b0, 0, none⟩)), (.bool p1)]) [X, blk b0 (.cells (List.toArray [(.int .i64 p0.Model), (.bool p0.Alt), (.int .i64 p0.Size.Rows), (.int .i64 p0.Size.Cols), (SV.val s0), (.int .i64 p0.Cursor)]) 41 (0, 0)), slO s0 48 en_Vapi_Cell p0.L] (fun K R => ∀ (i0 : SV), K (.tuple (List.toArray [])) (X :: blk b0 (.cells (List.toArray [(.int .i64 r.Model), (.bool r.Alt), (.int .i64 r.Size.Rows), (.int .i64 r.Size.Cols), (SV.val i0), (.int .i64 r.Cursor)]) 41 (0, 0)) :: slO i0 48 en_Vapi_Cell r.L :: slO s0 48 en_Vapi_Cell p0.L :: R)) := by
  refine tri_of (fn := Try.f80) (N := 39) Try.func80 rfl rfl rfl ?_
  intro R K hk
  unfold m_vitrineref12_Clear_2 at h
  change GC _ none _ [] [(0, (.pointer (some ⟨b0, 0, none⟩))), (1, (.bool p1))] (X :: blk b0 (.cells (List.toArray [(.int .i64 p0.Model), (.bool p0.Alt), (.int .i64 p0.Size.Rows), (.int .i64 p0.Size.Cols), (SV.val s0), (.int .i64 p0.Cursor)]) 41 (0, 0)) :: slO s0 48 en_Vapi_Cell p0.L :: R) g _ _
  refine c_seq ?_
  refine c_region ?_
  refine o1 rfl (o_p rfl ?_)
  refine o1 rfl (o_p rfl ?_)
  refine o1 rfl (o_p rfl ?_)
  refine o1 rfl (o_fa (fd := ⟨ "Alt", 4, 1, false, "", "", 8⟩) rfl rfl rfl rfl rfl ?_)
  refine o0 (o_st (b := b0) (off := 1) (vs := [(.bool p1)]) (cs' := [(.int .i64 p0.Model), (.bool p1), (.int .i64 p0.Size.Rows), (.int .i64 p0.Size.Cols), (SV.val s0), (.int .i64 p0.Cursor)]) rfl rfl rp1 rfl rfl rfl rfl rfl rfl ?_)
  refine o_end ?_
  refine e_seq ?_
  refine c_seq ?_
  refine c_region ?_
  refine o1 rfl (o_p rfl ?_)
  replace h := bsome h
  obtain ⟨d1, h1, h⟩ := h
  refine o1 rfl (o_call has79 rfl (c_vitrineref04_Model X 2 _ h1) (pc rm0 pn) ?_)
  refine o1 rfl (o_p rfl ?_)
  refine o1 rfl (o_p rfl ?_)
  refine o1 rfl (o_p rfl ?_)
  refine o1 rfl (o_p rfl ?_)
  refine o1 rfl (o_fa (fd := ⟨ "Size", 38, 2, false, "", "", 16⟩) rfl rfl rfl rfl rfl ?_)
  refine o0 (o_st (b := b0) (off := 2) (vs := [(.int .i64 d1.1.Rows), (.int .i64 d1.1.Cols)]) (cs' := [(.int .i64 p0.Model), (.bool p1), (.int .i64 d1.1.Rows), (.int .i64 d1.1.Cols), (SV.val s0), (.int .i64 p0.Cursor)]) rfl rfl rp1 rfl rfl rfl rfl rfl rfl ?_)
  refine o_end ?_
  refine e_seq ?_
  refine c_seq ?_
  refine c_seq ?_
  refine c_region ?_
  refine o1 rfl (o_p rfl ?_)
  refine o_end ?_
  refine e_seq ?_
  replace h := bsome h
  obtain ⟨d2, h, hk2⟩ := h
  refine cj (D := Unit) (ι := Unit) (fun _ i2 => True) (fun _ i2 => [(0, (.pointer (some ⟨b0, 0, none⟩)))]) (fun _ i2 => X :: blk b0 (.cells (List.toArray [(.int .i64 p0.Model), (.bool p1), (.int .i64 d2.1), (.int .i64 d2.2), (SV.val s0), (.int .i64 p0.Cursor)]) 41 (0, 0)) :: slO s0 48 en_Vapi_Cell p0.L :: R) ?_ ?_
  · refine c_cond (b := p1) rfl (fun hb1287 => ?_) (fun hb1287 => ?_)
    · replace h := cond_t hb1287 h
      refine c_region ?_
      refine o1 rfl (o_p rfl ?_)
      refine o1 rfl (o_p rfl ?_)
      refine o1 rfl (o_p rfl ?_)
      refine o1 rfl (o_fa (fd := ⟨ "Model", 3, 0, false, "", "", 0⟩) rfl rfl rfl rfl rfl ?_)
      refine o1 rfl (o_ld (b := b0) (off := 0) (v := (.int .i64 p0.Model)) rfl rm1 rfl rfl ?_)
      replace h := bsome h
      obtain ⟨d3, h3, h⟩ := h
      refine o1 rfl (o_call has79 rfl (c_vitrineref04_Model X p0.Model _ h3) (pc rm0 pn) ?_)
      refine o1 rfl (o_p rfl ?_)
      refine o1 rfl (o_p rfl ?_)
      refine o1 rfl (o_p rfl ?_)
      refine o1 rfl (o_p rfl ?_)
      refine o1 rfl (o_fa (fd := ⟨ "Size", 38, 2, false, "", "", 16⟩) rfl rfl rfl rfl rfl ?_)
      refine o0 (o_st (b := b0) (off := 2) (vs := [(.int .i64 d3.1.Rows), (.int .i64 d3.1.Cols)]) (cs' := [(.int .i64 p0.Model), (.bool p1), (.int .i64 d3.1.Rows), (.int .i64 d3.1.Cols), (SV.val s0), (.int .i64 p0.Cursor)]) rfl rfl rp1 rfl rfl rfl rfl rfl rfl ?_)
      refine o_end ?_
      have hd := Option.some.inj h
      subst hd
      exact ej () () trivial (sc rfl sn) (kc rm0 (kc rm0 (kc rm0 kr)))
    · replace h := cond_f hb1287 h
      refine c_skip ?_
      have hd := Option.some.inj h
      subst hd
      exact ej () () trivial (sc rfl sn) (kc rm0 (kc rm0 (kc rm0 kr)))
  · rintro _ i2 _
    replace h := hk2
    clear hk2
    refine e_seq ?_
    refine c_seq ?_
    refine c_region ?_
    refine o1 rfl (o_p rfl ?_)
    refine o1 rfl (o_p rfl ?_)
    refine o1 rfl (o_p rfl ?_)
    refine o1 rfl (o_fa (fd := ⟨ "Size", 38, 2, false, "", "", 16⟩) rfl rfl rfl rfl rfl ?_)
    refine o1 rfl (o_ld (b := b0) (off := 2) (v := (.agg (List.toArray [(.int .i64 d2.1), (.int .i64 d2.2)]))) rfl rm1 rfl rfl ?_)
    replace h := bsome h
    obtain ⟨d4, h4, h⟩ := h
    refine o1 rfl (o_call has93 rfl (c_vitrineref04_Cells X (⟨d2.1, d2.2⟩ : Vvitrineref04_Size) _ h4) (pc rm0 pn) ?_)
    replace h := gsome h
    obtain ⟨hg1288, h⟩ := h
    refine o1 rfl (o_mk (e := en_Vapi_Cell) (z := (⟨0, false, 0, 0, 0, 0⟩ : Vapi_Cell)) (zs := [(.int .u8 0), (.bool false), (.int .u8 0), (.int .u8 0), (.int .u8 0), (.int .u8 0)]) rfl rfl rfl rfl rfl rfl rfl rfl rfl hg1288 (fun s1289 => ?_))
    refine o1 rfl (o_p rfl ?_)
    refine o1 rfl (o_fa (fd := ⟨ "L", 39, 4, false, "", "", 32⟩) rfl rfl rfl rfl rfl ?_)
    refine o0 (o_st (b := b0) (off := 4) (vs := [(SV.val s1289)]) (cs' := [(.int .i64 p0.Model), (.bool p1), (.int .i64 d2.1), (.int .i64 d2.2), (SV.val s1289), (.int .i64 p0.Cursor)]) rfl rfl rp2 rfl rfl rfl rfl rfl rfl ?_)
    refine o_end ?_
    refine e_seq ?_
    refine c_region ?_
    refine o1 rfl (o_p rfl ?_)
    refine o1 rfl (o_p rfl ?_)
    refine o1 rfl (o_fa (fd := ⟨ "Cursor", 3, 5, false, "", "", 56⟩) rfl rfl rfl rfl rfl ?_)
    refine o0 (o_st (b := b0) (off := 5) (vs := [(.int .i64 0)]) (cs' := [(.int .i64 p0.Model), (.bool p1), (.int .i64 d2.1), (.int .i64 d2.2), (SV.val s1289), (.int .i64 0)]) rfl rfl rp2 rfl rfl rfl rfl rfl rfl ?_)
    refine o_end ?_
    refine e_fall ?_
    refine r_endt rfl rfl (kc rm1 (kc rm1 (kc rm0 (kc rm0 kr)))) ?_
    have hr := Option.some.inj h
    subst hr
    exact hk s1289

theorem c_vitrineref04_Wrap {g : Gw} (X : HP) (p0 : Vvitrineref04_Size) (p1 : Int) (r : Int) (h : m_vitrineref04_Wrap p0 p1 = some r) : Tri env g 54 (List.toArray [(.agg (List.toArray [(.int .i64 p0.Rows), (.int .i64 p0.Cols)])), (.int .i64 p1)]) [X] (fun K R => K (.int .i64 r) (X :: R)) := by
  refine tri_of (fn := Try.f54) (N := 9) Try.func54 rfl rfl rfl ?_
  intro R K hk
  unfold m_vitrineref04_Wrap at h
  change GC _ none _ [] [(0, (.agg (List.toArray [(.int .i64 p0.Rows), (.int .i64 p0.Cols)]))), (1, (.int .i64 p1))] (X :: R) g _ _
  refine c_seq ?_
  refine c_region ?_
  refine o1 rfl (o_box (cs := [(.int .i64 p0.Rows), (.int .i64 p0.Cols)]) rfl rfl (fun b1294 => ?_))
  refine o1 rfl (o_p rfl ?_)
  refine o_end ?_
  refine e_seq ?_
  refine c_seq ?_
  refine c_region ?_
  refine o1 rfl (o_p rfl ?_)
  refine o1 rfl (o_ld (b := b1294) (off := 0) (v := (.agg (List.toArray [(.int .i64 p0.Rows), (.int .i64 p0.Cols)]))) rfl rm0 rfl rfl ?_)
  replace h := bsome h
  obtain ⟨d1, h1, h⟩ := h
  refine o1 rfl (o_call has93 rfl (c_vitrineref04_Cells X p0 _ h1) (pc rm1 pn) ?_)
  replace h := bsome h
  obtain ⟨d2, h2, h⟩ := h
  refine o1 rfl (o_call has56 rfl (c_vitrineref04_Mod X p1 d1 _ h2) (pc rm0 pn) ?_)
  refine o1 rfl (o_p rfl ?_)
  refine o_end ?_
  refine e_seq ?_
  refine c_ret ?_
  refine e_ret ?_
  refine r_endt rfl rfl (kc rm0 (kd kr)) ?_
  have hr := Option.some.inj h
  subst hr
  exact hk

theorem c_vitrineref12_Wrap {g : Gw} (X : HP) (p0 : Vvitrineref12_Space) (b0 : Nat) (s0 : SV) (p1 : Int) (r : Int) (h : m_vitrineref12_Wrap p0 p1 = some r) : Tri env g 17 (List.toArray [(.pointer (some ⟨b0, 0, none⟩)), (.int .i64 p1)]) [X, blk b0 (.cells (List.toArray [(.int .i64 p0.Model), (.bool p0.Alt), (.int .i64 p0.Size.Rows), (.int .i64 p0.Size.Cols), (SV.val s0), (.int .i64 p0.Cursor)]) 41 (0, 0)), slO s0 48 en_Vapi_Cell p0.L] (fun K R => K (.int .i64 r) (X :: blk b0 (.cells (List.toArray [(.int .i64 p0.Model), (.bool p0.Alt), (.int .i64 p0.Size.Rows), (.int .i64 p0.Size.Cols), (SV.val s0), (.int .i64 p0.Cursor)]) 41 (0, 0)) :: slO s0 48 en_Vapi_Cell p0.L :: R)) := by
  refine tri_of (fn := Try.f17) (N := 11) Try.func17 rfl rfl rfl ?_
  intro R K hk
  unfold m_vitrineref12_Wrap at h
  change GC _ none _ [] [(0, (.pointer (some ⟨b0, 0, none⟩))), (1, (.int .i64 p1))] (X :: blk b0 (.cells (List.toArray [(.int .i64 p0.Model), (.bool p0.Alt), (.int .i64 p0.Size.Rows), (.int .i64 p0.Size.Cols), (SV.val s0), (.int .i64 p0.Cursor)]) 41 (0, 0)) :: slO s0 48 en_Vapi_Cell p0.L :: R) g _ _
  refine c_seq ?_
  refine c_region ?_
  refine o1 rfl (o_p rfl ?_)
  refine o_end ?_
  refine e_seq ?_
  refine c_seq ?_
  refine c_region ?_
  refine o1 rfl (o_p rfl ?_)
  refine o1 rfl (o_p rfl ?_)
  refine o1 rfl (o_fa (fd := ⟨ "Size", 38, 2, false, "", "", 16⟩) rfl rfl rfl rfl rfl ?_)
  refine o1 rfl (o_ld (b := b0) (off := 2) (v := (.agg (List.toArray [(.int .i64 p0.Size.Rows), (.int .i64 p0.Size.Cols)]))) rfl rm1 rfl rfl ?_)
  refine o1 rfl (o_p rfl ?_)
  replace h := bsome h
  obtain ⟨d1, h1, h⟩ := h
  refine o1 rfl (o_call has54 rfl (c_vitrineref04_Wrap X p0.Size p1 _ h1) (pc rm0 pn) ?_)
  refine o1 rfl (o_p rfl ?_)
  refine o_end ?_
  refine e_seq ?_
  refine c_ret ?_
  refine e_ret ?_
  refine r_endt rfl rfl (kc rm0 (kc rm0 (kc rm0 kr))) ?_
  have hr := Option.some.inj h
  subst hr
  exact hk

theorem c_vitrineref12_At {g : Gw} (X : HP) (p0 : Vvitrineref12_Space) (b0 : Nat) (s0 : SV) (p1 : Int) (r : Vapi_Cell) (h : m_vitrineref12_At p0 p1 = some r) : Tri env g 42 (List.toArray [(.pointer (some ⟨b0, 0, none⟩)), (.int .i64 p1)]) [X, blk b0 (.cells (List.toArray [(.int .i64 p0.Model), (.bool p0.Alt), (.int .i64 p0.Size.Rows), (.int .i64 p0.Size.Cols), (SV.val s0), (.int .i64 p0.Cursor)]) 41 (0, 0)), slO s0 48 en_Vapi_Cell p0.L] (fun K R => K (.agg (List.toArray [(.int .u8 r.Char), (.bool r.Attr), (.int .u8 r.FA), (.int .u8 r.High), (.int .u8 r.Color), (.int .u8 r.f_Set)])) (X :: blk b0 (.cells (List.toArray [(.int .i64 p0.Model), (.bool p0.Alt), (.int .i64 p0.Size.Rows), (.int .i64 p0.Size.Cols), (SV.val s0), (.int .i64 p0.Cursor)]) 41 (0, 0)) :: slO s0 48 en_Vapi_Cell p0.L :: R)) := by
  refine tri_of (fn := Try.f42) (N := 14) Try.func42 rfl rfl rfl ?_
  intro R K hk
  unfold m_vitrineref12_At at h
  change GC _ none _ [] [(0, (.pointer (some ⟨b0, 0, none⟩))), (1, (.int .i64 p1))] (X :: blk b0 (.cells (List.toArray [(.int .i64 p0.Model), (.bool p0.Alt), (.int .i64 p0.Size.Rows), (.int .i64 p0.Size.Cols), (SV.val s0), (.int .i64 p0.Cursor)]) 41 (0, 0)) :: slO s0 48 en_Vapi_Cell p0.L :: R) g _ _
  refine c_seq ?_
  refine c_region ?_
  refine o1 rfl (o_alloc (cs := [(.int .u8 0), (.bool false), (.int .u8 0), (.int .u8 0), (.int .u8 0), (.int .u8 0)]) rfl rfl (fun b1297 => ?_))
  refine o_end ?_
  refine e_seq ?_
  refine c_seq ?_
  refine c_draw (n := 2) (q := [(0, 5, (.pointer (some ⟨b0, 0, none⟩))), (1, 6, (.pointer (some ⟨b0, 0, none⟩))), (2, 7, (.pointer (some ⟨b0, 4, none⟩))), (3, 8, (SV.val s0)), (4, 9, (.pointer (some ⟨b0, 0, none⟩))), (5, 10, (.int .i64 p1))]) (pend := [0, 1, 2, 3, 4, 5]) rfl rfl rfl ?_
  replace h := bsome h
  obtain ⟨d2, h2, h⟩ := h
  refine ⟨⟨fun _ => ⟨rfl, rfl, rfl, .inl ⟨rfl, (o_p rfl ⟨rfl, rfl⟩)⟩⟩, fun _ => ⟨rfl, rfl, rfl, .inl ⟨rfl, (o_p rfl ⟨rfl, rfl⟩)⟩⟩, fun _ => ⟨rfl, rfl, rfl, .inl ⟨rfl, (o_fa (fd := ⟨ "L", 39, 4, false, "", "", 32⟩) rfl rfl rfl rfl rfl ⟨rfl, rfl⟩)⟩⟩, fun _ => ⟨rfl, rfl, rfl, .inl ⟨rfl, (o_ld (b := b0) (off := 4) (v := (SV.val s0)) rfl rm2 rfl rfl ⟨rfl, rfl⟩)⟩⟩, fun _ => ⟨rfl, rfl, rfl, .inl ⟨rfl, (o_p rfl ⟨rfl, rfl⟩)⟩⟩, fun _ => ⟨rfl, rfl, rfl, .inl ⟨rfl, (o_p rfl ⟨rfl, rfl⟩)⟩⟩, trivial⟩, rfl, .inr ⟨[6], rfl, rfl, ⟨rfl, .inl rfl, ?_⟩, trivial⟩⟩
  refine (o_call has17 rfl (c_vitrineref12_Wrap X p0 b0 s0 p1 _ h2) (pc rm1 (pc rm1 (pc rm1 pn))) ?_)
  replace h := gsome h
  obtain ⟨hg1299, h⟩ := h
  refine ⟨[(7, 12, (.pointer (some ⟨SV.blk s0, SV.off s0 + Int.toNat d2 * 6, none⟩))), (8, 13, (.agg (List.toArray [(.int .u8 ((rd p0.L d2).Char)), (.bool ((rd p0.L d2).Attr)), (.int .u8 ((rd p0.L d2).FA)), (.int .u8 ((rd p0.L d2).High)), (.int .u8 ((rd p0.L d2).Color)), (.int .u8 ((rd p0.L d2).f_Set))])))], [0, 1, 2, 3, 7, 8], rfl, rfl, rfl, rfl, ?_⟩
  refine ⟨⟨fun _ => ⟨rfl, rfl, rfl, .inl ⟨rfl, (o_ix (s := s0) (n := d2) (e := en_Vapi_Cell) rfl rfl rfl rfl rfl rfl rm2 (rd_own _ _ _ _) hg1299 ⟨rfl, rfl⟩)⟩⟩, fun _ => ⟨rfl, rfl, rfl, .inl ⟨rfl, (o_ldE (s := s0) (e := en_Vapi_Cell) (n := d2) (f := 0) (v := (.agg (List.toArray [(.int .u8 ((rd p0.L d2).Char)), (.bool ((rd p0.L d2).Attr)), (.int .u8 ((rd p0.L d2).FA)), (.int .u8 ((rd p0.L d2).High)), (.int .u8 ((rd p0.L d2).Color)), (.int .u8 ((rd p0.L d2).f_Set))]))) rfl rm2 (rd_own _ _ _ _) hg1299 rfl rfl ⟨rfl, rfl⟩)⟩⟩, fun _ => ⟨rfl, rfl, rfl, .inl ⟨rfl, (o_p rfl ⟨rfl, rfl⟩)⟩⟩, fun _ => ⟨rfl, rfl, rfl, .inl ⟨rfl, (o_p rfl ⟨rfl, rfl⟩)⟩⟩, fun _ => ⟨rfl, rfl, rfl, .inl ⟨rfl, (o_fa (fd := ⟨ "L", 39, 4, false, "", "", 32⟩) rfl rfl rfl rfl rfl ⟨rfl, rfl⟩)⟩⟩, fun _ => ⟨rfl, rfl, rfl, .inl ⟨rfl, (o_ld (b := b0) (off := 4) (v := (SV.val s0)) rfl rm1 rfl rfl ⟨rfl, rfl⟩)⟩⟩, (fun h => nomatch h), (fun h => nomatch h), trivial⟩, rfl, .inr ⟨[9], rfl, rfl, ⟨rfl, .inl rfl, ?_⟩, trivial⟩⟩
  refine (o_st (b := b1297) (off := 0) (vs := [(.int .u8 ((rd p0.L d2).Char)), (.bool ((rd p0.L d2).Attr)), (.int .u8 ((rd p0.L d2).FA)), (.int .u8 ((rd p0.L d2).High)), (.int .u8 ((rd p0.L d2).Color)), (.int .u8 ((rd p0.L d2).f_Set))]) (cs' := [(.int .u8 ((rd p0.L d2).Char)), (.bool ((rd p0.L d2).Attr)), (.int .u8 ((rd p0.L d2).FA)), (.int .u8 ((rd p0.L d2).High)), (.int .u8 ((rd p0.L d2).Color)), (.int .u8 ((rd p0.L d2).f_Set))]) rfl rfl rp3 rfl rfl rfl rfl rfl rfl ?_)
  refine ⟨[], [], rfl, rfl, ?_⟩
  refine ⟨⟨(fun h => nomatch h), (fun h => nomatch h), (fun h => nomatch h), (fun h => nomatch h), (fun h => nomatch h), (fun h => nomatch h), (fun h => nomatch h), (fun h => nomatch h), trivial⟩, rfl, rfl, rfl, ?_⟩
  refine e_seq ?_
  refine c_ret ?_
  refine e_ret ?_
  refine r_endc (B := [[(.int .u8 ((rd p0.L d2).Char)), (.bool ((rd p0.L d2).Attr)), (.int .u8 ((rd p0.L d2).FA)), (.int .u8 ((rd p0.L d2).High)), (.int .u8 ((rd p0.L d2).Color)), (.int .u8 ((rd p0.L d2).f_Set))]]) rfl ⟨⟨_, _, _, _, rfl, rm3⟩, trivial⟩ rfl (kc rm0 (kc rm0 (kc rm0 (kd kr)))) ?_
  have hr := Option.some.inj h
  subst hr
  exact hk

theorem c_vitrineref05_Of {g : Gw} (X : HP) (p0 : Int) (r : Vvitrineref05_Field) (h : m_vitrineref05_Of p0 = some r) : Tri env g 53 (List.toArray [(.int .u8 p0)]) [X] (fun K R => K (.agg (List.toArray [(.bool r.Protected), (.bool r.Numeric), (.int .i64 r.Display), (.bool r.Modified)])) (X :: R)) := by
  refine tri_of (fn := Try.f53) (N := 20) Try.func53 rfl rfl rfl ?_
  intro R K hk
  unfold m_vitrineref05_Of at h
  change GC _ none _ [] [(0, (.int .u8 p0))] (X :: R) g _ _
  refine c_seq ?_
  refine c_region ?_
  refine o1 rfl (o_alloc (cs := [(.bool false), (.bool false), (.int .i64 0), (.bool false)]) rfl rfl (fun b1310 => ?_))
  refine o_end ?_
  refine e_seq ?_
  refine c_seq ?_
  refine c_region ?_
  refine o1 rfl (o_p rfl ?_)
  refine o1 rfl (o_p (v := (.int .i64 (w64 (p0)))) rfl ?_)
  refine o1 rfl (o_rem (m := w64 (p0)) (n := 64) rfl rfl (by decide) ?_)
  refine o1 rfl (o_p rfl ?_)
  refine o_end ?_
  refine e_seq ?_
  refine c_seq ?_
  refine c_region ?_
  refine o1 rfl (o_p rfl ?_)
  refine o1 rfl (o_p (v := (.bool (decide ((Int.tmod (w64 (p0)) 64) ≥ 32)))) rfl ?_)
  refine o1 rfl (o_p rfl ?_)
  refine o1 rfl (o_quo (m := Int.tmod (w64 (p0)) 64) (n := 16) rfl rfl (by decide) ?_)
  refine o1 rfl (o_rem (m := w64 (Int.tdiv (Int.tmod (w64 (p0)) 64) 16)) (n := 2) rfl rfl (by decide) ?_)
  refine o1 rfl (o_p (v := (.bool ((Int.tmod (w64 (Int.tdiv (Int.tmod (w64 (p0)) 64) 16)) 2) == 1))) rfl ?_)
  refine o1 rfl (o_p rfl ?_)
  refine o1 rfl (o_quo (m := Int.tmod (w64 (p0)) 64) (n := 4) rfl rfl (by decide) ?_)
  refine o1 rfl (o_rem (m := w64 (Int.tdiv (Int.tmod (w64 (p0)) 64) 4)) (n := 4) rfl rfl (by decide) ?_)
  refine o1 rfl (o_p rfl ?_)
  refine o1 rfl (o_rem (m := Int.tmod (w64 (p0)) 64) (n := 2) rfl rfl (by decide) ?_)
  refine o1 rfl (o_p (v := (.bool ((Int.tmod (Int.tmod (w64 (p0)) 64) 2) == 1))) rfl ?_)
  refine o1 rfl (o_build (fs := [⟨ "Protected", 4, 0, false, "", "", 0⟩, ⟨ "Numeric", 4, 1, false, "", "", 1⟩, ⟨ "Display", 3, 2, false, "", "", 8⟩, ⟨ "Modified", 4, 3, false, "", "", 16⟩]) (ps := [(0, 1), (1, 1), (2, 1), (3, 1)]) (cs := [(.bool (decide ((Int.tmod (w64 (p0)) 64) ≥ 32))), (.bool ((Int.tmod (w64 (Int.tdiv (Int.tmod (w64 (p0)) 64) 16)) 2) == 1)), (.int .i64 (Int.tmod (w64 (Int.tdiv (Int.tmod (w64 (p0)) 64) 4)) 4)), (.bool ((Int.tmod (Int.tmod (w64 (p0)) 64) 2) == 1))]) rfl rfl rfl rfl rfl ?_)
  refine o0 (o_st (b := b1310) (off := 0) (vs := [(.bool (decide ((Int.tmod (w64 (p0)) 64) ≥ 32))), (.bool ((Int.tmod (w64 (Int.tdiv (Int.tmod (w64 (p0)) 64) 16)) 2) == 1)), (.int .i64 (Int.tmod (w64 (Int.tdiv (Int.tmod (w64 (p0)) 64) 4)) 4)), (.bool ((Int.tmod (Int.tmod (w64 (p0)) 64) 2) == 1))]) (cs' := [(.bool (decide ((Int.tmod (w64 (p0)) 64) ≥ 32))), (.bool ((Int.tmod (w64 (Int.tdiv (Int.tmod (w64 (p0)) 64) 16)) 2) == 1)), (.int .i64 (Int.tmod (w64 (Int.tdiv (Int.tmod (w64 (p0)) 64) 4)) 4)), (.bool ((Int.tmod (Int.tmod (w64 (p0)) 64) 2) == 1))]) rfl rfl rp0 rfl rfl rfl rfl rfl rfl ?_)
  refine o_end ?_
  refine e_seq ?_
  refine c_ret ?_
  refine e_ret ?_
  refine r_endc (B := [[(.bool (decide ((Int.tmod (w64 (p0)) 64) ≥ 32))), (.bool ((Int.tmod (w64 (Int.tdiv (Int.tmod (w64 (p0)) 64) 16)) 2) == 1)), (.int .i64 (Int.tmod (w64 (Int.tdiv (Int.tmod (w64 (p0)) 64) 4)) 4)), (.bool ((Int.tmod (Int.tmod (w64 (p0)) 64) 2) == 1))]]) rfl ⟨⟨_, _, _, _, rfl, rm0⟩, trivial⟩ rfl (kc rm1 (kd kr)) ?_
  have hr := Option.some.inj h
  subst hr
  exact hk

theorem c_vitrineref05_Bits {g : Gw} (X : HP) (p0 : Vvitrineref05_Field) (r : Int × Int) (h : m_vitrineref05_Bits p0 = some r) : Tri env g 144 (List.toArray [(.agg (List.toArray [(.bool p0.Protected), (.bool p0.Numeric), (.int .i64 p0.Display), (.bool p0.Modified)]))]) [X] (fun K R => K (.tuple (List.toArray [(.int .u8 r.1), (.int .i64 r.2)])) (X :: R)) := by
  refine tri_of (fn := Try.f144) (N := 30) Try.func144 rfl rfl rfl ?_
  intro R K hk
  unfold m_vitrineref05_Bits at h
  change GC _ none _ [] [(0, (.agg (List.toArray [(.bool p0.Protected), (.bool p0.Numeric), (.int .i64 p0.Display), (.bool p0.Modified)])))] (X :: R) g _ _
  refine c_seq ?_
  refine c_region ?_
  refine o1 rfl (o_box (cs := [(.bool p0.Protected), (.bool p0.Numeric), (.int .i64 p0.Display), (.bool p0.Modified)]) rfl rfl (fun b1312 => ?_))
  refine o1 rfl (o_p rfl ?_)
  refine o1 rfl (o_p rfl ?_)
  refine o_end ?_
  refine e_seq ?_
  refine c_seq ?_
  refine c_seq ?_
  replace h := bsome h
  obtain ⟨d1, h, hk1⟩ := h
  refine cj (D := Unit) (ι := Unit) (fun _ i1 => True) (fun _ i1 => [(12, (.bool d1)), (1, (.pointer (some ⟨b1312, 0, none⟩)))]) (fun _ i1 => X :: blk b1312 (.cells (List.toArray [(.bool p0.Protected), (.bool p0.Numeric), (.int .i64 p0.Display), (.bool p0.Modified)]) 43 (0, 0)) :: R) ?_ ?_
  · refine c_region ?_
    refine o1 rfl (o_fa (fd := ⟨ "Display", 3, 2, false, "", "", 8⟩) rfl rfl rfl rfl rfl ?_)
    refine o1 rfl (o_ld (b := b1312) (off := 2) (v := (.int .i64 p0.Display)) rfl rm0 rfl rfl ?_)
    refine o1 rfl (o_p (v := (.bool (decide (p0.Display < 0)))) rfl ?_)
    refine o1 rfl (o_p rfl ?_)
    rcases bool_or ((decide (p0.Display < 0))) with hb1314 | hb1314
    · replace h := cond_t hb1314 h
      refine on rfl rfl rfl hb1314 ?_
      refine on rfl rfl rfl hb1314 ?_
      refine on rfl rfl rfl hb1314 ?_
      refine o1 rfl (o_pick_t rfl hb1314 rfl ?_)
      refine o_end ?_
      have hd := Option.some.inj h
      subst hd
      exact ej () () trivial (sc rfl (sc rfl sn)) (kc rm1 (kc rm0 kr))
    · replace h := cond_f hb1314 h
      refine oy rfl rfl rfl hb1314 (o_fa (fd := ⟨ "Display", 3, 2, false, "", "", 8⟩) rfl rfl rfl rfl rfl ?_)
      refine oy rfl rfl rfl hb1314 (o_ld (b := b1312) (off := 2) (v := (.int .i64 p0.Display)) rfl rm0 rfl rfl ?_)
      refine oy rfl rfl rfl hb1314 (o_p (v := (.bool (decide (p0.Display > 3)))) rfl ?_)
      refine o1 rfl (o_pick_f rfl hb1314 rfl ?_)
      refine o_end ?_
      have hd := Option.some.inj h
      subst hd
      exact ej () () trivial (sc rfl (sc rfl sn)) (kc rm1 (kc rm0 kr))
  · rintro _ i1 _
    replace h := hk1
    clear hk1
    refine e_seq ?_
    refine c_cond (b := d1) rfl (fun hb1315 => ?_) (fun hb1315 => ?_)
    · replace h := cond_t hb1315 h
      refine c_seq ?_
      refine c_region ?_
      refine o1 rfl (o_p rfl ?_)
      refine o1 rfl (o_p rfl ?_)
      refine o_end ?_
      refine e_seq ?_
      refine c_ret ?_
      refine e_then_ret ?_
      refine e_ret ?_
      refine r_endt rfl rfl (kc rm0 (kd kr)) ?_
      have hr := Option.some.inj h
      subst hr
      exact hk
    · replace h := cond_f hb1315 h
      refine c_skip ?_
      refine e_seq ?_
      refine c_seq ?_
      refine c_region ?_
      refine o1 rfl (o_fa (fd := ⟨ "Display", 3, 2, false, "", "", 8⟩) rfl rfl rfl rfl rfl ?_)
      refine o1 rfl (o_ld (b := b1312) (off := 2) (v := (.int .i64 p0.Display)) rfl rm1 rfl rfl ?_)
      refine o1 rfl (o_p (v := (.int .i64 (w64 (4 * p0.Display)))) rfl ?_)
      refine o1 rfl (o_p rfl ?_)
      refine o_end ?_
      refine e_seq ?_
      refine c_seq ?_
      refine c_seq ?_
      refine c_region ?_
      refine o1 rfl (o_fa (fd := ⟨ "Protected", 4, 0, false, "", "", 0⟩) rfl rfl rfl rfl rfl ?_)
      refine o1 rfl (o_ld (b := b1312) (off := 0) (v := (.bool p0.Protected)) rfl rm1 rfl rfl ?_)
      refine o_end ?_
      refine e_seq ?_
      replace h := bsome h
      obtain ⟨d3, h, hk3⟩ := h
      refine cj (D := Unit) (ι := Unit) (fun _ i3 => True) (fun _ i3 => [(4, (.int .i64 d3)), (1, (.pointer (some ⟨b1312, 0, none⟩)))]) (fun _ i3 => X :: blk b1312 (.cells (List.toArray [(.bool p0.Protected), (.bool p0.Numeric), (.int .i64 p0.Display), (.bool p0.Modified)]) 43 (0, 0)) :: R) ?_ ?_
      · refine c_cond (b := p0.Protected) rfl (fun hb1316 => ?_) (fun hb1316 => ?_)
        · replace h := cond_t hb1316 h
          refine c_region ?_
          refine o1 rfl (o_p rfl ?_)
          refine o1 rfl (o_p (v := (.int .i64 (w64 ((w64 (4 * p0.Display)) + 32)))) rfl ?_)
          refine o1 rfl (o_p rfl ?_)
          refine o_end ?_
          have hd := Option.some.inj h
          subst hd
          exact ej () () trivial (sc rfl (sc rfl sn)) (kc rm0 (kc rm0 kr))
        · replace h := cond_f hb1316 h
          refine c_skip ?_
          have hd := Option.some.inj h
          subst hd
          exact ej () () trivial (sc rfl (sc rfl sn)) (kc rm0 (kc rm0 kr))
      · rintro _ i3 _
        replace h := hk3
        clear hk3
        refine e_seq ?_
        refine c_seq ?_
        refine c_seq ?_
        refine c_region ?_
        refine o1 rfl (o_fa (fd := ⟨ "Numeric", 4, 1, false, "", "", 1⟩) rfl rfl rfl rfl rfl ?_)
        refine o1 rfl (o_ld (b := b1312) (off := 1) (v := (.bool p0.Numeric)) rfl rm1 rfl rfl ?_)
        refine o_end ?_
        refine e_seq ?_
        replace h := bsome h
        obtain ⟨d4, h, hk4⟩ := h
        refine cj (D := Unit) (ι := Unit) (fun _ i4 => True) (fun _ i4 => [(4, (.int .i64 d4)), (1, (.pointer (some ⟨b1312, 0, none⟩)))]) (fun _ i4 => X :: blk b1312 (.cells (List.toArray [(.bool p0.Protected), (.bool p0.Numeric), (.int .i64 p0.Display), (.bool p0.Modified)]) 43 (0, 0)) :: R) ?_ ?_
        · refine c_cond (b := p0.Numeric) rfl (fun hb1317 => ?_) (fun hb1317 => ?_)
          · replace h := cond_t hb1317 h
            refine c_region ?_
            refine o1 rfl (o_p rfl ?_)
            refine o1 rfl (o_p (v := (.int .i64 (w64 (d3 + 16)))) rfl ?_)
            refine o1 rfl (o_p rfl ?_)
            refine o_end ?_
            have hd := Option.some.inj h
            subst hd
            exact ej () () trivial (sc rfl (sc rfl sn)) (kc rm0 (kc rm0 kr))
          · replace h := cond_f hb1317 h
            refine c_skip ?_
            have hd := Option.some.inj h
            subst hd
            exact ej () () trivial (sc rfl (sc rfl sn)) (kc rm0 (kc rm0 kr))
        · rintro _ i4 _
          replace h := hk4
          clear hk4
          refine e_seq ?_
          refine c_seq ?_
          refine c_seq ?_
          refine c_region ?_
          refine o1 rfl (o_fa (fd := ⟨ "Modified", 4, 3, false, "", "", 16⟩) rfl rfl rfl rfl rfl ?_)
          refine o1 rfl (o_ld (b := b1312) (off := 3) (v := (.bool p0.Modified)) rfl rm1 rfl rfl ?_)
          refine o_end ?_
          refine e_seq ?_
          replace h := bsome h
          obtain ⟨d5, h, hk5⟩ := h
          refine cj (D := Unit) (ι := Unit) (fun _ i5 => True) (fun _ i5 => [(4, (.int .i64 d5))]) (fun _ i5 => X :: R) ?_ ?_
          · refine c_cond (b := p0.Modified) rfl (fun hb1318 => ?_) (fun hb1318 => ?_)
            · replace h := cond_t hb1318 h
              refine c_region ?_
              refine o1 rfl (o_p rfl ?_)
              refine o1 rfl (o_p (v := (.int .i64 (w64 (d4 + 1)))) rfl ?_)
              refine o1 rfl (o_p rfl ?_)
              refine o_end ?_
              have hd := Option.some.inj h
              subst hd
              exact ej () () trivial (sc rfl sn) (kc rm0 (kd kr))
            · replace h := cond_f hb1318 h
              refine c_skip ?_
              have hd := Option.some.inj h
              subst hd
              exact ej () () trivial (sc rfl sn) (kc rm0 (kd kr))
          · rintro _ i5 _
            replace h := hk5
            clear hk5
            refine e_seq ?_
            refine c_seq ?_
            refine c_region ?_
            refine o1 rfl (o_p rfl ?_)
            refine o1 rfl (o_p (v := (.int .u8 (IntKind.wrap .u8 (d5)))) rfl ?_)
            refine o1 rfl (o_p rfl ?_)
            refine o1 rfl (o_p rfl ?_)
            refine o_end ?_
            refine e_seq ?_
            refine c_ret ?_
            refine e_ret ?_
            refine r_endt rfl rfl (kc rm0 kr) ?_
            have hr := Option.some.inj h
            subst hr
            exact hk

theorem c_vitrineref05_Six {g : Gw} (X : HP) (p0 : Int) (r : Int) (h : m_vitrineref05_Six p0 = some r) : Tri env g 133 (List.toArray [(.int .u8 p0)]) [X] (fun K R => K (.int .u8 r) (X :: R)) := by
  refine tri_of (fn := Try.f133) (N := 12) Try.func133 rfl rfl rfl ?_
  intro R K hk
  unfold m_vitrineref05_Six at h
  change GC _ none _ [] [(0, (.int .u8 p0))] (X :: R) g _ _
  refine c_seq ?_
  refine c_region ?_
  refine o1 rfl (o_p rfl ?_)
  refine o_end ?_
  refine e_seq ?_
  refine c_seq ?_
  refine c_region ?_
  refine o1 rfl (o_p rfl ?_)
  replace h := bsome h
  obtain ⟨d1, h1, h⟩ := h
  refine o1 rfl (o_call has53 rfl (c_vitrineref05_Of X p0 _ h1) (pc rm0 pn) ?_)
  replace h := bsome h
  obtain ⟨d2, h2, h⟩ := h
  refine o1 rfl (o_call has144 rfl (c_vitrineref05_Bits X d1 _ h2) (pc rm0 pn) ?_)
  refine o1 rfl (o_p rfl ?_)
  refine o1 rfl (o_p rfl ?_)
  refine o1 rfl (o_p rfl ?_)
  refine o1 rfl (o_p rfl ?_)
  refine o1 rfl (o_p rfl ?_)
  refine o_end ?_
  refine e_seq ?_
  refine c_seq ?_
  refine c_region ?_
  refine o1 rfl (o_p rfl ?_)
  refine o1 rfl (o_p rfl ?_)
  refine o_end ?_
  refine e_seq ?_
  refine c_ret ?_
  refine e_ret ?_
  refine r_endt rfl rfl (kc rm0 kr) ?_
  have hr := Option.some.inj h
  subst hr
  exact hk

theorem c_vitrineref12_Fit {g : Gw} (X : HP) (p0 : Vapi_Cell) (r : Vapi_Cell) (h : m_vitrineref12_Fit p0 = some r) : Tri env g 109 (List.toArray [(.agg (List.toArray [(.int .u8 p0.Char), (.bool p0.Attr), (.int .u8 p0.FA), (.int .u8 p0.High), (.int .u8 p0.Color), (.int .u8 p0.f_Set)]))]) [X] (fun K R => K (.agg (List.toArray [(.int .u8 r.Char), (.bool r.Attr), (.int .u8 r.FA), (.int .u8 r.High), (.int .u8 r.Color), (.int .u8 r.f_Set)])) (X :: R)) := by
  refine tri_of (fn := Try.f109) (N := 12) Try.func109 rfl rfl rfl ?_
  intro R K hk
  unfold m_vitrineref12_Fit at h
  change GC _ none _ [] [(0, (.agg (List.toArray [(.int .u8 p0.Char), (.bool p0.Attr), (.int .u8 p0.FA), (.int .u8 p0.High), (.int .u8 p0.Color), (.int .u8 p0.f_Set)])))] (X :: R) g _ _
  refine c_seq ?_
  refine c_region ?_
  refine o1 rfl (o_box (cs := [(.int .u8 p0.Char), (.bool p0.Attr), (.int .u8 p0.FA), (.int .u8 p0.High), (.int .u8 p0.Color), (.int .u8 p0.f_Set)]) rfl rfl (fun b1305 => ?_))
  refine o1 rfl (o_alloc (cs := [(.int .u8 0), (.bool false), (.int .u8 0), (.int .u8 0), (.int .u8 0), (.int .u8 0)]) rfl rfl (fun b1307 => ?_))
  refine o_end ?_
  refine e_seq ?_
  refine c_seq ?_
  refine c_seq ?_
  refine c_region ?_
  refine o1 rfl (o_fa (fd := ⟨ "Attr", 4, 1, false, "", "", 1⟩) rfl rfl rfl rfl rfl ?_)
  refine o1 rfl (o_ld (b := b1305) (off := 1) (v := (.bool p0.Attr)) rfl rm1 rfl rfl ?_)
  refine o_end ?_
  refine e_seq ?_
  replace h := bsome h
  obtain ⟨d1, h, hk1⟩ := h
  refine cj (D := Unit) (ι := Unit) (fun _ i1 => True) (fun _ i1 => [(2, (.pointer (some ⟨b1307, 0, none⟩))), (1, (.pointer (some ⟨b1305, 0, none⟩)))]) (fun _ i1 => X :: blk b1307 (.cells (List.toArray [(.int .u8 0), (.bool false), (.int .u8 0), (.int .u8 0), (.int .u8 0), (.int .u8 0)]) 48 (0, 0)) :: blk b1305 (.cells (List.toArray [(.int .u8 d1.1), (.bool p0.Attr), (.int .u8 d1.2), (.int .u8 p0.High), (.int .u8 p0.Color), (.int .u8 p0.f_Set)]) 48 (0, 0)) :: R) ?_ ?_
  · refine c_cond (b := p0.Attr) rfl (fun hb1309 => ?_) (fun hb1309 => ?_)
    · replace h := cond_t hb1309 h
      refine c_region ?_
      refine o1 rfl (o_fa (fd := ⟨ "FA", 5, 2, false, "", "", 2⟩) rfl rfl rfl rfl rfl ?_)
      refine o1 rfl (o_ld (b := b1305) (off := 2) (v := (.int .u8 p0.FA)) rfl rm1 rfl rfl ?_)
      replace h := bsome h
      obtain ⟨d2, h2, h⟩ := h
      refine o1 rfl (o_call has133 rfl (c_vitrineref05_Six X p0.FA _ h2) (pc rm2 pn) ?_)
      refine o1 rfl (o_fa (fd := ⟨ "Char", 5, 0, false, "", "", 0⟩) rfl rfl rfl rfl rfl ?_)
      refine o0 (o_st (b := b1305) (off := 0) (vs := [(.int .u8 0)]) (cs' := [(.int .u8 0), (.bool p0.Attr), (.int .u8 p0.FA), (.int .u8 p0.High), (.int .u8 p0.Color), (.int .u8 p0.f_Set)]) rfl rfl rp2 rfl rfl rfl rfl rfl rfl ?_)
      refine o1 rfl (o_fa (fd := ⟨ "FA", 5, 2, false, "", "", 2⟩) rfl rfl rfl rfl rfl ?_)
      refine o0 (o_st (b := b1305) (off := 2) (vs := [(.int .u8 d2)]) (cs' := [(.int .u8 0), (.bool p0.Attr), (.int .u8 d2), (.int .u8 p0.High), (.int .u8 p0.Color), (.int .u8 p0.f_Set)]) rfl rfl rp2 rfl rfl rfl rfl rfl rfl ?_)
      refine o_end ?_
      have hd := Option.some.inj h
      subst hd
      exact ej () () trivial (sc rfl (sc rfl sn)) (kc rm0 (kc rm0 (kc rm0 kr)))
    · replace h := cond_f hb1309 h
      refine c_region ?_
      refine o1 rfl (o_fa (fd := ⟨ "FA", 5, 2, false, "", "", 2⟩) rfl rfl rfl rfl rfl ?_)
      refine o0 (o_st (b := b1305) (off := 2) (vs := [(.int .u8 0)]) (cs' := [(.int .u8 p0.Char), (.bool p0.Attr), (.int .u8 0), (.int .u8 p0.High), (.int .u8 p0.Color), (.int .u8 p0.f_Set)]) rfl rfl rp1 rfl rfl rfl rfl rfl rfl ?_)
      refine o_end ?_
      have hd := Option.some.inj h
      subst hd
      exact ej () () trivial (sc rfl (sc rfl sn)) (kc rm2 (kc rm0 (kc rm0 kr)))
  · rintro _ i1 _
    replace h := hk1
    clear hk1
    refine e_seq ?_
    refine c_seq ?_
    refine c_region ?_
    refine o1 rfl (o_ld (b := b1305) (off := 0) (v := (.agg (List.toArray [(.int .u8 d1.1), (.bool p0.Attr), (.int .u8 d1.2), (.int .u8 p0.High), (.int .u8 p0.Color), (.int .u8 p0.f_Set)]))) rfl rm2 rfl rfl ?_)
    refine o0 (o_st (b := b1307) (off := 0) (vs := [(.int .u8 d1.1), (.bool p0.Attr), (.int .u8 d1.2), (.int .u8 p0.High), (.int .u8 p0.Color), (.int .u8 p0.f_Set)]) (cs' := [(.int .u8 d1.1), (.bool p0.Attr), (.int .u8 d1.2), (.int .u8 p0.High), (.int .u8 p0.Color), (.int .u8 p0.f_Set)]) rfl rfl rp1 rfl rfl rfl rfl rfl rfl ?_)
    refine o_end ?_
    refine e_seq ?_
    refine c_ret ?_
    refine e_ret ?_
    refine r_endc (B := [[(.int .u8 d1.1), (.bool p0.Attr), (.int .u8 d1.2), (.int .u8 p0.High), (.int .u8 p0.Color), (.int .u8 p0.f_Set)]]) rfl ⟨⟨_, _, _, _, rfl, rm1⟩, trivial⟩ rfl (kc rm0 (kd (kd kr))) ?_
    have hr := Option.some.inj h
    subst hr
    exact hk

theorem c_vitrineref12_Set {g : Gw} (X : HP) (p0 : Vvitrineref12_Space) (b0 : Nat) (s0 : SV) (p1 : Int) (p2 : Vapi_Cell) (r : Vvitrineref12_Space) (h : m_vitrineref12_Set p0 p1 p2 = some r) : Tri env g 82 (List.toArray [(.pointer (some ⟨b0, 0, none⟩)), (.int .i64 p1), (.agg (List.toArray [(.int .u8 p2.Char), (.bool p2.Attr), (.int .u8 p2.FA), (.int .u8 p2.High), (.int .u8 p2.Color), (.int .u8 p2.f_Set)]))]) [X, blk b0 (.cells (List.toArray [(.int .i64 p0.Model), (.bool p0.Alt), (.int .i64 p0.Size.Rows), (.int .i64 p0.Size.Cols), (SV.val s0), (.int .i64 p0.Cursor)]) 41 (0, 0)), slO s0 48 en_Vapi_Cell p0.L] (fun K R => K (.tuple (List.toArray [])) (X :: blk b0 (.cells (List.toArray [(.int .i64 r.Model), (.bool r.Alt), (.int .i64 r.Size.Rows), (.int .i64 r.Size.Cols), (SV.val s0), (.int .i64 r.Cursor)]) 41 (0, 0)) :: slO s0 48 en_Vapi_Cell r.L :: R)) := by
  refine tri_of (fn := Try.f82) (N := 16) Try.func82 rfl rfl rfl ?_
  intro R K hk
  unfold m_vitrineref12_Set at h
  change GC _ none _ [] [(0, (.pointer (some ⟨b0, 0, none⟩))), (1, (.int .i64 p1)), (2, (.agg (List.toArray [(.int .u8 p2.Char), (.bool p2.Attr), (.int .u8 p2.FA), (.int .u8 p2.High), (.int .u8 p2.Color), (.int .u8 p2.f_Set)])))] (X :: blk b0 (.cells (List.toArray [(.int .i64 p0.Model), (.bool p0.Alt), (.int .i64 p0.Size.Rows), (.int .i64 p0.Size.Cols), (SV.val s0), (.int .i64 p0.Cursor)]) 41 (0, 0)) :: slO s0 48 en_Vapi_Cell p0.L :: R) g _ _
  refine c_seq ?_
  refine c_region ?_
  refine o1 rfl (o_box (cs := [(.int .u8 p2.Char), (.bool p2.Attr), (.int .u8 p2.FA), (.int .u8 p2.High), (.int .u8 p2.Color), (.int .u8 p2.f_Set)]) rfl rfl (fun b1303 => ?_))
  refine o_end ?_
  refine e_seq ?_
  refine c_draw (n := 3) (q := [(0, 6, (.pointer (some ⟨b0, 0, none⟩))), (1, 7, (.pointer (some ⟨b0, 0, none⟩))), (2, 8, (.pointer (some ⟨b0, 4, none⟩))), (3, 9, (SV.val s0)), (4, 10, (.pointer (some ⟨b0, 0, none⟩))), (5, 11, (.int .i64 p1)), (7, 13, (.agg (List.toArray [(.int .u8 p2.Char), (.bool p2.Attr), (.int .u8 p2.FA), (.int .u8 p2.High), (.int .u8 p2.Color), (.int .u8 p2.f_Set)])))]) (pend := [0, 1, 2, 3, 4, 5, 7]) rfl rfl rfl ?_
  replace h := bsome h
  obtain ⟨d1, h1, h⟩ := h
  refine ⟨⟨fun _ => ⟨rfl, rfl, rfl, .inl ⟨rfl, (o_p rfl ⟨rfl, rfl⟩)⟩⟩, fun _ => ⟨rfl, rfl, rfl, .inl ⟨rfl, (o_p rfl ⟨rfl, rfl⟩)⟩⟩, fun _ => ⟨rfl, rfl, rfl, .inl ⟨rfl, (o_fa (fd := ⟨ "L", 39, 4, false, "", "", 32⟩) rfl rfl rfl rfl rfl ⟨rfl, rfl⟩)⟩⟩, fun _ => ⟨rfl, rfl, rfl, .inl ⟨rfl, (o_ld (b := b0) (off := 4) (v := (SV.val s0)) rfl rm2 rfl rfl ⟨rfl, rfl⟩)⟩⟩, fun _ => ⟨rfl, rfl, rfl, .inl ⟨rfl, (o_p rfl ⟨rfl, rfl⟩)⟩⟩, fun _ => ⟨rfl, rfl, rfl, .inl ⟨rfl, (o_p rfl ⟨rfl, rfl⟩)⟩⟩, fun _ => ⟨rfl, rfl, rfl, .inl ⟨rfl, (o_ld (b := b1303) (off := 0) (v := (.agg (List.toArray [(.int .u8 p2.Char), (.bool p2.Attr), (.int .u8 p2.FA), (.int .u8 p2.High), (.int .u8 p2.Color), (.int .u8 p2.f_Set)]))) rfl rm0 rfl rfl ⟨rfl, rfl⟩)⟩⟩, trivial⟩, rfl, .inr ⟨[6], rfl, rfl, ⟨rfl, .inl rfl, ?_⟩, trivial⟩⟩
  refine (o_call has17 rfl (c_vitrineref12_Wrap X p0 b0 s0 p1 _ h1) (pc rm1 (pc rm1 (pc rm1 pn))) ?_)
  refine ⟨[], [0, 1, 2, 3, 7], rfl, rfl, rfl, rfl, ?_⟩
  replace h := bsome h
  obtain ⟨d2, h2, h⟩ := h
  refine ⟨⟨fun _ => ⟨rfl, rfl, rfl, .inl ⟨rfl, (o_p rfl ⟨rfl, rfl⟩)⟩⟩, fun _ => ⟨rfl, rfl, rfl, .inl ⟨rfl, (o_p rfl ⟨rfl, rfl⟩)⟩⟩, fun _ => ⟨rfl, rfl, rfl, .inl ⟨rfl, (o_fa (fd := ⟨ "L", 39, 4, false, "", "", 32⟩) rfl rfl rfl rfl rfl ⟨rfl, rfl⟩)⟩⟩, fun _ => ⟨rfl, rfl, rfl, .inl ⟨rfl, (o_ld (b := b0) (off := 4) (v := (SV.val s0)) rfl rm1 rfl rfl ⟨rfl, rfl⟩)⟩⟩, (fun h => nomatch h), (fun h => nomatch h), fun _ => ⟨rfl, rfl, rfl, .inl ⟨rfl, (o_ld (b := b1303) (off := 0) (v := (.agg (List.toArray [(.int .u8 p2.Char), (.bool p2.Attr), (.int .u8 p2.FA), (.int .u8 p2.High), (.int .u8 p2.Color), (.int .u8 p2.f_Set)]))) rfl rm3 rfl rfl ⟨rfl, rfl⟩)⟩⟩, trivial⟩, rfl, .inr ⟨[8], rfl, rfl, ⟨rfl, .inl rfl, ?_⟩, trivial⟩⟩
  refine (o_call has109 rfl (c_vitrineref12_Fit X p2 _ h2) (pc rm0 pn) ?_)
  replace h := gsome h
  obtain ⟨hg1319, h⟩ := h
  refine ⟨[(9, 15, (.pointer (some ⟨SV.blk s0, SV.off s0 + Int.toNat d1 * 6, none⟩)))], [0, 1, 2, 3, 9], rfl, rfl, rfl, rfl, ?_⟩
  refine ⟨⟨fun _ => ⟨rfl, rfl, rfl, .inl ⟨rfl, (o_ix (s := s0) (n := d1) (e := en_Vapi_Cell) rfl rfl rfl rfl rfl rfl rm2 (rd_own _ _ _ _) hg1319 ⟨rfl, rfl⟩)⟩⟩, fun _ => ⟨rfl, rfl, rfl, .inl ⟨rfl, (o_p rfl ⟨rfl, rfl⟩)⟩⟩, fun _ => ⟨rfl, rfl, rfl, .inl ⟨rfl, (o_p rfl ⟨rfl, rfl⟩)⟩⟩, fun _ => ⟨rfl, rfl, rfl, .inl ⟨rfl, (o_fa (fd := ⟨ "L", 39, 4, false, "", "", 32⟩) rfl rfl rfl rfl rfl ⟨rfl, rfl⟩)⟩⟩, fun _ => ⟨rfl, rfl, rfl, .inl ⟨rfl, (o_ld (b := b0) (off := 4) (v := (SV.val s0)) rfl rm1 rfl rfl ⟨rfl, rfl⟩)⟩⟩, (fun h => nomatch h), (fun h => nomatch h), (fun h => nomatch h), trivial⟩, rfl, .inr ⟨[10], rfl, rfl, ⟨rfl, .inl rfl, ?_⟩, trivial⟩⟩
  refine (o_stE (s := s0) (e := en_Vapi_Cell) (n := d1) (f := 0) (vs := [(.int .u8 d2.Char), (.bool d2.Attr), (.int .u8 d2.FA), (.int .u8 d2.High), (.int .u8 d2.Color), (.int .u8 d2.f_Set)]) (u := d2) rfl rfl rp2 hg1319 rfl rfl rfl rfl rfl rfl ?_)
  refine ⟨[], [], rfl, rfl, ?_⟩
  refine ⟨⟨(fun h => nomatch h), (fun h => nomatch h), (fun h => nomatch h), (fun h => nomatch h), (fun h => nomatch h), (fun h => nomatch h), (fun h => nomatch h), (fun h => nomatch h), trivial⟩, rfl, rfl, rfl, ?_⟩
  refine e_fall ?_
  refine r_endt rfl rfl (kc rm0 (kc rm0 (kc rm0 (kd kr)))) ?_
  have hr := Option.some.inj h
  subst hr
  exact hk

theorem c_vitrineref12_Put {g : Gw} (X : HP) (p0 : Vvitrineref12_Space) (b0 : Nat) (s0 : SV) (p1 : Int) (p2 : Int) (r : Vvitrineref12_Space) (h : m_vitrineref12_Put p0 p1 p2 = some r) : Tri env g 81 (List.toArray [(.pointer (some ⟨b0, 0, none⟩)), (.int .i64 p1), (.int .u8 p2)]) [X, blk b0 (.cells (List.toArray [(.int .i64 p0.Model), (.bool p0.Alt), (.int .i64 p0.Size.Rows), (.int .i64 p0.Size.Cols), (SV.val s0), (.int .i64 p0.Cursor)]) 41 (0, 0)), slO s0 48 en_Vapi_Cell p0.L] (fun K R => K (.tuple (List.toArray [])) (X :: blk b0 (.cells (List.toArray [(.int .i64 r.Model), (.bool r.Alt), (.int .i64 r.Size.Rows), (.int .i64 r.Size.Cols), (SV.val s0), (.int .i64 r.Cursor)]) 41 (0, 0)) :: slO s0 48 en_Vapi_Cell r.L :: R)) := by
  refine tri_of (fn := Try.f81) (N := 19) Try.func81 rfl rfl rfl ?_
  intro R K hk
  unfold m_vitrineref12_Put at h
  change GC _ none _ [] [(0, (.pointer (some ⟨b0, 0, none⟩))), (1, (.int .i64 p1)), (2, (.int .u8 p2))] (X :: blk b0 (.cells (List.toArray [(.int .i64 p0.Model), (.bool p0.Alt), (.int .i64 p0.Size.Rows), (.int .i64 p0.Size.Cols), (SV.val s0), (.int .i64 p0.Cursor)]) 41 (0, 0)) :: slO s0 48 en_Vapi_Cell p0.L :: R) g _ _
  refine c_seq ?_
  refine c_region ?_
  refine o1 rfl (o_p rfl ?_)
  refine o1 rfl (o_p rfl ?_)
  replace h := bsome h
  obtain ⟨d1, h1, h⟩ := h
  refine o1 rfl (o_call has42 rfl (c_vitrineref12_At X p0 b0 s0 p1 _ h1) (pc rm0 (pc rm0 (pc rm0 pn))) ?_)
  refine o1 rfl (o_alloc (cs := [(.int .u8 0), (.bool false), (.int .u8 0), (.int .u8 0), (.int .u8 0), (.int .u8 0)]) rfl rfl (fun b1300 => ?_))
  refine o0 (o_st (b := b1300) (off := 0) (vs := [(.int .u8 d1.Char), (.bool d1.Attr), (.int .u8 d1.FA), (.int .u8 d1.High), (.int .u8 d1.Color), (.int .u8 d1.f_Set)]) (cs' := [(.int .u8 d1.Char), (.bool d1.Attr), (.int .u8 d1.FA), (.int .u8 d1.High), (.int .u8 d1.Color), (.int .u8 d1.f_Set)]) rfl rfl rp0 rfl rfl rfl rfl rfl rfl ?_)
  refine o_end ?_
  refine e_seq ?_
  refine c_seq ?_
  refine c_region ?_
  refine o1 rfl (o_fa (fd := ⟨ "Attr", 4, 1, false, "", "", 1⟩) rfl rfl rfl rfl rfl ?_)
  refine o1 rfl (o_ld (b := b1300) (off := 1) (v := (.bool d1.Attr)) rfl rm0 rfl rfl ?_)
  refine o1 rfl (o_p (v := (.bool (!d1.Attr))) rfl ?_)
  refine o_end ?_
  refine e_seq ?_
  refine c_cond (b := (!d1.Attr)) rfl (fun hb1302 => ?_) (fun hb1302 => ?_)
  · replace h := cond_t hb1302 h
    refine c_seq ?_
    refine c_region ?_
    refine o1 rfl (o_p rfl ?_)
    refine o1 rfl (o_fa (fd := ⟨ "Char", 5, 0, false, "", "", 0⟩) rfl rfl rfl rfl rfl ?_)
    refine o0 (o_st (b := b1300) (off := 0) (vs := [(.int .u8 p2)]) (cs' := [(.int .u8 p2), (.bool d1.Attr), (.int .u8 d1.FA), (.int .u8 d1.High), (.int .u8 d1.Color), (.int .u8 d1.f_Set)]) rfl rfl rp0 rfl rfl rfl rfl rfl rfl ?_)
    refine o_end ?_
    refine e_seq ?_
    refine c_region ?_
    refine o1 rfl (o_p rfl ?_)
    refine o1 rfl (o_p rfl ?_)
    refine o1 rfl (o_ld (b := b1300) (off := 0) (v := (.agg (List.toArray [(.int .u8 p2), (.bool d1.Attr), (.int .u8 d1.FA), (.int .u8 d1.High), (.int .u8 d1.Color), (.int .u8 d1.f_Set)]))) rfl rm0 rfl rfl ?_)
    replace h := bsome h
    obtain ⟨d2, h2, h⟩ := h
    refine o1 rfl (o_call has82 rfl (c_vitrineref12_Set X (⟨p0.Model, p0.Alt, p0.Size, p0.L, p0.Cursor⟩ : Vvitrineref12_Space) b0 s0 p1 (⟨p2, d1.Attr, d1.FA, d1.High, d1.Color, d1.f_Set⟩ : Vapi_Cell) _ h2) (pc rm1 (pc rm1 (pc rm1 pn))) ?_)
    refine o_end ?_
    refine e_fall ?_
    refine r_endt rfl rfl (kc rm0 (kc rm0 (kc rm0 (kd kr)))) ?_
    have hr := Option.some.inj h
    subst hr
    exact hk
  · replace h := cond_f hb1302 h
    refine c_skip ?_
    refine e_fall ?_
    refine r_endt rfl rfl (kc rm1 (kc rm1 (kc rm1 (kd kr)))) ?_
    have hr := Option.some.inj h
    subst hr
    exact hk

theorem c_vitrineref12_Do {g : Gw} (X : HP) (p0 : Vvitrineref12_Space) (b0 : Nat) (s0 : SV) (p1 : Vvitrineref12_Act) (s1 : SV) (q0 : Rd X s1 5 (enI .u8) p1.Text) (r : Vvitrineref12_Space) (h : m_vitrineref12_Do p0 p1 = some r) : Tri env g 46 (List.toArray [(.pointer (some ⟨b0, 0, none⟩)), (.agg (List.toArray [(.int .u8 p1.Do), (.int .i64 p1.N), (.bool p1.On), (.int .u8 p1.Code), (.int .u8 p1.C.Char), (.bool p1.C.Attr), (.int .u8 p1.C.FA), (.int .u8 p1.C.High), (.int .u8 p1.C.Color), (.int .u8 p1.C.f_Set), (SV.val s1)]))]) [X, blk b0 (.cells (List.toArray [(.int .i64 p0.Model), (.bool p0.Alt), (.int .i64 p0.Size.Rows), (.int .i64 p0.Size.Cols), (SV.val s0), (.int .i64 p0.Cursor)]) 41 (0, 0)), slO s0 48 en_Vapi_Cell p0.L] (fun K R => ∀ (i0 : SV), K (.tuple (List.toArray [])) (X :: blk b0 (.cells (List.toArray [(.int .i64 r.Model), (.bool r.Alt), (.int .i64 r.Size.Rows), (.int .i64 r.Size.Cols), (SV.val i0), (.int .i64 r.Cursor)]) 41 (0, 0)) :: slO i0 48 en_Vapi_Cell r.L :: R)) := by
  refine tri_of (fn := Try.f46) (N := 69) Try.func46 rfl rfl rfl ?_
  intro R K hk
  unfold m_vitrineref12_Do at h
  change GC _ none _ [] [(0, (.pointer (some ⟨b0, 0, none⟩))), (1, (.agg (List.toArray [(.int .u8 p1.Do), (.int .i64 p1.N), (.bool p1.On), (.int .u8 p1.Code), (.int .u8 p1.C.Char), (.bool p1.C.Attr), (.int .u8 p1.C.FA), (.int .u8 p1.C.High), (.int .u8 p1.C.Color), (.int .u8 p1.C.f_Set), (SV.val s1)])))] (X :: blk b0 (.cells (List.toArray [(.int .i64 p0.Model), (.bool p0.Alt), (.int .i64 p0.Size.Rows), (.int .i64 p0.Size.Cols), (SV.val s0), (.int .i64 p0.Cursor)]) 41 (0, 0)) :: slO s0 48 en_Vapi_Cell p0.L :: R) g _ _
  refine c_seq ?_
  refine c_region ?_
  refine o1 rfl (o_box (cs := [(.int .u8 p1.Do), (.int .i64 p1.N), (.bool p1.On), (.int .u8 p1.Code), (.int .u8 p1.C.Char), (.bool p1.C.Attr), (.int .u8 p1.C.FA), (.int .u8 p1.C.High), (.int .u8 p1.C.Color), (.int .u8 p1.C.f_Set), (SV.val s1)]) rfl rfl (fun b1284 => ?_))
  refine o_end ?_
  refine e_seq ?_
  refine c_seq ?_
  refine c_region ?_
  refine o1 rfl (o_fa (fd := ⟨ "Do", 5, 0, false, "", "", 0⟩) rfl rfl rfl rfl rfl ?_)
  refine o1 rfl (o_ld (b := b1284) (off := 0) (v := (.int .u8 p1.Do)) rfl rm0 rfl rfl ?_)
  refine o1 rfl (o_rem (m := p1.Do) (n := 6) rfl rfl (by decide) ?_)
  refine o_end ?_
  refine e_seq ?_
  replace h := bsome h
  obtain ⟨d1, h, hk1⟩ := h
  refine cj (D := Unit) (ι := SV) (fun _ i1 => True) (fun _ i1 => []) (fun _ i1 => X :: blk b0 (.cells (List.toArray [(.int .i64 d1.1), (.bool d1.2.1), (.int .i64 d1.2.2.1), (.int .i64 d1.2.2.2.1), (SV.val i1), (.int .i64 d1.2.2.2.2.2)]) 41 (0, 0)) :: slO i1 48 en_Vapi_Cell d1.2.2.2.2.1 :: R) ?_ ?_
  · refine c_block ?_
    refine c_seq ?_
    refine c_region ?_
    refine o1 rfl (o_p (v := (.bool ((Int.tmod p1.Do 6) == 0))) rfl ?_)
    refine o1 rfl (o_p rfl ?_)
    refine o_end ?_
    refine e_seq ?_
    replace h := bsome h
    obtain ⟨d2, h, hk2⟩ := h
    refine cj (D := Unit) (ι := SV) (fun _ i2 => True) (fun _ i2 => []) (fun _ i2 => X :: blk b0 (.cells (List.toArray [(.int .i64 d2.1), (.bool d2.2.1), (.int .i64 d2.2.2.1), (.int .i64 d2.2.2.2.1), (SV.val i2), (.int .i64 d2.2.2.2.2.2)]) 41 (0, 0)) :: slO i2 48 en_Vapi_Cell d2.2.2.2.2.1 :: R) ?_ ?_
    · refine c_cond (b := ((Int.tmod p1.Do 6) == 0)) rfl (fun hb1286 => ?_) (fun hb1286 => ?_)
      · replace h := cond_t hb1286 h
        refine c_region ?_
        refine o1 rfl (o_p rfl ?_)
        refine o1 rfl (o_fa (fd := ⟨ "On", 4, 2, false, "", "", 16⟩) rfl rfl rfl rfl rfl ?_)
        refine o1 rfl (o_ld (b := b1284) (off := 2) (v := (.bool p1.On)) rfl rm0 rfl rfl ?_)
        replace h := bsome h
        obtain ⟨d3, h3, h⟩ := h
        refine o1 rfl (o_call has80 rfl (c_vitrineref12_Clear_2 X p0 b0 s0 p1.On _ h3) (pc rm1 (pc rm1 (pc rm1 pn))) (fun i3 => ?_))
        refine o_end ?_
        have hd := Option.some.inj h
        subst hd
        exact ej () i3 trivial sn (kc rm0 (kc rm0 (kc rm0 (kd (kd kr)))))
      · replace h := cond_f hb1286 h
        refine c_seq ?_
        refine c_region ?_
        refine o1 rfl (o_p (v := (.bool ((Int.tmod p1.Do 6) == 1))) rfl ?_)
        refine o1 rfl (o_p rfl ?_)
        refine o_end ?_
        refine e_seq ?_
        refine c_cond (b := ((Int.tmod p1.Do 6) == 1)) rfl (fun hb1293 => ?_) (fun hb1293 => ?_)
        · replace h := cond_t hb1293 h
          refine c_region ?_
          refine o1 rfl (o_p rfl ?_)
          refine o1 rfl (o_p rfl ?_)
          refine o1 rfl (o_fa (fd := ⟨ "N", 3, 1, false, "", "", 8⟩) rfl rfl rfl rfl rfl ?_)
          refine o1 rfl (o_ld (b := b1284) (off := 1) (v := (.int .i64 p1.N)) rfl rm0 rfl rfl ?_)
          replace h := bsome h
          obtain ⟨d4, h4, h⟩ := h
          refine o1 rfl (o_call has17 rfl (c_vitrineref12_Wrap X (⟨p0.Model, p0.Alt, p0.Size, p0.L, p0.Cursor⟩ : Vvitrineref12_Space) b0 s0 p1.N _ h4) (pc rm1 (pc rm1 (pc rm1 pn))) ?_)
          refine o1 rfl (o_p rfl ?_)
          refine o1 rfl (o_fa (fd := ⟨ "Cursor", 3, 5, false, "", "", 56⟩) rfl rfl rfl rfl rfl ?_)
          refine o0 (o_st (b := b0) (off := 5) (vs := [(.int .i64 d4)]) (cs' := [(.int .i64 p0.Model), (.bool p0.Alt), (.int .i64 p0.Size.Rows), (.int .i64 p0.Size.Cols), (SV.val s0), (.int .i64 d4)]) rfl rfl rp1 rfl rfl rfl rfl rfl rfl ?_)
          refine o_end ?_
          have hd := Option.some.inj h
          subst hd
          exact ej () s0 trivial sn (kc rm0 (kc rm0 (kc rm0 (kd kr))))
        · replace h := cond_f hb1293 h
          refine c_seq ?_
          refine c_region ?_
          refine o1 rfl (o_p (v := (.bool ((Int.tmod p1.Do 6) == 2))) rfl ?_)
          refine o1 rfl (o_p rfl ?_)
          refine o_end ?_
          refine e_seq ?_
          refine c_cond (b := ((Int.tmod p1.Do 6) == 2)) rfl (fun hb1296 => ?_) (fun hb1296 => ?_)
          · replace h := cond_t hb1296 h
            refine c_region ?_
            refine o1 rfl (o_p rfl ?_)
            refine o1 rfl (o_fa (fd := ⟨ "N", 3, 1, false, "", "", 8⟩) rfl rfl rfl rfl rfl ?_)
            refine o1 rfl (o_ld (b := b1284) (off := 1) (v := (.int .i64 p1.N)) rfl rm0 rfl rfl ?_)
            refine o1 rfl (o_fa (fd := ⟨ "Code", 5, 3, false, "", "", 17⟩) rfl rfl rfl rfl rfl ?_)
            refine o1 rfl (o_ld (b := b1284) (off := 3) (v := (.int .u8 p1.Code)) rfl rm0 rfl rfl ?_)
            replace h := bsome h
            obtain ⟨d5, h5, h⟩ := h
            refine o1 rfl (o_call has81 rfl (c_vitrineref12_Put X (⟨p0.Model, p0.Alt, p0.Size, p0.L, p0.Cursor⟩ : Vvitrineref12_Space) b0 s0 p1.N p1.Code _ h5) (pc rm1 (pc rm1 (pc rm1 pn))) ?_)
            refine o_end ?_
            have hd := Option.some.inj h
            subst hd
            exact ej () s0 trivial sn (kc rm0 (kc rm0 (kc rm0 (kd kr))))
          · replace h := cond_f hb1296 h
            refine c_seq ?_
            refine c_region ?_
            refine o1 rfl (o_p (v := (.bool ((Int.tmod p1.Do 6) == 3))) rfl ?_)
            refine o1 rfl (o_p rfl ?_)
            refine o_end ?_
            refine e_seq ?_
            refine c_cond (b := ((Int.tmod p1.Do 6) == 3)) rfl (fun hb1324 => ?_) (fun hb1324 => ?_)
            · replace h := cond_t hb1324 h
              refine c_region ?_
              refine o1 rfl (o_p rfl ?_)
              refine o1 rfl (o_fa (fd := ⟨ "N", 3, 1, false, "", "", 8⟩) rfl rfl rfl rfl rfl ?_)
              refine o1 rfl (o_ld (b := b1284) (off := 1) (v := (.int .i64 p1.N)) rfl rm0 rfl rfl ?_)
              refine o1 rfl (o_fa (fd := ⟨ "Code", 5, 3, false, "", "", 17⟩) rfl rfl rfl rfl rfl ?_)
              refine o1 rfl (o_ld (b := b1284) (off := 3) (v := (.int .u8 p1.Code)) rfl rm0 rfl rfl ?_)
              refine o1 rfl (o_build (fs := [⟨ "Char", 5, 0, false, "", "", 0⟩, ⟨ "Attr", 4, 1, false, "", "", 1⟩, ⟨ "FA", 5, 2, false, "", "", 2⟩, ⟨ "High", 5, 3, false, "", "", 3⟩, ⟨ "Color", 5, 4, false, "", "", 4⟩, ⟨ "Set", 5, 5, false, "", "", 5⟩]) (ps := [(0, 1), (1, 1), (2, 1), (3, 1), (4, 1), (5, 1)]) (cs := [(.int .u8 0), (.bool true), (.int .u8 p1.Code), (.int .u8 0), (.int .u8 0), (.int .u8 0)]) rfl rfl rfl rfl rfl ?_)
              replace h := bsome h
              obtain ⟨d6, h6, h⟩ := h
              refine o1 rfl (o_call has82 rfl (c_vitrineref12_Set X (⟨p0.Model, p0.Alt, p0.Size, p0.L, p0.Cursor⟩ : Vvitrineref12_Space) b0 s0 p1.N (⟨0, true, p1.Code, 0, 0, 0⟩ : Vapi_Cell) _ h6) (pc rm1 (pc rm1 (pc rm1 pn))) ?_)
              refine o_end ?_
              have hd := Option.some.inj h
              subst hd
              exact ej () s0 trivial sn (kc rm0 (kc rm0 (kc rm0 (kd kr))))
            · replace h := cond_f hb1324 h
              refine c_seq ?_
              refine c_region ?_
              refine o1 rfl (o_p (v := (.bool ((Int.tmod p1.Do 6) == 4))) rfl ?_)
              refine o1 rfl (o_p rfl ?_)
              refine o_end ?_
              refine e_seq ?_
              refine c_cond (b := ((Int.tmod p1.Do 6) == 4)) rfl (fun hb1326 => ?_) (fun hb1326 => ?_)
              · replace h := cond_t hb1326 h
                refine c_region ?_
                refine o1 rfl (o_p rfl ?_)
                refine o1 rfl (o_fa (fd := ⟨ "N", 3, 1, false, "", "", 8⟩) rfl rfl rfl rfl rfl ?_)
                refine o1 rfl (o_ld (b := b1284) (off := 1) (v := (.int .i64 p1.N)) rfl rm0 rfl rfl ?_)
                refine o1 rfl (o_fa (fd := ⟨ "C", 48, 4, false, "", "", 18⟩) rfl rfl rfl rfl rfl ?_)
                refine o1 rfl (o_ld (b := b1284) (off := 4) (v := (.agg (List.toArray [(.int .u8 p1.C.Char), (.bool p1.C.Attr), (.int .u8 p1.C.FA), (.int .u8 p1.C.High), (.int .u8 p1.C.Color), (.int .u8 p1.C.f_Set)]))) rfl rm0 rfl rfl ?_)
                replace h := bsome h
                obtain ⟨d7, h7, h⟩ := h
                refine o1 rfl (o_call has82 rfl (c_vitrineref12_Set X (⟨p0.Model, p0.Alt, p0.Size, p0.L, p0.Cursor⟩ : Vvitrineref12_Space) b0 s0 p1.N p1.C _ h7) (pc rm1 (pc rm1 (pc rm1 pn))) ?_)
                refine o_end ?_
                have hd := Option.some.inj h
                subst hd
                exact ej () s0 trivial sn (kc rm0 (kc rm0 (kc rm0 (kd kr))))
              · replace h := cond_f hb1326 h
                refine c_seq ?_
                refine c_region ?_
                refine o1 rfl (o_fa (fd := ⟨ "Text", 31, 10, false, "", "", 24⟩) rfl rfl rfl rfl rfl ?_)
                refine o1 rfl (o_ld (b := b1284) (off := 10) (v := (SV.val s1)) rfl rm0 rfl rfl ?_)
                refine o1 rfl (o_len (s := s1) rfl rfl rfl rm1 q0 ?_)
                refine o1 rfl (o_p rfl ?_)
                refine o_end ?_
                refine e_seq ?_
                replace h := bsome h
                obtain ⟨d8, h, hk8⟩ := h
                refine cj (D := Unit) (ι := Unit) (fun _ i8 => True) (fun _ i8 => []) (fun _ i8 => X :: blk b0 (.cells (List.toArray [(.int .i64 d8.1), (.bool d8.2.1), (.int .i64 d8.2.2.1), (.int .i64 d8.2.2.2.1), (SV.val s0), (.int .i64 d8.2.2.2.2.2)]) 41 (0, 0)) :: slO s0 48 en_Vapi_Cell d8.2.2.2.2.1 :: R) ?_ ?_
                · refine c_block ?_
                  refine c_loop (l_sub (sc rfl (sc rfl (sc rfl (sc rfl (sc rfl sn))))) (l_keep (kc rm1 (kc rm0 (kc rm0 (kc rm0 kr)))) (lf (X := Int × Int × Bool × Int × Int × (List Vapi_Cell) × Int) (ι := Unit) (fun k x => vitrineref12_Do_l9 p1 k x) _ (fun x9 i9 => True) (fun x9 i9 => [(12, (.int .i64 x9.1)), (11, (.int .i64 (p1.Text.length : Int))), (10, (SV.val s1)), (3, (.pointer (some ⟨b1284, 0, none⟩))), (0, (.pointer (some ⟨b0, 0, none⟩)))]) (fun x9 i9 => X :: blk b1284 (.cells (List.toArray [(.int .u8 p1.Do), (.int .i64 p1.N), (.bool p1.On), (.int .u8 p1.Code), (.int .u8 p1.C.Char), (.bool p1.C.Attr), (.int .u8 p1.C.FA), (.int .u8 p1.C.High), (.int .u8 p1.C.Color), (.int .u8 p1.C.f_Set), (SV.val s1)]) 94 (0, 0)) :: blk b0 (.cells (List.toArray [(.int .i64 x9.2.1), (.bool x9.2.2.1), (.int .i64 x9.2.2.2.1), (.int .i64 x9.2.2.2.2.1), (SV.val s0), (.int .i64 x9.2.2.2.2.2.2)]) 41 (0, 0)) :: slO s0 48 en_Vapi_Cell x9.2.2.2.2.2.1 :: R) (fun _ => rfl) ?_ fuel (0, p0.Model, p0.Alt, p0.Size.Rows, p0.Size.Cols, p0.L, p0.Cursor) () trivial h)))
                  clear h
                  rintro k9 ih9 x9 i9 _ h
                  rw [vitrineref12_Do_l9.eq_2] at h
                  refine l_round ?_
                  refine c_seq ?_
                  refine c_region ?_
                  refine o1 rfl (o_p (v := (.bool (decide (x9.1 < (p1.Text.length : Int))))) rfl ?_)
                  refine o_end ?_
                  refine e_seq ?_
                  refine c_seq ?_
                  refine c_cond (b := (decide (x9.1 < (p1.Text.length : Int)))) rfl (fun hb1338 => ?_) (fun hb1338 => ?_)
                  · replace h := cond_t hb1338 h
                    refine c_skip ?_
                    refine e_seq ?_
                    refine c_seq ?_
                    refine c_block ?_
                    refine c_seq ?_
                    refine c_region ?_
                    refine o1 rfl (o_p rfl ?_)
                    replace h := gsome h
                    obtain ⟨hg1339, h⟩ := h
                    refine o1 rfl (o_ix (s := s1) (n := x9.1) (e := (enI .u8)) rfl rfl rfl rfl rfl rfl rm0 q0 hg1339 ?_)
                    refine o1 rfl (o_ldE (s := s1) (e := (enI .u8)) (n := x9.1) (f := 0) (v := (.int .u8 (rd p1.Text x9.1))) rfl rm0 q0 hg1339 rfl rfl ?_)
                    refine o1 rfl (o_p rfl ?_)
                    refine o1 rfl (o_p rfl ?_)
                    refine o_end ?_
                    refine e_seq ?_
                    refine c_seq ?_
                    refine c_region ?_
                    refine o1 rfl (o_p rfl ?_)
                    refine o1 rfl (o_p (v := (.bool (decide (x9.1 < 200)))) rfl ?_)
                    refine o_end ?_
                    refine e_seq ?_
                    replace h := bsome h
                    obtain ⟨d12, h, hk12⟩ := h
                    refine cj (D := Unit) (ι := Unit) (fun _ i12 => True) (fun _ i12 => [(12, (.int .i64 x9.1)), (11, (.int .i64 (p1.Text.length : Int))), (10, (SV.val s1)), (3, (.pointer (some ⟨b1284, 0, none⟩))), (0, (.pointer (some ⟨b0, 0, none⟩)))]) (fun _ i12 => X :: blk b1284 (.cells (List.toArray [(.int .u8 p1.Do), (.int .i64 p1.N), (.bool p1.On), (.int .u8 p1.Code), (.int .u8 p1.C.Char), (.bool p1.C.Attr), (.int .u8 p1.C.FA), (.int .u8 p1.C.High), (.int .u8 p1.C.Color), (.int .u8 p1.C.f_Set), (SV.val s1)]) 94 (0, 0)) :: blk b0 (.cells (List.toArray [(.int .i64 d12.1), (.bool d12.2.1), (.int .i64 d12.2.2.1), (.int .i64 d12.2.2.2.1), (SV.val s0), (.int .i64 d12.2.2.2.2.2)]) 41 (0, 0)) :: slO s0 48 en_Vapi_Cell d12.2.2.2.2.1 :: R) ?_ ?_
                    · refine c_cond (b := (decide (x9.1 < 200))) rfl (fun hb1340 => ?_) (fun hb1340 => ?_)
                      · replace h := cond_t hb1340 h
                        refine c_region ?_
                        refine o1 rfl (o_p rfl ?_)
                        refine o1 rfl (o_p rfl ?_)
                        refine o1 rfl (o_fa (fd := ⟨ "N", 3, 1, false, "", "", 8⟩) rfl rfl rfl rfl rfl ?_)
                        refine o1 rfl (o_ld (b := b1284) (off := 1) (v := (.int .i64 p1.N)) rfl rm1 rfl rfl ?_)
                        replace h := bsome h
                        obtain ⟨d13, h13, h⟩ := h
                        refine o1 rfl (o_call has17 rfl (c_vitrineref12_Wrap X (⟨x9.2.1, x9.2.2.1, (⟨x9.2.2.2.1, x9.2.2.2.2.1⟩ : Vvitrineref04_Size), x9.2.2.2.2.2.1, x9.2.2.2.2.2.2⟩ : Vvitrineref12_Space) b0 s0 p1.N _ h13) (pc rm0 (pc rm1 (pc rm1 pn))) ?_)
                        refine o1 rfl (o_p rfl ?_)
                        refine o1 rfl (o_p (v := (.int .i64 (w64 (d13 + x9.1)))) rfl ?_)
                        refine o1 rfl (o_p rfl ?_)
                        replace h := bsome h
                        obtain ⟨d14, h14, h⟩ := h
                        refine o1 rfl (o_call has81 rfl (c_vitrineref12_Put X (⟨x9.2.1, x9.2.2.1, (⟨x9.2.2.2.1, x9.2.2.2.2.1⟩ : Vvitrineref04_Size), x9.2.2.2.2.2.1, x9.2.2.2.2.2.2⟩ : Vvitrineref12_Space) b0 s0 (w64 (d13 + x9.1)) (rd p1.Text x9.1) _ h14) (pc rm0 (pc rm0 (pc rm0 pn))) ?_)
                        refine o_end ?_
                        have hd := Option.some.inj h
                        subst hd
                        exact ej () () trivial (sc rfl (sc rfl (sc rfl (sc rfl (sc rfl sn))))) (kc rm0 (kc rm2 (kc rm0 (kc rm0 kr))))
                      · replace h := cond_f hb1340 h
                        refine c_skip ?_
                        have hd := Option.some.inj h
                        subst hd
                        exact ej () () trivial (sc rfl (sc rfl (sc rfl (sc rfl (sc rfl sn))))) (kc rm0 (kc rm0 (kc rm0 (kc rm0 kr))))
                    · rintro _ i12 _
                      replace h := hk12
                      clear hk12
                      refine e_blk ?_
                      refine e_seq ?_
                      refine c_region ?_
                      refine o1 rfl (o_p (v := (.int .i64 (w64 (x9.1 + 1)))) rfl ?_)
                      refine o1 rfl (o_p rfl ?_)
                      refine o_end ?_
                      exact e_loop (l_sub (sc rfl (sc rfl (sc rfl (sc rfl (sc rfl sn))))) (l_keep (kc rm0 (kc rm0 (kc rm0 (kc rm0 kr)))) (ih9 (w64 (x9.1 + 1), d12.1, d12.2.1, d12.2.2.1, d12.2.2.2.1, d12.2.2.2.2.1, d12.2.2.2.2.2) () trivial h)))
                  · replace h := cond_f hb1338 h
                    refine c_exit ?_
                    refine e_then_exit ?_
                    refine e_then_exit ?_
                    refine e_blk_exit ?_
                    have hd := Option.some.inj h
                    subst hd
                    exact ej () () trivial sn (kc rm0 (kc rm1 (kc rm1 (kd kr))))
                · rintro _ i8 _
                  replace h := hk8
                  clear hk8
                  have hd := Option.some.inj h
                  subst hd
                  exact ej () s0 trivial sn (kc rm0 (kc rm0 (kc rm0 kr)))
    · rintro _ i2 _
      replace h := hk2
      clear hk2
      refine e_blk ?_
      have hd := Option.some.inj h
      subst hd
      exact ej () i2 trivial sn (kc rm0 (kc rm0 (kc rm0 kr)))
  · rintro _ i1 _
    replace h := hk1
    clear hk1
    refine e_fall ?_
    refine r_endt rfl rfl (kc rm0 (kc rm0 (kc rm0 kr))) ?_
    have hr := Option.some.inj h
    subst hr
    exact hk i1

theorem c_space_Space_Clear_2 {g : Gw} (X : HP) (p0 : Vspace_Space) (b0 : Nat) (s0 : SV) (p1 : Bool) (r : Vspace_Space) (h : m_space_Space_Clear_2 p0 p1 = some r) : Tri env g 47 (List.toArray [(.pointer (some ⟨b0, 0, none⟩)), (.bool p1)]) [X, blk b0 (.cells (List.toArray [(.int .i64 p0.model), (.bool p0.alternate), (.int .i64 p0.size.Rows), (.int .i64 p0.size.Cols), (SV.val s0), (.int .i64 p0.cursor), (.int .i64 p0.attrs)]) 165 (0, 0)), slO s0 48 en_Vapi_Cell p0.cells] (fun K R => ∀ (i0 : SV), K (.tuple (List.toArray [])) (X :: blk b0 (.cells (List.toArray [(.int .i64 r.model), (.bool r.alternate), (.int .i64 r.size.Rows), (.int .i64 r.size.Cols), (SV.val i0), (.int .i64 r.cursor), (.int .i64 r.attrs)]) 165 (0, 0)) :: slO i0 48 en_Vapi_Cell r.cells :: slO s0 48 en_Vapi_Cell p0.cells :: R)) := by
  refine tri_of (fn := Try.f47) (N := 39) Try.func47 rfl rfl rfl ?_
  intro R K hk
  unfold m_space_Space_Clear_2 at h
  change GC _ none _ [] [(0, (.pointer (some ⟨b0, 0, none⟩))), (1, (.bool p1))] (X :: blk b0 (.cells (List.toArray [(.int .i64 p0.model), (.bool p0.alternate), (.int .i64 p0.size.Rows), (.int .i64 p0.size.Cols), (SV.val s0), (.int .i64 p0.cursor), (.int .i64 p0.attrs)]) 165 (0, 0)) :: slO s0 48 en_Vapi_Cell p0.cells :: R) g _ _
  refine c_seq ?_
  refine c_seq ?_
  refine c_region ?_
  refine o1 rfl (o_p rfl ?_)
  refine o1 rfl (o_p (v := (.bool false)) rfl ?_)
  refine o_end ?_
  refine e_seq ?_
  refine c_cond_f rfl rfl ?_
  refine c_skip ?_
  refine e_seq ?_
  refine c_seq ?_
  refine c_region ?_
  refine o1 rfl (o_p rfl ?_)
  refine o_end ?_
  refine e_seq ?_
  refine c_seq ?_
  refine c_seq ?_
  refine c_region ?_
  refine o1 rfl (o_p rfl ?_)
  refine o_end ?_
  refine e_seq ?_
  replace h := bsome h
  obtain ⟨d1, h, hk1⟩ := h
  refine cj (D := Unit) (ι := Unit) (fun _ i1 => True) (fun _ i1 => [(4, (.int .i64 d1)), (0, (.pointer (some ⟨b0, 0, none⟩))), (1, (.bool p1))]) (fun _ i1 => X :: blk b0 (.cells (List.toArray [(.int .i64 p0.model), (.bool p0.alternate), (.int .i64 p0.size.Rows), (.int .i64 p0.size.Cols), (SV.val s0), (.int .i64 p0.cursor), (.int .i64 p0.attrs)]) 165 (0, 0)) :: slO s0 48 en_Vapi_Cell p0.cells :: R) ?_ ?_
  · refine c_cond (b := p1) rfl (fun hb1376 => ?_) (fun hb1376 => ?_)
    · replace h := cond_t hb1376 h
      refine c_region ?_
      refine o1 rfl (o_p rfl ?_)
      refine o1 rfl (o_p rfl ?_)
      refine o1 rfl (o_fa (fd := ⟨ "model", 3, 0, false, "", "vitrine/space", 0⟩) rfl rfl rfl rfl rfl ?_)
      refine o1 rfl (o_ld (b := b0) (off := 0) (v := (.int .i64 p0.model)) rfl rm1 rfl rfl ?_)
      refine o1 rfl (o_p rfl ?_)
      refine o_end ?_
      have hd := Option.some.inj h
      subst hd
      exact ej () () trivial (sc rfl (sc rfl (sc rfl sn))) (kc rm0 (kc rm0 (kc rm0 kr)))
    · replace h := cond_f hb1376 h
      refine c_skip ?_
      have hd := Option.some.inj h
      subst hd
      exact ej () () trivial (sc rfl (sc rfl (sc rfl sn))) (kc rm0 (kc rm0 (kc rm0 kr)))
  · rintro _ i1 _
    replace h := hk1
    clear hk1
    refine e_seq ?_
    refine c_seq ?_
    refine c_region ?_
    refine o1 rfl (o_p rfl ?_)
    refine o1 rfl (o_p rfl ?_)
    refine o1 rfl (o_p rfl ?_)
    refine o1 rfl (o_fa (fd := ⟨ "alternate", 4, 1, false, "", "vitrine/space", 8⟩) rfl rfl rfl rfl rfl ?_)
    refine o0 (o_st (b := b0) (off := 1) (vs := [(.bool p1)]) (cs' := [(.int .i64 p0.model), (.bool p1), (.int .i64 p0.size.Rows), (.int .i64 p0.size.Cols), (SV.val s0), (.int .i64 p0.cursor), (.int .i64 p0.attrs)]) rfl rfl rp1 rfl rfl rfl rfl rfl rfl ?_)
    refine o_end ?_
    refine e_seq ?_
    refine c_seq ?_
    refine c_region ?_
    refine o1 rfl (o_p rfl ?_)
    refine o1 rfl (o_p rfl ?_)
    replace h := bsome h
    obtain ⟨d2, h2, h⟩ := h
    refine o1 rfl (o_call has78 rfl (c_addr_Model X d1 _ h2) (pc rm0 pn) ?_)
    refine o1 rfl (o_p rfl ?_)
    refine o1 rfl (o_p rfl ?_)
    refine o1 rfl (o_p rfl ?_)
    refine o1 rfl (o_p rfl ?_)
    refine o1 rfl (o_fa (fd := ⟨ "size", 131, 2, false, "", "vitrine/space", 16⟩) rfl rfl rfl rfl rfl ?_)
    refine o0 (o_st (b := b0) (off := 2) (vs := [(.int .i64 d2.1.Rows), (.int .i64 d2.1.Cols)]) (cs' := [(.int .i64 p0.model), (.bool p1), (.int .i64 d2.1.Rows), (.int .i64 d2.1.Cols), (SV.val s0), (.int .i64 p0.cursor), (.int .i64 p0.attrs)]) rfl rfl rp1 rfl rfl rfl rfl rfl rfl ?_)
    refine o_end ?_
    refine e_seq ?_
    refine c_seq ?_
    refine c_region ?_
    refine o1 rfl (o_p rfl ?_)
    refine o1 rfl (o_p rfl ?_)
    refine o1 rfl (o_p rfl ?_)
    refine o1 rfl (o_fa (fd := ⟨ "size", 131, 2, false, "", "vitrine/space", 16⟩) rfl rfl rfl rfl rfl ?_)
    refine o1 rfl (o_ld (b := b0) (off := 2) (v := (.agg (List.toArray [(.int .i64 d2.1.Rows), (.int .i64 d2.1.Cols)]))) rfl rm1 rfl rfl ?_)
    replace h := bsome h
    obtain ⟨d3, h3, h⟩ := h
    refine o1 rfl (o_call has71 rfl (c_addr_Size_Cells X (⟨d2.1.Rows, d2.1.Cols⟩ : Vaddr_Size) _ h3) (pc rm0 pn) ?_)
    replace h := gsome h
    obtain ⟨hg1377, h⟩ := h
    refine o1 rfl (o_mk (e := en_Vapi_Cell) (z := (⟨0, false, 0, 0, 0, 0⟩ : Vapi_Cell)) (zs := [(.int .u8 0), (.bool false), (.int .u8 0), (.int .u8 0), (.int .u8 0), (.int .u8 0)]) rfl rfl rfl rfl rfl rfl rfl rfl rfl hg1377 (fun s1378 => ?_))
    refine o1 rfl (o_p rfl ?_)
    refine o1 rfl (o_fa (fd := ⟨ "cells", 39, 4, false, "", "vitrine/space", 32⟩) rfl rfl rfl rfl rfl ?_)
    refine o0 (o_st (b := b0) (off := 4) (vs := [(SV.val s1378)]) (cs' := [(.int .i64 p0.model), (.bool p1), (.int .i64 d2.1.Rows), (.int .i64 d2.1.Cols), (SV.val s1378), (.int .i64 p0.cursor), (.int .i64 p0.attrs)]) rfl rfl rp2 rfl rfl rfl rfl rfl rfl ?_)
    refine o_end ?_
    refine e_seq ?_
    refine c_region ?_
    refine o1 rfl (o_p rfl ?_)
    refine o1 rfl (o_p rfl ?_)
    refine o1 rfl (o_p rfl ?_)
    refine o1 rfl (o_fa (fd := ⟨ "cursor", 3, 5, false, "", "vitrine/space", 56⟩) rfl rfl rfl rfl rfl ?_)
    refine o0 (o_st (b := b0) (off := 5) (vs := [(.int .i64 0)]) (cs' := [(.int .i64 p0.model), (.bool p1), (.int .i64 d2.1.Rows), (.int .i64 d2.1.Cols), (SV.val s1378), (.int .i64 0), (.int .i64 p0.attrs)]) rfl rfl rp2 rfl rfl rfl rfl rfl rfl ?_)
    refine o1 rfl (o_p rfl ?_)
    refine o1 rfl (o_fa (fd := ⟨ "attrs", 3, 6, false, "", "vitrine/space", 64⟩) rfl rfl rfl rfl rfl ?_)
    refine o0 (o_st (b := b0) (off := 6) (vs := [(.int .i64 0)]) (cs' := [(.int .i64 p0.model), (.bool p1), (.int .i64 d2.1.Rows), (.int .i64 d2.1.Cols), (SV.val s1378), (.int .i64 0), (.int .i64 0)]) rfl rfl rp2 rfl rfl rfl rfl rfl rfl ?_)
    refine o_end ?_
    refine e_fall ?_
    refine r_endt rfl rfl (kc rm1 (kc rm1 (kc rm0 (kc rm0 kr)))) ?_
    have hr := Option.some.inj h
    subst hr
    exact hk s1378

theorem c_addr_rest {g : Gw} (X : HP) (p0 : Int) (p1 : Int) (r : Int) (h : m_addr_rest p0 p1 = some r) : Tri env g 110 (List.toArray [(.int .i64 p0), (.int .i64 p1)]) [X] (fun K R => K (.int .i64 r) (X :: R)) := by
  refine tri_of (fn := Try.f110) (N := 14) Try.func110 rfl rfl rfl ?_
  intro R K hk
  unfold m_addr_rest at h
  change GC _ none _ [] [(0, (.int .i64 p0)), (1, (.int .i64 p1))] (X :: R) g _ _
  refine c_seq ?_
  refine c_region ?_
  refine o1 rfl (o_p rfl ?_)
  refine o_end ?_
  refine e_seq ?_
  refine c_seq ?_
  refine c_region ?_
  refine o1 rfl (o_p rfl ?_)
  refine o1 rfl (o_p rfl ?_)
  replace h := gsome h
  obtain ⟨hg1394, h⟩ := h
  refine o1 rfl (o_rem (m := p0) (n := p1) rfl rfl hg1394 ?_)
  refine o1 rfl (o_p rfl ?_)
  refine o_end ?_
  refine e_seq ?_
  refine c_seq ?_
  refine c_seq ?_
  refine c_region ?_
  refine o1 rfl (o_p rfl ?_)
  refine o1 rfl (o_p (v := (.bool (decide ((Int.tmod p0 p1) < 0)))) rfl ?_)
  refine o_end ?_
  refine e_seq ?_
  replace h := bsome h
  obtain ⟨d1, h, hk1⟩ := h
  refine cj (D := Unit) (ι := Unit) (fun _ i1 => True) (fun _ i1 => [(0, (.int .i64 d1))]) (fun _ i1 => X :: R) ?_ ?_
  · refine c_cond (b := (decide ((Int.tmod p0 p1) < 0))) rfl (fun hb1395 => ?_) (fun hb1395 => ?_)
    · replace h := cond_t hb1395 h
      refine c_region ?_
      refine o1 rfl (o_p rfl ?_)
      refine o1 rfl (o_p rfl ?_)
      refine o1 rfl (o_p (v := (.int .i64 (w64 ((Int.tmod p0 p1) + p1)))) rfl ?_)
      refine o1 rfl (o_p rfl ?_)
      refine o_end ?_
      have hd := Option.some.inj h
      subst hd
      exact ej () () trivial (sc rfl sn) (kc rm0 kr)
    · replace h := cond_f hb1395 h
      refine c_skip ?_
      have hd := Option.some.inj h
      subst hd
      exact ej () () trivial (sc rfl sn) (kc rm0 kr)
  · rintro _ i1 _
    replace h := hk1
    clear hk1
    refine e_seq ?_
    refine c_seq ?_
    refine c_region ?_
    refine o1 rfl (o_p rfl ?_)
    refine o1 rfl (o_p rfl ?_)
    refine o_end ?_
    refine e_seq ?_
    refine c_ret ?_
    refine e_ret ?_
    refine r_endt rfl rfl (kc rm0 kr) ?_
    have hr := Option.some.inj h
    subst hr
    exact hk

theorem c_addr_Size_Wrap {g : Gw} (X : HP) (p0 : Vaddr_Size) (p1 : Int) (r : Int) (h : m_addr_Size_Wrap p0 p1 = some r) : Tri env g 83 (List.toArray [(.agg (List.toArray [(.int .i64 p0.Rows), (.int .i64 p0.Cols)])), (.int .i64 p1)]) [X] (fun K R => K (.int .i64 r) (X :: R)) := by
  refine tri_of (fn := Try.f83) (N := 12) Try.func83 rfl rfl rfl ?_
  intro R K hk
  unfold m_addr_Size_Wrap at h
  change GC _ none _ [] [(0, (.agg (List.toArray [(.int .i64 p0.Rows), (.int .i64 p0.Cols)]))), (1, (.int .i64 p1))] (X :: R) g _ _
  refine c_seq ?_
  refine c_region ?_
  refine o1 rfl (o_box (cs := [(.int .i64 p0.Rows), (.int .i64 p0.Cols)]) rfl rfl (fun b1391 => ?_))
  refine o1 rfl (o_p rfl ?_)
  refine o_end ?_
  refine e_seq ?_
  refine c_seq ?_
  refine c_seq ?_
  refine c_region ?_
  refine o1 rfl (o_ld (b := b1391) (off := 0) (v := (.agg (List.toArray [(.int .i64 p0.Rows), (.int .i64 p0.Cols)]))) rfl rm0 rfl rfl ?_)
  replace h := bsome h
  obtain ⟨d1, h1, h⟩ := h
  refine o1 rfl (o_call has105 rfl (c_addr_Size_Valid X p0 _ h1) (pc rm1 pn) ?_)
  refine o1 rfl (o_p (v := (.bool (!d1))) rfl ?_)
  refine o_end ?_
  refine e_seq ?_
  refine c_cond (b := (!d1)) rfl (fun hb1393 => ?_) (fun hb1393 => ?_)
  · replace h := cond_t hb1393 h
    refine c_seq ?_
    refine c_region ?_
    refine o1 rfl (o_p rfl ?_)
    refine o_end ?_
    refine e_seq ?_
    refine c_ret ?_
    refine e_then_ret ?_
    refine e_ret ?_
    refine r_endt rfl rfl (kc rm0 (kd kr)) ?_
    have hr := Option.some.inj h
    subst hr
    exact hk
  · replace h := cond_f hb1393 h
    refine c_skip ?_
    refine e_seq ?_
    refine c_seq ?_
    refine c_region ?_
    refine o1 rfl (o_p rfl ?_)
    refine o1 rfl (o_ld (b := b1391) (off := 0) (v := (.agg (List.toArray [(.int .i64 p0.Rows), (.int .i64 p0.Cols)]))) rfl rm1 rfl rfl ?_)
    replace h := bsome h
    obtain ⟨d3, h3, h⟩ := h
    refine o1 rfl (o_call has71 rfl (c_addr_Size_Cells X p0 _ h3) (pc rm0 pn) ?_)
    replace h := bsome h
    obtain ⟨d4, h4, h⟩ := h
    refine o1 rfl (o_call has110 rfl (c_addr_rest X p1 d3 _ h4) (pc rm0 pn) ?_)
    refine o1 rfl (o_p rfl ?_)
    refine o_end ?_
    refine e_seq ?_
    refine c_ret ?_
    refine e_ret ?_
    refine r_endt rfl rfl (kc rm0 (kd kr)) ?_
    have hr := Option.some.inj h
    subst hr
    exact hk

theorem c_space_count {g : Gw} (X : HP) (p0 : Vapi_Cell) (r : Int) (h : m_space_count p0 = some r) : Tri env g 84 (List.toArray [(.agg (List.toArray [(.int .u8 p0.Char), (.bool p0.Attr), (.int .u8 p0.FA), (.int .u8 p0.High), (.int .u8 p0.Color), (.int .u8 p0.f_Set)]))]) [X] (fun K R => K (.int .i64 r) (X :: R)) := by
  refine tri_of (fn := Try.f84) (N := 5) Try.func84 rfl rfl rfl ?_
  intro R K hk
  unfold m_space_count at h
  change GC _ none _ [] [(0, (.agg (List.toArray [(.int .u8 p0.Char), (.bool p0.Attr), (.int .u8 p0.FA), (.int .u8 p0.High), (.int .u8 p0.Color), (.int .u8 p0.f_Set)])))] (X :: R) g _ _
  refine c_seq ?_
  refine c_region ?_
  refine o1 rfl (o_box (cs := [(.int .u8 p0.Char), (.bool p0.Attr), (.int .u8 p0.FA), (.int .u8 p0.High), (.int .u8 p0.Color), (.int .u8 p0.f_Set)]) rfl rfl (fun b1397 => ?_))
  refine o1 rfl (o_p rfl ?_)
  refine o_end ?_
  refine e_seq ?_
  refine c_seq ?_
  refine c_seq ?_
  refine c_region ?_
  refine o1 rfl (o_fa (fd := ⟨ "Attr", 4, 1, false, "", "", 1⟩) rfl rfl rfl rfl rfl ?_)
  refine o1 rfl (o_ld (b := b1397) (off := 1) (v := (.bool p0.Attr)) rfl rm0 rfl rfl ?_)
  refine o_end ?_
  refine e_seq ?_
  refine c_cond (b := p0.Attr) rfl (fun hb1399 => ?_) (fun hb1399 => ?_)
  · replace h := cond_t hb1399 h
    refine c_seq ?_
    refine c_region ?_
    refine o1 rfl (o_p rfl ?_)
    refine o_end ?_
    refine e_seq ?_
    refine c_ret ?_
    refine e_then_ret ?_
    refine e_ret ?_
    refine r_endt rfl rfl (kc rm1 (kd kr)) ?_
    have hr := Option.some.inj h
    subst hr
    exact hk
  · replace h := cond_f hb1399 h
    refine c_skip ?_
    refine e_seq ?_
    refine c_seq ?_
    refine c_region ?_
    refine o1 rfl (o_p rfl ?_)
    refine o_end ?_
    refine e_seq ?_
    refine c_ret ?_
    refine e_ret ?_
    refine r_endt rfl rfl (kc rm1 (kd kr)) ?_
    have hr := Option.some.inj h
    subst hr
    exact hk

theorem c_space_Space_Set {g : Gw} (X : HP) (p0 : Vspace_Space) (b0 : Nat) (s0 : SV) (p1 : Int) (p2 : Vapi_Cell) (r : Vspace_Space) (h : m_space_Space_Set p0 p1 p2 = some r) : Tri env g 48 (List.toArray [(.pointer (some ⟨b0, 0, none⟩)), (.int .i64 p1), (.agg (List.toArray [(.int .u8 p2.Char), (.bool p2.Attr), (.int .u8 p2.FA), (.int .u8 p2.High), (.int .u8 p2.Color), (.int .u8 p2.f_Set)]))]) [X, blk b0 (.cells (List.toArray [(.int .i64 p0.model), (.bool p0.alternate), (.int .i64 p0.size.Rows), (.int .i64 p0.size.Cols), (SV.val s0), (.int .i64 p0.cursor), (.int .i64 p0.attrs)]) 165 (0, 0)), slO s0 48 en_Vapi_Cell p0.cells] (fun K R => K (.tuple (List.toArray [])) (X :: blk b0 (.cells (List.toArray [(.int .i64 r.model), (.bool r.alternate), (.int .i64 r.size.Rows), (.int .i64 r.size.Cols), (SV.val s0), (.int .i64 r.cursor), (.int .i64 r.attrs)]) 165 (0, 0)) :: slO s0 48 en_Vapi_Cell r.cells :: R)) := by
  refine tri_of (fn := Try.f48) (N := 47) Try.func48 rfl rfl rfl ?_
  intro R K hk
  unfold m_space_Space_Set at h
  change GC _ none _ [] [(0, (.pointer (some ⟨b0, 0, none⟩))), (1, (.int .i64 p1)), (2, (.agg (List.toArray [(.int .u8 p2.Char), (.bool p2.Attr), (.int .u8 p2.FA), (.int .u8 p2.High), (.int .u8 p2.Color), (.int .u8 p2.f_Set)])))] (X :: blk b0 (.cells (List.toArray [(.int .i64 p0.model), (.bool p0.alternate), (.int .i64 p0.size.Rows), (.int .i64 p0.size.Cols), (SV.val s0), (.int .i64 p0.cursor), (.int .i64 p0.attrs)]) 165 (0, 0)) :: slO s0 48 en_Vapi_Cell p0.cells :: R) g _ _
  refine c_seq ?_
  refine c_region ?_
  refine o1 rfl (o_box (cs := [(.int .u8 p2.Char), (.bool p2.Attr), (.int .u8 p2.FA), (.int .u8 p2.High), (.int .u8 p2.Color), (.int .u8 p2.f_Set)]) rfl rfl (fun b1388 => ?_))
  refine o_end ?_
  refine e_seq ?_
  refine c_seq ?_
  refine c_seq ?_
  refine c_region ?_
  refine o1 rfl (o_p rfl ?_)
  refine o1 rfl (o_p (v := (.bool false)) rfl ?_)
  refine o_end ?_
  refine e_seq ?_
  refine c_cond_f rfl rfl ?_
  refine c_skip ?_
  refine e_seq ?_
  refine c_seq ?_
  refine c_seq ?_
  refine c_region ?_
  refine o1 rfl (o_fa (fd := ⟨ "Attr", 4, 1, false, "", "", 1⟩) rfl rfl rfl rfl rfl ?_)
  refine o1 rfl (o_ld (b := b1388) (off := 1) (v := (.bool p2.Attr)) rfl rm0 rfl rfl ?_)
  refine o_end ?_
  refine e_seq ?_
  replace h := bsome h
  obtain ⟨d1, h, hk1⟩ := h
  refine cj (D := Unit) (ι := Unit) (fun _ i1 => True) (fun _ i1 => [(5, (.pointer (some ⟨b1388, 0, none⟩))), (0, (.pointer (some ⟨b0, 0, none⟩))), (1, (.int .i64 p1))]) (fun _ i1 => X :: blk b1388 (.cells (List.toArray [(.int .u8 d1.1), (.bool p2.Attr), (.int .u8 d1.2), (.int .u8 p2.High), (.int .u8 p2.Color), (.int .u8 p2.f_Set)]) 48 (0, 0)) :: blk b0 (.cells (List.toArray [(.int .i64 p0.model), (.bool p0.alternate), (.int .i64 p0.size.Rows), (.int .i64 p0.size.Cols), (SV.val s0), (.int .i64 p0.cursor), (.int .i64 p0.attrs)]) 165 (0, 0)) :: slO s0 48 en_Vapi_Cell p0.cells :: R) ?_ ?_
  · refine c_cond (b := p2.Attr) rfl (fun hb1390 => ?_) (fun hb1390 => ?_)
    · replace h := cond_t hb1390 h
      refine c_region ?_
      refine o1 rfl (o_fa (fd := ⟨ "FA", 5, 2, false, "", "", 2⟩) rfl rfl rfl rfl rfl ?_)
      refine o1 rfl (o_ld (b := b1388) (off := 2) (v := (.int .u8 p2.FA)) rfl rm0 rfl rfl ?_)
      refine o1 rfl (o_p (v := (.int .u8 (iband .u8 p2.FA 61))) rfl ?_)
      refine o1 rfl (o_fa (fd := ⟨ "Char", 5, 0, false, "", "", 0⟩) rfl rfl rfl rfl rfl ?_)
      refine o0 (o_st (b := b1388) (off := 0) (vs := [(.int .u8 0)]) (cs' := [(.int .u8 0), (.bool p2.Attr), (.int .u8 p2.FA), (.int .u8 p2.High), (.int .u8 p2.Color), (.int .u8 p2.f_Set)]) rfl rfl rp0 rfl rfl rfl rfl rfl rfl ?_)
      refine o1 rfl (o_fa (fd := ⟨ "FA", 5, 2, false, "", "", 2⟩) rfl rfl rfl rfl rfl ?_)
      refine o0 (o_st (b := b1388) (off := 2) (vs := [(.int .u8 (iband .u8 p2.FA 61))]) (cs' := [(.int .u8 0), (.bool p2.Attr), (.int .u8 (iband .u8 p2.FA 61)), (.int .u8 p2.High), (.int .u8 p2.Color), (.int .u8 p2.f_Set)]) rfl rfl rp0 rfl rfl rfl rfl rfl rfl ?_)
      refine o_end ?_
      have hd := Option.some.inj h
      subst hd
      exact ej () () trivial (sc rfl (sc rfl (sc rfl sn))) (kc rm1 (kc rm0 (kc rm0 (kc rm0 kr))))
    · replace h := cond_f hb1390 h
      refine c_region ?_
      refine o1 rfl (o_fa (fd := ⟨ "FA", 5, 2, false, "", "", 2⟩) rfl rfl rfl rfl rfl ?_)
      refine o0 (o_st (b := b1388) (off := 2) (vs := [(.int .u8 0)]) (cs' := [(.int .u8 p2.Char), (.bool p2.Attr), (.int .u8 0), (.int .u8 p2.High), (.int .u8 p2.Color), (.int .u8 p2.f_Set)]) rfl rfl rp0 rfl rfl rfl rfl rfl rfl ?_)
      refine o_end ?_
      have hd := Option.some.inj h
      subst hd
      exact ej () () trivial (sc rfl (sc rfl (sc rfl sn))) (kc rm1 (kc rm0 (kc rm0 (kc rm0 kr))))
  · rintro _ i1 _
    replace h := hk1
    clear hk1
    refine e_seq ?_
    refine c_seq ?_
    refine c_region ?_
    refine o1 rfl (o_p rfl ?_)
    refine o1 rfl (o_p rfl ?_)
    refine o1 rfl (o_fa (fd := ⟨ "size", 131, 2, false, "", "vitrine/space", 16⟩) rfl rfl rfl rfl rfl ?_)
    refine o1 rfl (o_ld (b := b0) (off := 2) (v := (.agg (List.toArray [(.int .i64 p0.size.Rows), (.int .i64 p0.size.Cols)]))) rfl rm2 rfl rfl ?_)
    refine o1 rfl (o_p rfl ?_)
    replace h := bsome h
    obtain ⟨d2, h2, h⟩ := h
    refine o1 rfl (o_call has83 rfl (c_addr_Size_Wrap X p0.size p1 _ h2) (pc rm0 pn) ?_)
    refine o1 rfl (o_p rfl ?_)
    refine o_end ?_
    refine e_seq ?_
    refine c_seq ?_
    replace h := gsome h
    obtain ⟨hg1396, h⟩ := h
    refine c_draw (n := 3) (q := [(0, 22, (.pointer (some ⟨b0, 0, none⟩))), (1, 23, (.pointer (some ⟨b0, 0, none⟩))), (2, 24, (.pointer (some ⟨b0, 6, none⟩))), (3, 25, (.int .i64 p0.attrs)), (4, 26, (.agg (List.toArray [(.int .u8 d1.1), (.bool p2.Attr), (.int .u8 d1.2), (.int .u8 p2.High), (.int .u8 p2.Color), (.int .u8 p2.f_Set)]))), (6, 28, (.pointer (some ⟨b0, 0, none⟩))), (7, 29, (.pointer (some ⟨b0, 0, none⟩))), (8, 30, (.pointer (some ⟨b0, 4, none⟩))), (9, 31, (SV.val s0)), (10, 32, (.int .i64 d2)), (11, 33, (.pointer (some ⟨SV.blk s0, SV.off s0 + Int.toNat d2 * 6, none⟩))), (12, 34, (.agg (List.toArray [(.int .u8 ((rd p0.cells d2).Char)), (.bool ((rd p0.cells d2).Attr)), (.int .u8 ((rd p0.cells d2).FA)), (.int .u8 ((rd p0.cells d2).High)), (.int .u8 ((rd p0.cells d2).Color)), (.int .u8 ((rd p0.cells d2).f_Set))])))]) (pend := [0, 1, 2, 3, 4, 6, 7, 8, 9, 10, 11, 12]) rfl rfl rfl ?_
    replace h := bsome h
    obtain ⟨d4, h4, h⟩ := h
    refine ⟨⟨fun _ => ⟨rfl, rfl, rfl, .inl ⟨rfl, (o_p rfl ⟨rfl, rfl⟩)⟩⟩, fun _ => ⟨rfl, rfl, rfl, .inl ⟨rfl, (o_p rfl ⟨rfl, rfl⟩)⟩⟩, fun _ => ⟨rfl, rfl, rfl, .inl ⟨rfl, (o_fa (fd := ⟨ "attrs", 3, 6, false, "", "vitrine/space", 64⟩) rfl rfl rfl rfl rfl ⟨rfl, rfl⟩)⟩⟩, fun _ => ⟨rfl, rfl, rfl, .inl ⟨rfl, (o_ld (b := b0) (off := 6) (v := (.int .i64 p0.attrs)) rfl rm2 rfl rfl ⟨rfl, rfl⟩)⟩⟩, fun _ => ⟨rfl, rfl, rfl, .inl ⟨rfl, (o_ld (b := b1388) (off := 0) (v := (.agg (List.toArray [(.int .u8 d1.1), (.bool p2.Attr), (.int .u8 d1.2), (.int .u8 p2.High), (.int .u8 p2.Color), (.int .u8 p2.f_Set)]))) rfl rm1 rfl rfl ⟨rfl, rfl⟩)⟩⟩, fun _ => ⟨rfl, rfl, rfl, .inl ⟨rfl, (o_p rfl ⟨rfl, rfl⟩)⟩⟩, fun _ => ⟨rfl, rfl, rfl, .inl ⟨rfl, (o_p rfl ⟨rfl, rfl⟩)⟩⟩, fun _ => ⟨rfl, rfl, rfl, .inl ⟨rfl, (o_fa (fd := ⟨ "cells", 39, 4, false, "", "vitrine/space", 32⟩) rfl rfl rfl rfl rfl ⟨rfl, rfl⟩)⟩⟩, fun _ => ⟨rfl, rfl, rfl, .inl ⟨rfl, (o_ld (b := b0) (off := 4) (v := (SV.val s0)) rfl rm2 rfl rfl ⟨rfl, rfl⟩)⟩⟩, fun _ => ⟨rfl, rfl, rfl, .inl ⟨rfl, (o_p rfl ⟨rfl, rfl⟩)⟩⟩, fun _ => ⟨rfl, rfl, rfl, .inl ⟨rfl, (o_ix (s := s0) (n := d2) (e := en_Vapi_Cell) rfl rfl rfl rfl rfl rfl rm3 (rd_own _ _ _ _) hg1396 ⟨rfl, rfl⟩)⟩⟩, fun _ => ⟨rfl, rfl, rfl, .inl ⟨rfl, (o_ldE (s := s0) (e := en_Vapi_Cell) (n := d2) (f := 0) (v := (.agg (List.toArray [(.int .u8 ((rd p0.cells d2).Char)), (.bool ((rd p0.cells d2).Attr)), (.int .u8 ((rd p0.cells d2).FA)), (.int .u8 ((rd p0.cells d2).High)), (.int .u8 ((rd p0.cells d2).Color)), (.int .u8 ((rd p0.cells d2).f_Set))]))) rfl rm3 (rd_own _ _ _ _) hg1396 rfl rfl ⟨rfl, rfl⟩)⟩⟩, trivial⟩, rfl, .inr ⟨[5], rfl, rfl, ⟨rfl, .inl rfl, ?_⟩, trivial⟩⟩
    refine (o_call has84 rfl (c_space_count X { p2 with Char := d1.1, FA := d1.2 } _ h4) (pc rm0 pn) ?_)
    refine ⟨[], [0, 1, 2, 3, 6, 7, 8, 9, 10, 11, 12], rfl, rfl, rfl, rfl, ?_⟩
    replace h := bsome h
    obtain ⟨d5, h5, h⟩ := h
    refine ⟨⟨fun _ => ⟨rfl, rfl, rfl, .inl ⟨rfl, (o_p rfl ⟨rfl, rfl⟩)⟩⟩, fun _ => ⟨rfl, rfl, rfl, .inl ⟨rfl, (o_p rfl ⟨rfl, rfl⟩)⟩⟩, fun _ => ⟨rfl, rfl, rfl, .inl ⟨rfl, (o_fa (fd := ⟨ "attrs", 3, 6, false, "", "vitrine/space", 64⟩) rfl rfl rfl rfl rfl ⟨rfl, rfl⟩)⟩⟩, fun _ => ⟨rfl, rfl, rfl, .inl ⟨rfl, (o_ld (b := b0) (off := 6) (v := (.int .i64 p0.attrs)) rfl rm2 rfl rfl ⟨rfl, rfl⟩)⟩⟩, (fun h => nomatch h), fun _ => ⟨rfl, rfl, rfl, .inl ⟨rfl, (o_p rfl ⟨rfl, rfl⟩)⟩⟩, fun _ => ⟨rfl, rfl, rfl, .inl ⟨rfl, (o_p rfl ⟨rfl, rfl⟩)⟩⟩, fun _ => ⟨rfl, rfl, rfl, .inl ⟨rfl, (o_fa (fd := ⟨ "cells", 39, 4, false, "", "vitrine/space", 32⟩) rfl rfl rfl rfl rfl ⟨rfl, rfl⟩)⟩⟩, fun _ => ⟨rfl, rfl, rfl, .inl ⟨rfl, (o_ld (b := b0) (off := 4) (v := (SV.val s0)) rfl rm2 rfl rfl ⟨rfl, rfl⟩)⟩⟩, fun _ => ⟨rfl, rfl, rfl, .inl ⟨rfl, (o_p rfl ⟨rfl, rfl⟩)⟩⟩, fun _ => ⟨rfl, rfl, rfl, .inl ⟨rfl, (o_ix (s := s0) (n := d2) (e := en_Vapi_Cell) rfl rfl rfl rfl rfl rfl rm3 (rd_own _ _ _ _) hg1396 ⟨rfl, rfl⟩)⟩⟩, fun _ => ⟨rfl, rfl, rfl, .inl ⟨rfl, (o_ldE (s := s0) (e := en_Vapi_Cell) (n := d2) (f := 0) (v := (.agg (List.toArray [(.int .u8 ((rd p0.cells d2).Char)), (.bool ((rd p0.cells d2).Attr)), (.int .u8 ((rd p0.cells d2).FA)), (.int .u8 ((rd p0.cells d2).High)), (.int .u8 ((rd p0.cells d2).Color)), (.int .u8 ((rd p0.cells d2).f_Set))]))) rfl rm3 (rd_own _ _ _ _) hg1396 rfl rfl ⟨rfl, rfl⟩)⟩⟩, trivial⟩, rfl, .inr ⟨[13], rfl, rfl, ⟨rfl, .inl rfl, ?_⟩, trivial⟩⟩
    refine (o_call has84 rfl (c_space_count X (rd p0.cells d2) _ h5) (pc rm0 pn) ?_)
    refine ⟨[(14, 36, (.int .i64 (w64 (d4 - d5)))), (15, 37, (.int .i64 (w64 (p0.attrs + (w64 (d4 - d5)))))), (16, 38, (.pointer (some ⟨b0, 0, none⟩))), (17, 39, (.pointer (some ⟨b0, 6, none⟩)))], [0, 1, 2, 3, 14, 15, 16, 17], rfl, rfl, rfl, rfl, ?_⟩
    refine ⟨⟨fun _ => ⟨rfl, rfl, rfl, .inl ⟨rfl, (o_p (v := (.int .i64 (w64 (d4 - d5)))) rfl ⟨rfl, rfl⟩)⟩⟩, fun _ => ⟨rfl, rfl, rfl, .inl ⟨rfl, (o_p (v := (.int .i64 (w64 (p0.attrs + (w64 (d4 - d5)))))) rfl ⟨rfl, rfl⟩)⟩⟩, fun _ => ⟨rfl, rfl, rfl, .inl ⟨rfl, (o_p rfl ⟨rfl, rfl⟩)⟩⟩, fun _ => ⟨rfl, rfl, rfl, .inl ⟨rfl, (o_fa (fd := ⟨ "attrs", 3, 6, false, "", "vitrine/space", 64⟩) rfl rfl rfl rfl rfl ⟨rfl, rfl⟩)⟩⟩, fun _ => ⟨rfl, rfl, rfl, .inl ⟨rfl, (o_p rfl ⟨rfl, rfl⟩)⟩⟩, fun _ => ⟨rfl, rfl, rfl, .inl ⟨rfl, (o_p rfl ⟨rfl, rfl⟩)⟩⟩, fun _ => ⟨rfl, rfl, rfl, .inl ⟨rfl, (o_fa (fd := ⟨ "attrs", 3, 6, false, "", "vitrine/space", 64⟩) rfl rfl rfl rfl rfl ⟨rfl, rfl⟩)⟩⟩, fun _ => ⟨rfl, rfl, rfl, .inl ⟨rfl, (o_ld (b := b0) (off := 6) (v := (.int .i64 p0.attrs)) rfl rm2 rfl rfl ⟨rfl, rfl⟩)⟩⟩, (fun h => nomatch h), (fun h => nomatch h), (fun h => nomatch h), (fun h => nomatch h), (fun h => nomatch h), (fun h => nomatch h), (fun h => nomatch h), (fun h => nomatch h), trivial⟩, rfl, .inr ⟨[18], rfl, rfl, ⟨rfl, .inl rfl, ?_⟩, trivial⟩⟩
    refine (o_st (b := b0) (off := 6) (vs := [(.int .i64 (w64 (p0.attrs + (w64 (d4 - d5)))))]) (cs' := [(.int .i64 p0.model), (.bool p0.alternate), (.int .i64 p0.size.Rows), (.int .i64 p0.size.Cols), (SV.val s0), (.int .i64 p0.cursor), (.int .i64 (w64 (p0.attrs + (w64 (d4 - d5)))))]) rfl rfl rp2 rfl rfl rfl rfl rfl rfl ?_)
    refine ⟨[], [], rfl, rfl, ?_⟩
    refine ⟨⟨(fun h => nomatch h), (fun h => nomatch h), (fun h => nomatch h), (fun h => nomatch h), (fun h => nomatch h), (fun h => nomatch h), (fun h => nomatch h), (fun h => nomatch h), (fun h => nomatch h), (fun h => nomatch h), (fun h => nomatch h), (fun h => nomatch h), (fun h => nomatch h), (fun h => nomatch h), (fun h => nomatch h), (fun h => nomatch h), trivial⟩, rfl, rfl, rfl, ?_⟩
    refine e_seq ?_
    replace h := gsome h
    obtain ⟨hg1400, h⟩ := h
    refine c_draw (n := 1) (q := [(0, 40, (.pointer (some ⟨b0, 0, none⟩))), (1, 41, (.pointer (some ⟨b0, 0, none⟩))), (2, 42, (.pointer (some ⟨b0, 4, none⟩))), (3, 43, (SV.val s0)), (4, 44, (.int .i64 d2)), (5, 45, (.agg (List.toArray [(.int .u8 d1.1), (.bool p2.Attr), (.int .u8 d1.2), (.int .u8 p2.High), (.int .u8 p2.Color), (.int .u8 p2.f_Set)]))), (6, 46, (.pointer (some ⟨SV.blk s0, SV.off s0 + Int.toNat d2 * 6, none⟩)))]) (pend := [0, 1, 2, 3, 4, 5, 6]) rfl rfl rfl ?_
    refine ⟨⟨fun _ => ⟨rfl, rfl, rfl, .inl ⟨rfl, (o_p rfl ⟨rfl, rfl⟩)⟩⟩, fun _ => ⟨rfl, rfl, rfl, .inl ⟨rfl, (o_p rfl ⟨rfl, rfl⟩)⟩⟩, fun _ => ⟨rfl, rfl, rfl, .inl ⟨rfl, (o_fa (fd := ⟨ "cells", 39, 4, false, "", "vitrine/space", 32⟩) rfl rfl rfl rfl rfl ⟨rfl, rfl⟩)⟩⟩, fun _ => ⟨rfl, rfl, rfl, .inl ⟨rfl, (o_ld (b := b0) (off := 4) (v := (SV.val s0)) rfl rm2 rfl rfl ⟨rfl, rfl⟩)⟩⟩, fun _ => ⟨rfl, rfl, rfl, .inl ⟨rfl, (o_p rfl ⟨rfl, rfl⟩)⟩⟩, fun _ => ⟨rfl, rfl, rfl, .inl ⟨rfl, (o_ld (b := b1388) (off := 0) (v := (.agg (List.toArray [(.int .u8 d1.1), (.bool p2.Attr), (.int .u8 d1.2), (.int .u8 p2.High), (.int .u8 p2.Color), (.int .u8 p2.f_Set)]))) rfl rm1 rfl rfl ⟨rfl, rfl⟩)⟩⟩, fun _ => ⟨rfl, rfl, rfl, .inl ⟨rfl, (o_ix (s := s0) (n := d2) (e := en_Vapi_Cell) rfl rfl rfl rfl rfl rfl rm3 (rd_own _ _ _ _) hg1400 ⟨rfl, rfl⟩)⟩⟩, trivial⟩, rfl, .inr ⟨[7], rfl, rfl, ⟨rfl, .inl rfl, ?_⟩, trivial⟩⟩
    refine (o_stE (s := s0) (e := en_Vapi_Cell) (n := d2) (f := 0) (vs := [(.int .u8 d1.1), (.bool p2.Attr), (.int .u8 d1.2), (.int .u8 p2.High), (.int .u8 p2.Color), (.int .u8 p2.f_Set)]) (u := { p2 with Char := d1.1, FA := d1.2 }) rfl rfl rp3 hg1400 rfl rfl rfl rfl rfl rfl ?_)
    refine ⟨[], [], rfl, rfl, ?_⟩
    refine ⟨⟨(fun h => nomatch h), (fun h => nomatch h), (fun h => nomatch h), (fun h => nomatch h), (fun h => nomatch h), (fun h => nomatch h), (fun h => nomatch h), trivial⟩, rfl, rfl, rfl, ?_⟩
    refine e_fall ?_
    refine r_endt rfl rfl (kc rm0 (kc rm1 (kc rm1 (kd kr)))) ?_
    have hr := Option.some.inj h
    subst hr
    exact hk

theorem c_space_Space_Place {g : Gw} (X : HP) (p0 : Vspace_Space) (b0 : Nat) (s0 : SV) (p1 : Int) (r : Vspace_Space) (h : m_space_Space_Place p0 p1 = some r) : Tri env g 49 (List.toArray [(.pointer (some ⟨b0, 0, none⟩)), (.int .i64 p1)]) [X, blk b0 (.cells (List.toArray [(.int .i64 p0.model), (.bool p0.alternate), (.int .i64 p0.size.Rows), (.int .i64 p0.size.Cols), (SV.val s0), (.int .i64 p0.cursor), (.int .i64 p0.attrs)]) 165 (0, 0)), slO s0 48 en_Vapi_Cell p0.cells] (fun K R => K (.tuple (List.toArray [])) (X :: blk b0 (.cells (List.toArray [(.int .i64 r.model), (.bool r.alternate), (.int .i64 r.size.Rows), (.int .i64 r.size.Cols), (SV.val s0), (.int .i64 r.cursor), (.int .i64 r.attrs)]) 165 (0, 0)) :: slO s0 48 en_Vapi_Cell r.cells :: R)) := by
  refine tri_of (fn := Try.f49) (N := 15) Try.func49 rfl rfl rfl ?_
  intro R K hk
  unfold m_space_Space_Place at h
  change GC _ none _ [] [(0, (.pointer (some ⟨b0, 0, none⟩))), (1, (.int .i64 p1))] (X :: blk b0 (.cells (List.toArray [(.int .i64 p0.model), (.bool p0.alternate), (.int .i64 p0.size.Rows), (.int .i64 p0.size.Cols), (SV.val s0), (.int .i64 p0.cursor), (.int .i64 p0.attrs)]) 165 (0, 0)) :: slO s0 48 en_Vapi_Cell p0.cells :: R) g _ _
  refine c_seq ?_
  refine c_region ?_
  refine o1 rfl (o_p rfl ?_)
  refine o1 rfl (o_p (v := (.bool true)) rfl ?_)
  refine o_end ?_
  refine e_seq ?_
  refine c_cond_t rfl rfl ?_
  refine c_region ?_
  refine o1 rfl (o_p rfl ?_)
  refine o1 rfl (o_p rfl ?_)
  refine o1 rfl (o_p rfl ?_)
  refine o1 rfl (o_fa (fd := ⟨ "size", 131, 2, false, "", "vitrine/space", 16⟩) rfl rfl rfl rfl rfl ?_)
  refine o1 rfl (o_ld (b := b0) (off := 2) (v := (.agg (List.toArray [(.int .i64 p0.size.Rows), (.int .i64 p0.size.Cols)]))) rfl rm1 rfl rfl ?_)
  refine o1 rfl (o_p rfl ?_)
  replace h := bsome h
  obtain ⟨d1, h1, h⟩ := h
  refine o1 rfl (o_call has83 rfl (c_addr_Size_Wrap X p0.size p1 _ h1) (pc rm0 pn) ?_)
  refine o1 rfl (o_p rfl ?_)
  refine o1 rfl (o_fa (fd := ⟨ "cursor", 3, 5, false, "", "vitrine/space", 56⟩) rfl rfl rfl rfl rfl ?_)
  refine o0 (o_st (b := b0) (off := 5) (vs := [(.int .i64 d1)]) (cs' := [(.int .i64 p0.model), (.bool p0.alternate), (.int .i64 p0.size.Rows), (.int .i64 p0.size.Cols), (SV.val s0), (.int .i64 d1), (.int .i64 p0.attrs)]) rfl rfl rp1 rfl rfl rfl rfl rfl rfl ?_)
  refine o_end ?_
  refine e_fall ?_
  refine r_endt rfl rfl (kc rm0 (kc rm0 (kc rm0 kr))) ?_
  have hr := Option.some.inj h
  subst hr
  exact hk

theorem c_vitrinelaw19_lay {g : Gw} (X : HP) (p0 : Int) (p1 : List Vvitrineref12_Act) (s0 : SV) (q0r : RdN X s0 94 en_Vvitrineref12_Act D_Vvitrineref12_Act p1) (r : Vspace_Space × Vvitrineref12_Space) (h : m_vitrinelaw19_lay p0 p1 = some r) : Tri env g 11 (List.toArray [(.int .u8 p0), (SV.val s0)]) [X] (fun K R => ∀ (i0 : Nat × SV × Nat × SV), K (.tuple (List.toArray [(.pointer (some ⟨i0.1, 0, none⟩)), (.pointer (some ⟨i0.2.2.1, 0, none⟩))])) (X :: blk i0.1 (.cells (List.toArray [(.int .i64 r.1.model), (.bool r.1.alternate), (.int .i64 r.1.size.Rows), (.int .i64 r.1.size.Cols), (SV.val i0.2.1), (.int .i64 r.1.cursor), (.int .i64 r.1.attrs)]) 165 (0, 0)) :: slO i0.2.1 48 en_Vapi_Cell r.1.cells :: blk i0.2.2.1 (.cells (List.toArray [(.int .i64 r.2.Model), (.bool r.2.Alt), (.int .i64 r.2.Size.Rows), (.int .i64 r.2.Size.Cols), (SV.val i0.2.2.2), (.int .i64 r.2.Cursor)]) 41 (0, 0)) :: slO i0.2.2.2 48 en_Vapi_Cell r.2.L :: R)) := by
  refine tri_of (fn := Try.f11) (N := 70) Try.func11 rfl rfl rfl ?_
  intro R K hk
  obtain ⟨L_q0, q0, n_q0⟩ := q0r
  unfold m_vitrinelaw19_lay at h
  change GC _ none _ [] [(0, (.int .u8 p0)), (1, (SV.val s0))] (X :: R) g _ _
  refine c_seq ?_
  refine c_region ?_
  refine o1 rfl (o_p rfl ?_)
  refine o1 rfl (o_p rfl ?_)
  refine o_end ?_
  refine e_seq ?_
  refine c_seq ?_
  refine c_region ?_
  refine o1 rfl (o_p rfl ?_)
  refine o1 rfl (o_rem (m := p0) (n := 4) rfl rfl (by decide) ?_)
  refine o1 rfl (o_p (v := (.int .i64 (w64 (Int.tmod p0 4)))) rfl ?_)
  refine o1 rfl (o_p (v := (.int .i64 (w64 (2 + (w64 (Int.tmod p0 4)))))) rfl ?_)
  refine o1 rfl (o_p rfl ?_)
  refine o_end ?_
  refine e_seq ?_
  refine c_seq ?_
  refine c_region ?_
  refine o1 rfl (o_p rfl ?_)
  replace h := bsome h
  obtain ⟨d2, h2, h⟩ := h
  rcases d2 with d2 | d2
  · cases h
  · refine o1 rfl (o_call has44 rfl (c_space_New X (w64 (2 + (w64 (Int.tmod p0 4)))) _ h2) (pc rm0 pn) (fun i2 => ?_))
    refine o1 rfl (o_p rfl ?_)
    refine o1 rfl (o_p rfl ?_)
    refine o1 rfl (o_p rfl ?_)
    refine o1 rfl (o_p rfl ?_)
    refine o1 rfl (o_p rfl ?_)
    refine o_end ?_
    refine e_seq ?_
    refine c_seq ?_
    refine c_region ?_
    refine o1 rfl (o_p rfl ?_)
    replace h := bsome h
    obtain ⟨d4, h4, h⟩ := h
    rcases d4 with d4 | d4
    · cases h
    · refine o1 rfl (o_call has45 rfl (c_vitrineref12_New X (w64 (2 + (w64 (Int.tmod p0 4)))) _ h4) (pc rm0 pn) (fun i4 => ?_))
      refine o1 rfl (o_p rfl ?_)
      refine o_end ?_
      refine e_seq ?_
      refine c_seq ?_
      refine c_seq ?_
      refine c_region ?_
      refine o1 rfl (o_p rfl ?_)
      refine o1 rfl (o_lenN (s := s0) rfl rfl rfl rm0 q0 n_q0 ?_)
      refine o1 rfl (o_p rfl ?_)
      refine o_end ?_
      refine e_seq ?_
      replace h := bsome h
      obtain ⟨d5, h, hk5⟩ := h
      refine cj (D := Unit) (ι := SV) (fun _ i5 => True) (fun _ i5 => [(9, (.pointer (some ⟨i4.1, 0, none⟩))), (7, (.pointer (some ⟨i2.1, 0, none⟩)))]) (fun _ i5 => X :: blk i4.1 (.cells (List.toArray [(.int .i64 d5.1), (.bool d5.2.1), (.int .i64 d5.2.2.1), (.int .i64 d5.2.2.2.1), (SV.val i5), (.int .i64 d5.2.2.2.2.2.1)]) 41 (0, 0)) :: blk i2.1 (.cells (List.toArray [(.int .i64 d5.2.2.2.2.2.2.1), (.bool d5.2.2.2.2.2.2.2.1), (.int .i64 d5.2.2.2.2.2.2.2.2.1), (.int .i64 d5.2.2.2.2.2.2.2.2.2.1), (SV.val i2.2), (.int .i64 d5.2.2.2.2.2.2.2.2.2.2.2.1), (.int .i64 d5.2.2.2.2.2.2.2.2.2.2.2.2)]) 165 (0, 0)) :: slO i5 48 en_Vapi_Cell d5.2.2.2.2.1 :: slO i2.2 48 en_Vapi_Cell d5.2.2.2.2.2.2.2.2.2.2.1 :: R) ?_ ?_
      · refine c_block ?_
        refine c_loop (l_sub (sc rfl (sc rfl (sc rfl (sc rfl (sc rfl sn))))) (l_keep (kc rm0 (kc rm0 (kc rm1 (kc rm0 (kc rm0 kr))))) (lf (X := Int × Int × Bool × Int × Int × (List Vapi_Cell) × Int × Int × Bool × Int × Int × (List Vapi_Cell) × Int × Int) (ι := SV) (fun k x => vitrinelaw19_lay_l6 p1 k x) _ (fun x6 i6 => True) (fun x6 i6 => [(27, (.int .i64 x6.1)), (26, (.int .i64 (p1.length : Int))), (25, (SV.val s0)), (9, (.pointer (some ⟨i4.1, 0, none⟩))), (7, (.pointer (some ⟨i2.1, 0, none⟩)))]) (fun x6 i6 => X :: blk i4.1 (.cells (List.toArray [(.int .i64 x6.2.1), (.bool x6.2.2.1), (.int .i64 x6.2.2.2.1), (.int .i64 x6.2.2.2.2.1), (SV.val i6), (.int .i64 x6.2.2.2.2.2.2.1)]) 41 (0, 0)) :: blk i2.1 (.cells (List.toArray [(.int .i64 x6.2.2.2.2.2.2.2.1), (.bool x6.2.2.2.2.2.2.2.2.1), (.int .i64 x6.2.2.2.2.2.2.2.2.2.1), (.int .i64 x6.2.2.2.2.2.2.2.2.2.2.1), (SV.val i2.2), (.int .i64 x6.2.2.2.2.2.2.2.2.2.2.2.2.1), (.int .i64 x6.2.2.2.2.2.2.2.2.2.2.2.2.2)]) 165 (0, 0)) :: slO i6 48 en_Vapi_Cell x6.2.2.2.2.2.1 :: slO i2.2 48 en_Vapi_Cell x6.2.2.2.2.2.2.2.2.2.2.2.1 :: R) (fun _ => rfl) ?_ fuel (0, d4.Model, d4.Alt, d4.Size.Rows, d4.Size.Cols, d4.L, d4.Cursor, d2.1.model, d2.1.alternate, d2.1.size.Rows, d2.1.size.Cols, d2.1.cells, d2.1.cursor, d2.1.attrs) i4.2 trivial h)))
        clear h
        rintro k6 ih6 x6 i6 _ h
        rw [vitrinelaw19_lay_l6.eq_2] at h
        refine l_round ?_
        refine c_seq ?_
        refine c_region ?_
        refine o1 rfl (o_p (v := (.bool (decide (x6.1 < (p1.length : Int))))) rfl ?_)
        refine o_end ?_
        refine e_seq ?_
        refine c_seq ?_
        refine c_cond (b := (decide (x6.1 < (p1.length : Int)))) rfl (fun hb1362 => ?_) (fun hb1362 => ?_)
        · replace h := cond_t hb1362 h
          refine c_skip ?_
          refine e_seq ?_
          refine c_seq ?_
          refine c_block ?_
          refine c_seq ?_
          refine c_region ?_
          refine o1 rfl (o_p rfl ?_)
          replace h := gsome h
          obtain ⟨hg1363, h⟩ := h
          refine o1 rfl (o_ix (s := s0) (n := x6.1) (e := en_Vvitrineref12_Act) rfl rfl rfl rfl rfl rfl rm0 q0 (NL.lt n_q0 hg1363) ?_)
          obtain ⟨sv1364, he_sv1364, hd_sv1364⟩ := NL.rd n_q0 hg1363
          have hr1365 : Rd X sv1364 5 (enI .u8) ((rd p1 x6.1).Text) := hd_sv1364
          refine o1 rfl (o_ldE (s := s0) (e := en_Vvitrineref12_Act) (n := x6.1) (f := 0) (v := (.agg (List.toArray [(.int .u8 ((rd p1 x6.1).Do)), (.int .i64 ((rd p1 x6.1).N)), (.bool ((rd p1 x6.1).On)), (.int .u8 ((rd p1 x6.1).Code)), (.int .u8 (((rd p1 x6.1).C).Char)), (.bool (((rd p1 x6.1).C).Attr)), (.int .u8 (((rd p1 x6.1).C).FA)), (.int .u8 (((rd p1 x6.1).C).High)), (.int .u8 (((rd p1 x6.1).C).Color)), (.int .u8 (((rd p1 x6.1).C).f_Set)), (SV.val sv1364)]))) rfl rm0 q0 (NL.lt n_q0 hg1363) rfl (by rw [he_sv1364]; rfl) ?_)
          refine o1 rfl (o_alloc (cs := [(.int .u8 0), (.int .i64 0), (.bool false), (.int .u8 0), (.int .u8 0), (.bool false), (.int .u8 0), (.int .u8 0), (.int .u8 0), (.int .u8 0), (SV.val SV.nil)]) rfl rfl (fun b1366 => ?_))
          refine o1 rfl (o_p rfl ?_)
          refine o0 (o_st (b := b1366) (off := 0) (vs := [(.int .u8 ((rd p1 x6.1).Do)), (.int .i64 ((rd p1 x6.1).N)), (.bool ((rd p1 x6.1).On)), (.int .u8 ((rd p1 x6.1).Code)), (.int .u8 (((rd p1 x6.1).C).Char)), (.bool (((rd p1 x6.1).C).Attr)), (.int .u8 (((rd p1 x6.1).C).FA)), (.int .u8 (((rd p1 x6.1).C).High)), (.int .u8 (((rd p1 x6.1).C).Color)), (.int .u8 (((rd p1 x6.1).C).f_Set)), (SV.val sv1364)]) (cs' := [(.int .u8 ((rd p1 x6.1).Do)), (.int .i64 ((rd p1 x6.1).N)), (.bool ((rd p1 x6.1).On)), (.int .u8 ((rd p1 x6.1).Code)), (.int .u8 (((rd p1 x6.1).C).Char)), (.bool (((rd p1 x6.1).C).Attr)), (.int .u8 (((rd p1 x6.1).C).FA)), (.int .u8 (((rd p1 x6.1).C).High)), (.int .u8 (((rd p1 x6.1).C).Color)), (.int .u8 (((rd p1 x6.1).C).f_Set)), (SV.val sv1364)]) rfl rfl rp0 rfl rfl rfl rfl rfl rfl ?_)
          refine o_end ?_
          refine e_seq ?_
          refine c_seq ?_
          refine c_region ?_
          refine o1 rfl (o_p rfl ?_)
          refine o1 rfl (o_p (v := (.bool (decide (x6.1 < 30)))) rfl ?_)
          refine o_end ?_
          refine e_seq ?_
          replace h := bsome h
          obtain ⟨d9, h, hk9⟩ := h
          refine cj (D := Unit) (ι := SV) (fun _ i9 => True) (fun _ i9 => [(27, (.int .i64 x6.1)), (26, (.int .i64 (p1.length : Int))), (25, (SV.val s0)), (9, (.pointer (some ⟨i4.1, 0, none⟩))), (7, (.pointer (some ⟨i2.1, 0, none⟩)))]) (fun _ i9 => X :: blk i4.1 (.cells (List.toArray [(.int .i64 d9.1), (.bool d9.2.1), (.int .i64 d9.2.2.1), (.int .i64 d9.2.2.2.1), (SV.val i9), (.int .i64 d9.2.2.2.2.2)]) 41 (0, 0)) :: blk i2.1 (.cells (List.toArray [(.int .i64 x6.2.2.2.2.2.2.2.1), (.bool x6.2.2.2.2.2.2.2.2.1), (.int .i64 x6.2.2.2.2.2.2.2.2.2.1), (.int .i64 x6.2.2.2.2.2.2.2.2.2.2.1), (SV.val i2.2), (.int .i64 x6.2.2.2.2.2.2.2.2.2.2.2.2.1), (.int .i64 x6.2.2.2.2.2.2.2.2.2.2.2.2.2)]) 165 (0, 0)) :: slO i9 48 en_Vapi_Cell d9.2.2.2.2.1 :: slO i2.2 48 en_Vapi_Cell x6.2.2.2.2.2.2.2.2.2.2.2.1 :: R) ?_ ?_
          · refine c_cond (b := (decide (x6.1 < 30))) rfl (fun hb1368 => ?_) (fun hb1368 => ?_)
            · replace h := cond_t hb1368 h
              refine c_region ?_
              refine o1 rfl (o_p rfl ?_)
              refine o1 rfl (o_ld (b := b1366) (off := 0) (v := (.agg (List.toArray [(.int .u8 ((rd p1 x6.1).Do)), (.int .i64 ((rd p1 x6.1).N)), (.bool ((rd p1 x6.1).On)), (.int .u8 ((rd p1 x6.1).Code)), (.int .u8 (((rd p1 x6.1).C).Char)), (.bool (((rd p1 x6.1).C).Attr)), (.int .u8 (((rd p1 x6.1).C).FA)), (.int .u8 (((rd p1 x6.1).C).High)), (.int .u8 (((rd p1 x6.1).C).Color)), (.int .u8 (((rd p1 x6.1).C).f_Set)), (SV.val sv1364)]))) rfl rm0 rfl rfl ?_)
              replace h := bsome h
              obtain ⟨d10, h10, h⟩ := h
              refine o1 rfl (o_call has46 rfl (c_vitrineref12_Do X (⟨x6.2.1, x6.2.2.1, (⟨x6.2.2.2.1, x6.2.2.2.2.1⟩ : Vvitrineref04_Size), x6.2.2.2.2.2.1, x6.2.2.2.2.2.2.1⟩ : Vvitrineref12_Space) i4.1 i6 { (rd p1 x6.1) with C := ((rd p1 x6.1).C) } sv1364 hr1365 _ h10) (pc rm1 (pc rm1 (pc rm2 pn))) (fun i10 => ?_))
              refine o_end ?_
              have hd := Option.some.inj h
              subst hd
              exact ej () i10 trivial (sc rfl (sc rfl (sc rfl (sc rfl (sc rfl sn))))) (kc rm0 (kc rm0 (kc rm2 (kc rm0 (kc rm1 (kd kr))))))
            · replace h := cond_f hb1368 h
              refine c_skip ?_
              have hd := Option.some.inj h
              subst hd
              exact ej () i6 trivial (sc rfl (sc rfl (sc rfl (sc rfl (sc rfl sn))))) (kc rm1 (kc rm1 (kc rm1 (kc rm1 (kc rm1 (kd kr))))))
          · rintro _ i9 _
            replace h := hk9
            clear hk9
            refine e_blk ?_
            refine e_seq ?_
            refine c_region ?_
            refine o1 rfl (o_p (v := (.int .i64 (w64 (x6.1 + 1)))) rfl ?_)
            refine o1 rfl (o_p rfl ?_)
            refine o_end ?_
            exact e_loop (l_sub (sc rfl (sc rfl (sc rfl (sc rfl (sc rfl sn))))) (l_keep (kc rm0 (kc rm0 (kc rm0 (kc rm0 (kc rm0 kr))))) (ih6 (w64 (x6.1 + 1), d9.1, d9.2.1, d9.2.2.1, d9.2.2.2.1, d9.2.2.2.2.1, d9.2.2.2.2.2, x6.2.2.2.2.2.2.2.1, x6.2.2.2.2.2.2.2.2.1, x6.2.2.2.2.2.2.2.2.2.1, x6.2.2.2.2.2.2.2.2.2.2.1, x6.2.2.2.2.2.2.2.2.2.2.2.1, x6.2.2.2.2.2.2.2.2.2.2.2.2.1, x6.2.2.2.2.2.2.2.2.2.2.2.2.2) i9 trivial h)))
        · replace h := cond_f hb1362 h
          refine c_exit ?_
          refine e_then_exit ?_
          refine e_then_exit ?_
          refine e_blk_exit ?_
          have hd := Option.some.inj h
          subst hd
          exact ej () i6 trivial (sc rfl (sc rfl sn)) (kc rm0 (kc rm0 (kc rm0 (kc rm0 (kc rm0 kr)))))
      · rintro _ i5 _
        replace h := hk5
        clear hk5
        refine e_seq ?_
        refine c_seq ?_
        refine c_seq ?_
        refine c_region ?_
        refine o1 rfl (o_p rfl ?_)
        refine o1 rfl (o_p rfl ?_)
        refine o1 rfl (o_fa (fd := ⟨ "Alt", 4, 1, false, "", "", 8⟩) rfl rfl rfl rfl rfl ?_)
        refine o1 rfl (o_ld (b := i4.1) (off := 1) (v := (.bool d5.2.1)) rfl rm1 rfl rfl ?_)
        refine o_end ?_
        refine e_seq ?_
        replace h := bsome h
        obtain ⟨d11, h, hk11⟩ := h
        refine cj (D := Unit) (ι := SV) (fun _ i11 => True) (fun _ i11 => [(9, (.pointer (some ⟨i4.1, 0, none⟩))), (7, (.pointer (some ⟨i2.1, 0, none⟩)))]) (fun _ i11 => X :: blk i4.1 (.cells (List.toArray [(.int .i64 d5.1), (.bool d5.2.1), (.int .i64 d5.2.2.1), (.int .i64 d5.2.2.2.1), (SV.val i5), (.int .i64 d5.2.2.2.2.2.1)]) 41 (0, 0)) :: blk i2.1 (.cells (List.toArray [(.int .i64 d11.1), (.bool d11.2.1), (.int .i64 d11.2.2.1), (.int .i64 d11.2.2.2.1), (SV.val i11), (.int .i64 d11.2.2.2.2.2.1), (.int .i64 d11.2.2.2.2.2.2)]) 165 (0, 0)) :: slO i5 48 en_Vapi_Cell d5.2.2.2.2.1 :: slO i11 48 en_Vapi_Cell d11.2.2.2.2.1 :: R) ?_ ?_
        · refine c_cond (b := d5.2.1) rfl (fun hb1375 => ?_) (fun hb1375 => ?_)
          · replace h := cond_t hb1375 h
            refine c_region ?_
            refine o1 rfl (o_p rfl ?_)
            replace h := bsome h
            obtain ⟨d12, h12, h⟩ := h
            refine o1 rfl (o_call has47 rfl (c_space_Space_Clear_2 X (⟨d5.2.2.2.2.2.2.1, d5.2.2.2.2.2.2.2.1, (⟨d5.2.2.2.2.2.2.2.2.1, d5.2.2.2.2.2.2.2.2.2.1⟩ : Vaddr_Size), d5.2.2.2.2.2.2.2.2.2.2.1, d5.2.2.2.2.2.2.2.2.2.2.2.1, d5.2.2.2.2.2.2.2.2.2.2.2.2⟩ : Vspace_Space) i2.1 i2.2 true _ h12) (pc rm0 (pc rm1 (pc rm2 pn))) (fun i12 => ?_))
            refine o_end ?_
            have hd := Option.some.inj h
            subst hd
            exact ej () i12 trivial (sc rfl (sc rfl sn)) (kc rm0 (kc rm3 (kc rm0 (kc rm2 (kc rm0 (kd kr))))))
          · replace h := cond_f hb1375 h
            refine c_skip ?_
            have hd := Option.some.inj h
            subst hd
            exact ej () i2.2 trivial (sc rfl (sc rfl sn)) (kc rm0 (kc rm0 (kc rm0 (kc rm0 (kc rm0 kr)))))
        · rintro _ i11 _
          replace h := hk11
          clear hk11
          refine e_seq ?_
          refine c_seq ?_
          refine c_seq ?_
          refine c_region ?_
          refine o1 rfl (o_p rfl ?_)
          refine o1 rfl (o_p rfl ?_)
          refine o1 rfl (o_fa (fd := ⟨ "L", 39, 4, false, "", "", 32⟩) rfl rfl rfl rfl rfl ?_)
          refine o1 rfl (o_ld (b := i4.1) (off := 4) (v := (SV.val i5)) rfl rm1 rfl rfl ?_)
          refine o1 rfl (o_len (s := i5) rfl rfl rfl rm3 (rd_own _ _ _ _) ?_)
          refine o1 rfl (o_p rfl ?_)
          refine o_end ?_
          refine e_seq ?_
          replace h := bsome h
          obtain ⟨d13, h, hk13⟩ := h
          refine cj (D := Unit) (ι := Unit) (fun _ i13 => True) (fun _ i13 => [(9, (.pointer (some ⟨i4.1, 0, none⟩))), (7, (.pointer (some ⟨i2.1, 0, none⟩)))]) (fun _ i13 => X :: blk i4.1 (.cells (List.toArray [(.int .i64 d5.1), (.bool d5.2.1), (.int .i64 d5.2.2.1), (.int .i64 d5.2.2.2.1), (SV.val i5), (.int .i64 d5.2.2.2.2.2.1)]) 41 (0, 0)) :: blk i2.1 (.cells (List.toArray [(.int .i64 d13.1), (.bool d13.2.1), (.int .i64 d13.2.2.1), (.int .i64 d13.2.2.2.1), (SV.val i11), (.int .i64 d13.2.2.2.2.2.1), (.int .i64 d13.2.2.2.2.2.2)]) 165 (0, 0)) :: slO i5 48 en_Vapi_Cell d5.2.2.2.2.1 :: slO i11 48 en_Vapi_Cell d13.2.2.2.2.1 :: R) ?_ ?_
          · refine c_block ?_
            refine c_loop (l_sub (sc rfl (sc rfl (sc rfl (sc rfl (sc rfl sn))))) (l_keep (kc rm0 (kc rm2 (kc rm0 (kc rm0 (kc rm0 kr))))) (lf (X := Int × Int × Bool × Int × Int × (List Vapi_Cell) × Int × Int) (ι := Unit) (fun k x => vitrinelaw19_lay_l14 d5 k x) _ (fun x14 i14 => True) (fun x14 i14 => [(49, (.int .i64 x14.1)), (48, (.int .i64 (d5.2.2.2.2.1.length : Int))), (47, (SV.val i5)), (9, (.pointer (some ⟨i4.1, 0, none⟩))), (7, (.pointer (some ⟨i2.1, 0, none⟩)))]) (fun x14 i14 => X :: slO i5 48 en_Vapi_Cell d5.2.2.2.2.1 :: blk i4.1 (.cells (List.toArray [(.int .i64 d5.1), (.bool d5.2.1), (.int .i64 d5.2.2.1), (.int .i64 d5.2.2.2.1), (SV.val i5), (.int .i64 d5.2.2.2.2.2.1)]) 41 (0, 0)) :: blk i2.1 (.cells (List.toArray [(.int .i64 x14.2.1), (.bool x14.2.2.1), (.int .i64 x14.2.2.2.1), (.int .i64 x14.2.2.2.2.1), (SV.val i11), (.int .i64 x14.2.2.2.2.2.2.1), (.int .i64 x14.2.2.2.2.2.2.2)]) 165 (0, 0)) :: slO i11 48 en_Vapi_Cell x14.2.2.2.2.2.1 :: R) (fun _ => rfl) ?_ fuel (0, d11.1, d11.2.1, d11.2.2.1, d11.2.2.2.1, d11.2.2.2.2.1, d11.2.2.2.2.2.1, d11.2.2.2.2.2.2) () trivial h)))
            clear h
            rintro k14 ih14 x14 i14 _ h
            rw [vitrinelaw19_lay_l14.eq_2] at h
            refine l_round ?_
            refine c_seq ?_
            refine c_region ?_
            refine o1 rfl (o_p (v := (.bool (decide (x14.1 < (d5.2.2.2.2.1.length : Int))))) rfl ?_)
            refine o_end ?_
            refine e_seq ?_
            refine c_seq ?_
            refine c_cond (b := (decide (x14.1 < (d5.2.2.2.2.1.length : Int)))) rfl (fun hb1413 => ?_) (fun hb1413 => ?_)
            · replace h := cond_t hb1413 h
              refine c_skip ?_
              refine e_seq ?_
              refine c_seq ?_
              refine c_block ?_
              refine c_seq ?_
              refine c_region ?_
              refine o1 rfl (o_p rfl ?_)
              replace h := gsome h
              obtain ⟨hg1414, h⟩ := h
              refine o1 rfl (o_ix (s := i5) (n := x14.1) (e := en_Vapi_Cell) rfl rfl rfl rfl rfl rfl rm1 (rd_own _ _ _ _) hg1414 ?_)
              refine o1 rfl (o_ldE (s := i5) (e := en_Vapi_Cell) (n := x14.1) (f := 0) (v := (.agg (List.toArray [(.int .u8 ((rd d5.2.2.2.2.1 x14.1).Char)), (.bool ((rd d5.2.2.2.2.1 x14.1).Attr)), (.int .u8 ((rd d5.2.2.2.2.1 x14.1).FA)), (.int .u8 ((rd d5.2.2.2.2.1 x14.1).High)), (.int .u8 ((rd d5.2.2.2.2.1 x14.1).Color)), (.int .u8 ((rd d5.2.2.2.2.1 x14.1).f_Set))]))) rfl rm1 (rd_own _ _ _ _) hg1414 rfl rfl ?_)
              refine o1 rfl (o_alloc (cs := [(.int .u8 0), (.bool false), (.int .u8 0), (.int .u8 0), (.int .u8 0), (.int .u8 0)]) rfl rfl (fun b1415 => ?_))
              refine o1 rfl (o_p rfl ?_)
              refine o0 (o_st (b := b1415) (off := 0) (vs := [(.int .u8 ((rd d5.2.2.2.2.1 x14.1).Char)), (.bool ((rd d5.2.2.2.2.1 x14.1).Attr)), (.int .u8 ((rd d5.2.2.2.2.1 x14.1).FA)), (.int .u8 ((rd d5.2.2.2.2.1 x14.1).High)), (.int .u8 ((rd d5.2.2.2.2.1 x14.1).Color)), (.int .u8 ((rd d5.2.2.2.2.1 x14.1).f_Set))]) (cs' := [(.int .u8 ((rd d5.2.2.2.2.1 x14.1).Char)), (.bool ((rd d5.2.2.2.2.1 x14.1).Attr)), (.int .u8 ((rd d5.2.2.2.2.1 x14.1).FA)), (.int .u8 ((rd d5.2.2.2.2.1 x14.1).High)), (.int .u8 ((rd d5.2.2.2.2.1 x14.1).Color)), (.int .u8 ((rd d5.2.2.2.2.1 x14.1).f_Set))]) rfl rfl rp0 rfl rfl rfl rfl rfl rfl ?_)
              refine o_end ?_
              refine e_seq ?_
              refine c_seq ?_
              refine c_region ?_
              refine o1 rfl (o_ld (b := b1415) (off := 0) (v := (.agg (List.toArray [(.int .u8 ((rd d5.2.2.2.2.1 x14.1).Char)), (.bool ((rd d5.2.2.2.2.1 x14.1).Attr)), (.int .u8 ((rd d5.2.2.2.2.1 x14.1).FA)), (.int .u8 ((rd d5.2.2.2.2.1 x14.1).High)), (.int .u8 ((rd d5.2.2.2.2.1 x14.1).Color)), (.int .u8 ((rd d5.2.2.2.2.1 x14.1).f_Set))]))) rfl rm0 rfl rfl ?_)
              refine o1 rfl (o_build (fs := [⟨ "Char", 5, 0, false, "", "", 0⟩, ⟨ "Attr", 4, 1, false, "", "", 1⟩, ⟨ "FA", 5, 2, false, "", "", 2⟩, ⟨ "High", 5, 3, false, "", "", 3⟩, ⟨ "Color", 5, 4, false, "", "", 4⟩, ⟨ "Set", 5, 5, false, "", "", 5⟩]) (ps := [(0, 1), (1, 1), (2, 1), (3, 1), (4, 1), (5, 1)]) (cs := [(.int .u8 0), (.bool false), (.int .u8 0), (.int .u8 0), (.int .u8 0), (.int .u8 0)]) rfl rfl rfl rfl rfl ?_)
              refine o1 rfl (o_neT (b := ((((rd d5.2.2.2.2.1 x14.1).Char) == 0) && ((((rd d5.2.2.2.2.1 x14.1).Attr) == false) && ((((rd d5.2.2.2.2.1 x14.1).FA) == 0) && ((((rd d5.2.2.2.2.1 x14.1).High) == 0) && ((((rd d5.2.2.2.2.1 x14.1).Color) == 0) && ((((rd d5.2.2.2.2.1 x14.1).f_Set) == 0) && true))))))) (xs := [(.int .u8 ((rd d5.2.2.2.2.1 x14.1).Char)), (.bool ((rd d5.2.2.2.2.1 x14.1).Attr)), (.int .u8 ((rd d5.2.2.2.2.1 x14.1).FA)), (.int .u8 ((rd d5.2.2.2.2.1 x14.1).High)), (.int .u8 ((rd d5.2.2.2.2.1 x14.1).Color)), (.int .u8 ((rd d5.2.2.2.2.1 x14.1).f_Set))]) (ys := [(.int .u8 0), (.bool false), (.int .u8 0), (.int .u8 0), (.int .u8 0), (.int .u8 0)]) rfl rfl (by kernel_rfl) stood rfl ?_)
              refine o_end ?_
              refine e_seq ?_
              replace h := bsome h
              obtain ⟨d17, h, hk17⟩ := h
              refine cj (D := Unit) (ι := Unit) (fun _ i17 => True) (fun _ i17 => [(49, (.int .i64 x14.1)), (48, (.int .i64 (d5.2.2.2.2.1.length : Int))), (47, (SV.val i5)), (9, (.pointer (some ⟨i4.1, 0, none⟩))), (7, (.pointer (some ⟨i2.1, 0, none⟩)))]) (fun _ i17 => X :: slO i5 48 en_Vapi_Cell d5.2.2.2.2.1 :: blk i4.1 (.cells (List.toArray [(.int .i64 d5.1), (.bool d5.2.1), (.int .i64 d5.2.2.1), (.int .i64 d5.2.2.2.1), (SV.val i5), (.int .i64 d5.2.2.2.2.2.1)]) 41 (0, 0)) :: blk i2.1 (.cells (List.toArray [(.int .i64 d17.1), (.bool d17.2.1), (.int .i64 d17.2.2.1), (.int .i64 d17.2.2.2.1), (SV.val i11), (.int .i64 d17.2.2.2.2.2.1), (.int .i64 d17.2.2.2.2.2.2)]) 165 (0, 0)) :: slO i11 48 en_Vapi_Cell d17.2.2.2.2.1 :: R) ?_ ?_
              · refine c_cond (b := (!((((rd d5.2.2.2.2.1 x14.1).Char) == 0) && ((((rd d5.2.2.2.2.1 x14.1).Attr) == false) && ((((rd d5.2.2.2.2.1 x14.1).FA) == 0) && ((((rd d5.2.2.2.2.1 x14.1).High) == 0) && ((((rd d5.2.2.2.2.1 x14.1).Color) == 0) && ((((rd d5.2.2.2.2.1 x14.1).f_Set) == 0) && true)))))))) rfl (fun hb1417 => ?_) (fun hb1417 => ?_)
                · replace h := cond_t hb1417 h
                  refine c_region ?_
                  refine o1 rfl (o_p rfl ?_)
                  refine o1 rfl (o_p rfl ?_)
                  refine o1 rfl (o_ld (b := b1415) (off := 0) (v := (.agg (List.toArray [(.int .u8 ((rd d5.2.2.2.2.1 x14.1).Char)), (.bool ((rd d5.2.2.2.2.1 x14.1).Attr)), (.int .u8 ((rd d5.2.2.2.2.1 x14.1).FA)), (.int .u8 ((rd d5.2.2.2.2.1 x14.1).High)), (.int .u8 ((rd d5.2.2.2.2.1 x14.1).Color)), (.int .u8 ((rd d5.2.2.2.2.1 x14.1).f_Set))]))) rfl rm0 rfl rfl ?_)
                  replace h := bsome h
                  obtain ⟨d18, h18, h⟩ := h
                  refine o1 rfl (o_call has48 rfl (c_space_Space_Set X (⟨x14.2.1, x14.2.2.1, (⟨x14.2.2.2.1, x14.2.2.2.2.1⟩ : Vaddr_Size), x14.2.2.2.2.2.1, x14.2.2.2.2.2.2.1, x14.2.2.2.2.2.2.2⟩ : Vspace_Space) i2.1 i11 x14.1 (rd d5.2.2.2.2.1 x14.1) _ h18) (pc rm1 (pc rm3 (pc rm3 pn))) ?_)
                  refine o_end ?_
                  have hd := Option.some.inj h
                  subst hd
                  exact ej () () trivial (sc rfl (sc rfl (sc rfl (sc rfl (sc rfl sn))))) (kc rm0 (kc rm3 (kc rm3 (kc rm0 (kc rm0 (kd kr))))))
                · replace h := cond_f hb1417 h
                  refine c_skip ?_
                  have hd := Option.some.inj h
                  subst hd
                  exact ej () () trivial (sc rfl (sc rfl (sc rfl (sc rfl (sc rfl sn))))) (kc rm1 (kc rm1 (kc rm1 (kc rm1 (kc rm1 (kd kr))))))
              · rintro _ i17 _
                replace h := hk17
                clear hk17
                refine e_blk ?_
                refine e_seq ?_
                refine c_region ?_
                refine o1 rfl (o_p (v := (.int .i64 (w64 (x14.1 + 1)))) rfl ?_)
                refine o1 rfl (o_p rfl ?_)
                refine o_end ?_
                exact e_loop (l_sub (sc rfl (sc rfl (sc rfl (sc rfl (sc rfl sn))))) (l_keep (kc rm0 (kc rm0 (kc rm0 (kc rm0 (kc rm0 kr))))) (ih14 (w64 (x14.1 + 1), d17.1, d17.2.1, d17.2.2.1, d17.2.2.2.1, d17.2.2.2.2.1, d17.2.2.2.2.2.1, d17.2.2.2.2.2.2) () trivial h)))
            · replace h := cond_f hb1413 h
              refine c_exit ?_
              refine e_then_exit ?_
              refine e_then_exit ?_
              refine e_blk_exit ?_
              have hd := Option.some.inj h
              subst hd
              exact ej () () trivial (sc rfl (sc rfl sn)) (kc rm0 (kc rm1 (kc rm1 (kc rm0 (kc rm0 kr)))))
          · rintro _ i13 _
            replace h := hk13
            clear hk13
            refine e_seq ?_
            refine c_seq ?_
            refine c_region ?_
            refine o1 rfl (o_p rfl ?_)
            refine o1 rfl (o_p rfl ?_)
            refine o1 rfl (o_p rfl ?_)
            refine o1 rfl (o_fa (fd := ⟨ "Cursor", 3, 5, false, "", "", 56⟩) rfl rfl rfl rfl rfl ?_)
            refine o1 rfl (o_ld (b := i4.1) (off := 5) (v := (.int .i64 d5.2.2.2.2.2.1)) rfl rm1 rfl rfl ?_)
            replace h := bsome h
            obtain ⟨d19, h19, h⟩ := h
            refine o1 rfl (o_call has49 rfl (c_space_Space_Place X (⟨d13.1, d13.2.1, (⟨d13.2.2.1, d13.2.2.2.1⟩ : Vaddr_Size), d13.2.2.2.2.1, d13.2.2.2.2.2.1, d13.2.2.2.2.2.2⟩ : Vspace_Space) i2.1 i11 d5.2.2.2.2.2.1 _ h19) (pc rm0 (pc rm1 (pc rm2 pn))) ?_)
            refine o_end ?_
            refine e_seq ?_
            refine c_seq ?_
            refine c_region ?_
            refine o1 rfl (o_p rfl ?_)
            refine o1 rfl (o_p rfl ?_)
            refine o1 rfl (o_p rfl ?_)
            refine o1 rfl (o_p rfl ?_)
            refine o_end ?_
            refine e_seq ?_
            refine c_ret ?_
            refine e_ret ?_
            refine r_endt rfl rfl (kc rm0 (kc rm0 (kc rm0 (kc rm0 (kc rm0 kr))))) ?_
            have hr := Option.some.inj h
            subst hr
            exact hk (i2.1, i11, i4.1, i5)

theorem c_keys_place {g : Gw} (X : HP) (p0 : ByteArray) (p1 : Int) (r : Int) (h : m_keys_place p0 p1 = some r) : Tri env g 92 (List.toArray [(.string p0), (.int .u8 p1)]) [X] (fun K R => K (.int .i64 r) (X :: R)) := by
  refine tri_of (fn := Try.f92) (N := 19) Try.func92 rfl rfl rfl ?_
  intro R K hk
  unfold m_keys_place at h
  change GC _ none _ [] [(0, (.string p0)), (1, (.int .u8 p1))] (X :: R) g _ _
  refine c_seq ?_
  refine c_region ?_
  refine o1 rfl (o_p rfl ?_)
  refine o_end ?_
  refine e_seq ?_
  refine c_seq ?_
  refine c_seq ?_
  refine c_region ?_
  refine o1 rfl (o_p rfl ?_)
  refine o1 rfl (o_lens (s := p0) rfl rfl rfl ?_)
  refine o1 rfl (o_p rfl ?_)
  refine o_end ?_
  refine e_seq ?_
  replace h := jn_some h
  obtain ⟨y1, h, hk1⟩ := h
  refine cj (D := Unit) (ι := Unit) (fun d1 i1 => y1 = Sum.inl d1) (fun d1 i1 => []) (fun d1 i1 => X :: R) ?_ ?_
  · refine c_block ?_
    refine c_loop (l_sub (sc rfl (sc rfl (sc rfl (sc rfl sn)))) (l_keep (kc rm0 kr) (lf (X := Int) (ι := Unit) (fun k x => keys_place_l2 p0 p1 k x) _ (fun x2 i2 => True) (fun x2 i2 => [(8, (.int .i64 x2)), (7, (.int .i64 (p0.size : Int))), (0, (.string p0)), (1, (.int .u8 p1))]) (fun x2 i2 => X :: R) (fun _ => rfl) ?_ fuel 0 () trivial h)))
    clear h
    rintro k2 ih2 x2 i2 _ h
    rw [keys_place_l2.eq_2] at h
    refine l_round ?_
    refine c_seq ?_
    refine c_region ?_
    refine o1 rfl (o_p (v := (.bool (decide (x2 < (p0.size : Int))))) rfl ?_)
    refine o_end ?_
    refine e_seq ?_
    refine c_seq ?_
    refine c_cond (b := (decide (x2 < (p0.size : Int)))) rfl (fun hb1439 => ?_) (fun hb1439 => ?_)
    · replace h := cond_t hb1439 h
      refine c_skip ?_
      refine e_seq ?_
      refine c_seq ?_
      refine c_block ?_
      refine c_seq ?_
      refine c_region ?_
      refine o1 rfl (o_p rfl ?_)
      refine o1 rfl (o_p rfl ?_)
      refine o_end ?_
      refine e_seq ?_
      refine c_seq ?_
      refine c_region ?_
      refine o1 rfl (o_p rfl ?_)
      refine o1 rfl (o_p rfl ?_)
      replace h := gsome h
      obtain ⟨hg1440, h⟩ := h
      refine o1 rfl (o_sidx (s := p0) (n := x2) rfl rfl rfl rfl hg1440 ?_)
      refine o1 rfl (o_p rfl ?_)
      refine o1 rfl (o_p (v := (.bool ((sbyte p0 x2) == p1))) rfl ?_)
      refine o_end ?_
      refine e_seq ?_
      refine c_cond (b := ((sbyte p0 x2) == p1)) rfl (fun hb1441 => ?_) (fun hb1441 => ?_)
      · replace h := cond_t hb1441 h
        refine c_seq ?_
        refine c_region ?_
        refine o1 rfl (o_p rfl ?_)
        refine o1 rfl (o_p (v := (.int .i64 (w64 (x2 + 1)))) rfl ?_)
        refine o1 rfl (o_p rfl ?_)
        refine o_end ?_
        refine e_seq ?_
        refine c_ret ?_
        refine e_blk_ret ?_
        refine e_then_ret ?_
        refine e_then_ret ?_
        refine e_blk_ret ?_
        refine ej_ret ?_
        replace h := esc_some h
        obtain ⟨z1, h, rfl⟩ := h
        obtain rfl := (hk1 : z1 = _)
        refine e_then_ret ?_
        refine e_ret ?_
        refine r_endt rfl rfl (kc rm0 kr) ?_
        have hr := Option.some.inj h
        subst hr
        exact hk
      · replace h := cond_f hb1441 h
        refine c_skip ?_
        refine e_blk ?_
        refine e_seq ?_
        refine c_region ?_
        refine o1 rfl (o_p (v := (.int .i64 (w64 (x2 + 1)))) rfl ?_)
        refine o1 rfl (o_p rfl ?_)
        refine o_end ?_
        exact e_loop (l_sub (sc rfl (sc rfl (sc rfl (sc rfl sn)))) (l_keep (kc rm0 kr) (ih2 (w64 (x2 + 1)) () trivial h)))
    · replace h := cond_f hb1439 h
      refine c_exit ?_
      refine e_then_exit ?_
      refine e_then_exit ?_
      refine e_blk_exit ?_
      have hd := Option.some.inj h
      subst hd
      exact ej () () rfl sn (kc rm0 kr)
  · rintro d1 i1 rfl
    replace h := JK_inl hk1
    clear hk1
    refine e_seq ?_
    refine c_seq ?_
    refine c_region ?_
    refine o1 rfl (o_p rfl ?_)
    refine o_end ?_
    refine e_seq ?_
    refine c_ret ?_
    refine e_ret ?_
    refine r_endt rfl rfl (kc rm0 kr) ?_
    have hr := Option.some.inj h
    subst hr
    exact hk

theorem c_keys_Short {g : Gw} (X : HP) (p0 : Int) (r : Bool) (h : m_keys_Short p0 = some r) : Tri env g 51 (List.toArray [(.int .u8 p0)]) [X] (fun K R => K (.bool r) (X :: R)) := by
  refine tri_of (fn := Try.f51) (N := 10) Try.func51 rfl rfl rfl ?_
  intro R K hk
  unfold m_keys_Short at h
  change GC _ none _ [] [(0, (.int .u8 p0))] (X :: R) g _ _
  refine c_seq ?_
  refine c_region ?_
  refine o1 rfl (o_p rfl ?_)
  refine o_end ?_
  refine e_seq ?_
  refine c_seq ?_
  replace h := bsome h
  obtain ⟨d1, h, hk1⟩ := h
  refine cj (D := Unit) (ι := Unit) (fun _ i1 => True) (fun _ i1 => [(2, (.bool d1))]) (fun _ i1 => X :: R) ?_ ?_
  · refine c_region ?_
    refine o1 rfl (o_p rfl ?_)
    refine o1 rfl (o_p (v := (.bool (p0 == 109))) rfl ?_)
    refine o1 rfl (o_p rfl ?_)
    rcases bool_or ((p0 == 109)) with hb1432 | hb1432
    · replace h := cond_t hb1432 h
      refine on rfl rfl rfl hb1432 ?_
      refine on rfl rfl rfl hb1432 ?_
      refine on rfl rfl rfl hb1432 ?_
      refine o1 rfl (o_pick_t rfl hb1432 rfl ?_)
      refine o1 rfl (o_p rfl ?_)
      refine o_end ?_
      have hd := Option.some.inj h
      subst hd
      exact ej () () trivial (sc rfl sn) (kc rm0 kr)
    · replace h := cond_f hb1432 h
      refine oy rfl rfl rfl hb1432 (o_p rfl ?_)
      replace h := bsome h
      obtain ⟨d2, h2, h⟩ := h
      refine oy rfl rfl rfl hb1432 (o_call has92 rfl (c_keys_place X (ByteArray.mk (List.toArray [108, 110, 107])) p0 _ h2) (pc rm0 pn) ?_)
      refine oy rfl rfl rfl hb1432 (o_p (v := (.bool (decide (d2 > 0)))) rfl ?_)
      refine o1 rfl (o_pick_f rfl hb1432 rfl ?_)
      refine o1 rfl (o_p rfl ?_)
      refine o_end ?_
      have hd := Option.some.inj h
      subst hd
      exact ej () () trivial (sc rfl sn) (kc rm0 kr)
  · rintro _ i1 _
    replace h := hk1
    clear hk1
    refine e_seq ?_
    refine c_ret ?_
    refine e_ret ?_
    refine r_endt rfl rfl (kc rm0 kr) ?_
    have hr := Option.some.inj h
    subst hr
    exact hk

theorem c_space_Space_Cursor {g : Gw} (X : HP) (p0 : Vspace_Space) (b0 : Nat) (s0 : SV) (r : Int) (h : m_space_Space_Cursor p0 = some r) : Tri env g 99 (List.toArray [(.pointer (some ⟨b0, 0, none⟩))]) [X, blk b0 (.cells (List.toArray [(.int .i64 p0.model), (.bool p0.alternate), (.int .i64 p0.size.Rows), (.int .i64 p0.size.Cols), (SV.val s0), (.int .i64 p0.cursor), (.int .i64 p0.attrs)]) 165 (0, 0)), slO s0 48 en_Vapi_Cell p0.cells] (fun K R => K (.int .i64 r) (X :: blk b0 (.cells (List.toArray [(.int .i64 p0.model), (.bool p0.alternate), (.int .i64 p0.size.Rows), (.int .i64 p0.size.Cols), (SV.val s0), (.int .i64 p0.cursor), (.int .i64 p0.attrs)]) 165 (0, 0)) :: slO s0 48 en_Vapi_Cell p0.cells :: R)) := by
  refine tri_of (fn := Try.f99) (N := 9) Try.func99 rfl rfl rfl ?_
  intro R K hk
  unfold m_space_Space_Cursor at h
  change GC _ none _ [] [(0, (.pointer (some ⟨b0, 0, none⟩)))] (X :: blk b0 (.cells (List.toArray [(.int .i64 p0.model), (.bool p0.alternate), (.int .i64 p0.size.Rows), (.int .i64 p0.size.Cols), (SV.val s0), (.int .i64 p0.cursor), (.int .i64 p0.attrs)]) 165 (0, 0)) :: slO s0 48 en_Vapi_Cell p0.cells :: R) g _ _
  refine c_seq ?_
  refine c_region ?_
  refine o1 rfl (o_p rfl ?_)
  refine o_end ?_
  refine e_seq ?_
  refine c_seq ?_
  refine c_seq ?_
  refine c_region ?_
  refine o1 rfl (o_p rfl ?_)
  refine o1 rfl (o_p (v := (.bool false)) rfl ?_)
  refine o_end ?_
  refine e_seq ?_
  refine c_cond_f rfl rfl ?_
  refine c_skip ?_
  refine e_seq ?_
  refine c_seq ?_
  refine c_region ?_
  refine o1 rfl (o_p rfl ?_)
  refine o1 rfl (o_p rfl ?_)
  refine o1 rfl (o_fa (fd := ⟨ "cursor", 3, 5, false, "", "vitrine/space", 56⟩) rfl rfl rfl rfl rfl ?_)
  refine o1 rfl (o_ld (b := b0) (off := 5) (v := (.int .i64 p0.cursor)) rfl rm1 rfl rfl ?_)
  refine o1 rfl (o_p rfl ?_)
  refine o_end ?_
  refine e_seq ?_
  refine c_ret ?_
  refine e_ret ?_
  refine r_endt rfl rfl (kc rm0 (kc rm0 (kc rm0 kr))) ?_
  have hr := Option.some.inj h
  subst hr
  exact hk

theorem c_read_sender_addr {g : Gw} (X : HP) (p0 : Vread_sender) (b0 : Nat) (s0 : SV) (p1 : Int) (r : Vread_sender) (h : m_read_sender_addr p0 p1 = some r) : Tri env g 89 (List.toArray [(.pointer (some ⟨b0, 0, none⟩)), (.int .i64 p1)]) [X, blk b0 (.cells (List.toArray [(SV.val s0), (.int .u8 p0.last.Char), (.bool p0.last.Attr), (.int .u8 p0.last.FA), (.int .u8 p0.last.High), (.int .u8 p0.last.Color), (.int .u8 p0.last.f_Set), (.int .i64 p0.mode)]) 130 (0, 0)), slO s0 5 (enI .u8) p0.out] (fun K R => ∀ (i0 : SV), K (.tuple (List.toArray [])) (X :: blk b0 (.cells (List.toArray [(SV.val i0), (.int .u8 r.last.Char), (.bool r.last.Attr), (.int .u8 r.last.FA), (.int .u8 r.last.High), (.int .u8 r.last.Color), (.int .u8 r.last.f_Set), (.int .i64 r.mode)]) 130 (0, 0)) :: slO i0 5 (enI .u8) r.out :: R)) := by
  refine tri_of (fn := Try.f89) (N := 22) Try.func89 rfl rfl rfl ?_
  intro R K hk
  unfold m_read_sender_addr at h
  change GC _ none _ [] [(0, (.pointer (some ⟨b0, 0, none⟩))), (1, (.int .i64 p1))] (X :: blk b0 (.cells (List.toArray [(SV.val s0), (.int .u8 p0.last.Char), (.bool p0.last.Attr), (.int .u8 p0.last.FA), (.int .u8 p0.last.High), (.int .u8 p0.last.Color), (.int .u8 p0.last.f_Set), (.int .i64 p0.mode)]) 130 (0, 0)) :: slO s0 5 (enI .u8) p0.out :: R) g _ _
  refine c_seq ?_
  refine c_region ?_
  refine o1 rfl (o_p rfl ?_)
  replace h := bsome h
  obtain ⟨d1, h1, h⟩ := h
  refine o1 rfl (o_call has60 rfl (c_addr_Encode X 12 p1 _ h1) (pc rm0 pn) (fun i1 => ?_))
  refine o1 rfl (o_p rfl ?_)
  refine o1 rfl (o_p rfl ?_)
  refine o1 rfl (o_p rfl ?_)
  refine o1 rfl (o_p rfl ?_)
  refine o1 rfl (o_p rfl ?_)
  refine o_end ?_
  refine e_seq ?_
  refine c_seq ?_
  refine c_region ?_
  refine o1 rfl (o_p rfl ?_)
  refine o1 rfl (o_p (v := (.bool (d1.2 == 0))) rfl ?_)
  refine o_end ?_
  refine e_seq ?_
  refine c_cond (b := (d1.2 == 0)) rfl (fun hb1452 => ?_) (fun hb1452 => ?_)
  · replace h := cond_t hb1452 h
    refine c_region ?_
    refine o1 rfl (o_p rfl ?_)
    refine o1 rfl (o_p rfl ?_)
    refine o1 rfl (o_p rfl ?_)
    refine o1 rfl (o_fa (fd := ⟨ "out", 31, 0, false, "", "vitrine/read", 0⟩) rfl rfl rfl rfl rfl ?_)
    refine o1 rfl (o_ld (b := b0) (off := 0) (v := (SV.val s0)) rfl rm2 rfl rfl ?_)
    refine o1 rfl (o_p rfl ?_)
    replace h := gsome h
    obtain ⟨hg1453, h⟩ := h
    refine o1 rfl (o_app (s := s0) (r := i1) (e := (enI .u8)) (l := p0.out) (l2 := d1.1) (zs := [(.int .u8 0)]) rfl rfl rfl rfl rfl rfl rfl rfl rfl rfl rfl rm3 rm1 (rd_own _ _ _ _) hg1453 (fun s1454 => ?_))
    refine o1 rfl (o_p rfl ?_)
    refine o1 rfl (o_fa (fd := ⟨ "out", 31, 0, false, "", "vitrine/read", 0⟩) rfl rfl rfl rfl rfl ?_)
    refine o0 (o_st (b := b0) (off := 0) (vs := [(SV.val s1454)]) (cs' := [(SV.val s1454), (.int .u8 p0.last.Char), (.bool p0.last.Attr), (.int .u8 p0.last.FA), (.int .u8 p0.last.High), (.int .u8 p0.last.Color), (.int .u8 p0.last.f_Set), (.int .i64 p0.mode)]) rfl rfl rp3 rfl rfl rfl rfl rfl rfl ?_)
    refine o_end ?_
    refine e_fall ?_
    refine r_endt rfl rfl (kc rm1 (kc rm2 (kc rm0 (kd kr)))) ?_
    have hr := Option.some.inj h
    subst hr
    exact hk s1454
  · replace h := cond_f hb1452 h
    refine c_skip ?_
    refine e_fall ?_
    refine r_endt rfl rfl (kc rm0 (kc rm1 (kc rm1 (kd kr)))) ?_
    have hr := Option.some.inj h
    subst hr
    exact hk s0

end Go.Vt
