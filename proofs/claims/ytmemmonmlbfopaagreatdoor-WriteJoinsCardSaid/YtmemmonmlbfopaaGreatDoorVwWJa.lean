/- The walks: each function does what its model says. No conditions. -/
import Derived.Test.YtmemmonmlbfopaaGreatDoorVmJM
import Derived.Test.YtmemmonmlbfopaaGreatDoorProg
import Derived.KernelRfl
set_option linter.unusedVariables false
set_option maxRecDepth 100000
set_option maxHeartbeats 4000000
namespace Go.Vt
open Go.Proofs
def tt : List (Nat × TI) := [
 (3, ⟨(.int .i64), 1, (.int .i64 0), 8⟩),
 (4, ⟨.bool, 1, (.bool false), 1⟩),
 (5, ⟨(.int .u8), 1, (.int .u8 0), 1⟩),
 (9, ⟨.string, 1, (.string ⟨#[]⟩), 16⟩),
 (22, ⟨(.slice 92), 1, (.slice none 0 0), 24⟩),
 (24, ⟨(.pointer 116), 1, (.pointer none), 8⟩),
 (25, ⟨(.pointer 40), 1, (.pointer none), 8⟩),
 (33, ⟨(.slice 9), 1, (.slice none 0 0), 24⟩),
 (37, ⟨(.struct #[⟨ "Rows", 3, 0, false, "", "", 0⟩, ⟨ "Cols", 3, 1, false, "", "", 8⟩]), 2, (.agg #[(.int .i64 0), (.int .i64 0)]), 16⟩),
 (38, ⟨(.slice 80), 1, (.slice none 0 0), 24⟩),
 (40, ⟨(.struct #[⟨ "Model", 3, 0, false, "", "", 0⟩, ⟨ "Alt", 4, 1, false, "", "", 8⟩, ⟨ "Size", 37, 2, false, "", "", 16⟩, ⟨ "L", 38, 4, false, "", "", 32⟩, ⟨ "Cursor", 3, 5, false, "", "", 56⟩]), 6, (.agg #[(.int .i64 0), (.bool false), (.int .i64 0), (.int .i64 0), (.slice none 0 0), (.int .i64 0)]), 64⟩),
 (46, ⟨(.slice 5), 1, (.slice none 0 0), 24⟩),
 (51, ⟨(.slice 56), 1, (.slice none 0 0), 24⟩),
 (54, ⟨(.slice 208), 1, (.slice none 0 0), 24⟩),
 (56, ⟨(.struct #[⟨ "Kind", 3, 0, false, "", "", 0⟩, ⟨ "Addr", 3, 1, false, "", "", 8⟩, ⟨ "Code", 5, 2, false, "", "", 16⟩, ⟨ "Graph", 4, 3, false, "", "", 17⟩, ⟨ "FA", 5, 4, false, "", "", 18⟩, ⟨ "Pairs", 54, 5, false, "", "", 24⟩, ⟨ "Text", 46, 6, false, "", "", 48⟩]), 7, (.agg #[(.int .i64 0), (.int .i64 0), (.int .u8 0), (.bool false), (.int .u8 0), (.slice none 0 0), (.slice none 0 0)]), 72⟩),
 (57, ⟨(.int .i64), 1, (.int .i64 0), 8⟩),
 (77, ⟨(.struct #[⟨ "Protected", 4, 0, false, "", "", 0⟩, ⟨ "Numeric", 4, 1, false, "", "", 1⟩, ⟨ "Display", 3, 2, false, "", "", 8⟩, ⟨ "Modified", 4, 3, false, "", "", 16⟩]), 4, (.agg #[(.bool false), (.bool false), (.int .i64 0), (.bool false)]), 24⟩),
 (80, ⟨(.struct #[⟨ "Char", 5, 0, false, "", "", 0⟩, ⟨ "Attr", 4, 1, false, "", "", 1⟩, ⟨ "FA", 5, 2, false, "", "", 2⟩, ⟨ "High", 5, 3, false, "", "", 3⟩, ⟨ "Color", 5, 4, false, "", "", 4⟩, ⟨ "Set", 5, 5, false, "", "", 5⟩]), 6, (.agg #[(.int .u8 0), (.bool false), (.int .u8 0), (.int .u8 0), (.int .u8 0), (.int .u8 0)]), 6⟩),
 (92, ⟨(.struct #[⟨ "Do", 5, 0, false, "", "", 0⟩, ⟨ "N", 3, 1, false, "", "", 8⟩, ⟨ "On", 4, 2, false, "", "", 16⟩, ⟨ "Code", 5, 3, false, "", "", 17⟩, ⟨ "C", 80, 4, false, "", "", 18⟩, ⟨ "Text", 46, 10, false, "", "", 24⟩]), 11, (.agg #[(.int .u8 0), (.int .i64 0), (.bool false), (.int .u8 0), (.int .u8 0), (.bool false), (.int .u8 0), (.int .u8 0), (.int .u8 0), (.int .u8 0), (.slice none 0 0)]), 48⟩),
 (99, ⟨(.slice 3), 1, (.slice none 0 0), 24⟩),
 (102, ⟨(.struct #[⟨ "Rows", 3, 0, false, "", "", 0⟩, ⟨ "Cols", 3, 1, false, "", "", 8⟩]), 2, (.agg #[(.int .i64 0), (.int .i64 0)]), 16⟩),
 (110, ⟨(.struct #[⟨ "Command", 3, 0, false, "", "", 0⟩, ⟨ "Restore", 4, 1, false, "", "", 8⟩, ⟨ "Alarm", 4, 2, false, "", "", 9⟩, ⟨ "Reset", 4, 3, false, "", "", 10⟩, ⟨ "Pieces", 3, 4, false, "", "", 16⟩, ⟨ "Fields", 46, 5, false, "", "", 24⟩]), 6, (.agg #[(.int .i64 0), (.bool false), (.bool false), (.bool false), (.int .i64 0), (.slice none 0 0)]), 48⟩),
 (116, ⟨(.struct #[⟨ "model", 3, 0, false, "", "vitrine/space", 0⟩, ⟨ "alternate", 4, 1, false, "", "vitrine/space", 8⟩, ⟨ "size", 102, 2, false, "", "vitrine/space", 16⟩, ⟨ "cells", 38, 4, false, "", "vitrine/space", 32⟩, ⟨ "cursor", 3, 5, false, "", "vitrine/space", 56⟩, ⟨ "attrs", 3, 6, false, "", "vitrine/space", 64⟩]), 7, (.agg #[(.int .i64 0), (.bool false), (.int .i64 0), (.int .i64 0), (.slice none 0 0), (.int .i64 0), (.int .i64 0)]), 72⟩),
 (120, ⟨(.pointer 123), 1, (.pointer none), 8⟩),
 (123, ⟨(.struct #[⟨ "s", 24, 0, false, "", "vitrine/write", 0⟩, ⟨ "n", 3, 1, false, "", "vitrine/write", 8⟩, ⟨ "look", 80, 2, false, "", "vitrine/write", 16⟩, ⟨ "texts", 4, 8, false, "", "vitrine/write", 22⟩]), 9, (.agg #[(.pointer none), (.int .i64 0), (.int .u8 0), (.bool false), (.int .u8 0), (.int .u8 0), (.int .u8 0), (.int .u8 0), (.bool false)]), 24⟩),
 (127, ⟨(.slice 254), 1, (.slice none 0 0), 24⟩),
 (129, ⟨(.struct #[⟨ "Kind", 3, 0, false, "", "", 0⟩, ⟨ "Addr", 3, 1, false, "", "", 8⟩, ⟨ "Code", 5, 2, false, "", "", 16⟩, ⟨ "Graph", 4, 3, false, "", "", 17⟩, ⟨ "FA", 5, 4, false, "", "", 18⟩, ⟨ "Pairs", 127, 5, false, "", "", 24⟩, ⟨ "Text", 46, 6, false, "", "", 48⟩]), 7, (.agg #[(.int .i64 0), (.int .i64 0), (.int .u8 0), (.bool false), (.int .u8 0), (.slice none 0 0), (.slice none 0 0)]), 72⟩),
 (141, ⟨(.struct #[⟨ "Protected", 4, 0, false, "", "", 0⟩, ⟨ "Numeric", 4, 1, false, "", "", 1⟩, ⟨ "Display", 3, 2, false, "", "", 8⟩, ⟨ "Modified", 4, 3, false, "", "", 16⟩]), 4, (.agg #[(.bool false), (.bool false), (.int .i64 0), (.bool false)]), 24⟩),
 (208, ⟨(.struct #[⟨ "Type", 5, 0, false, "", "", 0⟩, ⟨ "Value", 5, 1, false, "", "", 1⟩]), 2, (.agg #[(.int .u8 0), (.int .u8 0)]), 2⟩),
 (211, ⟨(.pointer 213), 1, (.pointer none), 8⟩),
 (213, ⟨(.struct #[⟨ "p", 46, 0, false, "", "vitrine/order", 0⟩, ⟨ "code", 57, 1, false, "", "vitrine/order", 24⟩]), 2, (.agg #[(.slice none 0 0), (.int .i64 0)]), 32⟩),
 (228, ⟨(.func #[3, 141] #[4] false), 1, .nilFunc, 8⟩),
 (230, ⟨(.func #[3] #[4] false), 1, .nilFunc, 8⟩),
 (239, ⟨(.slice 37), 1, (.slice none 0 0), 24⟩),
 (244, ⟨(.struct #[⟨ "word", 9, 0, false, "", "vitrine/write", 0⟩, ⟨ "one", 5, 1, false, "", "vitrine/write", 16⟩, ⟨ "other", 5, 2, false, "", "vitrine/write", 17⟩]), 3, (.agg #[(.string ⟨#[]⟩), (.int .u8 0), (.int .u8 0)]), 24⟩),
 (245, ⟨(.array 9 244), 27, (.agg #[(.string ⟨#[]⟩), (.int .u8 0), (.int .u8 0), (.string ⟨#[]⟩), (.int .u8 0), (.int .u8 0), (.string ⟨#[]⟩), (.int .u8 0), (.int .u8 0), (.string ⟨#[]⟩), (.int .u8 0), (.int .u8 0), (.string ⟨#[]⟩), (.int .u8 0), (.int .u8 0), (.string ⟨#[]⟩), (.int .u8 0), (.int .u8 0), (.string ⟨#[]⟩), (.int .u8 0), (.int .u8 0), (.string ⟨#[]⟩), (.int .u8 0), (.int .u8 0), (.string ⟨#[]⟩), (.int .u8 0), (.int .u8 0)]), 216⟩),
 (254, ⟨(.struct #[⟨ "Type", 5, 0, false, "", "", 0⟩, ⟨ "Value", 5, 1, false, "", "", 1⟩]), 2, (.agg #[(.int .u8 0), (.int .u8 0)]), 2⟩)]
theorem ttOk : tik Tryz.prog tt := ⟨⟨by kernel_rfl, by kernel_rfl⟩, ⟨by kernel_rfl, by kernel_rfl⟩, ⟨by kernel_rfl, by kernel_rfl⟩, ⟨by kernel_rfl, by kernel_rfl⟩, ⟨by kernel_rfl, by kernel_rfl⟩, ⟨by kernel_rfl, by kernel_rfl⟩, ⟨by kernel_rfl, by kernel_rfl⟩, ⟨by kernel_rfl, by kernel_rfl⟩, ⟨by kernel_rfl, by kernel_rfl⟩, ⟨by kernel_rfl, by kernel_rfl⟩, ⟨by kernel_rfl, by kernel_rfl⟩, ⟨by kernel_rfl, by kernel_rfl⟩, ⟨by kernel_rfl, by kernel_rfl⟩, ⟨by kernel_rfl, by kernel_rfl⟩, ⟨by kernel_rfl, by kernel_rfl⟩, ⟨by kernel_rfl, by kernel_rfl⟩, ⟨by kernel_rfl, by kernel_rfl⟩, ⟨by kernel_rfl, by kernel_rfl⟩, ⟨by kernel_rfl, by kernel_rfl⟩, ⟨by kernel_rfl, by kernel_rfl⟩, ⟨by kernel_rfl, by kernel_rfl⟩, ⟨by kernel_rfl, by kernel_rfl⟩, ⟨by kernel_rfl, by kernel_rfl⟩, ⟨by kernel_rfl, by kernel_rfl⟩, ⟨by kernel_rfl, by kernel_rfl⟩, ⟨by kernel_rfl, by kernel_rfl⟩, ⟨by kernel_rfl, by kernel_rfl⟩, ⟨by kernel_rfl, by kernel_rfl⟩, ⟨by kernel_rfl, by kernel_rfl⟩, ⟨by kernel_rfl, by kernel_rfl⟩, ⟨by kernel_rfl, by kernel_rfl⟩, ⟨by kernel_rfl, by kernel_rfl⟩, ⟨by kernel_rfl, by kernel_rfl⟩, ⟨by kernel_rfl, by kernel_rfl⟩, ⟨by kernel_rfl, by kernel_rfl⟩, ⟨by kernel_rfl, by kernel_rfl⟩, ⟨by kernel_rfl, by kernel_rfl⟩, trivial⟩
noncomputable def env : Env := ⟨Tryz.prog, tt, tik_ok ttOk⟩
theorem stood : Stood env.P env.tt := stood_of (show stk Tryz.prog tt from ⟨by kernel_rfl, by kernel_rfl, by kernel_rfl, by kernel_rfl, by kernel_rfl, by kernel_rfl, by kernel_rfl, by kernel_rfl, by kernel_rfl, by kernel_rfl, by kernel_rfl, by kernel_rfl, by kernel_rfl, by kernel_rfl, by kernel_rfl, by kernel_rfl, by kernel_rfl, by kernel_rfl, by kernel_rfl, by kernel_rfl, by kernel_rfl, by kernel_rfl, by kernel_rfl, by kernel_rfl, by kernel_rfl, by kernel_rfl, by kernel_rfl, by kernel_rfl, by kernel_rfl, by kernel_rfl, by kernel_rfl, by kernel_rfl, by kernel_rfl, by kernel_rfl, by kernel_rfl, by kernel_rfl, by kernel_rfl, trivial⟩)
def glob1 : List Value := [(.string (ByteArray.mk (List.toArray [78, 111, 116, 104, 105, 110, 103]))), (.int .u8 3), (.int .u8 3), (.string (ByteArray.mk (List.toArray [87, 114, 105, 116, 101]))), (.int .u8 1), (.int .u8 241), (.string (ByteArray.mk (List.toArray [69, 114, 97, 115, 101, 87, 114, 105, 116, 101]))), (.int .u8 5), (.int .u8 245), (.string (ByteArray.mk (List.toArray [69, 114, 97, 115, 101, 65, 108, 116, 101, 114, 110, 97, 116, 101]))), (.int .u8 13), (.int .u8 126), (.string (ByteArray.mk (List.toArray [69, 114, 97, 115, 101, 85, 110, 112, 114, 111, 116, 101, 99, 116, 101, 100]))), (.int .u8 15), (.int .u8 111), (.string (ByteArray.mk (List.toArray [82, 101, 97, 100, 66, 117, 102, 102, 101, 114]))), (.int .u8 2), (.int .u8 242), (.string (ByteArray.mk (List.toArray [82, 101, 97, 100, 77, 111, 100, 105, 102, 105, 101, 100]))), (.int .u8 6), (.int .u8 246), (.string (ByteArray.mk (List.toArray [82, 101, 97, 100, 65, 108, 108]))), (.int .u8 14), (.int .u8 110), (.string (ByteArray.mk (List.toArray [83, 116, 114, 117, 99, 116, 117, 114, 101, 100]))), (.int .u8 17), (.int .u8 243)]
def GK (g : Gw) : Prop := GKb g 1 glob1
def en_Vvitrineref12_Act : En (Vvitrineref12_Act × SV) := ⟨11, fun y => [(.int .u8 y.1.Do), (.int .i64 y.1.N), (.bool y.1.On), (.int .u8 y.1.Code), (.int .u8 y.1.C.Char), (.bool y.1.C.Attr), (.int .u8 y.1.C.FA), (.int .u8 y.1.C.High), (.int .u8 y.1.C.Color), (.int .u8 y.1.C.f_Set), (SV.val y.2)], fun _ => rfl, by decide, fun _ => rfl⟩
abbrev D_Vvitrineref12_Act (X : HP) (y : Vvitrineref12_Act × SV) : Prop := Rd X y.2 5 (enI .u8) y.1.Text
theorem D_Vvitrineref12_Act.ext {X X' : HP} (a : Ext X X') (y : Vvitrineref12_Act × SV) (h : D_Vvitrineref12_Act X y) : D_Vvitrineref12_Act X' y := Rd.ext h a
def en_Vapi_Cell : En Vapi_Cell := ⟨6, fun y => [(.int .u8 y.Char), (.bool y.Attr), (.int .u8 y.FA), (.int .u8 y.High), (.int .u8 y.Color), (.int .u8 y.f_Set)], fun _ => rfl, by decide, fun _ => rfl⟩
def en_Vwrite_name : En Vwrite_name := ⟨3, fun y => [(.string y.word), (.int .u8 y.one), (.int .u8 y.other)], fun _ => rfl, by decide, fun _ => rfl⟩
def en_Vattr_Pair : En Vattr_Pair := ⟨2, fun y => [(.int .u8 y.f_Type), (.int .u8 y.Value)], fun _ => rfl, by decide, fun _ => rfl⟩
def en_Vvitrineref04_Size : En Vvitrineref04_Size := ⟨2, fun y => [(.int .i64 y.Rows), (.int .i64 y.Cols)], fun _ => rfl, by decide, fun _ => rfl⟩
def en_Vvitrineref05_Pair : En Vvitrineref05_Pair := ⟨2, fun y => [(.int .u8 y.f_Type), (.int .u8 y.Value)], fun _ => rfl, by decide, fun _ => rfl⟩
def en_Vvitrineref16_Op : En (Vvitrineref16_Op × SV × SV) := ⟨7, fun y => [(.int .i64 y.1.Kind), (.int .i64 y.1.Addr), (.int .u8 y.1.Code), (.bool y.1.Graph), (.int .u8 y.1.FA), (SV.val y.2.1), (SV.val y.2.2)], fun _ => rfl, by decide, fun _ => rfl⟩
abbrev D_Vvitrineref16_Op (X : HP) (y : Vvitrineref16_Op × SV × SV) : Prop := Rd X y.2.1 208 en_Vvitrineref05_Pair y.1.Pairs ∧ Rd X y.2.2 5 (enI .u8) y.1.Text
theorem D_Vvitrineref16_Op.ext {X X' : HP} (a : Ext X X') (y : Vvitrineref16_Op × SV × SV) (h : D_Vvitrineref16_Op X y) : D_Vvitrineref16_Op X' y := ⟨Rd.ext h.1 a, Rd.ext h.2 a⟩
theorem has18 : HasBody env.P 18 := ⟨_, Tryz.func18, rfl, rfl⟩
theorem has19 : HasBody env.P 19 := ⟨_, Tryz.func19, rfl, rfl⟩
theorem has20 : HasBody env.P 20 := ⟨_, Tryz.func20, rfl, rfl⟩
theorem has21 : HasBody env.P 21 := ⟨_, Tryz.func21, rfl, rfl⟩
theorem has22 : HasBody env.P 22 := ⟨_, Tryz.func22, rfl, rfl⟩
theorem has23 : HasBody env.P 23 := ⟨_, Tryz.func23, rfl, rfl⟩
theorem has24 : HasBody env.P 24 := ⟨_, Tryz.func24, rfl, rfl⟩
theorem has25 : HasBody env.P 25 := ⟨_, Tryz.func25, rfl, rfl⟩
theorem has32 : HasBody env.P 32 := ⟨_, Tryz.func32, rfl, rfl⟩
theorem has40 : HasBody env.P 40 := ⟨_, Tryz.func40, rfl, rfl⟩
theorem has44 : HasBody env.P 44 := ⟨_, Tryz.func44, rfl, rfl⟩
theorem has45 : HasBody env.P 45 := ⟨_, Tryz.func45, rfl, rfl⟩
theorem has46 : HasBody env.P 46 := ⟨_, Tryz.func46, rfl, rfl⟩
theorem has47 : HasBody env.P 47 := ⟨_, Tryz.func47, rfl, rfl⟩
theorem has48 : HasBody env.P 48 := ⟨_, Tryz.func48, rfl, rfl⟩
theorem has51 : HasBody env.P 51 := ⟨_, Tryz.func51, rfl, rfl⟩
theorem has52 : HasBody env.P 52 := ⟨_, Tryz.func52, rfl, rfl⟩
theorem has56 : HasBody env.P 56 := ⟨_, Tryz.func56, rfl, rfl⟩
theorem has57 : HasBody env.P 57 := ⟨_, Tryz.func57, rfl, rfl⟩
theorem has58 : HasBody env.P 58 := ⟨_, Tryz.func58, rfl, rfl⟩
theorem has59 : HasBody env.P 59 := ⟨_, Tryz.func59, rfl, rfl⟩
theorem has60 : HasBody env.P 60 := ⟨_, Tryz.func60, rfl, rfl⟩
theorem has61 : HasBody env.P 61 := ⟨_, Tryz.func61, rfl, rfl⟩
theorem has62 : HasBody env.P 62 := ⟨_, Tryz.func62, rfl, rfl⟩
theorem has63 : HasBody env.P 63 := ⟨_, Tryz.func63, rfl, rfl⟩
theorem has64 : HasBody env.P 64 := ⟨_, Tryz.func64, rfl, rfl⟩
theorem has69 : HasBody env.P 69 := ⟨_, Tryz.func69, rfl, rfl⟩
theorem has75 : HasBody env.P 75 := ⟨_, Tryz.func75, rfl, rfl⟩
theorem has76 : HasBody env.P 76 := ⟨_, Tryz.func76, rfl, rfl⟩
theorem has80 : HasBody env.P 80 := ⟨_, Tryz.func80, rfl, rfl⟩
theorem has86 : HasBody env.P 86 := ⟨_, Tryz.func86, rfl, rfl⟩
theorem has89 : HasBody env.P 89 := ⟨_, Tryz.func89, rfl, rfl⟩
theorem has93 : HasBody env.P 93 := ⟨_, Tryz.func93, rfl, rfl⟩
theorem has94 : HasBody env.P 94 := ⟨_, Tryz.func94, rfl, rfl⟩
theorem has95 : HasBody env.P 95 := ⟨_, Tryz.func95, rfl, rfl⟩
theorem has96 : HasBody env.P 96 := ⟨_, Tryz.func96, rfl, rfl⟩
theorem has97 : HasBody env.P 97 := ⟨_, Tryz.func97, rfl, rfl⟩
theorem has98 : HasBody env.P 98 := ⟨_, Tryz.func98, rfl, rfl⟩
theorem has99 : HasBody env.P 99 := ⟨_, Tryz.func99, rfl, rfl⟩
theorem has102 : HasBody env.P 102 := ⟨_, Tryz.func102, rfl, rfl⟩
theorem has103 : HasBody env.P 103 := ⟨_, Tryz.func103, rfl, rfl⟩
theorem has104 : HasBody env.P 104 := ⟨_, Tryz.func104, rfl, rfl⟩
theorem has105 : HasBody env.P 105 := ⟨_, Tryz.func105, rfl, rfl⟩
theorem has106 : HasBody env.P 106 := ⟨_, Tryz.func106, rfl, rfl⟩
theorem has107 : HasBody env.P 107 := ⟨_, Tryz.func107, rfl, rfl⟩
theorem has108 : HasBody env.P 108 := ⟨_, Tryz.func108, rfl, rfl⟩
theorem has109 : HasBody env.P 109 := ⟨_, Tryz.func109, rfl, rfl⟩
theorem has110 : HasBody env.P 110 := ⟨_, Tryz.func110, rfl, rfl⟩
theorem has111 : HasBody env.P 111 := ⟨_, Tryz.func111, rfl, rfl⟩
theorem has112 : HasBody env.P 112 := ⟨_, Tryz.func112, rfl, rfl⟩
theorem has113 : HasBody env.P 113 := ⟨_, Tryz.func113, rfl, rfl⟩
theorem has114 : HasBody env.P 114 := ⟨_, Tryz.func114, rfl, rfl⟩
theorem has115 : HasBody env.P 115 := ⟨_, Tryz.func115, rfl, rfl⟩
theorem has116 : HasBody env.P 116 := ⟨_, Tryz.func116, rfl, rfl⟩
theorem has117 : HasBody env.P 117 := ⟨_, Tryz.func117, rfl, rfl⟩
theorem has118 : HasBody env.P 118 := ⟨_, Tryz.func118, rfl, rfl⟩
theorem has120 : HasBody env.P 120 := ⟨_, Tryz.func120, rfl, rfl⟩
theorem has121 : HasBody env.P 121 := ⟨_, Tryz.func121, rfl, rfl⟩
theorem has125 : HasBody env.P 125 := ⟨_, Tryz.func125, rfl, rfl⟩
theorem has126 : HasBody env.P 126 := ⟨_, Tryz.func126, rfl, rfl⟩
theorem has127 : HasBody env.P 127 := ⟨_, Tryz.func127, rfl, rfl⟩
theorem has128 : HasBody env.P 128 := ⟨_, Tryz.func128, rfl, rfl⟩
theorem has129 : HasBody env.P 129 := ⟨_, Tryz.func129, rfl, rfl⟩
theorem has131 : HasBody env.P 131 := ⟨_, Tryz.func131, rfl, rfl⟩
theorem has135 : HasBody env.P 135 := ⟨_, Tryz.func135, rfl, rfl⟩
theorem has138 : HasBody env.P 138 := ⟨_, Tryz.func138, rfl, rfl⟩
theorem has139 : HasBody env.P 139 := ⟨_, Tryz.func139, rfl, rfl⟩
theorem has141 : HasBody env.P 141 := ⟨_, Tryz.func141, rfl, rfl⟩
theorem has142 : HasBody env.P 142 := ⟨_, Tryz.func142, rfl, rfl⟩
theorem has143 : HasBody env.P 143 := ⟨_, Tryz.func143, rfl, rfl⟩
theorem has144 : HasBody env.P 144 := ⟨_, Tryz.func144, rfl, rfl⟩
theorem has145 : HasBody env.P 145 := ⟨_, Tryz.func145, rfl, rfl⟩
theorem has146 : HasBody env.P 146 := ⟨_, Tryz.func146, rfl, rfl⟩
theorem has147 : HasBody env.P 147 := ⟨_, Tryz.func147, rfl, rfl⟩
theorem has148 : HasBody env.P 148 := ⟨_, Tryz.func148, rfl, rfl⟩
theorem has149 : HasBody env.P 149 := ⟨_, Tryz.func149, rfl, rfl⟩
theorem has150 : HasBody env.P 150 := ⟨_, Tryz.func150, rfl, rfl⟩
theorem has151 : HasBody env.P 151 := ⟨_, Tryz.func151, rfl, rfl⟩
theorem has152 : HasBody env.P 152 := ⟨_, Tryz.func152, rfl, rfl⟩
theorem has153 : HasBody env.P 153 := ⟨_, Tryz.func153, rfl, rfl⟩
theorem has154 : HasBody env.P 154 := ⟨_, Tryz.func154, rfl, rfl⟩
theorem has155 : HasBody env.P 155 := ⟨_, Tryz.func155, rfl, rfl⟩
theorem has156 : HasBody env.P 156 := ⟨_, Tryz.func156, rfl, rfl⟩
theorem has157 : HasBody env.P 157 := ⟨_, Tryz.func157, rfl, rfl⟩
theorem has158 : HasBody env.P 158 := ⟨_, Tryz.func158, rfl, rfl⟩
theorem has159 : HasBody env.P 159 := ⟨_, Tryz.func159, rfl, rfl⟩
theorem has166 : HasBody env.P 166 := ⟨_, Tryz.func166, rfl, rfl⟩
theorem has167 : HasBody env.P 167 := ⟨_, Tryz.func167, rfl, rfl⟩
theorem has174 : HasBody env.P 174 := ⟨_, Tryz.func174, rfl, rfl⟩
theorem has175 : HasBody env.P 175 := ⟨_, Tryz.func175, rfl, rfl⟩
theorem has176 : HasBody env.P 176 := ⟨_, Tryz.func176, rfl, rfl⟩
theorem has177 : HasBody env.P 177 := ⟨_, Tryz.func177, rfl, rfl⟩
theorem has178 : HasBody env.P 178 := ⟨_, Tryz.func178, rfl, rfl⟩
theorem has179 : HasBody env.P 179 := ⟨_, Tryz.func179, rfl, rfl⟩
theorem has180 : HasBody env.P 180 := ⟨_, Tryz.func180, rfl, rfl⟩
theorem has181 : HasBody env.P 181 := ⟨_, Tryz.func181, rfl, rfl⟩
theorem has182 : HasBody env.P 182 := ⟨_, Tryz.func182, rfl, rfl⟩
theorem has183 : HasBody env.P 183 := ⟨_, Tryz.func183, rfl, rfl⟩
theorem has193 : HasBody env.P 193 := ⟨_, Tryz.func193, rfl, rfl⟩
theorem has194 : HasBody env.P 194 := ⟨_, Tryz.func194, rfl, rfl⟩
theorem has195 : HasBody env.P 195 := ⟨_, Tryz.func195, rfl, rfl⟩
theorem has196 : HasBody env.P 196 := ⟨_, Tryz.func196, rfl, rfl⟩
theorem has197 : HasBody env.P 197 := ⟨_, Tryz.func197, rfl, rfl⟩
theorem has207 : HasBody env.P 207 := ⟨_, Tryz.func207, rfl, rfl⟩
theorem has217 : HasBody env.P 217 := ⟨_, Tryz.func217, rfl, rfl⟩

theorem c_addr_Model {g : Gw} (hg : GK g) (X : HP) (p0 : Int) (r : Vaddr_Size × Int) (h : m_addr_Model p0 = some r) : Tri env g 93 (List.toArray [(.int .i64 p0)]) [X] (fun K R => K (.tuple (List.toArray [(.agg (List.toArray [(.int .i64 r.1.Rows), (.int .i64 r.1.Cols)])), (.int .i64 r.2)])) (X :: R)) := by
 refine tri_of (fn := Tryz.f93) (N := 18) Tryz.func93 rfl rfl rfl ?_
 intro R K hk
 unfold m_addr_Model at h
 change GC _ none _ [] [(0, (.int .i64 p0))] (X :: R) g _ _
 refine c_seq (c_region ?_)
 refine o1 rfl (o_alloc (cs := [(.int .i64 0), (.int .i64 0)]) rfl rfl (fun b1 => ?_))
 refine o1 rfl (o_p rfl (o_end (e_seq (c_seq (c_seq (c_region ?_))))))
 refine o1 rfl (o_p rfl (o_end (e_seq (c_block (c_seq (c_region ?_))))))
 refine o1 rfl (o_p (v := (.bool (p0 == 2))) rfl ?_)
 refine o1 rfl (o_p rfl (o_end (e_seq ?_)))
 refine c_cond (b := (p0 == 2)) rfl (fun hb3 => ?_) (fun hb3 => ?_)
 ·replace h := cond_t hb3 h
  refine c_seq (c_region ?_)
  refine o1 rfl (o_build (fs := [⟨ "Rows", 3, 0, false, "", "", 0⟩, ⟨ "Cols", 3, 1, false, "", "", 8⟩]) (ps := [(0, 1), (1, 1)]) (cs := [(.int .i64 24), (.int .i64 80)]) rfl rfl rfl rfl rfl ?_)
  refine o0 (o_st (b := b1) (off := 0) (vs := [(.int .i64 24), (.int .i64 80)]) (cs' := [(.int .i64 24), (.int .i64 80)]) rfl rfl rp0 rfl rfl rfl rfl rfl rfl ?_)
  refine o1 rfl (o_p rfl (o_end (e_seq (c_ret (e_blk_ret (e_then_ret ?_))))))
  refine e_ret ?_
  refine r_endc (B := [[(.int .i64 24), (.int .i64 80)]]) rfl ⟨⟨_, _, _, _, rfl, rm0⟩, trivial⟩ rfl (kc rm1 (kd kr)) ?_
  obtain rfl := Option.some.inj h
  exact hk
 ·replace h := cond_f hb3 h
  refine c_seq (c_region ?_)
  refine o1 rfl (o_p (v := (.bool (p0 == 3))) rfl ?_)
  refine o1 rfl (o_p rfl (o_end (e_seq ?_)))
  refine c_cond (b := (p0 == 3)) rfl (fun hb4 => ?_) (fun hb4 => ?_)
  ·replace h := cond_t hb4 h
   refine c_seq (c_region ?_)
   refine o1 rfl (o_build (fs := [⟨ "Rows", 3, 0, false, "", "", 0⟩, ⟨ "Cols", 3, 1, false, "", "", 8⟩]) (ps := [(0, 1), (1, 1)]) (cs := [(.int .i64 32), (.int .i64 80)]) rfl rfl rfl rfl rfl ?_)
   refine o0 (o_st (b := b1) (off := 0) (vs := [(.int .i64 32), (.int .i64 80)]) (cs' := [(.int .i64 32), (.int .i64 80)]) rfl rfl rp0 rfl rfl rfl rfl rfl rfl ?_)
   refine o1 rfl (o_p rfl (o_end (e_seq (c_ret (e_blk_ret (e_then_ret ?_))))))
   refine e_ret ?_
   refine r_endc (B := [[(.int .i64 32), (.int .i64 80)]]) rfl ⟨⟨_, _, _, _, rfl, rm0⟩, trivial⟩ rfl (kc rm1 (kd kr)) ?_
   obtain rfl := Option.some.inj h
   exact hk
  ·replace h := cond_f hb4 h
   refine c_seq (c_region ?_)
   refine o1 rfl (o_p (v := (.bool (p0 == 4))) rfl ?_)
   refine o1 rfl (o_p rfl (o_end (e_seq ?_)))
   refine c_cond (b := (p0 == 4)) rfl (fun hb5 => ?_) (fun hb5 => ?_)
   ·replace h := cond_t hb5 h
    refine c_seq (c_region ?_)
    refine o1 rfl (o_build (fs := [⟨ "Rows", 3, 0, false, "", "", 0⟩, ⟨ "Cols", 3, 1, false, "", "", 8⟩]) (ps := [(0, 1), (1, 1)]) (cs := [(.int .i64 43), (.int .i64 80)]) rfl rfl rfl rfl rfl ?_)
    refine o0 (o_st (b := b1) (off := 0) (vs := [(.int .i64 43), (.int .i64 80)]) (cs' := [(.int .i64 43), (.int .i64 80)]) rfl rfl rp0 rfl rfl rfl rfl rfl rfl ?_)
    refine o1 rfl (o_p rfl (o_end (e_seq (c_ret (e_blk_ret (e_then_ret ?_))))))
    refine e_ret ?_
    refine r_endc (B := [[(.int .i64 43), (.int .i64 80)]]) rfl ⟨⟨_, _, _, _, rfl, rm0⟩, trivial⟩ rfl (kc rm1 (kd kr)) ?_
    obtain rfl := Option.some.inj h
    exact hk
   ·replace h := cond_f hb5 h
    refine c_seq (c_region ?_)
    refine o1 rfl (o_p (v := (.bool (p0 == 5))) rfl ?_)
    refine o1 rfl (o_p rfl (o_end (e_seq ?_)))
    refine c_cond (b := (p0 == 5)) rfl (fun hb6 => ?_) (fun hb6 => ?_)
    ·replace h := cond_t hb6 h
     refine c_seq (c_region ?_)
     refine o1 rfl (o_build (fs := [⟨ "Rows", 3, 0, false, "", "", 0⟩, ⟨ "Cols", 3, 1, false, "", "", 8⟩]) (ps := [(0, 1), (1, 1)]) (cs := [(.int .i64 27), (.int .i64 132)]) rfl rfl rfl rfl rfl ?_)
     refine o0 (o_st (b := b1) (off := 0) (vs := [(.int .i64 27), (.int .i64 132)]) (cs' := [(.int .i64 27), (.int .i64 132)]) rfl rfl rp0 rfl rfl rfl rfl rfl rfl ?_)
     refine o1 rfl (o_p rfl (o_end (e_seq (c_ret (e_blk_ret (e_then_ret ?_))))))
     refine e_ret ?_
     refine r_endc (B := [[(.int .i64 27), (.int .i64 132)]]) rfl ⟨⟨_, _, _, _, rfl, rm0⟩, trivial⟩ rfl (kc rm1 (kd kr)) ?_
     obtain rfl := Option.some.inj h
     exact hk
    ·replace h := cond_f hb6 h
     refine c_skip (e_blk (e_seq (c_seq (c_region ?_))))
     refine o1 rfl (o_build (fs := [⟨ "Rows", 3, 0, false, "", "", 0⟩, ⟨ "Cols", 3, 1, false, "", "", 8⟩]) (ps := [(0, 1), (1, 1)]) (cs := [(.int .i64 0), (.int .i64 0)]) rfl rfl rfl rfl rfl ?_)
     refine o0 (o_st (b := b1) (off := 0) (vs := [(.int .i64 0), (.int .i64 0)]) (cs' := [(.int .i64 0), (.int .i64 0)]) rfl rfl rp0 rfl rfl rfl rfl rfl rfl ?_)
     refine o1 rfl (o_p rfl (o_end (e_seq (c_ret (e_ret ?_)))))
     refine r_endc (B := [[(.int .i64 0), (.int .i64 0)]]) rfl ⟨⟨_, _, _, _, rfl, rm0⟩, trivial⟩ rfl (kc rm1 (kd kr)) ?_
     obtain rfl := Option.some.inj h
     exact hk

theorem c_addr_Size_Valid {g : Gw} (hg : GK g) (X : HP) (p0 : Vaddr_Size) (r : Bool) (h : m_addr_Size_Valid p0 = some r) : Tri env g 99 (List.toArray [(.agg (List.toArray [(.int .i64 p0.Rows), (.int .i64 p0.Cols)]))]) [X] (fun K R => K (.bool r) (X :: R)) := by
 refine tri_of (fn := Tryz.f99) (N := 29) Tryz.func99 rfl rfl rfl ?_
 intro R K hk
 unfold m_addr_Size_Valid at h
 change GC _ none _ [] [(0, (.agg (List.toArray [(.int .i64 p0.Rows), (.int .i64 p0.Cols)])))] (X :: R) g _ _
 refine c_seq (c_region ?_)
 refine o1 rfl (o_box (cs := [(.int .i64 p0.Rows), (.int .i64 p0.Cols)]) rfl rfl (fun b15 => ?_))
 refine o1 rfl (o_p rfl (o_end (e_seq (c_seq ?_))))
 replace h := bsome h
 obtain ⟨d1, h, hk1⟩ := h
 refine cj (D := Unit) (ι := Unit) (fun _ i1 => True) (fun _ i1 => [(2, (.bool d1))]) (fun _ i1 => X :: R) ?_ ?_
 ·refine c_region ?_
  refine o1 rfl (o_fa (fd := ⟨ "Rows", 3, 0, false, "", "", 0⟩) rfl rfl rfl rfl rfl ?_)
  refine o1 rfl (o_ld (b := b15) (off := 0) (v := (.int .i64 p0.Rows)) rfl rm0 rfl rfl ?_)
  refine o1 rfl (o_p (v := (.bool (decide (p0.Rows ≥ 1)))) rfl ?_)
  refine o1 rfl (o_p rfl ?_)
  rcases bool_or ((decide (p0.Rows ≥ 1))) with hb17 | hb17
  ·replace h := cond_t hb17 h
   refine oy rfl rfl rfl hb17 (o_fa (fd := ⟨ "Rows", 3, 0, false, "", "", 0⟩) rfl rfl rfl rfl rfl ?_)
   refine oy rfl rfl rfl hb17 (o_ld (b := b15) (off := 0) (v := (.int .i64 p0.Rows)) rfl rm0 rfl rfl ?_)
   refine oy rfl rfl rfl hb17 (o_p (v := (.bool (decide (p0.Rows ≤ 43)))) rfl ?_)
   refine o1 rfl (o_pick_t rfl hb17 rfl ?_)
   refine o1 rfl (o_p rfl ?_)
   rcases bool_or ((decide (p0.Rows ≤ 43))) with hb18 | hb18
   ·replace h := cond_t hb18 h
    refine oy rfl rfl rfl hb18 (o_fa (fd := ⟨ "Cols", 3, 1, false, "", "", 8⟩) rfl rfl rfl rfl rfl ?_)
    refine oy rfl rfl rfl hb18 (o_ld (b := b15) (off := 1) (v := (.int .i64 p0.Cols)) rfl rm0 rfl rfl ?_)
    refine oy rfl rfl rfl hb18 (o_p (v := (.bool (decide (p0.Cols ≥ 1)))) rfl ?_)
    refine o1 rfl (o_pick_t rfl hb18 rfl ?_)
    refine o1 rfl (o_p rfl ?_)
    rcases bool_or ((decide (p0.Cols ≥ 1))) with hb19 | hb19
    ·replace h := cond_t hb19 h
     refine oy rfl rfl rfl hb19 (o_fa (fd := ⟨ "Cols", 3, 1, false, "", "", 8⟩) rfl rfl rfl rfl rfl ?_)
     refine oy rfl rfl rfl hb19 (o_ld (b := b15) (off := 1) (v := (.int .i64 p0.Cols)) rfl rm0 rfl rfl ?_)
     refine oy rfl rfl rfl hb19 (o_p (v := (.bool (decide (p0.Cols ≤ 132)))) rfl ?_)
     refine o1 rfl (o_pick_t rfl hb19 rfl ?_)
     refine o1 rfl (o_p rfl ?_)
     rcases bool_or ((decide (p0.Cols ≤ 132))) with hb20 | hb20
     ·replace h := cond_t hb20 h
      refine oy rfl rfl rfl hb20 (o_fa (fd := ⟨ "Rows", 3, 0, false, "", "", 0⟩) rfl rfl rfl rfl rfl ?_)
      refine oy rfl rfl rfl hb20 (o_ld (b := b15) (off := 0) (v := (.int .i64 p0.Rows)) rfl rm0 rfl rfl ?_)
      refine oy rfl rfl rfl hb20 (o_fa (fd := ⟨ "Cols", 3, 1, false, "", "", 8⟩) rfl rfl rfl rfl rfl ?_)
      refine oy rfl rfl rfl hb20 (o_ld (b := b15) (off := 1) (v := (.int .i64 p0.Cols)) rfl rm0 rfl rfl ?_)
      refine oy rfl rfl rfl hb20 (o_p (v := (.int .i64 (w64 (p0.Rows * p0.Cols)))) rfl ?_)
      refine oy rfl rfl rfl hb20 (o_p (v := (.bool (decide ((w64 (p0.Rows * p0.Cols)) ≤ 3564)))) rfl ?_)
      refine o1 rfl (o_pick_t rfl hb20 rfl ?_)
      refine o1 rfl (o_p rfl (o_end ?_))
      obtain rfl := Option.some.inj h
      exact ej () () trivial (sc rfl sn) (kc rm1 (kd kr))
     ·replace h := cond_f hb20 h
      refine on rfl rfl rfl hb20 ?_
      refine on rfl rfl rfl hb20 ?_
      refine on rfl rfl rfl hb20 ?_
      refine on rfl rfl rfl hb20 ?_
      refine on rfl rfl rfl hb20 ?_
      refine on rfl rfl rfl hb20 ?_
      refine o1 rfl (o_pick_f rfl hb20 rfl ?_)
      refine o1 rfl (o_p rfl (o_end ?_))
      obtain rfl := Option.some.inj h
      exact ej () () trivial (sc rfl sn) (kc rm1 (kd kr))
    ·replace h := cond_f hb19 h
     refine on rfl rfl rfl hb19 ?_
     refine on rfl rfl rfl hb19 ?_
     refine on rfl rfl rfl hb19 ?_
     refine o1 rfl (o_pick_f rfl hb19 rfl ?_)
     refine o1 rfl (o_p rfl ?_)
     refine on rfl rfl rfl rfl ?_
     refine on rfl rfl rfl rfl ?_
     refine on rfl rfl rfl rfl ?_
     refine on rfl rfl rfl rfl ?_
     refine on rfl rfl rfl rfl ?_
     refine on rfl rfl rfl rfl ?_
     refine o1 rfl (o_pick_f rfl rfl rfl ?_)
     refine o1 rfl (o_p rfl (o_end ?_))
     obtain rfl := Option.some.inj h
     exact ej () () trivial (sc rfl sn) (kc rm1 (kd kr))
   ·replace h := cond_f hb18 h
    refine on rfl rfl rfl hb18 ?_
    refine on rfl rfl rfl hb18 ?_
    refine on rfl rfl rfl hb18 ?_
    refine o1 rfl (o_pick_f rfl hb18 rfl ?_)
    refine o1 rfl (o_p rfl ?_)
    refine on rfl rfl rfl rfl ?_
    refine on rfl rfl rfl rfl ?_
    refine on rfl rfl rfl rfl ?_
    refine o1 rfl (o_pick_f rfl rfl rfl ?_)
    refine o1 rfl (o_p rfl ?_)
    refine on rfl rfl rfl rfl ?_
    refine on rfl rfl rfl rfl ?_
    refine on rfl rfl rfl rfl ?_
    refine on rfl rfl rfl rfl ?_
    refine on rfl rfl rfl rfl ?_
    refine on rfl rfl rfl rfl ?_
    refine o1 rfl (o_pick_f rfl rfl rfl ?_)
    refine o1 rfl (o_p rfl (o_end ?_))
    obtain rfl := Option.some.inj h
    exact ej () () trivial (sc rfl sn) (kc rm1 (kd kr))
  ·replace h := cond_f hb17 h
   refine on rfl rfl rfl hb17 ?_
   refine on rfl rfl rfl hb17 ?_
   refine on rfl rfl rfl hb17 ?_
   refine o1 rfl (o_pick_f rfl hb17 rfl ?_)
   refine o1 rfl (o_p rfl ?_)
   refine on rfl rfl rfl rfl ?_
   refine on rfl rfl rfl rfl ?_
   refine on rfl rfl rfl rfl ?_
   refine o1 rfl (o_pick_f rfl rfl rfl ?_)
   refine o1 rfl (o_p rfl ?_)
   refine on rfl rfl rfl rfl ?_
   refine on rfl rfl rfl rfl ?_
   refine on rfl rfl rfl rfl ?_
   refine o1 rfl (o_pick_f rfl rfl rfl ?_)
   refine o1 rfl (o_p rfl ?_)
   refine on rfl rfl rfl rfl ?_
   refine on rfl rfl rfl rfl ?_
   refine on rfl rfl rfl rfl ?_
   refine on rfl rfl rfl rfl ?_
   refine on rfl rfl rfl rfl ?_
   refine on rfl rfl rfl rfl ?_
   refine o1 rfl (o_pick_f rfl rfl rfl ?_)
   refine o1 rfl (o_p rfl (o_end ?_))
   obtain rfl := Option.some.inj h
   exact ej () () trivial (sc rfl sn) (kc rm1 (kd kr))
 ·rintro _ i1 _
  replace h := hk1
  clear hk1
  refine e_seq (c_ret (e_ret ?_))
  refine r_endt rfl rfl (kc rm0 kr) ?_
  obtain rfl := Option.some.inj h
  exact hk

theorem c_addr_Size_Cells {g : Gw} (hg : GK g) (X : HP) (p0 : Vaddr_Size) (r : Int) (h : m_addr_Size_Cells p0 = some r) : Tri env g 52 (List.toArray [(.agg (List.toArray [(.int .i64 p0.Rows), (.int .i64 p0.Cols)]))]) [X] (fun K R => K (.int .i64 r) (X :: R)) := by
 refine tri_of (fn := Tryz.f52) (N := 11) Tryz.func52 rfl rfl rfl ?_
 intro R K hk
 unfold m_addr_Size_Cells at h
 change GC _ none _ [] [(0, (.agg (List.toArray [(.int .i64 p0.Rows), (.int .i64 p0.Cols)])))] (X :: R) g _ _
 refine c_seq (c_region ?_)
 refine o1 rfl (o_box (cs := [(.int .i64 p0.Rows), (.int .i64 p0.Cols)]) rfl rfl (fun b13 => ?_))
 refine o1 rfl (o_p rfl (o_end (e_seq (c_seq (c_seq (c_region ?_))))))
 refine o1 rfl (o_ld (b := b13) (off := 0) (v := (.agg (List.toArray [(.int .i64 p0.Rows), (.int .i64 p0.Cols)]))) rfl rm0 rfl rfl ?_)
 replace h := bsome h
 obtain ⟨d1, h1, h⟩ := h
 refine o1 rfl (o_call has99 rfl (c_addr_Size_Valid hg X p0 _ h1) (pc rm1 pn) ?_)
 refine o1 rfl (o_p (v := (.bool (!d1))) rfl ?_)
 refine o_end (e_seq ?_)
 refine c_cond (b := (!d1)) rfl (fun hb21 => ?_) (fun hb21 => ?_)
 ·replace h := cond_t hb21 h
  refine c_seq (c_region (o1 rfl (o_p rfl (o_end (e_seq (c_ret ?_))))))
  refine e_then_ret (e_ret ?_)
  refine r_endt rfl rfl (kc rm0 (kd kr)) ?_
  obtain rfl := Option.some.inj h
  exact hk
 ·replace h := cond_f hb21 h
  refine c_skip (e_seq (c_seq (c_region ?_)))
  refine o1 rfl (o_fa (fd := ⟨ "Rows", 3, 0, false, "", "", 0⟩) rfl rfl rfl rfl rfl ?_)
  refine o1 rfl (o_ld (b := b13) (off := 0) (v := (.int .i64 p0.Rows)) rfl rm1 rfl rfl ?_)
  refine o1 rfl (o_fa (fd := ⟨ "Cols", 3, 1, false, "", "", 8⟩) rfl rfl rfl rfl rfl ?_)
  refine o1 rfl (o_ld (b := b13) (off := 1) (v := (.int .i64 p0.Cols)) rfl rm1 rfl rfl ?_)
  refine o1 rfl (o_p (v := (.int .i64 (w64 (p0.Rows * p0.Cols)))) rfl ?_)
  refine o1 rfl (o_p rfl (o_end (e_seq (c_ret (e_ret ?_)))))
  refine r_endt rfl rfl (kc rm0 (kd kr)) ?_
  obtain rfl := Option.some.inj h
  exact hk

theorem c_space_Space_Clear {g : Gw} (hg : GK g) (X : HP) (p0 : Vspace_Space) (b0 : Nat) (s0 : SV) (q0 : Rd X s0 80 en_Vapi_Cell p0.cells) (p1 : Bool) (r : Vspace_Space) (h : m_space_Space_Clear p0 p1 = some r) : Tri env g 47 (List.toArray [(.pointer (some ⟨b0, 0, none⟩)), (.bool p1)]) [X, blk b0 (.cells (List.toArray [(.int .i64 p0.model), (.bool p0.alternate), (.int .i64 p0.size.Rows), (.int .i64 p0.size.Cols), (SV.val s0), (.int .i64 p0.cursor), (.int .i64 p0.attrs)]) 116 (0, 0))] (fun K R => ∀ (i0 : SV), K (.tuple (List.toArray [])) (X :: blk b0 (.cells (List.toArray [(.int .i64 r.model), (.bool r.alternate), (.int .i64 r.size.Rows), (.int .i64 r.size.Cols), (SV.val i0), (.int .i64 r.cursor), (.int .i64 r.attrs)]) 116 (0, 0)) :: slO i0 80 en_Vapi_Cell r.cells :: R)) := by
 refine tri_of (fn := Tryz.f47) (N := 39) Tryz.func47 rfl rfl rfl ?_
 intro R K hk
 unfold m_space_Space_Clear at h
 change GC _ none _ [] [(0, (.pointer (some ⟨b0, 0, none⟩))), (1, (.bool p1))] (X :: blk b0 (.cells (List.toArray [(.int .i64 p0.model), (.bool p0.alternate), (.int .i64 p0.size.Rows), (.int .i64 p0.size.Cols), (SV.val s0), (.int .i64 p0.cursor), (.int .i64 p0.attrs)]) 116 (0, 0)) :: R) g _ _
 refine c_seq (c_seq (c_region (o1 rfl (o_p rfl ?_))))
 refine o1 rfl (o_p (v := (.bool false)) rfl ?_)
 refine o_end (e_seq ?_)
 refine c_cond_f rfl rfl ?_
 refine c_skip (e_seq (c_seq (c_region (o1 rfl (o_p rfl (o_end ?_))))))
 refine e_seq (c_seq (c_seq (c_region (o1 rfl (o_p rfl (o_end ?_))))))
 refine e_seq ?_
 replace h := bsome h
 obtain ⟨d1, h, hk1⟩ := h
 refine cj (D := Unit) (ι := Unit) (fun _ i1 => True) (fun _ i1 => [(4, (.int .i64 d1)), (0, (.pointer (some ⟨b0, 0, none⟩))), (1, (.bool p1))]) (fun _ i1 => X :: blk b0 (.cells (List.toArray [(.int .i64 p0.model), (.bool p0.alternate), (.int .i64 p0.size.Rows), (.int .i64 p0.size.Cols), (SV.val s0), (.int .i64 p0.cursor), (.int .i64 p0.attrs)]) 116 (0, 0)) :: R) ?_ ?_
 ·refine c_cond (b := p1) rfl (fun hb12 => ?_) (fun hb12 => ?_)
  ·replace h := cond_t hb12 h
   refine c_region (o1 rfl (o_p rfl (o1 rfl (o_p rfl ?_))))
   refine o1 rfl (o_fa (fd := ⟨ "model", 3, 0, false, "", "vitrine/space", 0⟩) rfl rfl rfl rfl rfl ?_)
   refine o1 rfl (o_ld (b := b0) (off := 0) (v := (.int .i64 p0.model)) rfl rm1 rfl rfl ?_)
   refine o1 rfl (o_p rfl (o_end ?_))
   obtain rfl := Option.some.inj h
   exact ej () () trivial (sc rfl (sc rfl (sc rfl sn))) (kc rm0 (kc rm0 kr))
  ·replace h := cond_f hb12 h
   refine c_skip ?_
   obtain rfl := Option.some.inj h
   exact ej () () trivial (sc rfl (sc rfl (sc rfl sn))) (kc rm0 (kc rm0 kr))
 ·rintro _ i1 _
  replace h := hk1
  clear hk1
  refine e_seq (c_seq (c_region (o1 rfl (o_p rfl (o1 rfl (o_p rfl (o1 rfl (o_p rfl ?_))))))))
  refine o1 rfl (o_fa (fd := ⟨ "alternate", 4, 1, false, "", "vitrine/space", 8⟩) rfl rfl rfl rfl rfl ?_)
  refine o0 (o_st (b := b0) (off := 1) (vs := [(.bool p1)]) (cs' := [(.int .i64 p0.model), (.bool p1), (.int .i64 p0.size.Rows), (.int .i64 p0.size.Cols), (SV.val s0), (.int .i64 p0.cursor), (.int .i64 p0.attrs)]) rfl rfl rp1 rfl rfl rfl rfl rfl rfl ?_)
  refine o_end (e_seq (c_seq (c_region (o1 rfl (o_p rfl (o1 rfl (o_p rfl ?_)))))))
  replace h := bsome h
  obtain ⟨d2, h2, h⟩ := h
  refine o1 rfl (o_call has93 rfl (c_addr_Model hg X d1 _ h2) (pc rm0 pn) ?_)
  refine o1 rfl (o_p rfl (o1 rfl (o_p rfl (o1 rfl (o_p rfl (o1 rfl (o_p rfl ?_)))))))
  refine o1 rfl (o_fa (fd := ⟨ "size", 102, 2, false, "", "vitrine/space", 16⟩) rfl rfl rfl rfl rfl ?_)
  refine o0 (o_st (b := b0) (off := 2) (vs := [(.int .i64 d2.1.Rows), (.int .i64 d2.1.Cols)]) (cs' := [(.int .i64 p0.model), (.bool p1), (.int .i64 d2.1.Rows), (.int .i64 d2.1.Cols), (SV.val s0), (.int .i64 p0.cursor), (.int .i64 p0.attrs)]) rfl rfl rp1 rfl rfl rfl rfl rfl rfl ?_)
  refine o_end (e_seq (c_seq (c_region (o1 rfl (o_p rfl (o1 rfl (o_p rfl ?_)))))))
  refine o1 rfl (o_p rfl ?_)
  refine o1 rfl (o_fa (fd := ⟨ "size", 102, 2, false, "", "vitrine/space", 16⟩) rfl rfl rfl rfl rfl ?_)
  refine o1 rfl (o_ld (b := b0) (off := 2) (v := (.agg (List.toArray [(.int .i64 d2.1.Rows), (.int .i64 d2.1.Cols)]))) rfl rm1 rfl rfl ?_)
  replace h := bsome h
  obtain ⟨d3, h3, h⟩ := h
  refine o1 rfl (o_call has52 rfl (c_addr_Size_Cells hg X d2.1 _ h3) (pc rm0 pn) ?_)
  replace h := gsome h
  obtain ⟨hg22, h⟩ := h
  refine o1 rfl (o_mk (e := en_Vapi_Cell) (z := (⟨0, false, 0, 0, 0, 0⟩ : Vapi_Cell)) (zs := [(.int .u8 0), (.bool false), (.int .u8 0), (.int .u8 0), (.int .u8 0), (.int .u8 0)]) rfl rfl rfl rfl rfl rfl rfl rfl rfl hg22 (fun s23 => ?_))
  refine o1 rfl (o_p rfl ?_)
  refine o1 rfl (o_fa (fd := ⟨ "cells", 38, 4, false, "", "vitrine/space", 32⟩) rfl rfl rfl rfl rfl ?_)
  refine o0 (o_st (b := b0) (off := 4) (vs := [(SV.val s23)]) (cs' := [(.int .i64 p0.model), (.bool p1), (.int .i64 d2.1.Rows), (.int .i64 d2.1.Cols), (SV.val s23), (.int .i64 p0.cursor), (.int .i64 p0.attrs)]) rfl rfl rp2 rfl rfl rfl rfl rfl rfl ?_)
  refine o_end (e_seq (c_region (o1 rfl (o_p rfl (o1 rfl (o_p rfl (o1 rfl (o_p rfl ?_))))))))
  refine o1 rfl (o_fa (fd := ⟨ "cursor", 3, 5, false, "", "vitrine/space", 56⟩) rfl rfl rfl rfl rfl ?_)
  refine o0 (o_st (b := b0) (off := 5) (vs := [(.int .i64 0)]) (cs' := [(.int .i64 p0.model), (.bool p1), (.int .i64 d2.1.Rows), (.int .i64 d2.1.Cols), (SV.val s23), (.int .i64 0), (.int .i64 p0.attrs)]) rfl rfl rp2 rfl rfl rfl rfl rfl rfl ?_)
  refine o1 rfl (o_p rfl ?_)
  refine o1 rfl (o_fa (fd := ⟨ "attrs", 3, 6, false, "", "vitrine/space", 64⟩) rfl rfl rfl rfl rfl ?_)
  refine o0 (o_st (b := b0) (off := 6) (vs := [(.int .i64 0)]) (cs' := [(.int .i64 p0.model), (.bool p1), (.int .i64 d2.1.Rows), (.int .i64 d2.1.Cols), (SV.val s23), (.int .i64 0), (.int .i64 0)]) rfl rfl rp2 rfl rfl rfl rfl rfl rfl ?_)
  refine o_end (e_fall ?_)
  refine r_endt rfl rfl (kc rm1 (kc rm1 (kc rm0 kr))) ?_
  obtain rfl := Option.some.inj h
  exact hk s23

theorem c_space_New {g : Gw} (hg : GK g) (X : HP) (p0 : Int) (r : (Int) ⊕ (Vspace_Space × Int)) (h : m_space_New p0 = some r) : Tri env g 44 (List.toArray [(.int .i64 p0)]) [X] (fun K R => match r with | .inl r => K (.tuple (List.toArray [(.pointer none), (.int .i64 r)])) (X :: R) | .inr r => ∀ (i0 : Nat × SV), K (.tuple (List.toArray [(.pointer (some ⟨i0.1, 0, none⟩)), (.int .i64 r.2)])) (X :: blk i0.1 (.cells (List.toArray [(.int .i64 r.1.model), (.bool r.1.alternate), (.int .i64 r.1.size.Rows), (.int .i64 r.1.size.Cols), (SV.val i0.2), (.int .i64 r.1.cursor), (.int .i64 r.1.attrs)]) 116 (0, 0)) :: slO i0.2 80 en_Vapi_Cell r.1.cells :: R)) := by
 refine tri_of (fn := Tryz.f44) (N := 21) Tryz.func44 rfl rfl rfl ?_
 intro R K hk
 unfold m_space_New at h
 change GC _ none _ [] [(0, (.int .i64 p0))] (X :: R) g _ _
 refine c_seq (c_region (o1 rfl (o_p rfl (o1 rfl (o_p rfl (o_end (e_seq ?_)))))))
 refine c_seq (c_seq (c_region (o1 rfl (o_p rfl ?_))))
 replace h := bsome h
 obtain ⟨d1, h1, h⟩ := h
 refine o1 rfl (o_call has93 rfl (c_addr_Model hg X p0 _ h1) (pc rm0 pn) ?_)
 refine o1 rfl (o_p rfl (o1 rfl (o_p rfl (o1 rfl (o_p rfl ?_)))))
 refine o1 rfl (o_alloc (cs := [(.int .i64 0), (.int .i64 0)]) rfl rfl (fun b7 => ?_))
 refine o0 (o_st (b := b7) (off := 0) (vs := [(.int .i64 d1.1.Rows), (.int .i64 d1.1.Cols)]) (cs' := [(.int .i64 d1.1.Rows), (.int .i64 d1.1.Cols)]) rfl rfl rp0 rfl rfl rfl rfl rfl rfl ?_)
 refine o1 rfl (o_p rfl (o_end (e_seq (c_seq (c_region (o1 rfl (o_p rfl ?_)))))))
 refine o1 rfl (o_p (v := (.bool (d1.2 != 0))) rfl ?_)
 refine o_end (e_seq ?_)
 refine c_cond (b := (d1.2 != 0)) rfl (fun hb9 => ?_) (fun hb9 => ?_)
 ·replace h := cond_t hb9 h
  refine c_seq (c_region (o1 rfl (o_p rfl (o1 rfl (o_p rfl (o1 rfl (o_p rfl (o_end ?_))))))))
  refine e_seq (c_ret (e_then_ret (e_ret ?_)))
  refine r_endt rfl rfl (kc rm1 (kd kr)) ?_
  obtain rfl := Option.some.inj h
  exact hk
 ·replace h := cond_f hb9 h
  refine c_skip (e_seq (c_seq (c_region (o1 rfl (o_p rfl ?_)))))
  refine o1 rfl (o_build (fs := [⟨ "model", 3, 0, false, "", "vitrine/space", 0⟩, ⟨ "alternate", 4, 1, false, "", "vitrine/space", 8⟩, ⟨ "size", 102, 2, false, "", "vitrine/space", 16⟩, ⟨ "cells", 38, 4, false, "", "vitrine/space", 32⟩, ⟨ "cursor", 3, 5, false, "", "vitrine/space", 56⟩, ⟨ "attrs", 3, 6, false, "", "vitrine/space", 64⟩]) (ps := [(0, 1), (1, 1), (2, 2), (4, 1), (5, 1), (6, 1)]) (cs := [(.int .i64 p0), (.bool false), (.int .i64 0), (.int .i64 0), (SV.val SV.nil), (.int .i64 0), (.int .i64 0)]) rfl rfl rfl rfl rfl ?_)
  refine o1 rfl (o_box (cs := [(.int .i64 p0), (.bool false), (.int .i64 0), (.int .i64 0), (SV.val SV.nil), (.int .i64 0), (.int .i64 0)]) rfl rfl (fun b10 => ?_))
  refine o1 rfl (o_p rfl (o_end (e_seq (c_seq (c_region (o1 rfl (o_p rfl ?_)))))))
  replace h := bsome h
  obtain ⟨d3, h3, h⟩ := h
  refine o1 rfl (o_call has47 rfl (c_space_Space_Clear hg X (⟨p0, false, (⟨0, 0⟩ : Vaddr_Size), ([] : List Vapi_Cell), 0, 0⟩ : Vspace_Space) b10 SV.nil (rd_nil _ _ _) false _ h3) (pc rm2 (pc rm0 pn)) (fun i3 => ?_))
  refine o_end (e_seq (c_seq (c_region (o1 rfl (o_p rfl (o1 rfl (o_p rfl ?_)))))))
  refine o1 rfl (o_p rfl (o_end (e_seq (c_ret (e_ret ?_)))))
  refine r_endt rfl rfl (kc rm0 (kc rm0 (kc rm0 (kd kr)))) ?_
  obtain rfl := Option.some.inj h
  exact hk (b10, i3)

theorem c_write_Command {g : Gw} (hg : GK g) (X : HP) (p0 : Int) (r : Int × Bool) (h : m_write_Command p0 = some r) : Tri env g 102 (List.toArray [(.int .u8 p0)]) [X] (fun K R => K (.tuple (List.toArray [(.int .i64 r.1), (.bool r.2)])) (X :: R)) := by
 refine tri_of (fn := Tryz.f102) (N := 23) Tryz.func102 rfl rfl rfl ?_
 intro R K hk
 unfold m_write_Command at h
 change GC _ none _ [] [(0, (.int .u8 p0))] (X :: R) g _ _
 refine c_seq (c_region (o1 rfl (o_p rfl (o1 rfl (o_p rfl (o_end (e_seq ?_)))))))
 refine c_seq (c_seq (c_region ?_))
 refine o1 rfl (o_ldG (b := 1) (off := 0) (v := (.agg (List.toArray [(.string (ByteArray.mk (List.toArray [78, 111, 116, 104, 105, 110, 103]))), (.int .u8 3), (.int .u8 3), (.string (ByteArray.mk (List.toArray [87, 114, 105, 116, 101]))), (.int .u8 1), (.int .u8 241), (.string (ByteArray.mk (List.toArray [69, 114, 97, 115, 101, 87, 114, 105, 116, 101]))), (.int .u8 5), (.int .u8 245), (.string (ByteArray.mk (List.toArray [69, 114, 97, 115, 101, 65, 108, 116, 101, 114, 110, 97, 116, 101]))), (.int .u8 13), (.int .u8 126), (.string (ByteArray.mk (List.toArray [69, 114, 97, 115, 101, 85, 110, 112, 114, 111, 116, 101, 99, 116, 101, 100]))), (.int .u8 15), (.int .u8 111), (.string (ByteArray.mk (List.toArray [82, 101, 97, 100, 66, 117, 102, 102, 101, 114]))), (.int .u8 2), (.int .u8 242), (.string (ByteArray.mk (List.toArray [82, 101, 97, 100, 77, 111, 100, 105, 102, 105, 101, 100]))), (.int .u8 6), (.int .u8 246), (.string (ByteArray.mk (List.toArray [82, 101, 97, 100, 65, 108, 108]))), (.int .u8 14), (.int .u8 110), (.string (ByteArray.mk (List.toArray [83, 116, 114, 117, 99, 116, 117, 114, 101, 100]))), (.int .u8 17), (.int .u8 243)]))) hg rfl rfl rfl ?_)
 refine o1 rfl (o_p rfl (o_end (e_seq ?_)))
 replace h := jn_some h
 obtain ⟨y1, h, hk1⟩ := h
 refine cj (D := Unit) (ι := Unit) (fun d1 i1 => y1 = Sum.inl d1) (fun d1 i1 => []) (fun d1 i1 => X :: R) ?_ ?_
 ·refine c_block ?_
  refine c_loop (l_sub (sc rfl (sc rfl (sc rfl sn))) (l_keep (kc rm0 kr) (lf (X := Int) (ι := Unit) (fun k x => write_Command_l2 p0 k x) _ (fun x2 i2 => True) (fun x2 i2 => [(7, (.int .i64 x2)), (6, (.agg (List.toArray [(.string (ByteArray.mk (List.toArray [78, 111, 116, 104, 105, 110, 103]))), (.int .u8 3), (.int .u8 3), (.string (ByteArray.mk (List.toArray [87, 114, 105, 116, 101]))), (.int .u8 1), (.int .u8 241), (.string (ByteArray.mk (List.toArray [69, 114, 97, 115, 101, 87, 114, 105, 116, 101]))), (.int .u8 5), (.int .u8 245), (.string (ByteArray.mk (List.toArray [69, 114, 97, 115, 101, 65, 108, 116, 101, 114, 110, 97, 116, 101]))), (.int .u8 13), (.int .u8 126), (.string (ByteArray.mk (List.toArray [69, 114, 97, 115, 101, 85, 110, 112, 114, 111, 116, 101, 99, 116, 101, 100]))), (.int .u8 15), (.int .u8 111), (.string (ByteArray.mk (List.toArray [82, 101, 97, 100, 66, 117, 102, 102, 101, 114]))), (.int .u8 2), (.int .u8 242), (.string (ByteArray.mk (List.toArray [82, 101, 97, 100, 77, 111, 100, 105, 102, 105, 101, 100]))), (.int .u8 6), (.int .u8 246), (.string (ByteArray.mk (List.toArray [82, 101, 97, 100, 65, 108, 108]))), (.int .u8 14), (.int .u8 110), (.string (ByteArray.mk (List.toArray [83, 116, 114, 117, 99, 116, 117, 114, 101, 100]))), (.int .u8 17), (.int .u8 243)]))), (0, (.int .u8 p0))]) (fun x2 i2 => X :: R) (fun _ => rfl) ?_ fuel 0 () trivial h)))
  clear h
  rintro k2 ih2 x2 i2 _ h
  rw [write_Command_l2.eq_2] at h
  refine l_round (c_seq (c_region ?_))
  refine o1 rfl (o_p (v := (.bool (decide (x2 < 9)))) rfl ?_)
  refine o_end (e_seq (c_seq ?_))
  refine c_cond (b := (decide (x2 < 9))) rfl (fun hb50 => ?_) (fun hb50 => ?_)
  ·replace h := cond_t hb50 h
   refine c_skip (e_seq (c_seq (c_block (c_seq (c_region ?_)))))
   refine o1 rfl (o_p rfl ?_)
   replace h := gsome h
   obtain ⟨hg51, h⟩ := h
   refine o1 rfl (o_aidx (e := en_Vwrite_name) (l := [(⟨(ByteArray.mk (List.toArray [78, 111, 116, 104, 105, 110, 103])), 3, 3⟩ : Vwrite_name), (⟨(ByteArray.mk (List.toArray [87, 114, 105, 116, 101])), 1, 241⟩ : Vwrite_name), (⟨(ByteArray.mk (List.toArray [69, 114, 97, 115, 101, 87, 114, 105, 116, 101])), 5, 245⟩ : Vwrite_name), (⟨(ByteArray.mk (List.toArray [69, 114, 97, 115, 101, 65, 108, 116, 101, 114, 110, 97, 116, 101])), 13, 126⟩ : Vwrite_name), (⟨(ByteArray.mk (List.toArray [69, 114, 97, 115, 101, 85, 110, 112, 114, 111, 116, 101, 99, 116, 101, 100])), 15, 111⟩ : Vwrite_name), (⟨(ByteArray.mk (List.toArray [82, 101, 97, 100, 66, 117, 102, 102, 101, 114])), 2, 242⟩ : Vwrite_name), (⟨(ByteArray.mk (List.toArray [82, 101, 97, 100, 77, 111, 100, 105, 102, 105, 101, 100])), 6, 246⟩ : Vwrite_name), (⟨(ByteArray.mk (List.toArray [82, 101, 97, 100, 65, 108, 108])), 14, 110⟩ : Vwrite_name), (⟨(ByteArray.mk (List.toArray [83, 116, 114, 117, 99, 116, 117, 114, 101, 100])), 17, 243⟩ : Vwrite_name)]) (n := x2) (v := (.agg (List.toArray [(.string ((rd [(⟨(ByteArray.mk (List.toArray [78, 111, 116, 104, 105, 110, 103])), 3, 3⟩ : Vwrite_name), (⟨(ByteArray.mk (List.toArray [87, 114, 105, 116, 101])), 1, 241⟩ : Vwrite_name), (⟨(ByteArray.mk (List.toArray [69, 114, 97, 115, 101, 87, 114, 105, 116, 101])), 5, 245⟩ : Vwrite_name), (⟨(ByteArray.mk (List.toArray [69, 114, 97, 115, 101, 65, 108, 116, 101, 114, 110, 97, 116, 101])), 13, 126⟩ : Vwrite_name), (⟨(ByteArray.mk (List.toArray [69, 114, 97, 115, 101, 85, 110, 112, 114, 111, 116, 101, 99, 116, 101, 100])), 15, 111⟩ : Vwrite_name), (⟨(ByteArray.mk (List.toArray [82, 101, 97, 100, 66, 117, 102, 102, 101, 114])), 2, 242⟩ : Vwrite_name), (⟨(ByteArray.mk (List.toArray [82, 101, 97, 100, 77, 111, 100, 105, 102, 105, 101, 100])), 6, 246⟩ : Vwrite_name), (⟨(ByteArray.mk (List.toArray [82, 101, 97, 100, 65, 108, 108])), 14, 110⟩ : Vwrite_name), (⟨(ByteArray.mk (List.toArray [83, 116, 114, 117, 99, 116, 117, 114, 101, 100])), 17, 243⟩ : Vwrite_name)] x2).word)), (.int .u8 ((rd [(⟨(ByteArray.mk (List.toArray [78, 111, 116, 104, 105, 110, 103])), 3, 3⟩ : Vwrite_name), (⟨(ByteArray.mk (List.toArray [87, 114, 105, 116, 101])), 1, 241⟩ : Vwrite_name), (⟨(ByteArray.mk (List.toArray [69, 114, 97, 115, 101, 87, 114, 105, 116, 101])), 5, 245⟩ : Vwrite_name), (⟨(ByteArray.mk (List.toArray [69, 114, 97, 115, 101, 65, 108, 116, 101, 114, 110, 97, 116, 101])), 13, 126⟩ : Vwrite_name), (⟨(ByteArray.mk (List.toArray [69, 114, 97, 115, 101, 85, 110, 112, 114, 111, 116, 101, 99, 116, 101, 100])), 15, 111⟩ : Vwrite_name), (⟨(ByteArray.mk (List.toArray [82, 101, 97, 100, 66, 117, 102, 102, 101, 114])), 2, 242⟩ : Vwrite_name), (⟨(ByteArray.mk (List.toArray [82, 101, 97, 100, 77, 111, 100, 105, 102, 105, 101, 100])), 6, 246⟩ : Vwrite_name), (⟨(ByteArray.mk (List.toArray [82, 101, 97, 100, 65, 108, 108])), 14, 110⟩ : Vwrite_name), (⟨(ByteArray.mk (List.toArray [83, 116, 114, 117, 99, 116, 117, 114, 101, 100])), 17, 243⟩ : Vwrite_name)] x2).one)), (.int .u8 ((rd [(⟨(ByteArray.mk (List.toArray [78, 111, 116, 104, 105, 110, 103])), 3, 3⟩ : Vwrite_name), (⟨(ByteArray.mk (List.toArray [87, 114, 105, 116, 101])), 1, 241⟩ : Vwrite_name), (⟨(ByteArray.mk (List.toArray [69, 114, 97, 115, 101, 87, 114, 105, 116, 101])), 5, 245⟩ : Vwrite_name), (⟨(ByteArray.mk (List.toArray [69, 114, 97, 115, 101, 65, 108, 116, 101, 114, 110, 97, 116, 101])), 13, 126⟩ : Vwrite_name), (⟨(ByteArray.mk (List.toArray [69, 114, 97, 115, 101, 85, 110, 112, 114, 111, 116, 101, 99, 116, 101, 100])), 15, 111⟩ : Vwrite_name), (⟨(ByteArray.mk (List.toArray [82, 101, 97, 100, 66, 117, 102, 102, 101, 114])), 2, 242⟩ : Vwrite_name), (⟨(ByteArray.mk (List.toArray [82, 101, 97, 100, 77, 111, 100, 105, 102, 105, 101, 100])), 6, 246⟩ : Vwrite_name), (⟨(ByteArray.mk (List.toArray [82, 101, 97, 100, 65, 108, 108])), 14, 110⟩ : Vwrite_name), (⟨(ByteArray.mk (List.toArray [83, 116, 114, 117, 99, 116, 117, 114, 101, 100])), 17, 243⟩ : Vwrite_name)] x2).other))]))) rfl rfl rfl rfl rfl rfl rfl rfl hg51 rfl ?_)
   refine o1 rfl (o_alloc (cs := [(.string ByteArray.empty), (.int .u8 0), (.int .u8 0)]) rfl rfl (fun b52 => ?_))
   refine o1 rfl (o_p rfl ?_)
   refine o0 (o_st (b := b52) (off := 0) (vs := [(.string ((rd [(⟨(ByteArray.mk (List.toArray [78, 111, 116, 104, 105, 110, 103])), 3, 3⟩ : Vwrite_name), (⟨(ByteArray.mk (List.toArray [87, 114, 105, 116, 101])), 1, 241⟩ : Vwrite_name), (⟨(ByteArray.mk (List.toArray [69, 114, 97, 115, 101, 87, 114, 105, 116, 101])), 5, 245⟩ : Vwrite_name), (⟨(ByteArray.mk (List.toArray [69, 114, 97, 115, 101, 65, 108, 116, 101, 114, 110, 97, 116, 101])), 13, 126⟩ : Vwrite_name), (⟨(ByteArray.mk (List.toArray [69, 114, 97, 115, 101, 85, 110, 112, 114, 111, 116, 101, 99, 116, 101, 100])), 15, 111⟩ : Vwrite_name), (⟨(ByteArray.mk (List.toArray [82, 101, 97, 100, 66, 117, 102, 102, 101, 114])), 2, 242⟩ : Vwrite_name), (⟨(ByteArray.mk (List.toArray [82, 101, 97, 100, 77, 111, 100, 105, 102, 105, 101, 100])), 6, 246⟩ : Vwrite_name), (⟨(ByteArray.mk (List.toArray [82, 101, 97, 100, 65, 108, 108])), 14, 110⟩ : Vwrite_name), (⟨(ByteArray.mk (List.toArray [83, 116, 114, 117, 99, 116, 117, 114, 101, 100])), 17, 243⟩ : Vwrite_name)] x2).word)), (.int .u8 ((rd [(⟨(ByteArray.mk (List.toArray [78, 111, 116, 104, 105, 110, 103])), 3, 3⟩ : Vwrite_name), (⟨(ByteArray.mk (List.toArray [87, 114, 105, 116, 101])), 1, 241⟩ : Vwrite_name), (⟨(ByteArray.mk (List.toArray [69, 114, 97, 115, 101, 87, 114, 105, 116, 101])), 5, 245⟩ : Vwrite_name), (⟨(ByteArray.mk (List.toArray [69, 114, 97, 115, 101, 65, 108, 116, 101, 114, 110, 97, 116, 101])), 13, 126⟩ : Vwrite_name), (⟨(ByteArray.mk (List.toArray [69, 114, 97, 115, 101, 85, 110, 112, 114, 111, 116, 101, 99, 116, 101, 100])), 15, 111⟩ : Vwrite_name), (⟨(ByteArray.mk (List.toArray [82, 101, 97, 100, 66, 117, 102, 102, 101, 114])), 2, 242⟩ : Vwrite_name), (⟨(ByteArray.mk (List.toArray [82, 101, 97, 100, 77, 111, 100, 105, 102, 105, 101, 100])), 6, 246⟩ : Vwrite_name), (⟨(ByteArray.mk (List.toArray [82, 101, 97, 100, 65, 108, 108])), 14, 110⟩ : Vwrite_name), (⟨(ByteArray.mk (List.toArray [83, 116, 114, 117, 99, 116, 117, 114, 101, 100])), 17, 243⟩ : Vwrite_name)] x2).one)), (.int .u8 ((rd [(⟨(ByteArray.mk (List.toArray [78, 111, 116, 104, 105, 110, 103])), 3, 3⟩ : Vwrite_name), (⟨(ByteArray.mk (List.toArray [87, 114, 105, 116, 101])), 1, 241⟩ : Vwrite_name), (⟨(ByteArray.mk (List.toArray [69, 114, 97, 115, 101, 87, 114, 105, 116, 101])), 5, 245⟩ : Vwrite_name), (⟨(ByteArray.mk (List.toArray [69, 114, 97, 115, 101, 65, 108, 116, 101, 114, 110, 97, 116, 101])), 13, 126⟩ : Vwrite_name), (⟨(ByteArray.mk (List.toArray [69, 114, 97, 115, 101, 85, 110, 112, 114, 111, 116, 101, 99, 116, 101, 100])), 15, 111⟩ : Vwrite_name), (⟨(ByteArray.mk (List.toArray [82, 101, 97, 100, 66, 117, 102, 102, 101, 114])), 2, 242⟩ : Vwrite_name), (⟨(ByteArray.mk (List.toArray [82, 101, 97, 100, 77, 111, 100, 105, 102, 105, 101, 100])), 6, 246⟩ : Vwrite_name), (⟨(ByteArray.mk (List.toArray [82, 101, 97, 100, 65, 108, 108])), 14, 110⟩ : Vwrite_name), (⟨(ByteArray.mk (List.toArray [83, 116, 114, 117, 99, 116, 117, 114, 101, 100])), 17, 243⟩ : Vwrite_name)] x2).other))]) (cs' := [(.string ((rd [(⟨(ByteArray.mk (List.toArray [78, 111, 116, 104, 105, 110, 103])), 3, 3⟩ : Vwrite_name), (⟨(ByteArray.mk (List.toArray [87, 114, 105, 116, 101])), 1, 241⟩ : Vwrite_name), (⟨(ByteArray.mk (List.toArray [69, 114, 97, 115, 101, 87, 114, 105, 116, 101])), 5, 245⟩ : Vwrite_name), (⟨(ByteArray.mk (List.toArray [69, 114, 97, 115, 101, 65, 108, 116, 101, 114, 110, 97, 116, 101])), 13, 126⟩ : Vwrite_name), (⟨(ByteArray.mk (List.toArray [69, 114, 97, 115, 101, 85, 110, 112, 114, 111, 116, 101, 99, 116, 101, 100])), 15, 111⟩ : Vwrite_name), (⟨(ByteArray.mk (List.toArray [82, 101, 97, 100, 66, 117, 102, 102, 101, 114])), 2, 242⟩ : Vwrite_name), (⟨(ByteArray.mk (List.toArray [82, 101, 97, 100, 77, 111, 100, 105, 102, 105, 101, 100])), 6, 246⟩ : Vwrite_name), (⟨(ByteArray.mk (List.toArray [82, 101, 97, 100, 65, 108, 108])), 14, 110⟩ : Vwrite_name), (⟨(ByteArray.mk (List.toArray [83, 116, 114, 117, 99, 116, 117, 114, 101, 100])), 17, 243⟩ : Vwrite_name)] x2).word)), (.int .u8 ((rd [(⟨(ByteArray.mk (List.toArray [78, 111, 116, 104, 105, 110, 103])), 3, 3⟩ : Vwrite_name), (⟨(ByteArray.mk (List.toArray [87, 114, 105, 116, 101])), 1, 241⟩ : Vwrite_name), (⟨(ByteArray.mk (List.toArray [69, 114, 97, 115, 101, 87, 114, 105, 116, 101])), 5, 245⟩ : Vwrite_name), (⟨(ByteArray.mk (List.toArray [69, 114, 97, 115, 101, 65, 108, 116, 101, 114, 110, 97, 116, 101])), 13, 126⟩ : Vwrite_name), (⟨(ByteArray.mk (List.toArray [69, 114, 97, 115, 101, 85, 110, 112, 114, 111, 116, 101, 99, 116, 101, 100])), 15, 111⟩ : Vwrite_name), (⟨(ByteArray.mk (List.toArray [82, 101, 97, 100, 66, 117, 102, 102, 101, 114])), 2, 242⟩ : Vwrite_name), (⟨(ByteArray.mk (List.toArray [82, 101, 97, 100, 77, 111, 100, 105, 102, 105, 101, 100])), 6, 246⟩ : Vwrite_name), (⟨(ByteArray.mk (List.toArray [82, 101, 97, 100, 65, 108, 108])), 14, 110⟩ : Vwrite_name), (⟨(ByteArray.mk (List.toArray [83, 116, 114, 117, 99, 116, 117, 114, 101, 100])), 17, 243⟩ : Vwrite_name)] x2).one)), (.int .u8 ((rd [(⟨(ByteArray.mk (List.toArray [78, 111, 116, 104, 105, 110, 103])), 3, 3⟩ : Vwrite_name), (⟨(ByteArray.mk (List.toArray [87, 114, 105, 116, 101])), 1, 241⟩ : Vwrite_name), (⟨(ByteArray.mk (List.toArray [69, 114, 97, 115, 101, 87, 114, 105, 116, 101])), 5, 245⟩ : Vwrite_name), (⟨(ByteArray.mk (List.toArray [69, 114, 97, 115, 101, 65, 108, 116, 101, 114, 110, 97, 116, 101])), 13, 126⟩ : Vwrite_name), (⟨(ByteArray.mk (List.toArray [69, 114, 97, 115, 101, 85, 110, 112, 114, 111, 116, 101, 99, 116, 101, 100])), 15, 111⟩ : Vwrite_name), (⟨(ByteArray.mk (List.toArray [82, 101, 97, 100, 66, 117, 102, 102, 101, 114])), 2, 242⟩ : Vwrite_name), (⟨(ByteArray.mk (List.toArray [82, 101, 97, 100, 77, 111, 100, 105, 102, 105, 101, 100])), 6, 246⟩ : Vwrite_name), (⟨(ByteArray.mk (List.toArray [82, 101, 97, 100, 65, 108, 108])), 14, 110⟩ : Vwrite_name), (⟨(ByteArray.mk (List.toArray [83, 116, 114, 117, 99, 116, 117, 114, 101, 100])), 17, 243⟩ : Vwrite_name)] x2).other))]) rfl rfl rp0 rfl rfl rfl rfl rfl rfl ?_)
   refine o_end (e_seq (c_seq ?_))
   replace h := bsome h
   obtain ⟨d5, h, hk5⟩ := h
   refine cj (D := Unit) (ι := Unit) (fun _ i5 => True) (fun _ i5 => [(20, (.bool d5)), (4, (.int .i64 x2)), (7, (.int .i64 x2)), (6, (.agg (List.toArray [(.string (ByteArray.mk (List.toArray [78, 111, 116, 104, 105, 110, 103]))), (.int .u8 3), (.int .u8 3), (.string (ByteArray.mk (List.toArray [87, 114, 105, 116, 101]))), (.int .u8 1), (.int .u8 241), (.string (ByteArray.mk (List.toArray [69, 114, 97, 115, 101, 87, 114, 105, 116, 101]))), (.int .u8 5), (.int .u8 245), (.string (ByteArray.mk (List.toArray [69, 114, 97, 115, 101, 65, 108, 116, 101, 114, 110, 97, 116, 101]))), (.int .u8 13), (.int .u8 126), (.string (ByteArray.mk (List.toArray [69, 114, 97, 115, 101, 85, 110, 112, 114, 111, 116, 101, 99, 116, 101, 100]))), (.int .u8 15), (.int .u8 111), (.string (ByteArray.mk (List.toArray [82, 101, 97, 100, 66, 117, 102, 102, 101, 114]))), (.int .u8 2), (.int .u8 242), (.string (ByteArray.mk (List.toArray [82, 101, 97, 100, 77, 111, 100, 105, 102, 105, 101, 100]))), (.int .u8 6), (.int .u8 246), (.string (ByteArray.mk (List.toArray [82, 101, 97, 100, 65, 108, 108]))), (.int .u8 14), (.int .u8 110), (.string (ByteArray.mk (List.toArray [83, 116, 114, 117, 99, 116, 117, 114, 101, 100]))), (.int .u8 17), (.int .u8 243)]))), (0, (.int .u8 p0))]) (fun _ i5 => X :: R) ?_ ?_
   ·refine c_region ?_
    refine o1 rfl (o_fa (fd := ⟨ "one", 5, 1, false, "", "vitrine/write", 16⟩) rfl rfl rfl rfl rfl ?_)
    refine o1 rfl (o_ld (b := b52) (off := 1) (v := (.int .u8 ((rd [(⟨(ByteArray.mk (List.toArray [78, 111, 116, 104, 105, 110, 103])), 3, 3⟩ : Vwrite_name), (⟨(ByteArray.mk (List.toArray [87, 114, 105, 116, 101])), 1, 241⟩ : Vwrite_name), (⟨(ByteArray.mk (List.toArray [69, 114, 97, 115, 101, 87, 114, 105, 116, 101])), 5, 245⟩ : Vwrite_name), (⟨(ByteArray.mk (List.toArray [69, 114, 97, 115, 101, 65, 108, 116, 101, 114, 110, 97, 116, 101])), 13, 126⟩ : Vwrite_name), (⟨(ByteArray.mk (List.toArray [69, 114, 97, 115, 101, 85, 110, 112, 114, 111, 116, 101, 99, 116, 101, 100])), 15, 111⟩ : Vwrite_name), (⟨(ByteArray.mk (List.toArray [82, 101, 97, 100, 66, 117, 102, 102, 101, 114])), 2, 242⟩ : Vwrite_name), (⟨(ByteArray.mk (List.toArray [82, 101, 97, 100, 77, 111, 100, 105, 102, 105, 101, 100])), 6, 246⟩ : Vwrite_name), (⟨(ByteArray.mk (List.toArray [82, 101, 97, 100, 65, 108, 108])), 14, 110⟩ : Vwrite_name), (⟨(ByteArray.mk (List.toArray [83, 116, 114, 117, 99, 116, 117, 114, 101, 100])), 17, 243⟩ : Vwrite_name)] x2).one))) rfl rm0 rfl rfl ?_)
    refine o1 rfl (o_p rfl ?_)
    refine o1 rfl (o_p (v := (.bool (((rd [(⟨(ByteArray.mk (List.toArray [78, 111, 116, 104, 105, 110, 103])), 3, 3⟩ : Vwrite_name), (⟨(ByteArray.mk (List.toArray [87, 114, 105, 116, 101])), 1, 241⟩ : Vwrite_name), (⟨(ByteArray.mk (List.toArray [69, 114, 97, 115, 101, 87, 114, 105, 116, 101])), 5, 245⟩ : Vwrite_name), (⟨(ByteArray.mk (List.toArray [69, 114, 97, 115, 101, 65, 108, 116, 101, 114, 110, 97, 116, 101])), 13, 126⟩ : Vwrite_name), (⟨(ByteArray.mk (List.toArray [69, 114, 97, 115, 101, 85, 110, 112, 114, 111, 116, 101, 99, 116, 101, 100])), 15, 111⟩ : Vwrite_name), (⟨(ByteArray.mk (List.toArray [82, 101, 97, 100, 66, 117, 102, 102, 101, 114])), 2, 242⟩ : Vwrite_name), (⟨(ByteArray.mk (List.toArray [82, 101, 97, 100, 77, 111, 100, 105, 102, 105, 101, 100])), 6, 246⟩ : Vwrite_name), (⟨(ByteArray.mk (List.toArray [82, 101, 97, 100, 65, 108, 108])), 14, 110⟩ : Vwrite_name), (⟨(ByteArray.mk (List.toArray [83, 116, 114, 117, 99, 116, 117, 114, 101, 100])), 17, 243⟩ : Vwrite_name)] x2).one) == p0))) rfl ?_)
    refine o1 rfl (o_p rfl ?_)
    rcases bool_or ((((rd [(⟨(ByteArray.mk (List.toArray [78, 111, 116, 104, 105, 110, 103])), 3, 3⟩ : Vwrite_name), (⟨(ByteArray.mk (List.toArray [87, 114, 105, 116, 101])), 1, 241⟩ : Vwrite_name), (⟨(ByteArray.mk (List.toArray [69, 114, 97, 115, 101, 87, 114, 105, 116, 101])), 5, 245⟩ : Vwrite_name), (⟨(ByteArray.mk (List.toArray [69, 114, 97, 115, 101, 65, 108, 116, 101, 114, 110, 97, 116, 101])), 13, 126⟩ : Vwrite_name), (⟨(ByteArray.mk (List.toArray [69, 114, 97, 115, 101, 85, 110, 112, 114, 111, 116, 101, 99, 116, 101, 100])), 15, 111⟩ : Vwrite_name), (⟨(ByteArray.mk (List.toArray [82, 101, 97, 100, 66, 117, 102, 102, 101, 114])), 2, 242⟩ : Vwrite_name), (⟨(ByteArray.mk (List.toArray [82, 101, 97, 100, 77, 111, 100, 105, 102, 105, 101, 100])), 6, 246⟩ : Vwrite_name), (⟨(ByteArray.mk (List.toArray [82, 101, 97, 100, 65, 108, 108])), 14, 110⟩ : Vwrite_name), (⟨(ByteArray.mk (List.toArray [83, 116, 114, 117, 99, 116, 117, 114, 101, 100])), 17, 243⟩ : Vwrite_name)] x2).one) == p0)) with hb54 | hb54
    ·replace h := cond_t hb54 h
     refine on rfl rfl rfl hb54 ?_
     refine on rfl rfl rfl hb54 ?_
     refine on rfl rfl rfl hb54 ?_
     refine on rfl rfl rfl hb54 ?_
     refine o1 rfl (o_pick_t rfl hb54 rfl ?_)
     refine o_end ?_
     obtain rfl := Option.some.inj h
     exact ej () () trivial (sc rfl (sc rfl (sc rfl (sc rfl (sc rfl sn))))) (kc rm1 (kd kr))
    ·replace h := cond_f hb54 h
     refine oy rfl rfl rfl hb54 (o_fa (fd := ⟨ "other", 5, 2, false, "", "vitrine/write", 17⟩) rfl rfl rfl rfl rfl ?_)
     refine oy rfl rfl rfl hb54 (o_ld (b := b52) (off := 2) (v := (.int .u8 ((rd [(⟨(ByteArray.mk (List.toArray [78, 111, 116, 104, 105, 110, 103])), 3, 3⟩ : Vwrite_name), (⟨(ByteArray.mk (List.toArray [87, 114, 105, 116, 101])), 1, 241⟩ : Vwrite_name), (⟨(ByteArray.mk (List.toArray [69, 114, 97, 115, 101, 87, 114, 105, 116, 101])), 5, 245⟩ : Vwrite_name), (⟨(ByteArray.mk (List.toArray [69, 114, 97, 115, 101, 65, 108, 116, 101, 114, 110, 97, 116, 101])), 13, 126⟩ : Vwrite_name), (⟨(ByteArray.mk (List.toArray [69, 114, 97, 115, 101, 85, 110, 112, 114, 111, 116, 101, 99, 116, 101, 100])), 15, 111⟩ : Vwrite_name), (⟨(ByteArray.mk (List.toArray [82, 101, 97, 100, 66, 117, 102, 102, 101, 114])), 2, 242⟩ : Vwrite_name), (⟨(ByteArray.mk (List.toArray [82, 101, 97, 100, 77, 111, 100, 105, 102, 105, 101, 100])), 6, 246⟩ : Vwrite_name), (⟨(ByteArray.mk (List.toArray [82, 101, 97, 100, 65, 108, 108])), 14, 110⟩ : Vwrite_name), (⟨(ByteArray.mk (List.toArray [83, 116, 114, 117, 99, 116, 117, 114, 101, 100])), 17, 243⟩ : Vwrite_name)] x2).other))) rfl rm0 rfl rfl ?_)
     refine oy rfl rfl rfl hb54 (o_p rfl ?_)
     refine oy rfl rfl rfl hb54 (o_p (v := (.bool (((rd [(⟨(ByteArray.mk (List.toArray [78, 111, 116, 104, 105, 110, 103])), 3, 3⟩ : Vwrite_name), (⟨(ByteArray.mk (List.toArray [87, 114, 105, 116, 101])), 1, 241⟩ : Vwrite_name), (⟨(ByteArray.mk (List.toArray [69, 114, 97, 115, 101, 87, 114, 105, 116, 101])), 5, 245⟩ : Vwrite_name), (⟨(ByteArray.mk (List.toArray [69, 114, 97, 115, 101, 65, 108, 116, 101, 114, 110, 97, 116, 101])), 13, 126⟩ : Vwrite_name), (⟨(ByteArray.mk (List.toArray [69, 114, 97, 115, 101, 85, 110, 112, 114, 111, 116, 101, 99, 116, 101, 100])), 15, 111⟩ : Vwrite_name), (⟨(ByteArray.mk (List.toArray [82, 101, 97, 100, 66, 117, 102, 102, 101, 114])), 2, 242⟩ : Vwrite_name), (⟨(ByteArray.mk (List.toArray [82, 101, 97, 100, 77, 111, 100, 105, 102, 105, 101, 100])), 6, 246⟩ : Vwrite_name), (⟨(ByteArray.mk (List.toArray [82, 101, 97, 100, 65, 108, 108])), 14, 110⟩ : Vwrite_name), (⟨(ByteArray.mk (List.toArray [83, 116, 114, 117, 99, 116, 117, 114, 101, 100])), 17, 243⟩ : Vwrite_name)] x2).other) == p0))) rfl ?_)
     refine o1 rfl (o_pick_f rfl hb54 rfl ?_)
     refine o_end ?_
     obtain rfl := Option.some.inj h
     exact ej () () trivial (sc rfl (sc rfl (sc rfl (sc rfl (sc rfl sn))))) (kc rm1 (kd kr))
   ·rintro _ i5 _
    replace h := hk5
    clear hk5
    refine e_seq ?_
    refine c_cond (b := d5) rfl (fun hb55 => ?_) (fun hb55 => ?_)
    ·replace h := cond_t hb55 h
     refine c_seq (c_region (o1 rfl (o_p rfl (o1 rfl (o_p rfl (o1 rfl (o_p rfl (o_end ?_))))))))
     refine e_seq (c_ret (e_blk_ret (e_then_ret (e_then_ret (e_blk_ret ?_)))))
     refine ej_ret ?_
     replace h := esc_some h
     obtain ⟨z1, h, rfl⟩ := h
     obtain rfl := (hk1 : z1 = _)
     refine e_then_ret (e_ret ?_)
     refine r_endt rfl rfl (kc rm0 kr) ?_
     obtain rfl := Option.some.inj h
     exact hk
    ·replace h := cond_f hb55 h
     refine c_skip (e_blk (e_seq (c_region ?_)))
     refine o1 rfl (o_p (v := (.int .i64 (w64 (x2 + 1)))) rfl ?_)
     refine o1 rfl (o_p rfl (o_end ?_))
     exact e_loop (l_sub (sc rfl (sc rfl (sc rfl sn))) (l_keep (kc rm0 kr) (ih2 (w64 (x2 + 1)) () trivial h)))
  ·replace h := cond_f hb50 h
   refine c_exit (e_then_exit (e_then_exit (e_blk_exit ?_)))
   obtain rfl := Option.some.inj h
   exact ej () () rfl sn (kc rm0 kr)
 ·rintro d1 i1 rfl
  replace h := JK_inl hk1
  clear hk1
  refine e_seq (c_seq (c_region (o1 rfl (o_p rfl (o1 rfl (o_p rfl (o_end ?_)))))))
  refine e_seq (c_ret (e_ret ?_))
  refine r_endt rfl rfl (kc rm0 kr) ?_
  obtain rfl := Option.some.inj h
  exact hk

theorem c_space_Space_Clear_2 {g : Gw} (hg : GK g) (X : HP) (p0 : Vspace_Space) (b0 : Nat) (s0 : SV) (p1 : Bool) (r : Vspace_Space) (h : m_space_Space_Clear_2 p0 p1 = some r) : Tri env g 47 (List.toArray [(.pointer (some ⟨b0, 0, none⟩)), (.bool p1)]) [X, blk b0 (.cells (List.toArray [(.int .i64 p0.model), (.bool p0.alternate), (.int .i64 p0.size.Rows), (.int .i64 p0.size.Cols), (SV.val s0), (.int .i64 p0.cursor), (.int .i64 p0.attrs)]) 116 (0, 0)), slO s0 80 en_Vapi_Cell p0.cells] (fun K R => ∀ (i0 : SV), K (.tuple (List.toArray [])) (X :: blk b0 (.cells (List.toArray [(.int .i64 r.model), (.bool r.alternate), (.int .i64 r.size.Rows), (.int .i64 r.size.Cols), (SV.val i0), (.int .i64 r.cursor), (.int .i64 r.attrs)]) 116 (0, 0)) :: slO i0 80 en_Vapi_Cell r.cells :: slO s0 80 en_Vapi_Cell p0.cells :: R)) := by
 refine tri_of (fn := Tryz.f47) (N := 39) Tryz.func47 rfl rfl rfl ?_
 intro R K hk
 unfold m_space_Space_Clear_2 at h
 change GC _ none _ [] [(0, (.pointer (some ⟨b0, 0, none⟩))), (1, (.bool p1))] (X :: blk b0 (.cells (List.toArray [(.int .i64 p0.model), (.bool p0.alternate), (.int .i64 p0.size.Rows), (.int .i64 p0.size.Cols), (SV.val s0), (.int .i64 p0.cursor), (.int .i64 p0.attrs)]) 116 (0, 0)) :: slO s0 80 en_Vapi_Cell p0.cells :: R) g _ _
 refine c_seq (c_seq (c_region (o1 rfl (o_p rfl ?_))))
 refine o1 rfl (o_p (v := (.bool false)) rfl ?_)
 refine o_end (e_seq ?_)
 refine c_cond_f rfl rfl ?_
 refine c_skip (e_seq (c_seq (c_region (o1 rfl (o_p rfl (o_end ?_))))))
 refine e_seq (c_seq (c_seq (c_region (o1 rfl (o_p rfl (o_end ?_))))))
 refine e_seq ?_
 replace h := bsome h
 obtain ⟨d1, h, hk1⟩ := h
 refine cj (D := Unit) (ι := Unit) (fun _ i1 => True) (fun _ i1 => [(4, (.int .i64 d1)), (0, (.pointer (some ⟨b0, 0, none⟩))), (1, (.bool p1))]) (fun _ i1 => X :: blk b0 (.cells (List.toArray [(.int .i64 p0.model), (.bool p0.alternate), (.int .i64 p0.size.Rows), (.int .i64 p0.size.Cols), (SV.val s0), (.int .i64 p0.cursor), (.int .i64 p0.attrs)]) 116 (0, 0)) :: slO s0 80 en_Vapi_Cell p0.cells :: R) ?_ ?_
 ·refine c_cond (b := p1) rfl (fun hb73 => ?_) (fun hb73 => ?_)
  ·replace h := cond_t hb73 h
   refine c_region (o1 rfl (o_p rfl (o1 rfl (o_p rfl ?_))))
   refine o1 rfl (o_fa (fd := ⟨ "model", 3, 0, false, "", "vitrine/space", 0⟩) rfl rfl rfl rfl rfl ?_)
   refine o1 rfl (o_ld (b := b0) (off := 0) (v := (.int .i64 p0.model)) rfl rm1 rfl rfl ?_)
   refine o1 rfl (o_p rfl (o_end ?_))
   obtain rfl := Option.some.inj h
   exact ej () () trivial (sc rfl (sc rfl (sc rfl sn))) (kc rm0 (kc rm0 (kc rm0 kr)))
  ·replace h := cond_f hb73 h
   refine c_skip ?_
   obtain rfl := Option.some.inj h
   exact ej () () trivial (sc rfl (sc rfl (sc rfl sn))) (kc rm0 (kc rm0 (kc rm0 kr)))
 ·rintro _ i1 _
  replace h := hk1
  clear hk1
  refine e_seq (c_seq (c_region (o1 rfl (o_p rfl (o1 rfl (o_p rfl (o1 rfl (o_p rfl ?_))))))))
  refine o1 rfl (o_fa (fd := ⟨ "alternate", 4, 1, false, "", "vitrine/space", 8⟩) rfl rfl rfl rfl rfl ?_)
  refine o0 (o_st (b := b0) (off := 1) (vs := [(.bool p1)]) (cs' := [(.int .i64 p0.model), (.bool p1), (.int .i64 p0.size.Rows), (.int .i64 p0.size.Cols), (SV.val s0), (.int .i64 p0.cursor), (.int .i64 p0.attrs)]) rfl rfl rp1 rfl rfl rfl rfl rfl rfl ?_)
  refine o_end (e_seq (c_seq (c_region (o1 rfl (o_p rfl (o1 rfl (o_p rfl ?_)))))))
  replace h := bsome h
  obtain ⟨d2, h2, h⟩ := h
  refine o1 rfl (o_call has93 rfl (c_addr_Model hg X d1 _ h2) (pc rm0 pn) ?_)
  refine o1 rfl (o_p rfl (o1 rfl (o_p rfl (o1 rfl (o_p rfl (o1 rfl (o_p rfl ?_)))))))
  refine o1 rfl (o_fa (fd := ⟨ "size", 102, 2, false, "", "vitrine/space", 16⟩) rfl rfl rfl rfl rfl ?_)
  refine o0 (o_st (b := b0) (off := 2) (vs := [(.int .i64 d2.1.Rows), (.int .i64 d2.1.Cols)]) (cs' := [(.int .i64 p0.model), (.bool p1), (.int .i64 d2.1.Rows), (.int .i64 d2.1.Cols), (SV.val s0), (.int .i64 p0.cursor), (.int .i64 p0.attrs)]) rfl rfl rp1 rfl rfl rfl rfl rfl rfl ?_)
  refine o_end (e_seq (c_seq (c_region (o1 rfl (o_p rfl (o1 rfl (o_p rfl ?_)))))))
  refine o1 rfl (o_p rfl ?_)
  refine o1 rfl (o_fa (fd := ⟨ "size", 102, 2, false, "", "vitrine/space", 16⟩) rfl rfl rfl rfl rfl ?_)
  refine o1 rfl (o_ld (b := b0) (off := 2) (v := (.agg (List.toArray [(.int .i64 d2.1.Rows), (.int .i64 d2.1.Cols)]))) rfl rm1 rfl rfl ?_)
  replace h := bsome h
  obtain ⟨d3, h3, h⟩ := h
  refine o1 rfl (o_call has52 rfl (c_addr_Size_Cells hg X (⟨d2.1.Rows, d2.1.Cols⟩ : Vaddr_Size) _ h3) (pc rm0 pn) ?_)
  replace h := gsome h
  obtain ⟨hg74, h⟩ := h
  refine o1 rfl (o_mk (e := en_Vapi_Cell) (z := (⟨0, false, 0, 0, 0, 0⟩ : Vapi_Cell)) (zs := [(.int .u8 0), (.bool false), (.int .u8 0), (.int .u8 0), (.int .u8 0), (.int .u8 0)]) rfl rfl rfl rfl rfl rfl rfl rfl rfl hg74 (fun s75 => ?_))
  refine o1 rfl (o_p rfl ?_)
  refine o1 rfl (o_fa (fd := ⟨ "cells", 38, 4, false, "", "vitrine/space", 32⟩) rfl rfl rfl rfl rfl ?_)
  refine o0 (o_st (b := b0) (off := 4) (vs := [(SV.val s75)]) (cs' := [(.int .i64 p0.model), (.bool p1), (.int .i64 d2.1.Rows), (.int .i64 d2.1.Cols), (SV.val s75), (.int .i64 p0.cursor), (.int .i64 p0.attrs)]) rfl rfl rp2 rfl rfl rfl rfl rfl rfl ?_)
  refine o_end (e_seq (c_region (o1 rfl (o_p rfl (o1 rfl (o_p rfl (o1 rfl (o_p rfl ?_))))))))
  refine o1 rfl (o_fa (fd := ⟨ "cursor", 3, 5, false, "", "vitrine/space", 56⟩) rfl rfl rfl rfl rfl ?_)
  refine o0 (o_st (b := b0) (off := 5) (vs := [(.int .i64 0)]) (cs' := [(.int .i64 p0.model), (.bool p1), (.int .i64 d2.1.Rows), (.int .i64 d2.1.Cols), (SV.val s75), (.int .i64 0), (.int .i64 p0.attrs)]) rfl rfl rp2 rfl rfl rfl rfl rfl rfl ?_)
  refine o1 rfl (o_p rfl ?_)
  refine o1 rfl (o_fa (fd := ⟨ "attrs", 3, 6, false, "", "vitrine/space", 64⟩) rfl rfl rfl rfl rfl ?_)
  refine o0 (o_st (b := b0) (off := 6) (vs := [(.int .i64 0)]) (cs' := [(.int .i64 p0.model), (.bool p1), (.int .i64 d2.1.Rows), (.int .i64 d2.1.Cols), (SV.val s75), (.int .i64 0), (.int .i64 0)]) rfl rfl rp2 rfl rfl rfl rfl rfl rfl ?_)
  refine o_end (e_fall ?_)
  refine r_endt rfl rfl (kc rm1 (kc rm1 (kc rm0 (kc rm0 kr)))) ?_
  obtain rfl := Option.some.inj h
  exact hk s75

theorem c_space_Space_Attrs {g : Gw} (hg : GK g) (X : HP) (p0 : Vspace_Space) (b0 : Nat) (s0 : SV) (r : Unit) (h : m_space_Space_Attrs p0 = some r) : Tri env g 129 (List.toArray [(.pointer (some ⟨b0, 0, none⟩))]) [X, blk b0 (.cells (List.toArray [(.int .i64 p0.model), (.bool p0.alternate), (.int .i64 p0.size.Rows), (.int .i64 p0.size.Cols), (SV.val s0), (.int .i64 p0.cursor), (.int .i64 p0.attrs)]) 116 (0, 0)), slO s0 80 en_Vapi_Cell p0.cells] (fun K R => ∀ (i0 : Nat), K (.func (.func 167) #[] (List.toArray [(.pointer (some ⟨i0, 0, none⟩))])) (X :: blk b0 (.cells (List.toArray [(.int .i64 p0.model), (.bool p0.alternate), (.int .i64 p0.size.Rows), (.int .i64 p0.size.Cols), (SV.val s0), (.int .i64 p0.cursor), (.int .i64 p0.attrs)]) 116 (0, 0)) :: slO s0 80 en_Vapi_Cell p0.cells :: blk i0 (.cells (List.toArray [(.pointer (some ⟨b0, 0, none⟩))]) 24 (0, 0)) :: R)) := by
 refine tri_of (fn := Tryz.f129) (N := 4) Tryz.func129 rfl rfl rfl ?_
 intro R K hk
 unfold m_space_Space_Attrs at h
 change GC _ none _ [] [(0, (.pointer (some ⟨b0, 0, none⟩)))] (X :: blk b0 (.cells (List.toArray [(.int .i64 p0.model), (.bool p0.alternate), (.int .i64 p0.size.Rows), (.int .i64 p0.size.Cols), (SV.val s0), (.int .i64 p0.cursor), (.int .i64 p0.attrs)]) 116 (0, 0)) :: slO s0 80 en_Vapi_Cell p0.cells :: R) g _ _
 refine c_seq (c_region ?_)
 refine o1 rfl (o_box (cs := [(.pointer (some ⟨b0, 0, none⟩))]) rfl rfl (fun b82 => ?_))
 refine o1 rfl (o_p rfl (o_end (e_seq (c_seq (c_region (o1 rfl (o_p rfl ?_)))))))
 refine o1 rfl (o_p rfl (o_end (e_seq (c_ret (e_ret ?_)))))
 refine r_endt rfl rfl (kc rm1 (kc rm1 (kc rm1 (kc rm0 kr)))) ?_
 obtain rfl := Option.some.inj h
 exact hk b82

theorem c_space_Space_All {g : Gw} (hg : GK g) (X : HP) (p0 : Vspace_Space) (b0 : Nat) (s0 : SV) (r : Unit) (h : m_space_Space_All p0 = some r) : Tri env g 86 (List.toArray [(.pointer (some ⟨b0, 0, none⟩))]) [X, blk b0 (.cells (List.toArray [(.int .i64 p0.model), (.bool p0.alternate), (.int .i64 p0.size.Rows), (.int .i64 p0.size.Cols), (SV.val s0), (.int .i64 p0.cursor), (.int .i64 p0.attrs)]) 116 (0, 0)), slO s0 80 en_Vapi_Cell p0.cells] (fun K R => ∀ (i0 : Nat), K (.func (.func 135) #[] (List.toArray [(.pointer (some ⟨i0, 0, none⟩))])) (X :: blk b0 (.cells (List.toArray [(.int .i64 p0.model), (.bool p0.alternate), (.int .i64 p0.size.Rows), (.int .i64 p0.size.Cols), (SV.val s0), (.int .i64 p0.cursor), (.int .i64 p0.attrs)]) 116 (0, 0)) :: slO s0 80 en_Vapi_Cell p0.cells :: blk i0 (.cells (List.toArray [(.pointer (some ⟨b0, 0, none⟩))]) 24 (0, 0)) :: R)) := by
 refine tri_of (fn := Tryz.f86) (N := 4) Tryz.func86 rfl rfl rfl ?_
 intro R K hk
 unfold m_space_Space_All at h
 change GC _ none _ [] [(0, (.pointer (some ⟨b0, 0, none⟩)))] (X :: blk b0 (.cells (List.toArray [(.int .i64 p0.model), (.bool p0.alternate), (.int .i64 p0.size.Rows), (.int .i64 p0.size.Cols), (SV.val s0), (.int .i64 p0.cursor), (.int .i64 p0.attrs)]) 116 (0, 0)) :: slO s0 80 en_Vapi_Cell p0.cells :: R) g _ _
 refine c_seq (c_region ?_)
 refine o1 rfl (o_box (cs := [(.pointer (some ⟨b0, 0, none⟩))]) rfl rfl (fun b87 => ?_))
 refine o1 rfl (o_p rfl (o_end (e_seq (c_seq (c_region (o1 rfl (o_p rfl ?_)))))))
 refine o1 rfl (o_p rfl (o_end (e_seq (c_ret (e_ret ?_)))))
 refine r_endt rfl rfl (kc rm1 (kc rm1 (kc rm1 (kc rm0 kr)))) ?_
 obtain rfl := Option.some.inj h
 exact hk b87

theorem c_space_Space_Size {g : Gw} (hg : GK g) (X : HP) (p0 : Vspace_Space) (b0 : Nat) (s0 : SV) (r : Vaddr_Size) (h : m_space_Space_Size p0 = some r) : Tri env g 51 (List.toArray [(.pointer (some ⟨b0, 0, none⟩))]) [X, blk b0 (.cells (List.toArray [(.int .i64 p0.model), (.bool p0.alternate), (.int .i64 p0.size.Rows), (.int .i64 p0.size.Cols), (SV.val s0), (.int .i64 p0.cursor), (.int .i64 p0.attrs)]) 116 (0, 0)), slO s0 80 en_Vapi_Cell p0.cells] (fun K R => K (.agg (List.toArray [(.int .i64 r.Rows), (.int .i64 r.Cols)])) (X :: blk b0 (.cells (List.toArray [(.int .i64 p0.model), (.bool p0.alternate), (.int .i64 p0.size.Rows), (.int .i64 p0.size.Cols), (SV.val s0), (.int .i64 p0.cursor), (.int .i64 p0.attrs)]) 116 (0, 0)) :: slO s0 80 en_Vapi_Cell p0.cells :: R)) := by
 refine tri_of (fn := Tryz.f51) (N := 10) Tryz.func51 rfl rfl rfl ?_
 intro R K hk
 unfold m_space_Space_Size at h
 change GC _ none _ [] [(0, (.pointer (some ⟨b0, 0, none⟩)))] (X :: blk b0 (.cells (List.toArray [(.int .i64 p0.model), (.bool p0.alternate), (.int .i64 p0.size.Rows), (.int .i64 p0.size.Cols), (SV.val s0), (.int .i64 p0.cursor), (.int .i64 p0.attrs)]) 116 (0, 0)) :: slO s0 80 en_Vapi_Cell p0.cells :: R) g _ _
 refine c_seq (c_region ?_)
 refine o1 rfl (o_alloc (cs := [(.int .i64 0), (.int .i64 0)]) rfl rfl (fun b90 => ?_))
 refine o_end (e_seq (c_seq (c_seq (c_region (o1 rfl (o_p rfl ?_))))))
 refine o1 rfl (o_p (v := (.bool false)) rfl ?_)
 refine o_end (e_seq ?_)
 refine c_cond_f rfl rfl ?_
 refine c_skip (e_seq (c_seq (c_region (o1 rfl (o_p rfl (o1 rfl (o_p rfl ?_)))))))
 refine o1 rfl (o_fa (fd := ⟨ "size", 102, 2, false, "", "vitrine/space", 16⟩) rfl rfl rfl rfl rfl ?_)
 refine o1 rfl (o_ld (b := b0) (off := 2) (v := (.agg (List.toArray [(.int .i64 p0.size.Rows), (.int .i64 p0.size.Cols)]))) rfl rm2 rfl rfl ?_)
 refine o0 (o_st (b := b90) (off := 0) (vs := [(.int .i64 p0.size.Rows), (.int .i64 p0.size.Cols)]) (cs' := [(.int .i64 p0.size.Rows), (.int .i64 p0.size.Cols)]) rfl rfl rp0 rfl rfl rfl rfl rfl rfl ?_)
 refine o_end (e_seq (c_ret (e_ret ?_)))
 refine r_endc (B := [[(.int .i64 p0.size.Rows), (.int .i64 p0.size.Cols)]]) rfl ⟨⟨_, _, _, _, rfl, rm0⟩, trivial⟩ rfl (kc rm1 (kc rm1 (kc rm1 (kd kr)))) ?_
 obtain rfl := Option.some.inj h
 exact hk

theorem c_addr_rest {g : Gw} (hg : GK g) (X : HP) (p0 : Int) (p1 : Int) (r : Int) (h : m_addr_rest p0 p1 = some r) : Tri env g 110 (List.toArray [(.int .i64 p0), (.int .i64 p1)]) [X] (fun K R => K (.int .i64 r) (X :: R)) := by
 refine tri_of (fn := Tryz.f110) (N := 14) Tryz.func110 rfl rfl rfl ?_
 intro R K hk
 unfold m_addr_rest at h
 change GC _ none _ [] [(0, (.int .i64 p0)), (1, (.int .i64 p1))] (X :: R) g _ _
 refine c_seq (c_region (o1 rfl (o_p rfl (o_end (e_seq (c_seq ?_))))))
 refine c_region (o1 rfl (o_p rfl (o1 rfl (o_p rfl ?_))))
 replace h := gsome h
 obtain ⟨hg98, h⟩ := h
 refine o1 rfl (o_rem (m := p0) (n := p1) rfl rfl hg98 ?_)
 refine o1 rfl (o_p rfl (o_end (e_seq (c_seq (c_seq (c_region ?_))))))
 refine o1 rfl (o_p rfl ?_)
 refine o1 rfl (o_p (v := (.bool (decide ((Int.tmod p0 p1) < 0)))) rfl ?_)
 refine o_end (e_seq ?_)
 replace h := bsome h
 obtain ⟨d1, h, hk1⟩ := h
 refine cj (D := Unit) (ι := Unit) (fun _ i1 => True) (fun _ i1 => [(0, (.int .i64 d1))]) (fun _ i1 => X :: R) ?_ ?_
 ·refine c_cond (b := (decide ((Int.tmod p0 p1) < 0))) rfl (fun hb99 => ?_) (fun hb99 => ?_)
  ·replace h := cond_t hb99 h
   refine c_region (o1 rfl (o_p rfl (o1 rfl (o_p rfl ?_))))
   refine o1 rfl (o_p (v := (.int .i64 (w64 ((Int.tmod p0 p1) + p1)))) rfl ?_)
   refine o1 rfl (o_p rfl (o_end ?_))
   obtain rfl := Option.some.inj h
   exact ej () () trivial (sc rfl sn) (kc rm0 kr)
  ·replace h := cond_f hb99 h
   refine c_skip ?_
   obtain rfl := Option.some.inj h
   exact ej () () trivial (sc rfl sn) (kc rm0 kr)
 ·rintro _ i1 _
  replace h := hk1
  clear hk1
  refine e_seq (c_seq (c_region (o1 rfl (o_p rfl (o1 rfl (o_p rfl (o_end ?_)))))))
  refine e_seq (c_ret (e_ret ?_))
  refine r_endt rfl rfl (kc rm0 kr) ?_
  obtain rfl := Option.some.inj h
  exact hk

theorem c_addr_Size_Wrap {g : Gw} (hg : GK g) (X : HP) (p0 : Vaddr_Size) (p1 : Int) (r : Int) (h : m_addr_Size_Wrap p0 p1 = some r) : Tri env g 61 (List.toArray [(.agg (List.toArray [(.int .i64 p0.Rows), (.int .i64 p0.Cols)])), (.int .i64 p1)]) [X] (fun K R => K (.int .i64 r) (X :: R)) := by
 refine tri_of (fn := Tryz.f61) (N := 12) Tryz.func61 rfl rfl rfl ?_
 intro R K hk
 unfold m_addr_Size_Wrap at h
 change GC _ none _ [] [(0, (.agg (List.toArray [(.int .i64 p0.Rows), (.int .i64 p0.Cols)]))), (1, (.int .i64 p1))] (X :: R) g _ _
 refine c_seq (c_region ?_)
 refine o1 rfl (o_box (cs := [(.int .i64 p0.Rows), (.int .i64 p0.Cols)]) rfl rfl (fun b95 => ?_))
 refine o1 rfl (o_p rfl (o_end (e_seq (c_seq (c_seq (c_region ?_))))))
 refine o1 rfl (o_ld (b := b95) (off := 0) (v := (.agg (List.toArray [(.int .i64 p0.Rows), (.int .i64 p0.Cols)]))) rfl rm0 rfl rfl ?_)
 replace h := bsome h
 obtain ⟨d1, h1, h⟩ := h
 refine o1 rfl (o_call has99 rfl (c_addr_Size_Valid hg X p0 _ h1) (pc rm1 pn) ?_)
 refine o1 rfl (o_p (v := (.bool (!d1))) rfl ?_)
 refine o_end (e_seq ?_)
 refine c_cond (b := (!d1)) rfl (fun hb97 => ?_) (fun hb97 => ?_)
 ·replace h := cond_t hb97 h
  refine c_seq (c_region (o1 rfl (o_p rfl (o_end (e_seq (c_ret ?_))))))
  refine e_then_ret (e_ret ?_)
  refine r_endt rfl rfl (kc rm0 (kd kr)) ?_
  obtain rfl := Option.some.inj h
  exact hk
 ·replace h := cond_f hb97 h
  refine c_skip (e_seq (c_seq (c_region (o1 rfl (o_p rfl ?_)))))
  refine o1 rfl (o_ld (b := b95) (off := 0) (v := (.agg (List.toArray [(.int .i64 p0.Rows), (.int .i64 p0.Cols)]))) rfl rm1 rfl rfl ?_)
  replace h := bsome h
  obtain ⟨d3, h3, h⟩ := h
  refine o1 rfl (o_call has52 rfl (c_addr_Size_Cells hg X p0 _ h3) (pc rm0 pn) ?_)
  replace h := bsome h
  obtain ⟨d4, h4, h⟩ := h
  refine o1 rfl (o_call has110 rfl (c_addr_rest hg X p1 d3 _ h4) (pc rm0 pn) ?_)
  refine o1 rfl (o_p rfl (o_end (e_seq (c_ret (e_ret ?_)))))
  refine r_endt rfl rfl (kc rm0 (kd kr)) ?_
  obtain rfl := Option.some.inj h
  exact hk

theorem c_space_Space_At {g : Gw} (hg : GK g) (X : HP) (p0 : Vspace_Space) (b0 : Nat) (s0 : SV) (p1 : Int) (r : Vapi_Cell) (h : m_space_Space_At p0 p1 = some r) : Tri env g 57 (List.toArray [(.pointer (some ⟨b0, 0, none⟩)), (.int .i64 p1)]) [X, blk b0 (.cells (List.toArray [(.int .i64 p0.model), (.bool p0.alternate), (.int .i64 p0.size.Rows), (.int .i64 p0.size.Cols), (SV.val s0), (.int .i64 p0.cursor), (.int .i64 p0.attrs)]) 116 (0, 0)), slO s0 80 en_Vapi_Cell p0.cells] (fun K R => K (.agg (List.toArray [(.int .u8 r.Char), (.bool r.Attr), (.int .u8 r.FA), (.int .u8 r.High), (.int .u8 r.Color), (.int .u8 r.f_Set)])) (X :: blk b0 (.cells (List.toArray [(.int .i64 p0.model), (.bool p0.alternate), (.int .i64 p0.size.Rows), (.int .i64 p0.size.Cols), (SV.val s0), (.int .i64 p0.cursor), (.int .i64 p0.attrs)]) 116 (0, 0)) :: slO s0 80 en_Vapi_Cell p0.cells :: R)) := by
 refine tri_of (fn := Tryz.f57) (N := 20) Tryz.func57 rfl rfl rfl ?_
 intro R K hk
 unfold m_space_Space_At at h
 change GC _ none _ [] [(0, (.pointer (some ⟨b0, 0, none⟩))), (1, (.int .i64 p1))] (X :: blk b0 (.cells (List.toArray [(.int .i64 p0.model), (.bool p0.alternate), (.int .i64 p0.size.Rows), (.int .i64 p0.size.Cols), (SV.val s0), (.int .i64 p0.cursor), (.int .i64 p0.attrs)]) 116 (0, 0)) :: slO s0 80 en_Vapi_Cell p0.cells :: R) g _ _
 refine c_seq (c_region ?_)
 refine o1 rfl (o_alloc (cs := [(.int .u8 0), (.bool false), (.int .u8 0), (.int .u8 0), (.int .u8 0), (.int .u8 0)]) rfl rfl (fun b93 => ?_))
 refine o_end (e_seq (c_seq (c_seq (c_region (o1 rfl (o_p rfl ?_))))))
 refine o1 rfl (o_p (v := (.bool false)) rfl ?_)
 refine o_end (e_seq ?_)
 refine c_cond_f rfl rfl ?_
 refine c_skip (e_seq (c_seq ?_))
 refine c_draw (n := 2) (q := [(0, 8, (.pointer (some ⟨b0, 0, none⟩))), (1, 9, (.pointer (some ⟨b0, 0, none⟩))), (2, 10, (.pointer (some ⟨b0, 4, none⟩))), (3, 11, (SV.val s0)), (4, 12, (.pointer (some ⟨b0, 0, none⟩))), (5, 13, (.pointer (some ⟨b0, 0, none⟩))), (6, 14, (.pointer (some ⟨b0, 2, none⟩))), (7, 15, (.agg (List.toArray [(.int .i64 p0.size.Rows), (.int .i64 p0.size.Cols)]))), (8, 16, (.int .i64 p1))]) (pend := [0, 1, 2, 3, 4, 5, 6, 7, 8]) rfl rfl rfl ?_
 replace h := bsome h
 obtain ⟨d2, h2, h⟩ := h
 refine ⟨⟨fun _ => ⟨rfl, rfl, rfl, .inl ⟨rfl, (o_p rfl ⟨rfl, rfl⟩)⟩⟩, fun _ => ⟨rfl, rfl, rfl, .inl ⟨rfl, (o_p rfl ⟨rfl, rfl⟩)⟩⟩, fun _ => ⟨rfl, rfl, rfl, .inl ⟨rfl, (o_fa (fd := ⟨ "cells", 38, 4, false, "", "vitrine/space", 32⟩) rfl rfl rfl rfl rfl ⟨rfl, rfl⟩)⟩⟩, fun _ => ⟨rfl, rfl, rfl, .inl ⟨rfl, (o_ld (b := b0) (off := 4) (v := (SV.val s0)) rfl rm2 rfl rfl ⟨rfl, rfl⟩)⟩⟩, fun _ => ⟨rfl, rfl, rfl, .inl ⟨rfl, (o_p rfl ⟨rfl, rfl⟩)⟩⟩, fun _ => ⟨rfl, rfl, rfl, .inl ⟨rfl, (o_p rfl ⟨rfl, rfl⟩)⟩⟩, fun _ => ⟨rfl, rfl, rfl, .inl ⟨rfl, (o_fa (fd := ⟨ "size", 102, 2, false, "", "vitrine/space", 16⟩) rfl rfl rfl rfl rfl ⟨rfl, rfl⟩)⟩⟩, fun _ => ⟨rfl, rfl, rfl, .inl ⟨rfl, (o_ld (b := b0) (off := 2) (v := (.agg (List.toArray [(.int .i64 p0.size.Rows), (.int .i64 p0.size.Cols)]))) rfl rm2 rfl rfl ⟨rfl, rfl⟩)⟩⟩, fun _ => ⟨rfl, rfl, rfl, .inl ⟨rfl, (o_p rfl ⟨rfl, rfl⟩)⟩⟩, trivial⟩, rfl, .inr ⟨[9], rfl, rfl, ⟨rfl, .inl rfl, ?_⟩, trivial⟩⟩
 refine (o_call has61 rfl (c_addr_Size_Wrap hg X p0.size p1 _ h2) (pc rm1 pn) ?_)
 replace h := gsome h
 obtain ⟨hg100, h⟩ := h
 refine ⟨[(10, 18, (.pointer (some ⟨SV.blk s0, SV.off s0 + Int.toNat d2 * 6, none⟩))), (11, 19, (.agg (List.toArray [(.int .u8 ((rd p0.cells d2).Char)), (.bool ((rd p0.cells d2).Attr)), (.int .u8 ((rd p0.cells d2).FA)), (.int .u8 ((rd p0.cells d2).High)), (.int .u8 ((rd p0.cells d2).Color)), (.int .u8 ((rd p0.cells d2).f_Set))])))], [0, 1, 2, 3, 10, 11], rfl, rfl, rfl, rfl, ?_⟩
 refine ⟨⟨fun _ => ⟨rfl, rfl, rfl, .inl ⟨rfl, (o_ix (s := s0) (n := d2) (e := en_Vapi_Cell) rfl rfl rfl rfl rfl rfl rm3 (rd_own _ _ _ _) hg100 ⟨rfl, rfl⟩)⟩⟩, fun _ => ⟨rfl, rfl, rfl, .inl ⟨rfl, (o_ldE (s := s0) (e := en_Vapi_Cell) (n := d2) (f := 0) (v := (.agg (List.toArray [(.int .u8 ((rd p0.cells d2).Char)), (.bool ((rd p0.cells d2).Attr)), (.int .u8 ((rd p0.cells d2).FA)), (.int .u8 ((rd p0.cells d2).High)), (.int .u8 ((rd p0.cells d2).Color)), (.int .u8 ((rd p0.cells d2).f_Set))]))) rfl rm3 (rd_own _ _ _ _) hg100 rfl rfl ⟨rfl, rfl⟩)⟩⟩, fun _ => ⟨rfl, rfl, rfl, .inl ⟨rfl, (o_p rfl ⟨rfl, rfl⟩)⟩⟩, fun _ => ⟨rfl, rfl, rfl, .inl ⟨rfl, (o_p rfl ⟨rfl, rfl⟩)⟩⟩, fun _ => ⟨rfl, rfl, rfl, .inl ⟨rfl, (o_fa (fd := ⟨ "cells", 38, 4, false, "", "vitrine/space", 32⟩) rfl rfl rfl rfl rfl ⟨rfl, rfl⟩)⟩⟩, fun _ => ⟨rfl, rfl, rfl, .inl ⟨rfl, (o_ld (b := b0) (off := 4) (v := (SV.val s0)) rfl rm2 rfl rfl ⟨rfl, rfl⟩)⟩⟩, (fun h => nomatch h), (fun h => nomatch h), (fun h => nomatch h), (fun h => nomatch h), (fun h => nomatch h), trivial⟩, rfl, .inr ⟨[12], rfl, rfl, ⟨rfl, .inl rfl, ?_⟩, trivial⟩⟩
 refine (o_st (b := b93) (off := 0) (vs := [(.int .u8 ((rd p0.cells d2).Char)), (.bool ((rd p0.cells d2).Attr)), (.int .u8 ((rd p0.cells d2).FA)), (.int .u8 ((rd p0.cells d2).High)), (.int .u8 ((rd p0.cells d2).Color)), (.int .u8 ((rd p0.cells d2).f_Set))]) (cs' := [(.int .u8 ((rd p0.cells d2).Char)), (.bool ((rd p0.cells d2).Attr)), (.int .u8 ((rd p0.cells d2).FA)), (.int .u8 ((rd p0.cells d2).High)), (.int .u8 ((rd p0.cells d2).Color)), (.int .u8 ((rd p0.cells d2).f_Set))]) rfl rfl rp1 rfl rfl rfl rfl rfl rfl ?_)
 refine ⟨[], [], rfl, rfl, ?_⟩
 refine ⟨⟨(fun h => nomatch h), (fun h => nomatch h), (fun h => nomatch h), (fun h => nomatch h), (fun h => nomatch h), (fun h => nomatch h), (fun h => nomatch h), (fun h => nomatch h), (fun h => nomatch h), (fun h => nomatch h), (fun h => nomatch h), trivial⟩, rfl, rfl, rfl, ?_⟩
 refine e_seq (c_ret (e_ret ?_))
 refine r_endc (B := [[(.int .u8 ((rd p0.cells d2).Char)), (.bool ((rd p0.cells d2).Attr)), (.int .u8 ((rd p0.cells d2).FA)), (.int .u8 ((rd p0.cells d2).High)), (.int .u8 ((rd p0.cells d2).Color)), (.int .u8 ((rd p0.cells d2).f_Set))]]) rfl ⟨⟨_, _, _, _, rfl, rm1⟩, trivial⟩ rfl (kc rm0 (kc rm1 (kc rm1 (kd kr)))) ?_
 obtain rfl := Option.some.inj h
 exact hk

theorem c_space_count {g : Gw} (hg : GK g) (X : HP) (p0 : Vapi_Cell) (r : Int) (h : m_space_count p0 = some r) : Tri env g 98 (List.toArray [(.agg (List.toArray [(.int .u8 p0.Char), (.bool p0.Attr), (.int .u8 p0.FA), (.int .u8 p0.High), (.int .u8 p0.Color), (.int .u8 p0.f_Set)]))]) [X] (fun K R => K (.int .i64 r) (X :: R)) := by
 refine tri_of (fn := Tryz.f98) (N := 5) Tryz.func98 rfl rfl rfl ?_
 intro R K hk
 unfold m_space_count at h
 change GC _ none _ [] [(0, (.agg (List.toArray [(.int .u8 p0.Char), (.bool p0.Attr), (.int .u8 p0.FA), (.int .u8 p0.High), (.int .u8 p0.Color), (.int .u8 p0.f_Set)])))] (X :: R) g _ _
 refine c_seq (c_region ?_)
 refine o1 rfl (o_box (cs := [(.int .u8 p0.Char), (.bool p0.Attr), (.int .u8 p0.FA), (.int .u8 p0.High), (.int .u8 p0.Color), (.int .u8 p0.f_Set)]) rfl rfl (fun b110 => ?_))
 refine o1 rfl (o_p rfl (o_end (e_seq (c_seq (c_seq (c_region ?_))))))
 refine o1 rfl (o_fa (fd := ⟨ "Attr", 4, 1, false, "", "", 1⟩) rfl rfl rfl rfl rfl ?_)
 refine o1 rfl (o_ld (b := b110) (off := 1) (v := (.bool p0.Attr)) rfl rm0 rfl rfl ?_)
 refine o_end (e_seq ?_)
 refine c_cond (b := p0.Attr) rfl (fun hb112 => ?_) (fun hb112 => ?_)
 ·replace h := cond_t hb112 h
  refine c_seq (c_region (o1 rfl (o_p rfl (o_end (e_seq (c_ret ?_))))))
  refine e_then_ret (e_ret ?_)
  refine r_endt rfl rfl (kc rm1 (kd kr)) ?_
  obtain rfl := Option.some.inj h
  exact hk
 ·replace h := cond_f hb112 h
  refine c_skip (e_seq (c_seq (c_region (o1 rfl (o_p rfl (o_end ?_))))))
  refine e_seq (c_ret (e_ret ?_))
  refine r_endt rfl rfl (kc rm1 (kd kr)) ?_
  obtain rfl := Option.some.inj h
  exact hk

theorem c_space_Space_Set {g : Gw} (hg : GK g) (X : HP) (p0 : Vspace_Space) (b0 : Nat) (s0 : SV) (p1 : Int) (p2 : Vapi_Cell) (r : Vspace_Space) (h : m_space_Space_Set p0 p1 p2 = some r) : Tri env g 48 (List.toArray [(.pointer (some ⟨b0, 0, none⟩)), (.int .i64 p1), (.agg (List.toArray [(.int .u8 p2.Char), (.bool p2.Attr), (.int .u8 p2.FA), (.int .u8 p2.High), (.int .u8 p2.Color), (.int .u8 p2.f_Set)]))]) [X, blk b0 (.cells (List.toArray [(.int .i64 p0.model), (.bool p0.alternate), (.int .i64 p0.size.Rows), (.int .i64 p0.size.Cols), (SV.val s0), (.int .i64 p0.cursor), (.int .i64 p0.attrs)]) 116 (0, 0)), slO s0 80 en_Vapi_Cell p0.cells] (fun K R => K (.tuple (List.toArray [])) (X :: blk b0 (.cells (List.toArray [(.int .i64 r.model), (.bool r.alternate), (.int .i64 r.size.Rows), (.int .i64 r.size.Cols), (SV.val s0), (.int .i64 r.cursor), (.int .i64 r.attrs)]) 116 (0, 0)) :: slO s0 80 en_Vapi_Cell r.cells :: R)) := by
 refine tri_of (fn := Tryz.f48) (N := 47) Tryz.func48 rfl rfl rfl ?_
 intro R K hk
 unfold m_space_Space_Set at h
 change GC _ none _ [] [(0, (.pointer (some ⟨b0, 0, none⟩))), (1, (.int .i64 p1)), (2, (.agg (List.toArray [(.int .u8 p2.Char), (.bool p2.Attr), (.int .u8 p2.FA), (.int .u8 p2.High), (.int .u8 p2.Color), (.int .u8 p2.f_Set)])))] (X :: blk b0 (.cells (List.toArray [(.int .i64 p0.model), (.bool p0.alternate), (.int .i64 p0.size.Rows), (.int .i64 p0.size.Cols), (SV.val s0), (.int .i64 p0.cursor), (.int .i64 p0.attrs)]) 116 (0, 0)) :: slO s0 80 en_Vapi_Cell p0.cells :: R) g _ _
 refine c_seq (c_region ?_)
 refine o1 rfl (o_box (cs := [(.int .u8 p2.Char), (.bool p2.Attr), (.int .u8 p2.FA), (.int .u8 p2.High), (.int .u8 p2.Color), (.int .u8 p2.f_Set)]) rfl rfl (fun b106 => ?_))
 refine o_end (e_seq (c_seq (c_seq (c_region (o1 rfl (o_p rfl ?_))))))
 refine o1 rfl (o_p (v := (.bool false)) rfl ?_)
 refine o_end (e_seq ?_)
 refine c_cond_f rfl rfl ?_
 refine c_skip (e_seq (c_seq (c_seq (c_region ?_))))
 refine o1 rfl (o_fa (fd := ⟨ "Attr", 4, 1, false, "", "", 1⟩) rfl rfl rfl rfl rfl ?_)
 refine o1 rfl (o_ld (b := b106) (off := 1) (v := (.bool p2.Attr)) rfl rm0 rfl rfl ?_)
 refine o_end (e_seq ?_)
 replace h := bsome h
 obtain ⟨d1, h, hk1⟩ := h
 refine cj (D := Unit) (ι := Unit) (fun _ i1 => True) (fun _ i1 => [(5, (.pointer (some ⟨b106, 0, none⟩))), (0, (.pointer (some ⟨b0, 0, none⟩))), (1, (.int .i64 p1))]) (fun _ i1 => X :: blk b106 (.cells (List.toArray [(.int .u8 d1.1), (.bool p2.Attr), (.int .u8 d1.2), (.int .u8 p2.High), (.int .u8 p2.Color), (.int .u8 p2.f_Set)]) 80 (0, 0)) :: blk b0 (.cells (List.toArray [(.int .i64 p0.model), (.bool p0.alternate), (.int .i64 p0.size.Rows), (.int .i64 p0.size.Cols), (SV.val s0), (.int .i64 p0.cursor), (.int .i64 p0.attrs)]) 116 (0, 0)) :: slO s0 80 en_Vapi_Cell p0.cells :: R) ?_ ?_
 ·refine c_cond (b := p2.Attr) rfl (fun hb108 => ?_) (fun hb108 => ?_)
  ·replace h := cond_t hb108 h
   refine c_region ?_
   refine o1 rfl (o_fa (fd := ⟨ "FA", 5, 2, false, "", "", 2⟩) rfl rfl rfl rfl rfl ?_)
   refine o1 rfl (o_ld (b := b106) (off := 2) (v := (.int .u8 p2.FA)) rfl rm0 rfl rfl ?_)
   refine o1 rfl (o_p (v := (.int .u8 (iband .u8 p2.FA 61))) rfl ?_)
   refine o1 rfl (o_fa (fd := ⟨ "Char", 5, 0, false, "", "", 0⟩) rfl rfl rfl rfl rfl ?_)
   refine o0 (o_st (b := b106) (off := 0) (vs := [(.int .u8 0)]) (cs' := [(.int .u8 0), (.bool p2.Attr), (.int .u8 p2.FA), (.int .u8 p2.High), (.int .u8 p2.Color), (.int .u8 p2.f_Set)]) rfl rfl rp0 rfl rfl rfl rfl rfl rfl ?_)
   refine o1 rfl (o_fa (fd := ⟨ "FA", 5, 2, false, "", "", 2⟩) rfl rfl rfl rfl rfl ?_)
   refine o0 (o_st (b := b106) (off := 2) (vs := [(.int .u8 (iband .u8 p2.FA 61))]) (cs' := [(.int .u8 0), (.bool p2.Attr), (.int .u8 (iband .u8 p2.FA 61)), (.int .u8 p2.High), (.int .u8 p2.Color), (.int .u8 p2.f_Set)]) rfl rfl rp0 rfl rfl rfl rfl rfl rfl ?_)
   refine o_end ?_
   obtain rfl := Option.some.inj h
   exact ej () () trivial (sc rfl (sc rfl (sc rfl sn))) (kc rm1 (kc rm0 (kc rm0 (kc rm0 kr))))
  ·replace h := cond_f hb108 h
   refine c_region ?_
   refine o1 rfl (o_fa (fd := ⟨ "FA", 5, 2, false, "", "", 2⟩) rfl rfl rfl rfl rfl ?_)
   refine o0 (o_st (b := b106) (off := 2) (vs := [(.int .u8 0)]) (cs' := [(.int .u8 p2.Char), (.bool p2.Attr), (.int .u8 0), (.int .u8 p2.High), (.int .u8 p2.Color), (.int .u8 p2.f_Set)]) rfl rfl rp0 rfl rfl rfl rfl rfl rfl ?_)
   refine o_end ?_
   obtain rfl := Option.some.inj h
   exact ej () () trivial (sc rfl (sc rfl (sc rfl sn))) (kc rm1 (kc rm0 (kc rm0 (kc rm0 kr))))
 ·rintro _ i1 _
  replace h := hk1
  clear hk1
  refine e_seq (c_seq (c_region (o1 rfl (o_p rfl (o1 rfl (o_p rfl ?_))))))
  refine o1 rfl (o_fa (fd := ⟨ "size", 102, 2, false, "", "vitrine/space", 16⟩) rfl rfl rfl rfl rfl ?_)
  refine o1 rfl (o_ld (b := b0) (off := 2) (v := (.agg (List.toArray [(.int .i64 p0.size.Rows), (.int .i64 p0.size.Cols)]))) rfl rm2 rfl rfl ?_)
  refine o1 rfl (o_p rfl ?_)
  replace h := bsome h
  obtain ⟨d2, h2, h⟩ := h
  refine o1 rfl (o_call has61 rfl (c_addr_Size_Wrap hg X p0.size p1 _ h2) (pc rm0 pn) ?_)
  refine o1 rfl (o_p rfl (o_end (e_seq (c_seq ?_))))
  replace h := gsome h
  obtain ⟨hg109, h⟩ := h
  refine c_draw (n := 3) (q := [(0, 22, (.pointer (some ⟨b0, 0, none⟩))), (1, 23, (.pointer (some ⟨b0, 0, none⟩))), (2, 24, (.pointer (some ⟨b0, 6, none⟩))), (3, 25, (.int .i64 p0.attrs)), (4, 26, (.agg (List.toArray [(.int .u8 d1.1), (.bool p2.Attr), (.int .u8 d1.2), (.int .u8 p2.High), (.int .u8 p2.Color), (.int .u8 p2.f_Set)]))), (6, 28, (.pointer (some ⟨b0, 0, none⟩))), (7, 29, (.pointer (some ⟨b0, 0, none⟩))), (8, 30, (.pointer (some ⟨b0, 4, none⟩))), (9, 31, (SV.val s0)), (10, 32, (.int .i64 d2)), (11, 33, (.pointer (some ⟨SV.blk s0, SV.off s0 + Int.toNat d2 * 6, none⟩))), (12, 34, (.agg (List.toArray [(.int .u8 ((rd p0.cells d2).Char)), (.bool ((rd p0.cells d2).Attr)), (.int .u8 ((rd p0.cells d2).FA)), (.int .u8 ((rd p0.cells d2).High)), (.int .u8 ((rd p0.cells d2).Color)), (.int .u8 ((rd p0.cells d2).f_Set))])))]) (pend := [0, 1, 2, 3, 4, 6, 7, 8, 9, 10, 11, 12]) rfl rfl rfl ?_
  replace h := bsome h
  obtain ⟨d4, h4, h⟩ := h
  refine ⟨⟨fun _ => ⟨rfl, rfl, rfl, .inl ⟨rfl, (o_p rfl ⟨rfl, rfl⟩)⟩⟩, fun _ => ⟨rfl, rfl, rfl, .inl ⟨rfl, (o_p rfl ⟨rfl, rfl⟩)⟩⟩, fun _ => ⟨rfl, rfl, rfl, .inl ⟨rfl, (o_fa (fd := ⟨ "attrs", 3, 6, false, "", "vitrine/space", 64⟩) rfl rfl rfl rfl rfl ⟨rfl, rfl⟩)⟩⟩, fun _ => ⟨rfl, rfl, rfl, .inl ⟨rfl, (o_ld (b := b0) (off := 6) (v := (.int .i64 p0.attrs)) rfl rm2 rfl rfl ⟨rfl, rfl⟩)⟩⟩, fun _ => ⟨rfl, rfl, rfl, .inl ⟨rfl, (o_ld (b := b106) (off := 0) (v := (.agg (List.toArray [(.int .u8 d1.1), (.bool p2.Attr), (.int .u8 d1.2), (.int .u8 p2.High), (.int .u8 p2.Color), (.int .u8 p2.f_Set)]))) rfl rm1 rfl rfl ⟨rfl, rfl⟩)⟩⟩, fun _ => ⟨rfl, rfl, rfl, .inl ⟨rfl, (o_p rfl ⟨rfl, rfl⟩)⟩⟩, fun _ => ⟨rfl, rfl, rfl, .inl ⟨rfl, (o_p rfl ⟨rfl, rfl⟩)⟩⟩, fun _ => ⟨rfl, rfl, rfl, .inl ⟨rfl, (o_fa (fd := ⟨ "cells", 38, 4, false, "", "vitrine/space", 32⟩) rfl rfl rfl rfl rfl ⟨rfl, rfl⟩)⟩⟩, fun _ => ⟨rfl, rfl, rfl, .inl ⟨rfl, (o_ld (b := b0) (off := 4) (v := (SV.val s0)) rfl rm2 rfl rfl ⟨rfl, rfl⟩)⟩⟩, fun _ => ⟨rfl, rfl, rfl, .inl ⟨rfl, (o_p rfl ⟨rfl, rfl⟩)⟩⟩, fun _ => ⟨rfl, rfl, rfl, .inl ⟨rfl, (o_ix (s := s0) (n := d2) (e := en_Vapi_Cell) rfl rfl rfl rfl rfl rfl rm3 (rd_own _ _ _ _) hg109 ⟨rfl, rfl⟩)⟩⟩, fun _ => ⟨rfl, rfl, rfl, .inl ⟨rfl, (o_ldE (s := s0) (e := en_Vapi_Cell) (n := d2) (f := 0) (v := (.agg (List.toArray [(.int .u8 ((rd p0.cells d2).Char)), (.bool ((rd p0.cells d2).Attr)), (.int .u8 ((rd p0.cells d2).FA)), (.int .u8 ((rd p0.cells d2).High)), (.int .u8 ((rd p0.cells d2).Color)), (.int .u8 ((rd p0.cells d2).f_Set))]))) rfl rm3 (rd_own _ _ _ _) hg109 rfl rfl ⟨rfl, rfl⟩)⟩⟩, trivial⟩, rfl, .inr ⟨[5], rfl, rfl, ⟨rfl, .inl rfl, ?_⟩, trivial⟩⟩
  refine (o_call has98 rfl (c_space_count hg X { p2 with Char := d1.1, FA := d1.2 } _ h4) (pc rm0 pn) ?_)
  refine ⟨[], [0, 1, 2, 3, 6, 7, 8, 9, 10, 11, 12], rfl, rfl, rfl, rfl, ?_⟩
  replace h := bsome h
  obtain ⟨d5, h5, h⟩ := h
  refine ⟨⟨fun _ => ⟨rfl, rfl, rfl, .inl ⟨rfl, (o_p rfl ⟨rfl, rfl⟩)⟩⟩, fun _ => ⟨rfl, rfl, rfl, .inl ⟨rfl, (o_p rfl ⟨rfl, rfl⟩)⟩⟩, fun _ => ⟨rfl, rfl, rfl, .inl ⟨rfl, (o_fa (fd := ⟨ "attrs", 3, 6, false, "", "vitrine/space", 64⟩) rfl rfl rfl rfl rfl ⟨rfl, rfl⟩)⟩⟩, fun _ => ⟨rfl, rfl, rfl, .inl ⟨rfl, (o_ld (b := b0) (off := 6) (v := (.int .i64 p0.attrs)) rfl rm2 rfl rfl ⟨rfl, rfl⟩)⟩⟩, (fun h => nomatch h), fun _ => ⟨rfl, rfl, rfl, .inl ⟨rfl, (o_p rfl ⟨rfl, rfl⟩)⟩⟩, fun _ => ⟨rfl, rfl, rfl, .inl ⟨rfl, (o_p rfl ⟨rfl, rfl⟩)⟩⟩, fun _ => ⟨rfl, rfl, rfl, .inl ⟨rfl, (o_fa (fd := ⟨ "cells", 38, 4, false, "", "vitrine/space", 32⟩) rfl rfl rfl rfl rfl ⟨rfl, rfl⟩)⟩⟩, fun _ => ⟨rfl, rfl, rfl, .inl ⟨rfl, (o_ld (b := b0) (off := 4) (v := (SV.val s0)) rfl rm2 rfl rfl ⟨rfl, rfl⟩)⟩⟩, fun _ => ⟨rfl, rfl, rfl, .inl ⟨rfl, (o_p rfl ⟨rfl, rfl⟩)⟩⟩, fun _ => ⟨rfl, rfl, rfl, .inl ⟨rfl, (o_ix (s := s0) (n := d2) (e := en_Vapi_Cell) rfl rfl rfl rfl rfl rfl rm3 (rd_own _ _ _ _) hg109 ⟨rfl, rfl⟩)⟩⟩, fun _ => ⟨rfl, rfl, rfl, .inl ⟨rfl, (o_ldE (s := s0) (e := en_Vapi_Cell) (n := d2) (f := 0) (v := (.agg (List.toArray [(.int .u8 ((rd p0.cells d2).Char)), (.bool ((rd p0.cells d2).Attr)), (.int .u8 ((rd p0.cells d2).FA)), (.int .u8 ((rd p0.cells d2).High)), (.int .u8 ((rd p0.cells d2).Color)), (.int .u8 ((rd p0.cells d2).f_Set))]))) rfl rm3 (rd_own _ _ _ _) hg109 rfl rfl ⟨rfl, rfl⟩)⟩⟩, trivial⟩, rfl, .inr ⟨[13], rfl, rfl, ⟨rfl, .inl rfl, ?_⟩, trivial⟩⟩
  refine (o_call has98 rfl (c_space_count hg X (rd p0.cells d2) _ h5) (pc rm0 pn) ?_)
  refine ⟨[(14, 36, (.int .i64 (w64 (d4 - d5)))), (15, 37, (.int .i64 (w64 (p0.attrs + (w64 (d4 - d5)))))), (16, 38, (.pointer (some ⟨b0, 0, none⟩))), (17, 39, (.pointer (some ⟨b0, 6, none⟩)))], [0, 1, 2, 3, 14, 15, 16, 17], rfl, rfl, rfl, rfl, ?_⟩
  refine ⟨⟨fun _ => ⟨rfl, rfl, rfl, .inl ⟨rfl, (o_p (v := (.int .i64 (w64 (d4 - d5)))) rfl ⟨rfl, rfl⟩)⟩⟩, fun _ => ⟨rfl, rfl, rfl, .inl ⟨rfl, (o_p (v := (.int .i64 (w64 (p0.attrs + (w64 (d4 - d5)))))) rfl ⟨rfl, rfl⟩)⟩⟩, fun _ => ⟨rfl, rfl, rfl, .inl ⟨rfl, (o_p rfl ⟨rfl, rfl⟩)⟩⟩, fun _ => ⟨rfl, rfl, rfl, .inl ⟨rfl, (o_fa (fd := ⟨ "attrs", 3, 6, false, "", "vitrine/space", 64⟩) rfl rfl rfl rfl rfl ⟨rfl, rfl⟩)⟩⟩, fun _ => ⟨rfl, rfl, rfl, .inl ⟨rfl, (o_p rfl ⟨rfl, rfl⟩)⟩⟩, fun _ => ⟨rfl, rfl, rfl, .inl ⟨rfl, (o_p rfl ⟨rfl, rfl⟩)⟩⟩, fun _ => ⟨rfl, rfl, rfl, .inl ⟨rfl, (o_fa (fd := ⟨ "attrs", 3, 6, false, "", "vitrine/space", 64⟩) rfl rfl rfl rfl rfl ⟨rfl, rfl⟩)⟩⟩, fun _ => ⟨rfl, rfl, rfl, .inl ⟨rfl, (o_ld (b := b0) (off := 6) (v := (.int .i64 p0.attrs)) rfl rm2 rfl rfl ⟨rfl, rfl⟩)⟩⟩, (fun h => nomatch h), (fun h => nomatch h), (fun h => nomatch h), (fun h => nomatch h), (fun h => nomatch h), (fun h => nomatch h), (fun h => nomatch h), (fun h => nomatch h), trivial⟩, rfl, .inr ⟨[18], rfl, rfl, ⟨rfl, .inl rfl, ?_⟩, trivial⟩⟩
  refine (o_st (b := b0) (off := 6) (vs := [(.int .i64 (w64 (p0.attrs + (w64 (d4 - d5)))))]) (cs' := [(.int .i64 p0.model), (.bool p0.alternate), (.int .i64 p0.size.Rows), (.int .i64 p0.size.Cols), (SV.val s0), (.int .i64 p0.cursor), (.int .i64 (w64 (p0.attrs + (w64 (d4 - d5)))))]) rfl rfl rp2 rfl rfl rfl rfl rfl rfl ?_)
  refine ⟨[], [], rfl, rfl, ?_⟩
  refine ⟨⟨(fun h => nomatch h), (fun h => nomatch h), (fun h => nomatch h), (fun h => nomatch h), (fun h => nomatch h), (fun h => nomatch h), (fun h => nomatch h), (fun h => nomatch h), (fun h => nomatch h), (fun h => nomatch h), (fun h => nomatch h), (fun h => nomatch h), (fun h => nomatch h), (fun h => nomatch h), (fun h => nomatch h), (fun h => nomatch h), trivial⟩, rfl, rfl, rfl, ?_⟩
  refine e_seq ?_
  replace h := gsome h
  obtain ⟨hg113, h⟩ := h
  refine c_draw (n := 1) (q := [(0, 40, (.pointer (some ⟨b0, 0, none⟩))), (1, 41, (.pointer (some ⟨b0, 0, none⟩))), (2, 42, (.pointer (some ⟨b0, 4, none⟩))), (3, 43, (SV.val s0)), (4, 44, (.int .i64 d2)), (5, 45, (.agg (List.toArray [(.int .u8 d1.1), (.bool p2.Attr), (.int .u8 d1.2), (.int .u8 p2.High), (.int .u8 p2.Color), (.int .u8 p2.f_Set)]))), (6, 46, (.pointer (some ⟨SV.blk s0, SV.off s0 + Int.toNat d2 * 6, none⟩)))]) (pend := [0, 1, 2, 3, 4, 5, 6]) rfl rfl rfl ?_
  refine ⟨⟨fun _ => ⟨rfl, rfl, rfl, .inl ⟨rfl, (o_p rfl ⟨rfl, rfl⟩)⟩⟩, fun _ => ⟨rfl, rfl, rfl, .inl ⟨rfl, (o_p rfl ⟨rfl, rfl⟩)⟩⟩, fun _ => ⟨rfl, rfl, rfl, .inl ⟨rfl, (o_fa (fd := ⟨ "cells", 38, 4, false, "", "vitrine/space", 32⟩) rfl rfl rfl rfl rfl ⟨rfl, rfl⟩)⟩⟩, fun _ => ⟨rfl, rfl, rfl, .inl ⟨rfl, (o_ld (b := b0) (off := 4) (v := (SV.val s0)) rfl rm2 rfl rfl ⟨rfl, rfl⟩)⟩⟩, fun _ => ⟨rfl, rfl, rfl, .inl ⟨rfl, (o_p rfl ⟨rfl, rfl⟩)⟩⟩, fun _ => ⟨rfl, rfl, rfl, .inl ⟨rfl, (o_ld (b := b106) (off := 0) (v := (.agg (List.toArray [(.int .u8 d1.1), (.bool p2.Attr), (.int .u8 d1.2), (.int .u8 p2.High), (.int .u8 p2.Color), (.int .u8 p2.f_Set)]))) rfl rm1 rfl rfl ⟨rfl, rfl⟩)⟩⟩, fun _ => ⟨rfl, rfl, rfl, .inl ⟨rfl, (o_ix (s := s0) (n := d2) (e := en_Vapi_Cell) rfl rfl rfl rfl rfl rfl rm3 (rd_own _ _ _ _) hg113 ⟨rfl, rfl⟩)⟩⟩, trivial⟩, rfl, .inr ⟨[7], rfl, rfl, ⟨rfl, .inl rfl, ?_⟩, trivial⟩⟩
  refine (o_stE (s := s0) (e := en_Vapi_Cell) (n := d2) (f := 0) (vs := [(.int .u8 d1.1), (.bool p2.Attr), (.int .u8 d1.2), (.int .u8 p2.High), (.int .u8 p2.Color), (.int .u8 p2.f_Set)]) (u := { p2 with Char := d1.1, FA := d1.2 }) rfl rfl rp3 hg113 rfl rfl rfl rfl rfl rfl ?_)
  refine ⟨[], [], rfl, rfl, ?_⟩
  refine ⟨⟨(fun h => nomatch h), (fun h => nomatch h), (fun h => nomatch h), (fun h => nomatch h), (fun h => nomatch h), (fun h => nomatch h), (fun h => nomatch h), trivial⟩, rfl, rfl, rfl, ?_⟩
  refine e_fall ?_
  refine r_endt rfl rfl (kc rm0 (kc rm1 (kc rm1 (kd kr)))) ?_
  obtain rfl := Option.some.inj h
  exact hk

theorem c_field_Unmodify {g : Gw} (hg : GK g) (X : HP) (p0 : Vspace_Space) (b0 : Nat) (s0 : SV) (r : Vspace_Space) (h : m_field_Unmodify p0 = some r) : Tri env g 141 (List.toArray [(.pointer (some ⟨b0, 0, none⟩))]) [X, blk b0 (.cells (List.toArray [(.int .i64 p0.model), (.bool p0.alternate), (.int .i64 p0.size.Rows), (.int .i64 p0.size.Cols), (SV.val s0), (.int .i64 p0.cursor), (.int .i64 p0.attrs)]) 116 (0, 0)), slO s0 80 en_Vapi_Cell p0.cells] (fun K R => K (.tuple (List.toArray [])) (X :: blk b0 (.cells (List.toArray [(.int .i64 r.model), (.bool r.alternate), (.int .i64 r.size.Rows), (.int .i64 r.size.Cols), (SV.val s0), (.int .i64 r.cursor), (.int .i64 r.attrs)]) 116 (0, 0)) :: slO s0 80 en_Vapi_Cell r.cells :: R)) := by
 refine tri_of (fn := Tryz.f141) (N := 18) Tryz.func141 rfl rfl rfl ?_
 intro R K hk
 unfold m_field_Unmodify at h
 change GC _ none _ [] [(0, (.pointer (some ⟨b0, 0, none⟩)))] (X :: blk b0 (.cells (List.toArray [(.int .i64 p0.model), (.bool p0.alternate), (.int .i64 p0.size.Rows), (.int .i64 p0.size.Cols), (SV.val s0), (.int .i64 p0.cursor), (.int .i64 p0.attrs)]) 116 (0, 0)) :: slO s0 80 en_Vapi_Cell p0.cells :: R) g _ _
 refine c_seq (c_region ?_)
 refine o1 rfl (o_box (cs := [(.pointer (some ⟨b0, 0, none⟩))]) rfl rfl (fun b80 => ?_))
 refine o_end (e_seq (c_seq (c_region ?_)))
 refine o1 rfl (o_ld (b := b80) (off := 0) (v := (.pointer (some ⟨b0, 0, none⟩))) rfl rm0 rfl rfl ?_)
 replace h := bsome h
 obtain ⟨d1, h1, h⟩ := h
 refine o1 rfl (o_call has129 rfl (c_space_Space_Attrs hg X p0 b0 s0 _ h1) (pc rm1 (pc rm1 (pc rm1 pn))) (fun i1 => ?_))
 refine o_end (e_seq ?_)
 replace h := bsome h
 obtain ⟨d2, h, hk2⟩ := h
 refine cjd (D := Unit) (ι := Nat) (fun _ i2 => [mk i2]) (fun _ i2 => True) (fun _ i2 => []) (fun _ i2 => X :: blk b0 (.cells (List.toArray [(.int .i64 d2.1), (.bool d2.2.1), (.int .i64 d2.2.2.1), (.int .i64 d2.2.2.2.1), (SV.val s0), (.int .i64 d2.2.2.2.2.2.1), (.int .i64 d2.2.2.2.2.2.2)]) 116 (0, 0)) :: slO s0 80 en_Vapi_Cell d2.2.2.2.2.1 :: blk i2 (.deferred (some [])) :: R) ?_ ?_
 ·refine c_block ?_
  replace h := bsome h
  obtain ⟨d3, h, hk3⟩ := h
  refine cjd (D := Unit) (ι := Nat) (fun _ i3 => [mk i3]) (fun _ i3 => True) (fun _ i3 => []) (fun _ i3 => X :: blk b0 (.cells (List.toArray [(.int .i64 d3.1), (.bool d3.2.1), (.int .i64 d3.2.2.1), (.int .i64 d3.2.2.2.1), (SV.val s0), (.int .i64 d3.2.2.2.2.2.1), (.int .i64 d3.2.2.2.2.2.2)]) 116 (0, 0)) :: slO s0 80 en_Vapi_Cell d3.2.2.2.2.1 :: blk i3 (.deferred (some [])) :: R) ?_ ?_
  ·refine c_range' (fn := Tryz.f167) (M := 17) rfl has167 Tryz.func167 rfl rfl rfl (fun l4 D4 a4 fc4 rc4 hrc4 ht4 => ?_)
   change GC _ none _ [] [(0, (.func (.yield l4) #[] #[])), (1, (.pointer (some ⟨i1, 0, none⟩)))] (blk l4 (.loop (rc4 .ready none)) :: blk D4 (.deferred (some [])) :: X :: blk b0 (.cells (List.toArray [(.int .i64 p0.model), (.bool p0.alternate), (.int .i64 p0.size.Rows), (.int .i64 p0.size.Cols), (SV.val s0), (.int .i64 p0.cursor), (.int .i64 p0.attrs)]) 116 (0, 0)) :: slO s0 80 en_Vapi_Cell p0.cells :: blk i1 (.cells (List.toArray [(.pointer (some ⟨b0, 0, none⟩))]) 24 (0, 0)) :: blk b80 (.cells (List.toArray [(.pointer (some ⟨b0, 0, none⟩))]) 24 (0, 0)) :: R) g _ _
   refine c_seq (c_region ?_)
   refine o1 rfl (o_box (cs := [(.func (.yield l4) #[] #[])]) rfl rfl (fun b85 => ?_))
   refine o_end (e_seq (c_seq (c_region ?_)))
   refine o1 rfl (o_ld (b := i1) (off := 0) (v := (.pointer (some ⟨b0, 0, none⟩))) rfl rm6 rfl rfl ?_)
   replace h := bsome h
   obtain ⟨d5, h5, h⟩ := h
   refine o1 rfl (o_call has86 rfl (c_space_Space_All hg X p0 b0 s0 _ h5) (pc rm3 (pc rm3 (pc rm3 pn))) (fun i5 => ?_))
   refine o_end (e_seq ?_)
   replace h := bsome h
   obtain ⟨d6, h, hk6⟩ := h
   refine cjd (D := Unit) (ι := Nat) (fun _ i6 => [mk i6]) (fun _ i6 => True) (fun _ i6 => []) (fun _ i6 => X :: blk b0 (.cells (List.toArray [(.int .i64 d6.1), (.bool d6.2.1), (.int .i64 d6.2.2.1), (.int .i64 d6.2.2.2.1), (SV.val s0), (.int .i64 d6.2.2.2.2.2.1), (.int .i64 d6.2.2.2.2.2.2)]) 116 (0, 0)) :: blk i1 (.cells (List.toArray [(.pointer (some ⟨b0, 0, none⟩))]) 24 (0, 0)) :: blk b80 (.cells (List.toArray [(.pointer (some ⟨b0, 0, none⟩))]) 24 (0, 0)) :: slO s0 80 en_Vapi_Cell d6.2.2.2.2.1 :: blk i6 (.deferred (some [])) :: blk l4 (.loop (rc4 .ready none)) :: blk D4 (.deferred (some [])) :: R) ?_ ?_
   ·refine c_block ?_
    replace h := bsome h
    obtain ⟨d7, h, hk7⟩ := h
    refine cjd (D := Unit) (ι := Nat) (fun _ i7 => [mk i7]) (fun _ i7 => True) (fun _ i7 => []) (fun _ i7 => X :: blk b0 (.cells (List.toArray [(.int .i64 d7.1), (.bool d7.2.1), (.int .i64 d7.2.2.1), (.int .i64 d7.2.2.2.1), (SV.val s0), (.int .i64 d7.2.2.2.2.2.1), (.int .i64 d7.2.2.2.2.2.2)]) 116 (0, 0)) :: blk i1 (.cells (List.toArray [(.pointer (some ⟨b0, 0, none⟩))]) 24 (0, 0)) :: blk b80 (.cells (List.toArray [(.pointer (some ⟨b0, 0, none⟩))]) 24 (0, 0)) :: slO s0 80 en_Vapi_Cell d7.2.2.2.2.1 :: blk i7 (.deferred (some [])) :: blk l4 (.loop (rc4 .ready none)) :: blk D4 (.deferred (some [])) :: R) ?_ ?_
    ·refine c_range' (fn := Tryz.f135) (M := 18) rfl has135 Tryz.func135 rfl rfl rfl (fun l8 D8 a8 fc8 rc8 hrc8 ht8 => ?_)
     change GC _ none _ [] [(0, (.func (.yield l8) #[] #[])), (1, (.pointer (some ⟨i5, 0, none⟩)))] (blk l8 (.loop (rc8 .ready none)) :: blk D8 (.deferred (some [])) :: X :: blk b0 (.cells (List.toArray [(.int .i64 p0.model), (.bool p0.alternate), (.int .i64 p0.size.Rows), (.int .i64 p0.size.Cols), (SV.val s0), (.int .i64 p0.cursor), (.int .i64 p0.attrs)]) 116 (0, 0)) :: slO s0 80 en_Vapi_Cell p0.cells :: blk i5 (.cells (List.toArray [(.pointer (some ⟨b0, 0, none⟩))]) 24 (0, 0)) :: blk b85 (.cells (List.toArray [(.func (.yield l4) #[] #[])]) 230 (0, 0)) :: blk l4 (.loop (rc4 .ready none)) :: blk D4 (.deferred (some [])) :: blk i1 (.cells (List.toArray [(.pointer (some ⟨b0, 0, none⟩))]) 24 (0, 0)) :: blk b80 (.cells (List.toArray [(.pointer (some ⟨b0, 0, none⟩))]) 24 (0, 0)) :: R) g _ _
     refine c_seq (c_region ?_)
     refine o1 rfl (o_ld (b := i5) (off := 0) (v := (.pointer (some ⟨b0, 0, none⟩))) rfl rm5 rfl rfl ?_)
     replace h := bsome h
     obtain ⟨d9, h9, h⟩ := h
     refine o1 rfl (o_call has51 rfl (c_space_Space_Size hg X p0 b0 s0 _ h9) (pc rm2 (pc rm2 (pc rm2 pn))) ?_)
     replace h := bsome h
     obtain ⟨d10, h10, h⟩ := h
     refine o1 rfl (o_call has52 rfl (c_addr_Size_Cells hg X d9 _ h10) (pc rm0 pn) ?_)
     refine o1 rfl (o_p rfl (o_end (e_seq ?_)))
     replace h := bsome h
     obtain ⟨d11, h, hk11⟩ := h
     refine cj (D := Unit) (ι := Unit) (fun _ i11 => True) (fun _ i11 => []) (fun _ i11 => X :: blk b0 (.cells (List.toArray [(.int .i64 d11.1), (.bool d11.2.1), (.int .i64 d11.2.2.1), (.int .i64 d11.2.2.2.1), (SV.val s0), (.int .i64 d11.2.2.2.2.2.1), (.int .i64 d11.2.2.2.2.2.2)]) 116 (0, 0)) :: blk i1 (.cells (List.toArray [(.pointer (some ⟨b0, 0, none⟩))]) 24 (0, 0)) :: blk b80 (.cells (List.toArray [(.pointer (some ⟨b0, 0, none⟩))]) 24 (0, 0)) :: blk i5 (.cells (List.toArray [(.pointer (some ⟨b0, 0, none⟩))]) 24 (0, 0)) :: blk b85 (.cells (List.toArray [(.func (.yield l4) #[] #[])]) 230 (0, 0)) :: slO s0 80 en_Vapi_Cell d11.2.2.2.2.1 :: blk l8 (.loop (rc8 .ready none)) :: blk D8 (.deferred (some [])) :: blk l4 (.loop (rc4 .ready none)) :: blk D4 (.deferred (some [])) :: R) ?_ ?_
     ·refine c_block ?_
      refine c_loop (l_sub (sc rfl (sc rfl (sc rfl (sc rfl sn)))) (l_keep (kc rm0 (kc rm4 (kc rm0 (kc rm6 (kc rm6 (kc rm3 (kc rm0 (kc rm0 (kc rm0 (kc rm0 (kc rm0 kr))))))))))) (lf (X := Int × Int × Bool × Int × Int × (List Vapi_Cell) × Int × Int) (ι := Unit) (fun k x => field_Unmodify_l12 d10 k x) _ (fun x12 i12 => True) (fun x12 i12 => [(7, (.int .i64 x12.1)), (6, (.int .i64 d10)), (0, (.func (.yield l8) #[] #[])), (1, (.pointer (some ⟨i5, 0, none⟩)))]) (fun x12 i12 => X :: blk i5 (.cells (List.toArray [(.pointer (some ⟨b0, 0, none⟩))]) 24 (0, 0)) :: blk b0 (.cells (List.toArray [(.int .i64 x12.2.1), (.bool x12.2.2.1), (.int .i64 x12.2.2.2.1), (.int .i64 x12.2.2.2.2.1), (SV.val s0), (.int .i64 x12.2.2.2.2.2.2.1), (.int .i64 x12.2.2.2.2.2.2.2)]) 116 (0, 0)) :: blk i1 (.cells (List.toArray [(.pointer (some ⟨b0, 0, none⟩))]) 24 (0, 0)) :: blk b80 (.cells (List.toArray [(.pointer (some ⟨b0, 0, none⟩))]) 24 (0, 0)) :: blk b85 (.cells (List.toArray [(.func (.yield l4) #[] #[])]) 230 (0, 0)) :: slO s0 80 en_Vapi_Cell x12.2.2.2.2.2.1 :: blk l8 (.loop (rc8 .ready none)) :: blk D8 (.deferred (some [])) :: blk l4 (.loop (rc4 .ready none)) :: blk D4 (.deferred (some [])) :: R) (fun _ => rfl) ?_ fuel (0, p0.model, p0.alternate, p0.size.Rows, p0.size.Cols, p0.cells, p0.cursor, p0.attrs) () trivial h)))
      clear h
      rintro k12 ih12 x12 i12 _ h
      rw [field_Unmodify_l12.eq_2] at h
      refine l_round (c_seq (c_region ?_))
      refine o1 rfl (o_p (v := (.bool (decide (x12.1 < d10)))) rfl ?_)
      refine o_end (e_seq (c_seq ?_))
      refine c_cond (b := (decide (x12.1 < d10))) rfl (fun hb127 => ?_) (fun hb127 => ?_)
      ·replace h := cond_t hb127 h
       refine c_skip (e_seq (c_seq (c_block (c_seq (c_region ?_)))))
       refine o1 rfl (o_p rfl (o1 rfl (o_p rfl (o_end (e_seq (c_seq (c_region ?_)))))))
       refine o1 rfl (o_p rfl (o1 rfl (o_p rfl ?_)))
       refine o1 rfl (o_ld (b := i5) (off := 0) (v := (.pointer (some ⟨b0, 0, none⟩))) rfl rm1 rfl rfl ?_)
       refine o1 rfl (o_p rfl ?_)
       replace h := bsome h
       obtain ⟨d15, h15, h⟩ := h
       refine o1 rfl (o_call has57 rfl (c_space_Space_At hg X (⟨x12.2.1, x12.2.2.1, (⟨x12.2.2.2.1, x12.2.2.2.2.1⟩ : Vaddr_Size), x12.2.2.2.2.2.1, x12.2.2.2.2.2.2.1, x12.2.2.2.2.2.2.2⟩ : Vspace_Space) b0 s0 x12.1 _ h15) (pc rm0 (pc rm1 (pc rm4 pn))) ?_)
       refine o1 rfl (o_yield' hrc8 ht8 rfl rfl rfl rfl rm7 ?_)
       refine c_seq (c_region (o1 rfl (o_p rfl (o_end (e_seq (c_region ?_))))))
       refine o1 rfl (o_alloc (cs := [(.int .u8 0), (.bool false), (.int .u8 0), (.int .u8 0), (.int .u8 0), (.int .u8 0)]) rfl rfl (fun b128 => ?_))
       refine o0 (o_st (b := b128) (off := 0) (vs := [(.int .u8 d15.Char), (.bool d15.Attr), (.int .u8 d15.FA), (.int .u8 d15.High), (.int .u8 d15.Color), (.int .u8 d15.f_Set)]) (cs' := [(.int .u8 d15.Char), (.bool d15.Attr), (.int .u8 d15.FA), (.int .u8 d15.High), (.int .u8 d15.Color), (.int .u8 d15.f_Set)]) rfl rfl rp0 rfl rfl rfl rfl rfl rfl ?_)
       refine o_end ?_
       refine e_begin' hrc8 rm1 ?_
       refine c_block (c_seq ?_)
       replace h := bsome h
       obtain ⟨d17, h, hk17⟩ := h
       refine cj (D := Unit) (ι := Unit) (fun _ i17 => True) (fun _ i17 => [(16, (.bool false))]) (fun _ i17 => X :: blk b0 (.cells (List.toArray [(.int .i64 d17.1), (.bool d17.2.1), (.int .i64 d17.2.2.1), (.int .i64 d17.2.2.2.1), (SV.val s0), (.int .i64 d17.2.2.2.2.2.1), (.int .i64 d17.2.2.2.2.2.2)]) 116 (0, 0)) :: blk i1 (.cells (List.toArray [(.pointer (some ⟨b0, 0, none⟩))]) 24 (0, 0)) :: blk b80 (.cells (List.toArray [(.pointer (some ⟨b0, 0, none⟩))]) 24 (0, 0)) :: blk i5 (.cells (List.toArray [(.pointer (some ⟨b0, 0, none⟩))]) 24 (0, 0)) :: blk b85 (.cells (List.toArray [(.func (.yield l4) #[] #[])]) 230 (0, 0)) :: slO s0 80 en_Vapi_Cell d17.2.2.2.2.1 :: blk l4 (.loop (rc4 .ready none)) :: blk l8 (.loop (rc8 .busy none)) :: blk D8 (.deferred (some [])) :: blk D4 (.deferred (some [])) :: R) ?_ ?_
       ·refine c_region ?_
        refine o1 rfl (o_fa (fd := ⟨ "Attr", 4, 1, false, "", "", 1⟩) rfl rfl rfl rfl rfl ?_)
        refine o1 rfl (o_ld (b := b128) (off := 1) (v := (.bool d15.Attr)) rfl rm1 rfl rfl ?_)
        refine o1 rfl (o_p rfl ?_)
        rcases bool_or (d15.Attr) with hb130 | hb130
        ·replace h := cond_t hb130 h
         refine oy rfl rfl rfl hb130 (o_ld (b := b85) (off := 0) (v := (.func (.yield l4) #[] #[])) rfl rm8 rfl rfl ?_)
         refine oy rfl rfl rfl hb130 (o_p rfl ?_)
         refine oy rfl rfl rfl hb130 (o_yield' hrc4 ht4 rfl rfl rfl rfl rm10 ?_)
         refine c_region (o1 rfl (o_p rfl (o_end ?_)))
         refine e_begin' hrc4 rm0 ?_
         refine c_block (c_seq (c_region ?_))
         refine o1 rfl (o_ld (b := b80) (off := 0) (v := (.pointer (some ⟨b0, 0, none⟩))) rfl rm8 rfl rfl ?_)
         refine o1 rfl (o_p rfl ?_)
         replace h := bsome h
         obtain ⟨d19, h19, h⟩ := h
         refine o1 rfl (o_call has57 rfl (c_space_Space_At hg X (⟨x12.2.1, x12.2.2.1, (⟨x12.2.2.2.1, x12.2.2.2.2.1⟩ : Vaddr_Size), x12.2.2.2.2.2.1, x12.2.2.2.2.2.2.1, x12.2.2.2.2.2.2.2⟩ : Vspace_Space) b0 s0 x12.1 _ h19) (pc rm3 (pc rm3 (pc rm3 pn))) ?_)
         refine o1 rfl (o_alloc (cs := [(.int .u8 0), (.bool false), (.int .u8 0), (.int .u8 0), (.int .u8 0), (.int .u8 0)]) rfl rfl (fun b131 => ?_))
         refine o0 (o_st (b := b131) (off := 0) (vs := [(.int .u8 d19.Char), (.bool d19.Attr), (.int .u8 d19.FA), (.int .u8 d19.High), (.int .u8 d19.Color), (.int .u8 d19.f_Set)]) (cs' := [(.int .u8 d19.Char), (.bool d19.Attr), (.int .u8 d19.FA), (.int .u8 d19.High), (.int .u8 d19.Color), (.int .u8 d19.f_Set)]) rfl rfl rp0 rfl rfl rfl rfl rfl rfl ?_)
         refine o_end (e_seq (c_seq (c_region ?_)))
         refine o1 rfl (o_fa (fd := ⟨ "FA", 5, 2, false, "", "", 2⟩) rfl rfl rfl rfl rfl ?_)
         refine o1 rfl (o_ld (b := b131) (off := 2) (v := (.int .u8 d19.FA)) rfl rm0 rfl rfl ?_)
         refine o1 rfl (o_p (v := (.int .u8 (ibandn .u8 d19.FA 1))) rfl ?_)
         refine o1 rfl (o_fa (fd := ⟨ "FA", 5, 2, false, "", "", 2⟩) rfl rfl rfl rfl rfl ?_)
         refine o0 (o_st (b := b131) (off := 2) (vs := [(.int .u8 (ibandn .u8 d19.FA 1))]) (cs' := [(.int .u8 d19.Char), (.bool d19.Attr), (.int .u8 (ibandn .u8 d19.FA 1)), (.int .u8 d19.High), (.int .u8 d19.Color), (.int .u8 d19.f_Set)]) rfl rfl rp0 rfl rfl rfl rfl rfl rfl ?_)
         refine o_end (e_seq (c_region ?_))
         refine o1 rfl (o_ld (b := b80) (off := 0) (v := (.pointer (some ⟨b0, 0, none⟩))) rfl rm9 rfl rfl ?_)
         refine o1 rfl (o_p rfl ?_)
         refine o1 rfl (o_ld (b := b131) (off := 0) (v := (.agg (List.toArray [(.int .u8 d19.Char), (.bool d19.Attr), (.int .u8 (ibandn .u8 d19.FA 1)), (.int .u8 d19.High), (.int .u8 d19.Color), (.int .u8 d19.f_Set)]))) rfl rm0 rfl rfl ?_)
         replace h := bsome h
         obtain ⟨d20, h20, h⟩ := h
         refine o1 rfl (o_call has48 rfl (c_space_Space_Set hg X (⟨x12.2.1, x12.2.2.1, (⟨x12.2.2.2.1, x12.2.2.2.2.1⟩ : Vaddr_Size), x12.2.2.2.2.2.1, x12.2.2.2.2.2.2.1, x12.2.2.2.2.2.2.2⟩ : Vspace_Space) b0 s0 x12.1 (⟨d19.Char, d19.Attr, ibandn .u8 d19.FA 1, d19.High, d19.Color, d19.f_Set⟩ : Vapi_Cell) _ h20) (pc rm1 (pc rm1 (pc rm1 pn))) ?_)
         refine o_end (e_blk ?_)
         refine e_on' hrc4 rm4 ?_
         refine oy rfl rfl rfl hb130 (o_p (v := (.bool false)) rfl ?_)
         refine o1 rfl (o_pick_t rfl hb130 rfl ?_)
         refine o_end ?_
         obtain rfl := Option.some.inj h
         exact ej () () trivial (sc rfl sn) (kc rm1 (kc rm1 (kc rm6 (kc rm6 (kc rm5 (kc rm5 (kc rm1 (kc rm0 (kc rm1 (kc rm2 (kc rm2 (kd (kd kr)))))))))))))
        ·replace h := cond_f hb130 h
         refine on rfl rfl rfl hb130 ?_
         refine on rfl rfl rfl hb130 ?_
         refine on rfl rfl rfl hb130 ?_
         refine on rfl rfl rfl hb130 ?_
         refine o1 rfl (o_pick_f rfl hb130 rfl ?_)
         refine o_end ?_
         obtain rfl := Option.some.inj h
         exact ej () () trivial (sc rfl sn) (kc rm2 (kc rm2 (kc rm4 (kc rm4 (kc rm3 (kc rm3 (kc rm2 (kc rm3 (kc rm0 (kc rm1 (kc rm1 (kd kr))))))))))))
       ·rintro _ i17 _
        replace h := hk17
        clear hk17
        refine e_seq ?_
        refine c_cond_f rfl rfl ?_
        refine c_skip (e_blk ?_)
        refine e_on' hrc8 rm8 ?_
        refine o1 rfl (o_p (v := (.bool false)) rfl ?_)
        refine o_end (e_seq ?_)
        refine c_cond_f rfl rfl ?_
        refine c_skip (e_blk (e_seq (c_region ?_)))
        refine o1 rfl (o_p (v := (.int .i64 (w64 (x12.1 + 1)))) rfl ?_)
        refine o1 rfl (o_p rfl (o_end ?_))
        exact e_loop (l_sub (sc rfl (sc rfl (sc rfl (sc rfl sn)))) (l_keep (kc rm1 (kc rm4 (kc rm1 (kc rm1 (kc rm1 (kc rm1 (kc rm1 (kc rm0 (kc rm1 (kc rm0 (kc rm0 kr))))))))))) (ih12 (w64 (x12.1 + 1), d17.1, d17.2.1, d17.2.2.1, d17.2.2.2.1, d17.2.2.2.2.1, d17.2.2.2.2.2.1, d17.2.2.2.2.2.2) () trivial h)))
      ·replace h := cond_f hb127 h
       refine c_exit (e_then_exit (e_then_exit (e_blk_exit ?_)))
       obtain rfl := Option.some.inj h
       exact ej () () trivial sn (kc rm0 (kc rm1 (kc rm1 (kc rm1 (kc rm0 (kc rm0 (kc rm0 (kc rm0 (kc rm0 (kc rm0 (kc rm0 kr)))))))))))
     ·rintro _ i11 _
      replace h := hk11
      clear hk11
      refine e_fall ?_
      refine r_end (rs := []) (vs := []) rfl rfl ?_
      refine ke' hrc8 rm7 (by simp) ?_
      obtain rfl := Option.some.inj h
      exact ejd () D8 trivial rfl sn (kc rm0 (kc rm0 (kc rm0 (kc rm0 (kc rm2 (kc rm2 (kc rm2 (kc rm2 (kd (kd kr))))))))))
    ·rintro _ i7 _
     replace h := hk7
     clear hk7
     refine e_blk ?_
     obtain rfl := Option.some.inj h
     exact ejd () i7 trivial rfl sn (kc rm0 (kc rm0 (kc rm0 (kc rm0 (kc rm0 (kc rm0 (kc rm0 (kc rm0 kr))))))))
   ·rintro _ i6 _
    replace h := hk6
    clear hk6
    refine e_fall ?_
    refine r_mark rm5 ?_
    refine r_end (rs := []) (vs := []) rfl rfl ?_
    refine ke' hrc4 rm5 (by simp) ?_
    obtain rfl := Option.some.inj h
    exact ejd () D4 trivial rfl sn (kc rm0 (kc rm0 (kc rm2 (kc rm2 (kd (kd kr))))))
  ·rintro _ i3 _
   replace h := hk3
   clear hk3
   refine e_blk ?_
   obtain rfl := Option.some.inj h
   exact ejd () i3 trivial rfl sn (kc rm0 (kc rm0 (kc rm0 (kc rm0 kr))))
 ·rintro _ i2 _
  replace h := hk2
  clear hk2
  refine e_fall ?_
  refine r_mark rm3 ?_
  refine r_endt rfl rfl (kc rm0 (kc rm0 (kc rm0 kr))) ?_
  obtain rfl := Option.some.inj h
  exact hk

theorem c_space_Space_Cursor {g : Gw} (hg : GK g) (X : HP) (p0 : Vspace_Space) (b0 : Nat) (s0 : SV) (r : Int) (h : m_space_Space_Cursor p0 = some r) : Tri env g 142 (List.toArray [(.pointer (some ⟨b0, 0, none⟩))]) [X, blk b0 (.cells (List.toArray [(.int .i64 p0.model), (.bool p0.alternate), (.int .i64 p0.size.Rows), (.int .i64 p0.size.Cols), (SV.val s0), (.int .i64 p0.cursor), (.int .i64 p0.attrs)]) 116 (0, 0)), slO s0 80 en_Vapi_Cell p0.cells] (fun K R => K (.int .i64 r) (X :: blk b0 (.cells (List.toArray [(.int .i64 p0.model), (.bool p0.alternate), (.int .i64 p0.size.Rows), (.int .i64 p0.size.Cols), (SV.val s0), (.int .i64 p0.cursor), (.int .i64 p0.attrs)]) 116 (0, 0)) :: slO s0 80 en_Vapi_Cell p0.cells :: R)) := by
 refine tri_of (fn := Tryz.f142) (N := 9) Tryz.func142 rfl rfl rfl ?_
 intro R K hk
 unfold m_space_Space_Cursor at h
 change GC _ none _ [] [(0, (.pointer (some ⟨b0, 0, none⟩)))] (X :: blk b0 (.cells (List.toArray [(.int .i64 p0.model), (.bool p0.alternate), (.int .i64 p0.size.Rows), (.int .i64 p0.size.Cols), (SV.val s0), (.int .i64 p0.cursor), (.int .i64 p0.attrs)]) 116 (0, 0)) :: slO s0 80 en_Vapi_Cell p0.cells :: R) g _ _
 refine c_seq (c_region (o1 rfl (o_p rfl (o_end (e_seq (c_seq ?_))))))
 refine c_seq (c_region (o1 rfl (o_p rfl ?_)))
 refine o1 rfl (o_p (v := (.bool false)) rfl ?_)
 refine o_end (e_seq ?_)
 refine c_cond_f rfl rfl ?_
 refine c_skip (e_seq (c_seq (c_region (o1 rfl (o_p rfl (o1 rfl (o_p rfl ?_)))))))
 refine o1 rfl (o_fa (fd := ⟨ "cursor", 3, 5, false, "", "vitrine/space", 56⟩) rfl rfl rfl rfl rfl ?_)
 refine o1 rfl (o_ld (b := b0) (off := 5) (v := (.int .i64 p0.cursor)) rfl rm1 rfl rfl ?_)
 refine o1 rfl (o_p rfl (o_end (e_seq (c_ret (e_ret ?_)))))
 refine r_endt rfl rfl (kc rm0 (kc rm0 (kc rm0 kr))) ?_
 obtain rfl := Option.some.inj h
 exact hk

theorem c_order_Parse {g : Gw} (hg : GK g) (X : HP) (p0 : List Int) (s0 : SV) (q0 : Rd X s0 5 (enI .u8) p0) (r : Unit) (h : m_order_Parse p0 = some r) : Tri env g 62 (List.toArray [(SV.val s0)]) [X] (fun K R => ∀ (i0 : Nat), K (.func (.func 111) #[] (List.toArray [(.pointer (some ⟨i0, 0, none⟩))])) (X :: blk i0 (.cells (List.toArray [(SV.val s0)]) 46 (0, 0)) :: R)) := by
 refine tri_of (fn := Tryz.f62) (N := 4) Tryz.func62 rfl rfl rfl ?_
 intro R K hk
 unfold m_order_Parse at h
 change GC _ none _ [] [(0, (SV.val s0))] (X :: R) g _ _
 refine c_seq (c_region ?_)
 refine o1 rfl (o_box (cs := [(SV.val s0)]) rfl rfl (fun b156 => ?_))
 refine o1 rfl (o_p rfl (o_end (e_seq (c_seq (c_region (o1 rfl (o_p rfl ?_)))))))
 refine o1 rfl (o_p rfl (o_end (e_seq (c_ret (e_ret ?_)))))
 refine r_endt rfl rfl (kc rm1 (kc rm0 kr)) ?_
 obtain rfl := Option.some.inj h
 exact hk b156

theorem c_order_Name {g : Gw} (hg : GK g) (X : HP) (p0 : Int) (r : ByteArray) (h : m_order_Name p0 = some r) : Tri env g 177 (List.toArray [(.int .i64 p0)]) [X] (fun K R => K (.string r) (X :: R)) := by
 refine tri_of (fn := Tryz.f177) (N := 26) Tryz.func177 rfl rfl rfl ?_
 intro R K hk
 unfold m_order_Name at h
 change GC _ none _ [] [(0, (.int .i64 p0))] (X :: R) g _ _
 refine c_seq (c_region (o1 rfl (o_p rfl (o_end (e_seq (c_seq ?_))))))
 refine c_seq (c_region (o1 rfl (o_p rfl (o_end (e_seq (c_block ?_))))))
 refine c_seq (c_region ?_)
 refine o1 rfl (o_p (v := (.bool (p0 == 0))) rfl ?_)
 refine o1 rfl (o_p rfl (o_end (e_seq ?_)))
 refine c_cond (b := (p0 == 0)) rfl (fun hb166 => ?_) (fun hb166 => ?_)
 ·replace h := cond_t hb166 h
  refine c_seq (c_region (o1 rfl (o_p rfl (o_end (e_seq (c_ret ?_))))))
  refine e_blk_ret (e_then_ret (e_ret ?_))
  refine r_endt rfl rfl (kc rm0 kr) ?_
  obtain rfl := Option.some.inj h
  exact hk
 ·replace h := cond_f hb166 h
  refine c_seq (c_region ?_)
  refine o1 rfl (o_p (v := (.bool (p0 == 5))) rfl ?_)
  refine o1 rfl (o_p rfl (o_end (e_seq ?_)))
  refine c_cond (b := (p0 == 5)) rfl (fun hb167 => ?_) (fun hb167 => ?_)
  ·replace h := cond_t hb167 h
   refine c_seq (c_region (o1 rfl (o_p rfl (o_end (e_seq (c_ret ?_))))))
   refine e_blk_ret (e_then_ret (e_ret ?_))
   refine r_endt rfl rfl (kc rm0 kr) ?_
   obtain rfl := Option.some.inj h
   exact hk
  ·replace h := cond_f hb167 h
   refine c_seq (c_region ?_)
   refine o1 rfl (o_p (v := (.bool (p0 == 8))) rfl ?_)
   refine o1 rfl (o_p rfl (o_end (e_seq ?_)))
   refine c_cond (b := (p0 == 8)) rfl (fun hb168 => ?_) (fun hb168 => ?_)
   ·replace h := cond_t hb168 h
    refine c_seq (c_region (o1 rfl (o_p rfl (o_end (e_seq (c_ret ?_))))))
    refine e_blk_ret (e_then_ret (e_ret ?_))
    refine r_endt rfl rfl (kc rm0 kr) ?_
    obtain rfl := Option.some.inj h
    exact hk
   ·replace h := cond_f hb168 h
    refine c_seq (c_region ?_)
    refine o1 rfl (o_p (v := (.bool (p0 == 17))) rfl ?_)
    refine o1 rfl (o_p rfl (o_end (e_seq ?_)))
    refine c_cond (b := (p0 == 17)) rfl (fun hb169 => ?_) (fun hb169 => ?_)
    ·replace h := cond_t hb169 h
     refine c_seq (c_region (o1 rfl (o_p rfl (o_end (e_seq (c_ret ?_))))))
     refine e_blk_ret (e_then_ret (e_ret ?_))
     refine r_endt rfl rfl (kc rm0 kr) ?_
     obtain rfl := Option.some.inj h
     exact hk
    ·replace h := cond_f hb169 h
     refine c_seq (c_region ?_)
     refine o1 rfl (o_p (v := (.bool (p0 == 18))) rfl ?_)
     refine o1 rfl (o_p rfl (o_end (e_seq ?_)))
     refine c_cond (b := (p0 == 18)) rfl (fun hb170 => ?_) (fun hb170 => ?_)
     ·replace h := cond_t hb170 h
      refine c_seq (c_region (o1 rfl (o_p rfl (o_end (e_seq (c_ret ?_))))))
      refine e_blk_ret (e_then_ret (e_ret ?_))
      refine r_endt rfl rfl (kc rm0 kr) ?_
      obtain rfl := Option.some.inj h
      exact hk
     ·replace h := cond_f hb170 h
      refine c_seq (c_region ?_)
      refine o1 rfl (o_p (v := (.bool (p0 == 19))) rfl ?_)
      refine o1 rfl (o_p rfl (o_end (e_seq ?_)))
      refine c_cond (b := (p0 == 19)) rfl (fun hb171 => ?_) (fun hb171 => ?_)
      ·replace h := cond_t hb171 h
       refine c_seq (c_region (o1 rfl (o_p rfl (o_end (e_seq (c_ret ?_))))))
       refine e_blk_ret (e_then_ret (e_ret ?_))
       refine r_endt rfl rfl (kc rm0 kr) ?_
       obtain rfl := Option.some.inj h
       exact hk
      ·replace h := cond_f hb171 h
       refine c_seq (c_region ?_)
       refine o1 rfl (o_p (v := (.bool (p0 == 29))) rfl ?_)
       refine o1 rfl (o_p rfl (o_end (e_seq ?_)))
       refine c_cond (b := (p0 == 29)) rfl (fun hb172 => ?_) (fun hb172 => ?_)
       ·replace h := cond_t hb172 h
        refine c_seq (c_region (o1 rfl (o_p rfl (o_end (e_seq (c_ret ?_))))))
        refine e_blk_ret (e_then_ret (e_ret ?_))
        refine r_endt rfl rfl (kc rm0 kr) ?_
        obtain rfl := Option.some.inj h
        exact hk
       ·replace h := cond_f hb172 h
        refine c_seq (c_region ?_)
        refine o1 rfl (o_p (v := (.bool (p0 == 40))) rfl ?_)
        refine o1 rfl (o_p rfl (o_end (e_seq ?_)))
        refine c_cond (b := (p0 == 40)) rfl (fun hb173 => ?_) (fun hb173 => ?_)
        ·replace h := cond_t hb173 h
         refine c_seq (c_region (o1 rfl (o_p rfl (o_end (e_seq (c_ret ?_))))))
         refine e_blk_ret (e_then_ret (e_ret ?_))
         refine r_endt rfl rfl (kc rm0 kr) ?_
         obtain rfl := Option.some.inj h
         exact hk
        ·replace h := cond_f hb173 h
         refine c_seq (c_region ?_)
         refine o1 rfl (o_p (v := (.bool (p0 == 41))) rfl ?_)
         refine o1 rfl (o_p rfl (o_end (e_seq ?_)))
         refine c_cond (b := (p0 == 41)) rfl (fun hb174 => ?_) (fun hb174 => ?_)
         ·replace h := cond_t hb174 h
          refine c_seq (c_region (o1 rfl (o_p rfl (o_end (e_seq (c_ret ?_))))))
          refine e_blk_ret (e_then_ret (e_ret ?_))
          refine r_endt rfl rfl (kc rm0 kr) ?_
          obtain rfl := Option.some.inj h
          exact hk
         ·replace h := cond_f hb174 h
          refine c_seq (c_region ?_)
          refine o1 rfl (o_p (v := (.bool (p0 == 44))) rfl ?_)
          refine o1 rfl (o_p rfl (o_end (e_seq ?_)))
          refine c_cond (b := (p0 == 44)) rfl (fun hb175 => ?_) (fun hb175 => ?_)
          ·replace h := cond_t hb175 h
           refine c_seq (c_region (o1 rfl (o_p rfl (o_end (e_seq (c_ret ?_))))))
           refine e_blk_ret (e_then_ret (e_ret ?_))
           refine r_endt rfl rfl (kc rm0 kr) ?_
           obtain rfl := Option.some.inj h
           exact hk
          ·replace h := cond_f hb175 h
           refine c_seq (c_region ?_)
           refine o1 rfl (o_p (v := (.bool (p0 == 60))) rfl ?_)
           refine o1 rfl (o_p rfl (o_end (e_seq ?_)))
           refine c_cond (b := (p0 == 60)) rfl (fun hb176 => ?_) (fun hb176 => ?_)
           ·replace h := cond_t hb176 h
            refine c_seq (c_region (o1 rfl (o_p rfl (o_end (e_seq (c_ret ?_))))))
            refine e_blk_ret (e_then_ret (e_ret ?_))
            refine r_endt rfl rfl (kc rm0 kr) ?_
            obtain rfl := Option.some.inj h
            exact hk
           ·replace h := cond_f hb176 h
            refine c_skip (e_blk (e_seq (c_seq (c_region (o1 rfl (o_p rfl ?_))))))
            refine o_end (e_seq (c_ret (e_ret ?_)))
            refine r_endt rfl rfl (kc rm0 kr) ?_
            obtain rfl := Option.some.inj h
            exact hk

theorem c_order_Is {g : Gw} (hg : GK g) (X : HP) (p0 : Int) (r : Bool) (h : m_order_Is p0 = some r) : Tri env g 148 (List.toArray [(.int .u8 p0)]) [X] (fun K R => K (.bool r) (X :: R)) := by
 refine tri_of (fn := Tryz.f148) (N := 11) Tryz.func148 rfl rfl rfl ?_
 intro R K hk
 unfold m_order_Is at h
 change GC _ none _ [] [(0, (.int .u8 p0))] (X :: R) g _ _
 refine c_seq (c_region (o1 rfl (o_p rfl (o_end (e_seq (c_seq ?_))))))
 replace h := bsome h
 obtain ⟨d1, h, hk1⟩ := h
 refine cj (D := Unit) (ι := Unit) (fun _ i1 => True) (fun _ i1 => [(2, (.bool d1))]) (fun _ i1 => X :: R) ?_ ?_
 ·refine c_region (o1 rfl (o_p rfl ?_))
  refine o1 rfl (o_p (v := (.bool (p0 != 0))) rfl ?_)
  refine o1 rfl (o_p rfl ?_)
  rcases bool_or ((p0 != 0)) with hb165 | hb165
  ·replace h := cond_t hb165 h
   refine oy rfl rfl rfl hb165 (o_p rfl ?_)
   refine oy rfl rfl rfl hb165 (o_p (v := (.int .i64 (w64 (p0)))) rfl ?_)
   replace h := bsome h
   obtain ⟨d2, h2, h⟩ := h
   refine oy rfl rfl rfl hb165 (o_call has177 rfl (c_order_Name hg X (w64 (p0)) _ h2) (pc rm0 pn) ?_)
   refine oy rfl rfl rfl hb165 (o_p (v := (.bool (!(d2.data.toList == (ByteArray.mk (List.toArray [])).data.toList)))) rfl ?_)
   refine o1 rfl (o_pick_t rfl hb165 rfl ?_)
   refine o1 rfl (o_p rfl (o_end ?_))
   obtain rfl := Option.some.inj h
   exact ej () () trivial (sc rfl sn) (kc rm0 kr)
  ·replace h := cond_f hb165 h
   refine on rfl rfl rfl hb165 ?_
   refine on rfl rfl rfl hb165 ?_
   refine on rfl rfl rfl hb165 ?_
   refine on rfl rfl rfl hb165 ?_
   refine o1 rfl (o_pick_f rfl hb165 rfl ?_)
   refine o1 rfl (o_p rfl (o_end ?_))
   obtain rfl := Option.some.inj h
   exact ej () () trivial (sc rfl sn) (kc rm0 kr)
 ·rintro _ i1 _
  replace h := hk1
  clear hk1
  refine e_seq (c_ret (e_ret ?_))
  refine r_endt rfl rfl (kc rm0 kr) ?_
  obtain rfl := Option.some.inj h
  exact hk

theorem c_order_scanner_fail {g : Gw} (hg : GK g) (X : HP) (p0 : Vorder_scanner) (b0 : Nat) (s0 : SV) (q0 : Rd X s0 5 (enI .u8) p0.p) (p1 : Int) (r : Vorder_scanner) (h : m_order_scanner_fail p0 p1 = some r) : Tri env g 178 (List.toArray [(.pointer (some ⟨b0, 0, none⟩)), (.int .i64 p1)]) [X, blk b0 (.cells (List.toArray [(SV.val s0), (.int .i64 p0.code)]) 213 (0, 0))] (fun K R => (Rd X s0 5 (enI .u8) r.p) → K (.tuple (List.toArray [])) (X :: blk b0 (.cells (List.toArray [(SV.val s0), (.int .i64 r.code)]) 213 (0, 0)) :: R)) := by
 refine tri_of (fn := Tryz.f178) (N := 13) Tryz.func178 rfl rfl rfl ?_
 intro R K hk
 unfold m_order_scanner_fail at h
 change GC _ none _ [] [(0, (.pointer (some ⟨b0, 0, none⟩))), (1, (.int .i64 p1))] (X :: blk b0 (.cells (List.toArray [(SV.val s0), (.int .i64 p0.code)]) 213 (0, 0)) :: R) g _ _
 refine c_seq (c_region (o1 rfl (o_p rfl (o1 rfl (o_p rfl ?_)))))
 refine o1 rfl (o_fa (fd := ⟨ "code", 57, 1, false, "", "vitrine/order", 24⟩) rfl rfl rfl rfl rfl ?_)
 refine o1 rfl (o_ld (b := b0) (off := 1) (v := (.int .i64 p0.code)) rfl rm1 rfl rfl ?_)
 refine o1 rfl (o_p (v := (.bool (p0.code == 0))) rfl ?_)
 refine o_end (e_seq ?_)
 refine c_cond (b := (p0.code == 0)) rfl (fun hb188 => ?_) (fun hb188 => ?_)
 ·replace h := cond_t hb188 h
  refine c_region (o1 rfl (o_p rfl (o1 rfl (o_p rfl (o1 rfl (o_p rfl ?_))))))
  refine o1 rfl (o_fa (fd := ⟨ "code", 57, 1, false, "", "vitrine/order", 24⟩) rfl rfl rfl rfl rfl ?_)
  refine o0 (o_st (b := b0) (off := 1) (vs := [(.int .i64 p1)]) (cs' := [(SV.val s0), (.int .i64 p1)]) rfl rfl rp1 rfl rfl rfl rfl rfl rfl ?_)
  refine o_end (e_fall ?_)
  refine r_endt rfl rfl (kc rm0 (kc rm0 kr)) ?_
  obtain rfl := Option.some.inj h
  exact hk q0
 ·replace h := cond_f hb188 h
  refine c_skip (e_fall ?_)
  refine r_endt rfl rfl (kc rm0 (kc rm0 kr)) ?_
  obtain rfl := Option.some.inj h
  exact hk q0

theorem c_order_scanner_take {g : Gw} (hg : GK g) (X : HP) (p0 : Vorder_scanner) (b0 : Nat) (s0 : SV) (q0 : Rd X s0 5 (enI .u8) p0.p) (p1 : Int) (r : Vorder_scanner × (List Int)) (h : m_order_scanner_take p0 p1 = some r) : Tri env g 150 (List.toArray [(.pointer (some ⟨b0, 0, none⟩)), (.int .i64 p1)]) [X, blk b0 (.cells (List.toArray [(SV.val s0), (.int .i64 p0.code)]) 213 (0, 0))] (fun K R => ∀ (i0 : HP × SV × SV), (Rd i0.1 i0.2.1 5 (enI .u8) r.1.p) → (Rd i0.1 i0.2.2 5 (enI .u8) r.2) → (Ext X i0.1) → K (SV.val i0.2.2) (i0.1 :: blk b0 (.cells (List.toArray [(SV.val i0.2.1), (.int .i64 r.1.code)]) 213 (0, 0)) :: R)) := by
 refine tri_of (fn := Tryz.f150) (N := 37) Tryz.func150 rfl rfl rfl ?_
 intro R K hk
 unfold m_order_scanner_take at h
 change GC _ none _ [] [(0, (.pointer (some ⟨b0, 0, none⟩))), (1, (.int .i64 p1))] (X :: blk b0 (.cells (List.toArray [(SV.val s0), (.int .i64 p0.code)]) 213 (0, 0)) :: R) g _ _
 refine c_seq (c_region (o1 rfl (o_p rfl (o_end (e_seq (c_seq ?_))))))
 refine c_seq (c_region (o1 rfl (o_p rfl (o1 rfl (o_p rfl ?_)))))
 refine o1 rfl (o_fa (fd := ⟨ "p", 46, 0, false, "", "vitrine/order", 0⟩) rfl rfl rfl rfl rfl ?_)
 refine o1 rfl (o_ld (b := b0) (off := 0) (v := (SV.val s0)) rfl rm1 rfl rfl ?_)
 refine o1 rfl (o_len (s := s0) rfl rfl rfl rm0 q0 ?_)
 refine o1 rfl (o_p rfl ?_)
 refine o1 rfl (o_p (v := (.bool (decide ((p0.p.length : Int) < p1)))) rfl ?_)
 refine o_end (e_seq ?_)
 refine c_cond (b := (decide ((p0.p.length : Int) < p1))) rfl (fun hb187 => ?_) (fun hb187 => ?_)
 ·replace h := cond_t hb187 h
  refine c_seq (c_region (o1 rfl (o_p rfl ?_)))
  replace h := bsome h
  obtain ⟨d2, h2, h⟩ := h
  refine o1 rfl (o_call has178 rfl (c_order_scanner_fail hg X p0 b0 s0 q0 2 _ h2) (pc rm0 (pc rm0 pn)) (fun f2_0 => ?_))
  refine o_end (e_seq (c_seq (c_region (o1 rfl (o_p rfl (o1 rfl (o_p rfl ?_)))))))
  refine o1 rfl (o_fa (fd := ⟨ "p", 46, 0, false, "", "vitrine/order", 0⟩) rfl rfl rfl rfl rfl ?_)
  refine o0 (o_st (b := b0) (off := 0) (vs := [(SV.val SV.nil)]) (cs' := [(SV.val SV.nil), (.int .i64 d2.code)]) rfl rfl rp1 rfl rfl rfl rfl rfl rfl ?_)
  refine o_end (e_seq (c_seq (c_region (o1 rfl (o_p rfl ?_)))))
  replace h := gsome h
  obtain ⟨hg189, h⟩ := h
  refine o1 rfl (o_mk (e := (enI .u8)) (z := 0) (zs := [(.int .u8 0)]) rfl rfl rfl rfl rfl rfl rfl rfl rfl hg189 (fun s190 => ?_))
  refine o1 rfl (o_p rfl (o_end (e_seq (c_ret (e_then_ret (e_ret ?_))))))
  refine r_fz rm0 rm0 (fun X199 hx200 hs201 => ?_)
  refine r_endt rfl rfl (kc rm0 (kc rm0 kr)) ?_
  obtain rfl := Option.some.inj h
  exact hk (X199, SV.nil, s190) (rd_nil _ _ _) hs201 hx200
 ·replace h := cond_f hb187 h
  refine c_skip (e_seq (c_seq (c_region (o1 rfl (o_p rfl (o1 rfl (o_p rfl ?_)))))))
  refine o1 rfl (o_fa (fd := ⟨ "p", 46, 0, false, "", "vitrine/order", 0⟩) rfl rfl rfl rfl rfl ?_)
  refine o1 rfl (o_ld (b := b0) (off := 0) (v := (SV.val s0)) rfl rm1 rfl rfl ?_)
  refine o1 rfl (o_p rfl (o1 rfl (o_p rfl ?_)))
  replace h := gsome h
  obtain ⟨hg192, h⟩ := h
  replace h := gsome h
  obtain ⟨hg193, h⟩ := h
  refine o1 rfl (o_sl (a := 0) (b := p1) (m := (some p1)) rfl rfl rfl rfl rfl rm0 q0 rfl rfl rfl (by decide) hg192 (mx_some hg193) (fun s195 hr194 => ?_))
  refine o1 rfl (o_p rfl (o_end (e_seq (c_seq (c_region (o1 rfl (o_p rfl ?_)))))))
  refine o1 rfl (o_p rfl (o1 rfl (o_p rfl ?_)))
  refine o1 rfl (o_fa (fd := ⟨ "p", 46, 0, false, "", "vitrine/order", 0⟩) rfl rfl rfl rfl rfl ?_)
  refine o1 rfl (o_ld (b := b0) (off := 0) (v := (SV.val s0)) rfl rm1 rfl rfl ?_)
  refine o1 rfl (o_p rfl ?_)
  replace h := gsome h
  obtain ⟨hg196, h⟩ := h
  refine o1 rfl (o_sl (a := p1) (b := (p0.p.length : Int)) (m := none) rfl rfl rfl rfl rfl rm0 q0 rfl rfl rfl (by decide) hg196 mx_none (fun s198 hr197 => ?_))
  replace hr197 := rd_tk hr197
  refine o1 rfl (o_p rfl ?_)
  refine o1 rfl (o_fa (fd := ⟨ "p", 46, 0, false, "", "vitrine/order", 0⟩) rfl rfl rfl rfl rfl ?_)
  refine o0 (o_st (b := b0) (off := 0) (vs := [(SV.val s198)]) (cs' := [(SV.val s198), (.int .i64 p0.code)]) rfl rfl rp1 rfl rfl rfl rfl rfl rfl ?_)
  refine o_end (e_seq (c_seq (c_region (o1 rfl (o_p rfl (o1 rfl (o_p rfl ?_)))))))
  refine o_end (e_seq (c_ret (e_ret ?_)))
  refine r_endt rfl rfl (kc rm0 (kc rm0 kr)) ?_
  obtain rfl := Option.some.inj h
  exact hk (X, s198, s195) hr197 hr194 (Ext.refl _)

theorem c_bytes_Clone {g : Gw} (hg : GK g) (X : HP) (p0 : List Int) (s0 : SV) (q0 : Rd X s0 5 (enI .u8) p0) (r : (List Int)) (h : m_bytes_Clone p0 = some r) : Tri env g 105 (List.toArray [(SV.val s0)]) [X] (fun K R => ∀ (i0 : SV), K (SV.val i0) (X :: slO i0 5 (enI .u8) r :: R)) := by
 refine tri_of (fn := Tryz.f105) (N := 8) Tryz.func105 rfl rfl rfl ?_
 intro R K hk
 unfold m_bytes_Clone at h
 change GC _ none _ [] [(0, (SV.val s0))] (X :: R) g _ _
 refine c_seq (c_region (o1 rfl (o_p rfl (o_end (e_seq (c_seq ?_))))))
 refine c_seq (c_region (o1 rfl (o_p rfl ?_)))
 refine o1 rfl (o_eqnil rfl rfl rfl ?_)
 refine o_end (e_seq ?_)
 refine c_nilq rm0 q0 (fun h1 h2 => ?_) (fun h1 => ?_)
 ·subst h1
  subst h2
  refine c_cond_t rfl rfl ?_
  refine c_seq (c_region (o1 rfl (o_p rfl (o_end (e_seq (c_ret ?_))))))
  refine e_then_ret (e_ret ?_)
  obtain ⟨_, h⟩ := gsome h
  obtain rfl := Option.some.inj h
  refine r_add (slO SV.nil 5 (enI .u8) []) (slO_nil _ _ _) ?_
  refine r_endt rfl rfl (kc rm1 (kc rm0 kr)) ?_
  exact hk SV.nil
 ·refine c_cond_f rfl h1 ?_
  refine c_skip (e_seq (c_seq (c_region ?_)))
  refine o1 rfl (o_bs (e := (enI .u8)) (l := ([] : List Int)) (zs := [(.int .u8 0)]) rfl rfl rfl rfl rfl rfl rfl rfl rfl rfl (fun s1 => ?_))
  refine o1 rfl (o_p rfl ?_)
  obtain ⟨hg, h⟩ := gsome h
  obtain rfl := Option.some.inj h
  refine o1 rfl (o_app (s := s1) (r := s0) (e := (enI .u8)) (l := ([] : List Int)) (l2 := p0) (zs := [(.int .u8 0)]) rfl rfl rfl rfl rfl rfl rfl rfl rfl rfl rfl rm0 rm0 q0 (by simpa using hg) (fun s2 => ?_))
  refine o1 rfl (o_p rfl (o_end (e_seq (c_ret (e_ret ?_)))))
  refine r_endt rfl rfl (kc rm1 (kc rm0 kr)) ?_
  exact hk s2

theorem c_order_scanner_text {g : Gw} (hg : GK g) (X : HP) (p0 : Vorder_scanner) (b0 : Nat) (s0 : SV) (q0 : Rd X s0 5 (enI .u8) p0.p) (r : Vorder_scanner × (List Int)) (h : m_order_scanner_text p0 = some r) : Tri env g 149 (List.toArray [(.pointer (some ⟨b0, 0, none⟩))]) [X, blk b0 (.cells (List.toArray [(SV.val s0), (.int .i64 p0.code)]) 213 (0, 0))] (fun K R => ∀ (i0 : HP × SV × SV), (Rd i0.1 i0.2.1 5 (enI .u8) r.1.p) → (Ext X i0.1) → K (SV.val i0.2.2) (i0.1 :: blk b0 (.cells (List.toArray [(SV.val i0.2.1), (.int .i64 r.1.code)]) 213 (0, 0)) :: slO i0.2.2 5 (enI .u8) r.2 :: R)) := by
 refine tri_of (fn := Tryz.f149) (N := 28) Tryz.func149 rfl rfl rfl ?_
 intro R K hk
 unfold m_order_scanner_text at h
 change GC _ none _ [] [(0, (.pointer (some ⟨b0, 0, none⟩)))] (X :: blk b0 (.cells (List.toArray [(SV.val s0), (.int .i64 p0.code)]) 213 (0, 0)) :: R) g _ _
 refine c_seq (c_region (o1 rfl (o_p rfl (o_end (e_seq (c_seq ?_))))))
 refine c_region (o1 rfl (o_p rfl (o_end (e_seq (c_seq ?_)))))
 replace h := bsome h
 obtain ⟨d1, h, hk1⟩ := h
 refine cj (D := Unit) (ι := Unit) (fun _ i1 => True) (fun _ i1 => [(3, (.int .i64 d1)), (0, (.pointer (some ⟨b0, 0, none⟩)))]) (fun _ i1 => X :: blk b0 (.cells (List.toArray [(SV.val s0), (.int .i64 p0.code)]) 213 (0, 0)) :: R) ?_ ?_
 ·refine c_block ?_
  refine c_loop (l_sub (sc rfl (sc rfl sn)) (l_keep (kc rm0 (kc rm0 kr)) (lf (X := Int) (ι := Unit) (fun k x => order_scanner_text_l2 p0 k x) _ (fun x2 i2 => True) (fun x2 i2 => [(3, (.int .i64 x2)), (0, (.pointer (some ⟨b0, 0, none⟩)))]) (fun x2 i2 => X :: blk b0 (.cells (List.toArray [(SV.val s0), (.int .i64 p0.code)]) 213 (0, 0)) :: R) (fun _ => rfl) ?_ fuel 0 () trivial h)))
  clear h
  rintro k2 ih2 x2 i2 _ h
  rw [order_scanner_text_l2.eq_2] at h
  refine l_round (c_seq (c_seq ?_))
  replace h := bsome h
  obtain ⟨d3, h, hk3⟩ := h
  refine cj (D := Unit) (ι := Unit) (fun _ i3 => True) (fun _ i3 => [(21, (.bool d3)), (3, (.int .i64 x2)), (0, (.pointer (some ⟨b0, 0, none⟩)))]) (fun _ i3 => X :: blk b0 (.cells (List.toArray [(SV.val s0), (.int .i64 p0.code)]) 213 (0, 0)) :: R) ?_ ?_
  ·refine c_region (o1 rfl (o_p rfl (o1 rfl (o_p rfl (o1 rfl (o_p rfl ?_))))))
   refine o1 rfl (o_fa (fd := ⟨ "p", 46, 0, false, "", "vitrine/order", 0⟩) rfl rfl rfl rfl rfl ?_)
   refine o1 rfl (o_ld (b := b0) (off := 0) (v := (SV.val s0)) rfl rm1 rfl rfl ?_)
   refine o1 rfl (o_len (s := s0) rfl rfl rfl rm0 q0 ?_)
   refine o1 rfl (o_p (v := (.bool (decide (x2 < (p0.p.length : Int))))) rfl ?_)
   refine o1 rfl (o_p rfl ?_)
   rcases bool_or ((decide (x2 < (p0.p.length : Int)))) with hb184 | hb184
   ·replace h := cond_t hb184 h
    refine oy rfl rfl rfl hb184 (o_p rfl ?_)
    refine oy rfl rfl rfl hb184 (o_p rfl ?_)
    refine oy rfl rfl rfl hb184 (o_fa (fd := ⟨ "p", 46, 0, false, "", "vitrine/order", 0⟩) rfl rfl rfl rfl rfl ?_)
    refine oy rfl rfl rfl hb184 (o_ld (b := b0) (off := 0) (v := (SV.val s0)) rfl rm1 rfl rfl ?_)
    refine oy rfl rfl rfl hb184 (o_p rfl ?_)
    replace h := gsome h
    obtain ⟨hg185, h⟩ := h
    refine oy rfl rfl rfl hb184 (o_ix (s := s0) (n := x2) (e := (enI .u8)) rfl rfl rfl rfl rfl rfl rm0 q0 hg185 ?_)
    refine oy rfl rfl rfl hb184 (o_ldE (s := s0) (e := (enI .u8)) (n := x2) (f := 0) (v := (.int .u8 (rd p0.p x2))) rfl rm0 q0 hg185 rfl rfl ?_)
    replace h := bsome h
    obtain ⟨d4, h4, h⟩ := h
    refine oy rfl rfl rfl hb184 (o_call has148 rfl (c_order_Is hg X (rd p0.p x2) _ h4) (pc rm0 pn) ?_)
    refine oy rfl rfl rfl hb184 (o_p (v := (.bool (!d4))) rfl ?_)
    refine o1 rfl (o_pick_t rfl hb184 rfl ?_)
    refine o_end ?_
    obtain rfl := Option.some.inj h
    exact ej () () trivial (sc rfl (sc rfl (sc rfl sn))) (kc rm0 (kc rm0 kr))
   ·replace h := cond_f hb184 h
    refine on rfl rfl rfl hb184 ?_
    refine on rfl rfl rfl hb184 ?_
    refine on rfl rfl rfl hb184 ?_
    refine on rfl rfl rfl hb184 ?_
    refine on rfl rfl rfl hb184 ?_
    refine on rfl rfl rfl hb184 ?_
    refine on rfl rfl rfl hb184 ?_
    refine on rfl rfl rfl hb184 ?_
    refine on rfl rfl rfl hb184 ?_
    refine o1 rfl (o_pick_f rfl hb184 rfl ?_)
    refine o_end ?_
    obtain rfl := Option.some.inj h
    exact ej () () trivial (sc rfl (sc rfl (sc rfl sn))) (kc rm0 (kc rm0 kr))
  ·rintro _ i3 _
   replace h := hk3
   clear hk3
   refine e_seq ?_
   refine c_cond (b := d3) rfl (fun hb186 => ?_) (fun hb186 => ?_)
   ·replace h := cond_t hb186 h
    refine c_skip (e_seq (c_block (c_region (o1 rfl (o_p rfl ?_)))))
    refine o1 rfl (o_p (v := (.int .i64 (w64 (x2 + 1)))) rfl ?_)
    refine o1 rfl (o_p rfl (o_end (e_blk ?_)))
    exact e_loop (l_sub (sc rfl (sc rfl sn)) (l_keep (kc rm0 (kc rm0 kr)) (ih2 (w64 (x2 + 1)) () trivial h)))
   ·replace h := cond_f hb186 h
    refine c_exit (e_then_exit (e_then_exit (e_blk_exit ?_)))
    obtain rfl := Option.some.inj h
    exact ej () () trivial (sc rfl (sc rfl sn)) (kc rm0 (kc rm0 kr))
 ·rintro _ i1 _
  replace h := hk1
  clear hk1
  refine e_seq (c_seq (c_region (o1 rfl (o_p rfl (o1 rfl (o_p rfl ?_))))))
  replace h := bsome h
  obtain ⟨d6, h6, h⟩ := h
  refine o1 rfl (o_call has150 rfl (c_order_scanner_take hg X p0 b0 s0 q0 d1 _ h6) (pc rm0 (pc rm0 pn)) (fun i6 f6_0 f6_1 f6_2 => ?_))
  replace h := bsome h
  obtain ⟨d7, h7, h⟩ := h
  refine o1 rfl (o_call has105 rfl (c_bytes_Clone hg i6.1 d6.2 i6.2.2 f6_1 _ h7) (pc rm0 pn) (fun i7 => ?_))
  refine o1 rfl (o_p rfl (o_end (e_seq (c_ret (e_ret ?_)))))
  refine r_endt rfl rfl (kc rm0 (kc rm1 (kc rm0 kr))) ?_
  obtain rfl := Option.some.inj h
  exact hk (i6.1, i6.2.1, i7) f6_0 f6_2

theorem c_addr_zone {g : Gw} (hg : GK g) (X : HP) (p0 : Int) (r : Int × Int × Int × Int) (h : m_addr_zone p0 = some r) : Tri env g 217 (List.toArray [(.int .i64 p0)]) [X] (fun K R => K (.tuple (List.toArray [(.int .u8 r.1), (.int .u8 r.2.1), (.int .i64 r.2.2.1), (.int .i64 r.2.2.2)])) (X :: R)) := by
 refine tri_of (fn := Tryz.f217) (N := 14) Tryz.func217 rfl rfl rfl ?_
 intro R K hk
 unfold m_addr_zone at h
 change GC _ none _ [] [(0, (.int .i64 p0))] (X :: R) g _ _
 refine c_seq (c_region (o1 rfl (o_p rfl (o1 rfl (o_p rfl (o1 rfl (o_p rfl (o1 rfl (o_p rfl ?_)))))))))
 refine o_end (e_seq (c_seq (c_seq (c_region (o1 rfl (o_p rfl ?_))))))
 refine o1 rfl (o_shr (m := p0) (n := 4) rfl rfl (by decide) ?_)
 refine o_end (e_seq (c_block (c_seq (c_region ?_))))
 refine o1 rfl (o_p (v := (.bool ((ishr .i64 p0 4) == 0))) rfl ?_)
 refine o1 rfl (o_p rfl (o_end (e_seq ?_)))
 refine c_cond (b := ((ishr .i64 p0 4) == 0)) rfl (fun hb230 => ?_) (fun hb230 => ?_)
 ·replace h := cond_t hb230 h
  refine c_seq (c_region (o1 rfl (o_p rfl (o1 rfl (o_p rfl (o1 rfl (o_p rfl (o1 rfl (o_p rfl ?_)))))))))
  refine o_end (e_seq (c_ret (e_blk_ret (e_then_ret (e_ret ?_)))))
  refine r_endt rfl rfl (kc rm0 kr) ?_
  obtain rfl := Option.some.inj h
  exact hk
 ·replace h := cond_f hb230 h
  refine c_seq (c_region ?_)
  refine o1 rfl (o_p (v := (.bool ((ishr .i64 p0 4) == 1))) rfl ?_)
  refine o1 rfl (o_p rfl (o_end (e_seq ?_)))
  refine c_cond (b := ((ishr .i64 p0 4) == 1)) rfl (fun hb231 => ?_) (fun hb231 => ?_)
  ·replace h := cond_t hb231 h
   refine c_seq (c_region (o1 rfl (o_p rfl (o1 rfl (o_p rfl (o1 rfl (o_p rfl (o1 rfl (o_p rfl ?_)))))))))
   refine o_end (e_seq (c_ret (e_blk_ret (e_then_ret (e_ret ?_)))))
   refine r_endt rfl rfl (kc rm0 kr) ?_
   obtain rfl := Option.some.inj h
   exact hk
  ·replace h := cond_f hb231 h
   refine c_seq (c_region ?_)
   refine o1 rfl (o_p (v := (.bool ((ishr .i64 p0 4) == 2))) rfl ?_)
   refine o1 rfl (o_p rfl (o_end (e_seq ?_)))
   refine c_cond (b := ((ishr .i64 p0 4) == 2)) rfl (fun hb232 => ?_) (fun hb232 => ?_)
   ·replace h := cond_t hb232 h
    refine c_seq (c_region (o1 rfl (o_p rfl (o1 rfl (o_p rfl (o1 rfl (o_p rfl (o1 rfl (o_p rfl ?_)))))))))
    refine o_end (e_seq (c_ret (e_blk_ret (e_then_ret (e_ret ?_)))))
    refine r_endt rfl rfl (kc rm0 kr) ?_
    obtain rfl := Option.some.inj h
    exact hk
   ·replace h := cond_f hb232 h
    refine c_skip (e_blk (e_seq (c_seq (c_region (o1 rfl (o_p rfl ?_))))))
    refine o1 rfl (o_p rfl (o1 rfl (o_p rfl (o1 rfl (o_p rfl (o_end (e_seq (c_ret ?_))))))))
    refine e_ret ?_
    refine r_endt rfl rfl (kc rm0 kr) ?_
    obtain rfl := Option.some.inj h
    exact hk

theorem c_addr_Six {g : Gw} (hg : GK g) (X : HP) (p0 : Int) (r : Int) (h : m_addr_Six p0 = some r) : Tri env g 207 (List.toArray [(.int .i64 p0)]) [X] (fun K R => K (.int .u8 r) (X :: R)) := by
 refine tri_of (fn := Tryz.f207) (N := 35) Tryz.func207 rfl rfl rfl ?_
 intro R K hk
 unfold m_addr_Six at h
 change GC _ none _ [] [(0, (.int .i64 p0))] (X :: R) g _ _
 refine c_seq (c_region (o1 rfl (o_p rfl (o_end (e_seq (c_seq ?_))))))
 refine c_region (o1 rfl (o_p rfl ?_))
 refine o1 rfl (o_p (v := (.int .i64 (iband .i64 p0 63))) rfl ?_)
 refine o1 rfl (o_p rfl (o_end (e_seq (c_seq (c_region (o1 rfl (o_p rfl ?_)))))))
 replace h := bsome h
 obtain ⟨d1, h1, h⟩ := h
 refine o1 rfl (o_call has217 rfl (c_addr_zone hg X (iband .i64 p0 63) _ h1) (pc rm0 pn) ?_)
 refine o1 rfl (o_p rfl (o1 rfl (o_p rfl (o1 rfl (o_p rfl (o1 rfl (o_p rfl (o1 rfl (o_p rfl (o1 rfl (o_p rfl ?_)))))))))))
 refine o1 rfl (o_p rfl (o1 rfl (o_p rfl (o1 rfl (o_p rfl (o_end (e_seq (c_seq ?_))))))))
 refine c_region (o1 rfl (o_p rfl ?_))
 refine o1 rfl (o_p (v := (.int .i64 (iband .i64 (iband .i64 p0 63) 15))) rfl ?_)
 refine o1 rfl (o_p rfl (o_end (e_seq (c_seq (c_seq ?_)))))
 replace h := bsome h
 obtain ⟨d2, h, hk2⟩ := h
 refine cj (D := Unit) (ι := Unit) (fun _ i2 => True) (fun _ i2 => [(26, (.bool d2)), (7, (.int .i64 (iband .i64 (iband .i64 p0 63) 15))), (4, (.int .u8 d1.2.1)), (3, (.int .u8 d1.1))]) (fun _ i2 => X :: R) ?_ ?_
 ·refine c_region (o1 rfl (o_p rfl (o1 rfl (o_p rfl ?_))))
  refine o1 rfl (o_p (v := (.bool (decide ((iband .i64 (iband .i64 p0 63) 15) ≥ d1.2.2.1)))) rfl ?_)
  refine o1 rfl (o_p rfl ?_)
  rcases bool_or ((decide ((iband .i64 (iband .i64 p0 63) 15) ≥ d1.2.2.1))) with hb233 | hb233
  ·replace h := cond_t hb233 h
   refine oy rfl rfl rfl hb233 (o_p rfl ?_)
   refine oy rfl rfl rfl hb233 (o_p rfl ?_)
   refine oy rfl rfl rfl hb233 (o_p (v := (.bool (decide ((iband .i64 (iband .i64 p0 63) 15) ≤ d1.2.2.2)))) rfl ?_)
   refine o1 rfl (o_pick_t rfl hb233 rfl ?_)
   refine o_end ?_
   obtain rfl := Option.some.inj h
   exact ej () () trivial (sc rfl (sc rfl (sc rfl (sc rfl sn)))) (kc rm0 kr)
  ·replace h := cond_f hb233 h
   refine on rfl rfl rfl hb233 ?_
   refine on rfl rfl rfl hb233 ?_
   refine on rfl rfl rfl hb233 ?_
   refine o1 rfl (o_pick_f rfl hb233 rfl ?_)
   refine o_end ?_
   obtain rfl := Option.some.inj h
   exact ej () () trivial (sc rfl (sc rfl (sc rfl (sc rfl sn)))) (kc rm0 kr)
 ·rintro _ i2 _
  replace h := hk2
  clear hk2
  refine e_seq ?_
  refine c_cond (b := d2) rfl (fun hb234 => ?_) (fun hb234 => ?_)
  ·replace h := cond_t hb234 h
   refine c_seq (c_region (o1 rfl (o_p rfl (o1 rfl (o_p rfl ?_)))))
   refine o1 rfl (o_p (v := (.int .u8 (IntKind.wrap .u8 (iband .i64 (iband .i64 p0 63) 15)))) rfl ?_)
   refine o1 rfl (o_p (v := (.int .u8 (ibor .u8 d1.2.1 (IntKind.wrap .u8 (iband .i64 (iband .i64 p0 63) 15))))) rfl ?_)
   refine o1 rfl (o_p rfl (o_end (e_seq (c_ret (e_then_ret (e_ret ?_))))))
   refine r_endt rfl rfl (kc rm0 kr) ?_
   obtain rfl := Option.some.inj h
   exact hk
  ·replace h := cond_f hb234 h
   refine c_skip (e_seq (c_seq (c_region (o1 rfl (o_p rfl (o1 rfl (o_p rfl ?_)))))))
   refine o1 rfl (o_p (v := (.int .u8 (IntKind.wrap .u8 (iband .i64 (iband .i64 p0 63) 15)))) rfl ?_)
   refine o1 rfl (o_p (v := (.int .u8 (ibor .u8 d1.1 (IntKind.wrap .u8 (iband .i64 (iband .i64 p0 63) 15))))) rfl ?_)
   refine o1 rfl (o_p rfl (o_end (e_seq (c_ret (e_ret ?_)))))
   refine r_endt rfl rfl (kc rm0 kr) ?_
   obtain rfl := Option.some.inj h
   exact hk

theorem c_addr_Unsix {g : Gw} (hg : GK g) (X : HP) (p0 : Int) (r : Int) (h : m_addr_Unsix p0 = some r) : Tri env g 195 (List.toArray [(.int .u8 p0)]) [X] (fun K R => K (.int .i64 r) (X :: R)) := by
 refine tri_of (fn := Tryz.f195) (N := 16) Tryz.func195 rfl rfl rfl ?_
 intro R K hk
 unfold m_addr_Unsix at h
 change GC _ none _ [] [(0, (.int .u8 p0))] (X :: R) g _ _
 refine c_seq (c_region (o1 rfl (o_p rfl (o_end (e_seq (c_seq ?_))))))
 refine c_seq (c_region (o1 rfl (o_p rfl (o_end (e_seq ?_)))))
 replace h := jn_some h
 obtain ⟨y1, h, hk1⟩ := h
 refine cj (D := Unit) (ι := Unit) (fun d1 i1 => y1 = Sum.inl d1) (fun d1 i1 => [(0, (.int .u8 p0))]) (fun d1 i1 => X :: R) ?_ ?_
 ·refine c_block ?_
  refine c_loop (l_sub (sc rfl (sc rfl sn)) (l_keep (kc rm0 kr) (lf (X := Int) (ι := Unit) (fun k x => addr_Unsix_l2 p0 k x) _ (fun x2 i2 => True) (fun x2 i2 => [(4, (.int .i64 x2)), (0, (.int .u8 p0))]) (fun x2 i2 => X :: R) (fun _ => rfl) ?_ fuel 0 () trivial h)))
  clear h
  rintro k2 ih2 x2 i2 _ h
  rw [addr_Unsix_l2.eq_2] at h
  refine l_round (c_seq (c_region ?_))
  refine o1 rfl (o_p (v := (.bool (decide (x2 < 64)))) rfl ?_)
  refine o_end (e_seq (c_seq ?_))
  refine c_cond (b := (decide (x2 < 64))) rfl (fun hb238 => ?_) (fun hb238 => ?_)
  ·replace h := cond_t hb238 h
   refine c_skip (e_seq (c_seq (c_block (c_seq (c_region ?_)))))
   refine o1 rfl (o_p rfl (o1 rfl (o_p rfl (o_end (e_seq (c_seq (c_region ?_)))))))
   refine o1 rfl (o_p rfl ?_)
   replace h := bsome h
   obtain ⟨d5, h5, h⟩ := h
   refine o1 rfl (o_call has207 rfl (c_addr_Six hg X x2 _ h5) (pc rm0 pn) ?_)
   refine o1 rfl (o_p rfl ?_)
   refine o1 rfl (o_p (v := (.bool (d5 == p0))) rfl ?_)
   refine o_end (e_seq ?_)
   refine c_cond (b := (d5 == p0)) rfl (fun hb239 => ?_) (fun hb239 => ?_)
   ·replace h := cond_t hb239 h
    refine c_seq (c_region (o1 rfl (o_p rfl (o1 rfl (o_p rfl (o_end (e_seq ?_)))))))
    refine c_ret (e_blk_ret (e_then_ret (e_then_ret (e_blk_ret (ej_ret ?_)))))
    replace h := esc_some h
    obtain ⟨z1, h, rfl⟩ := h
    obtain rfl := (hk1 : z1 = _)
    refine e_then_ret (e_ret ?_)
    refine r_endt rfl rfl (kc rm0 kr) ?_
    obtain rfl := Option.some.inj h
    exact hk
   ·replace h := cond_f hb239 h
    refine c_skip (e_blk (e_seq (c_region ?_)))
    refine o1 rfl (o_p (v := (.int .i64 (w64 (x2 + 1)))) rfl ?_)
    refine o1 rfl (o_p rfl (o_end ?_))
    exact e_loop (l_sub (sc rfl (sc rfl sn)) (l_keep (kc rm0 kr) (ih2 (w64 (x2 + 1)) () trivial h)))
  ·replace h := cond_f hb238 h
   refine c_exit (e_then_exit (e_then_exit (e_blk_exit ?_)))
   obtain rfl := Option.some.inj h
   exact ej () () rfl (sc rfl sn) (kc rm0 kr)
 ·rintro d1 i1 rfl
  replace h := JK_inl hk1
  clear hk1
  refine e_seq (c_seq (c_region (o1 rfl (o_p rfl ?_))))
  refine o1 rfl (o_p (v := (.int .u8 (iband .u8 p0 63))) rfl ?_)
  refine o1 rfl (o_p (v := (.int .i64 (w64 (iband .u8 p0 63)))) rfl ?_)
  refine o1 rfl (o_p rfl (o_end (e_seq (c_ret (e_ret ?_)))))
  refine r_endt rfl rfl (kc rm0 kr) ?_
  obtain rfl := Option.some.inj h
  exact hk

theorem c_addr_Decode {g : Gw} (hg : GK g) (X : HP) (p0 : Int) (p1 : List Int) (s0 : SV) (q0 : Rd X s0 5 (enI .u8) p1) (r : Int × Int) (h : m_addr_Decode p0 p1 = some r) : Tri env g 179 (List.toArray [(.int .i64 p0), (SV.val s0)]) [X] (fun K R => K (.tuple (List.toArray [(.int .i64 r.1), (.int .i64 r.2)])) (X :: R)) := by
 refine tri_of (fn := Tryz.f179) (N := 59) Tryz.func179 rfl rfl rfl ?_
 intro R K hk
 unfold m_addr_Decode at h
 change GC _ none _ [] [(0, (.int .i64 p0)), (1, (SV.val s0))] (X :: R) g _ _
 refine c_seq (c_region (o1 rfl (o_p rfl (o1 rfl (o_p rfl (o_end (e_seq ?_)))))))
 refine c_seq (c_block (c_seq ?_))
 replace h := bsome h
 obtain ⟨d2, h, hk2⟩ := h
 refine cj (D := Unit) (ι := Unit) (fun _ i2 => True) (fun _ i2 => [(7, (.bool d2)), (0, (.int .i64 p0)), (1, (SV.val s0))]) (fun _ i2 => X :: R) ?_ ?_
 ·refine c_region (o1 rfl (o_p rfl ?_))
  refine o1 rfl (o_p (v := (.bool (p0 != 12))) rfl ?_)
  refine o1 rfl (o_p rfl ?_)
  rcases bool_or ((p0 != 12)) with hb217 | hb217
  ·replace h := cond_t hb217 h
   refine oy rfl rfl rfl hb217 (o_p rfl ?_)
   refine oy rfl rfl rfl hb217 (o_p (v := (.bool (p0 != 14))) rfl ?_)
   refine o1 rfl (o_pick_t rfl hb217 rfl ?_)
   refine o1 rfl (o_p rfl ?_)
   rcases bool_or ((p0 != 14)) with hb218 | hb218
   ·replace h := cond_t hb218 h
    refine oy rfl rfl rfl hb218 (o_p rfl ?_)
    refine oy rfl rfl rfl hb218 (o_p (v := (.bool (p0 != 16))) rfl ?_)
    refine o1 rfl (o_pick_t rfl hb218 rfl ?_)
    refine o1 rfl (o_p rfl (o_end ?_))
    obtain rfl := Option.some.inj h
    exact ej () () trivial (sc rfl (sc rfl (sc rfl sn))) (kc rm0 kr)
   ·replace h := cond_f hb218 h
    refine on rfl rfl rfl hb218 ?_
    refine on rfl rfl rfl hb218 ?_
    refine o1 rfl (o_pick_f rfl hb218 rfl ?_)
    refine o1 rfl (o_p rfl (o_end ?_))
    obtain rfl := Option.some.inj h
    exact ej () () trivial (sc rfl (sc rfl (sc rfl sn))) (kc rm0 kr)
  ·replace h := cond_f hb217 h
   refine on rfl rfl rfl hb217 ?_
   refine on rfl rfl rfl hb217 ?_
   refine o1 rfl (o_pick_f rfl hb217 rfl ?_)
   refine o1 rfl (o_p rfl ?_)
   refine on rfl rfl rfl rfl ?_
   refine on rfl rfl rfl rfl ?_
   refine o1 rfl (o_pick_f rfl rfl rfl ?_)
   refine o1 rfl (o_p rfl (o_end ?_))
   obtain rfl := Option.some.inj h
   exact ej () () trivial (sc rfl (sc rfl (sc rfl sn))) (kc rm0 kr)
 ·rintro _ i2 _
  replace h := hk2
  clear hk2
  refine e_seq ?_
  refine c_cond (b := d2) rfl (fun hb219 => ?_) (fun hb219 => ?_)
  ·replace h := cond_t hb219 h
   refine c_seq (c_region (o1 rfl (o_p rfl (o1 rfl (o_p rfl (o_end (e_seq ?_)))))))
   refine c_ret (e_blk_ret (e_then_ret (e_ret ?_)))
   refine r_endt rfl rfl (kc rm0 kr) ?_
   obtain rfl := Option.some.inj h
   exact hk
  ·replace h := cond_f hb219 h
   refine c_seq (c_region (o1 rfl (o_p rfl ?_)))
   refine o1 rfl (o_len (s := s0) rfl rfl rfl rm0 q0 ?_)
   refine o1 rfl (o_p (v := (.bool (decide ((p1.length : Int) < 2)))) rfl ?_)
   refine o1 rfl (o_p rfl (o_end (e_seq ?_)))
   refine c_cond (b := (decide ((p1.length : Int) < 2))) rfl (fun hb220 => ?_) (fun hb220 => ?_)
   ·replace h := cond_t hb220 h
    refine c_seq (c_region (o1 rfl (o_p rfl (o1 rfl (o_p rfl (o_end (e_seq ?_)))))))
    refine c_ret (e_blk_ret (e_then_ret (e_ret ?_)))
    refine r_endt rfl rfl (kc rm0 kr) ?_
    obtain rfl := Option.some.inj h
    exact hk
   ·replace h := cond_f hb220 h
    refine c_skip (e_blk (e_seq (c_seq ?_)))
    replace h := gsome h
    obtain ⟨hg221, h⟩ := h
    replace h := gsome h
    obtain ⟨hg222, h⟩ := h
    refine c_draw (n := 0) (q := [(0, 22, (SV.val s0)), (1, 23, (.pointer (some ⟨SV.blk s0, SV.off s0 + Int.toNat 0 * 1, none⟩))), (2, 24, (.int .u8 (rd p1 0))), (3, 25, (.int .i64 (w64 ((rd p1 0))))), (4, 26, (.int .i64 (ishl .i64 (w64 ((rd p1 0))) 8))), (5, 27, (SV.val s0)), (6, 28, (.pointer (some ⟨SV.blk s0, SV.off s0 + Int.toNat 1 * 1, none⟩))), (7, 29, (.int .u8 (rd p1 1))), (8, 30, (.int .i64 (w64 ((rd p1 1))))), (9, 31, (.int .i64 (ibor .i64 (ishl .i64 (w64 ((rd p1 0))) 8) (w64 ((rd p1 1)))))), (10, 6, (.int .i64 (ibor .i64 (ishl .i64 (w64 ((rd p1 0))) 8) (w64 ((rd p1 1))))))]) (pend := [0, 1, 2, 3, 4, 5, 6, 7, 8, 9, 10]) rfl rfl rfl ?_
    refine ⟨⟨fun _ => ⟨rfl, rfl, rfl, .inl ⟨rfl, (o_p rfl ⟨rfl, rfl⟩)⟩⟩, fun _ => ⟨rfl, rfl, rfl, .inl ⟨rfl, (o_ix (s := s0) (n := 0) (e := (enI .u8)) rfl rfl rfl rfl rfl rfl rm0 q0 hg221 ⟨rfl, rfl⟩)⟩⟩, fun _ => ⟨rfl, rfl, rfl, .inl ⟨rfl, (o_ldE (s := s0) (e := (enI .u8)) (n := 0) (f := 0) (v := (.int .u8 (rd p1 0))) rfl rm0 q0 hg221 rfl rfl ⟨rfl, rfl⟩)⟩⟩, fun _ => ⟨rfl, rfl, rfl, .inl ⟨rfl, (o_p (v := (.int .i64 (w64 ((rd p1 0))))) rfl ⟨rfl, rfl⟩)⟩⟩, fun _ => ⟨rfl, rfl, rfl, .inl ⟨rfl, (o_shl (m := w64 ((rd p1 0))) (n := 8) rfl rfl (by decide) ⟨rfl, rfl⟩)⟩⟩, fun _ => ⟨rfl, rfl, rfl, .inl ⟨rfl, (o_p rfl ⟨rfl, rfl⟩)⟩⟩, fun _ => ⟨rfl, rfl, rfl, .inl ⟨rfl, (o_ix (s := s0) (n := 1) (e := (enI .u8)) rfl rfl rfl rfl rfl rfl rm0 q0 hg222 ⟨rfl, rfl⟩)⟩⟩, fun _ => ⟨rfl, rfl, rfl, .inl ⟨rfl, (o_ldE (s := s0) (e := (enI .u8)) (n := 1) (f := 0) (v := (.int .u8 (rd p1 1))) rfl rm0 q0 hg222 rfl rfl ⟨rfl, rfl⟩)⟩⟩, fun _ => ⟨rfl, rfl, rfl, .inl ⟨rfl, (o_p (v := (.int .i64 (w64 ((rd p1 1))))) rfl ⟨rfl, rfl⟩)⟩⟩, fun _ => ⟨rfl, rfl, rfl, .inl ⟨rfl, (o_p (v := (.int .i64 (ibor .i64 (ishl .i64 (w64 ((rd p1 0))) 8) (w64 ((rd p1 1)))))) rfl ⟨rfl, rfl⟩)⟩⟩, fun _ => ⟨rfl, rfl, rfl, .inl ⟨rfl, (o_p rfl ⟨rfl, rfl⟩)⟩⟩, trivial⟩, rfl, rfl, rfl, ?_⟩
    refine e_seq (c_seq (c_block (c_seq ?_)))
    replace h := bsome h
    obtain ⟨d6, h, hk6⟩ := h
    refine cj (D := Unit) (ι := Unit) (fun _ i6 => True) (fun _ i6 => [(32, (.bool d6)), (6, (.int .i64 (ibor .i64 (ishl .i64 (w64 ((rd p1 0))) 8) (w64 ((rd p1 1)))))), (1, (SV.val s0))]) (fun _ i6 => X :: R) ?_ ?_
    ·refine c_region (o1 rfl (o_p rfl ?_))
     refine o1 rfl (o_p (v := (.bool (p0 == 16))) rfl ?_)
     refine o1 rfl (o_p rfl ?_)
     rcases bool_or ((p0 == 16)) with hb223 | hb223
     ·replace h := cond_t hb223 h
      refine on rfl rfl rfl hb223 ?_
      refine on rfl rfl rfl hb223 ?_
      refine on rfl rfl rfl hb223 ?_
      refine on rfl rfl rfl hb223 ?_
      refine on rfl rfl rfl hb223 ?_
      refine o1 rfl (o_pick_t rfl hb223 rfl ?_)
      refine o1 rfl (o_p rfl (o_end ?_))
      obtain rfl := Option.some.inj h
      exact ej () () trivial (sc rfl (sc rfl (sc rfl sn))) (kc rm0 kr)
     ·replace h := cond_f hb223 h
      refine oy rfl rfl rfl hb223 (o_p rfl ?_)
      replace h := gsome h
      obtain ⟨hg224, h⟩ := h
      refine oy rfl rfl rfl hb223 (o_ix (s := s0) (n := 0) (e := (enI .u8)) rfl rfl rfl rfl rfl rfl rm0 q0 hg224 ?_)
      refine oy rfl rfl rfl hb223 (o_ldE (s := s0) (e := (enI .u8)) (n := 0) (f := 0) (v := (.int .u8 (rd p1 0))) rfl rm0 q0 hg224 rfl rfl ?_)
      refine oy rfl rfl rfl hb223 (o_shr (m := (rd p1 0)) (n := 6) rfl rfl (by decide) ?_)
      refine oy rfl rfl rfl hb223 (o_p (v := (.bool ((ishr .u8 (rd p1 0) 6) == 0))) rfl ?_)
      refine o1 rfl (o_pick_f rfl hb223 rfl ?_)
      refine o1 rfl (o_p rfl (o_end ?_))
      obtain rfl := Option.some.inj h
      exact ej () () trivial (sc rfl (sc rfl (sc rfl sn))) (kc rm0 kr)
    ·rintro _ i6 _
     replace h := hk6
     clear hk6
     refine e_seq ?_
     refine c_cond (b := d6) rfl (fun hb225 => ?_) (fun hb225 => ?_)
     ·replace h := cond_t hb225 h
      refine c_seq (c_region (o1 rfl (o_p rfl (o1 rfl (o_p rfl (o1 rfl (o_p rfl (o_end ?_))))))))
      refine e_seq (c_ret (e_blk_ret (e_then_ret (e_ret ?_))))
      refine r_endt rfl rfl (kc rm0 kr) ?_
      obtain rfl := Option.some.inj h
      exact hk
     ·replace h := cond_f hb225 h
      refine c_seq (c_region (o1 rfl (o_p rfl ?_)))
      replace h := gsome h
      obtain ⟨hg226, h⟩ := h
      refine o1 rfl (o_ix (s := s0) (n := 0) (e := (enI .u8)) rfl rfl rfl rfl rfl rfl rm0 q0 hg226 ?_)
      refine o1 rfl (o_ldE (s := s0) (e := (enI .u8)) (n := 0) (f := 0) (v := (.int .u8 (rd p1 0))) rfl rm0 q0 hg226 rfl rfl ?_)
      refine o1 rfl (o_shr (m := (rd p1 0)) (n := 6) rfl rfl (by decide) ?_)
      refine o1 rfl (o_p (v := (.bool ((ishr .u8 (rd p1 0) 6) == 2))) rfl ?_)
      refine o1 rfl (o_p rfl (o_end (e_seq ?_)))
      refine c_cond (b := ((ishr .u8 (rd p1 0) 6) == 2)) rfl (fun hb227 => ?_) (fun hb227 => ?_)
      ·replace h := cond_t hb227 h
       refine c_seq (c_region (o1 rfl (o_p rfl (o1 rfl (o_p rfl (o_end (e_seq ?_)))))))
       refine c_ret (e_blk_ret (e_then_ret (e_ret ?_)))
       refine r_endt rfl rfl (kc rm0 kr) ?_
       obtain rfl := Option.some.inj h
       exact hk
      ·replace h := cond_f hb227 h
       refine c_skip (e_blk (e_seq (c_seq ?_)))
       replace h := gsome h
       obtain ⟨hg228, h⟩ := h
       replace h := gsome h
       obtain ⟨hg229, h⟩ := h
       refine c_draw (n := 2) (q := [(0, 49, (SV.val s0)), (1, 50, (.pointer (some ⟨SV.blk s0, SV.off s0 + Int.toNat 0 * 1, none⟩))), (2, 51, (.int .u8 (rd p1 0))), (5, 54, (SV.val s0)), (6, 55, (.pointer (some ⟨SV.blk s0, SV.off s0 + Int.toNat 1 * 1, none⟩))), (7, 56, (.int .u8 (rd p1 1)))]) (pend := [0, 1, 2, 5, 6, 7]) rfl rfl rfl ?_
       replace h := bsome h
       obtain ⟨d9, h9, h⟩ := h
       refine ⟨⟨fun _ => ⟨rfl, rfl, rfl, .inl ⟨rfl, (o_p rfl ⟨rfl, rfl⟩)⟩⟩, fun _ => ⟨rfl, rfl, rfl, .inl ⟨rfl, (o_ix (s := s0) (n := 0) (e := (enI .u8)) rfl rfl rfl rfl rfl rfl rm0 q0 hg228 ⟨rfl, rfl⟩)⟩⟩, fun _ => ⟨rfl, rfl, rfl, .inl ⟨rfl, (o_ldE (s := s0) (e := (enI .u8)) (n := 0) (f := 0) (v := (.int .u8 (rd p1 0))) rfl rm0 q0 hg228 rfl rfl ⟨rfl, rfl⟩)⟩⟩, fun _ => ⟨rfl, rfl, rfl, .inl ⟨rfl, (o_p rfl ⟨rfl, rfl⟩)⟩⟩, fun _ => ⟨rfl, rfl, rfl, .inl ⟨rfl, (o_ix (s := s0) (n := 1) (e := (enI .u8)) rfl rfl rfl rfl rfl rfl rm0 q0 hg229 ⟨rfl, rfl⟩)⟩⟩, fun _ => ⟨rfl, rfl, rfl, .inl ⟨rfl, (o_ldE (s := s0) (e := (enI .u8)) (n := 1) (f := 0) (v := (.int .u8 (rd p1 1))) rfl rm0 q0 hg229 rfl rfl ⟨rfl, rfl⟩)⟩⟩, trivial⟩, rfl, .inr ⟨[3], rfl, rfl, ⟨rfl, .inl rfl, ?_⟩, trivial⟩⟩
       refine (o_call has195 rfl (c_addr_Unsix hg X (rd p1 0) _ h9) (pc rm0 pn) ?_)
       refine ⟨[(4, 53, (.int .i64 (ishl .i64 d9 6)))], [5, 6, 7, 4], rfl, rfl, rfl, rfl, ?_⟩
       replace h := bsome h
       obtain ⟨d10, h10, h⟩ := h
       refine ⟨⟨fun _ => ⟨rfl, rfl, rfl, .inl ⟨rfl, (o_shl (m := d9) (n := 6) rfl rfl (by decide) ⟨rfl, rfl⟩)⟩⟩, (fun h => nomatch h), (fun h => nomatch h), (fun h => nomatch h), fun _ => ⟨rfl, rfl, rfl, .inl ⟨rfl, (o_p rfl ⟨rfl, rfl⟩)⟩⟩, fun _ => ⟨rfl, rfl, rfl, .inl ⟨rfl, (o_ix (s := s0) (n := 1) (e := (enI .u8)) rfl rfl rfl rfl rfl rfl rm0 q0 hg229 ⟨rfl, rfl⟩)⟩⟩, fun _ => ⟨rfl, rfl, rfl, .inl ⟨rfl, (o_ldE (s := s0) (e := (enI .u8)) (n := 1) (f := 0) (v := (.int .u8 (rd p1 1))) rfl rm0 q0 hg229 rfl rfl ⟨rfl, rfl⟩)⟩⟩, trivial⟩, rfl, .inr ⟨[8], rfl, rfl, ⟨rfl, .inl rfl, ?_⟩, trivial⟩⟩
       refine (o_call has195 rfl (c_addr_Unsix hg X (rd p1 1) _ h10) (pc rm0 pn) ?_)
       refine ⟨[(9, 58, (.int .i64 (ibor .i64 (ishl .i64 d9 6) d10))), (10, 4, (.int .i64 (ibor .i64 (ishl .i64 d9 6) d10))), (11, 5, (.int .i64 0))], [4, 9, 10, 11], rfl, rfl, rfl, rfl, ?_⟩
       refine ⟨⟨fun _ => ⟨rfl, rfl, rfl, .inl ⟨rfl, (o_p (v := (.int .i64 (ibor .i64 (ishl .i64 d9 6) d10))) rfl ⟨rfl, rfl⟩)⟩⟩, fun _ => ⟨rfl, rfl, rfl, .inl ⟨rfl, (o_p rfl ⟨rfl, rfl⟩)⟩⟩, fun _ => ⟨rfl, rfl, rfl, .inl ⟨rfl, (o_p rfl ⟨rfl, rfl⟩)⟩⟩, fun _ => ⟨rfl, rfl, rfl, .inl ⟨rfl, (o_shl (m := d9) (n := 6) rfl rfl (by decide) ⟨rfl, rfl⟩)⟩⟩, (fun h => nomatch h), (fun h => nomatch h), (fun h => nomatch h), (fun h => nomatch h), (fun h => nomatch h), (fun h => nomatch h), trivial⟩, rfl, rfl, rfl, ?_⟩
       refine e_seq (c_ret (e_ret ?_))
       refine r_endt rfl rfl (kc rm0 kr) ?_
       obtain rfl := Option.some.inj h
       exact hk

theorem c_order_scanner_addr {g : Gw} (hg : GK g) (X : HP) (p0 : Vorder_scanner) (b0 : Nat) (s0 : SV) (q0 : Rd X s0 5 (enI .u8) p0.p) (r : Vorder_scanner × Int) (h : m_order_scanner_addr p0 = some r) : Tri env g 151 (List.toArray [(.pointer (some ⟨b0, 0, none⟩))]) [X, blk b0 (.cells (List.toArray [(SV.val s0), (.int .i64 p0.code)]) 213 (0, 0))] (fun K R => ∀ (i0 : HP × SV), (Rd i0.1 i0.2 5 (enI .u8) r.1.p) → (Ext X i0.1) → K (.int .i64 r.2) (i0.1 :: blk b0 (.cells (List.toArray [(SV.val i0.2), (.int .i64 r.1.code)]) 213 (0, 0)) :: R)) := by
 refine tri_of (fn := Tryz.f151) (N := 24) Tryz.func151 rfl rfl rfl ?_
 intro R K hk
 unfold m_order_scanner_addr at h
 change GC _ none _ [] [(0, (.pointer (some ⟨b0, 0, none⟩)))] (X :: blk b0 (.cells (List.toArray [(SV.val s0), (.int .i64 p0.code)]) 213 (0, 0)) :: R) g _ _
 refine c_seq (c_region (o1 rfl (o_p rfl (o_end (e_seq (c_seq ?_))))))
 refine c_region (o1 rfl (o_p rfl ?_))
 replace h := bsome h
 obtain ⟨d1, h1, h⟩ := h
 refine o1 rfl (o_call has150 rfl (c_order_scanner_take hg X p0 b0 s0 q0 2 _ h1) (pc rm0 (pc rm0 pn)) (fun i1 f1_0 f1_1 f1_2 => ?_))
 refine o1 rfl (o_p rfl (o_end (e_seq (c_seq (c_seq (c_region ?_))))))
 refine o1 rfl (o_p rfl (o1 rfl (o_p rfl ?_)))
 refine o1 rfl (o_fa (fd := ⟨ "code", 57, 1, false, "", "vitrine/order", 24⟩) rfl rfl rfl rfl rfl ?_)
 refine o1 rfl (o_ld (b := b0) (off := 1) (v := (.int .i64 d1.1.code)) rfl rm1 rfl rfl ?_)
 refine o1 rfl (o_p (v := (.bool (d1.1.code != 0))) rfl ?_)
 refine o_end (e_seq ?_)
 refine c_cond (b := (d1.1.code != 0)) rfl (fun hb216 => ?_) (fun hb216 => ?_)
 ·replace h := cond_t hb216 h
  refine c_seq (c_region (o1 rfl (o_p rfl (o_end (e_seq (c_ret ?_))))))
  refine e_then_ret (e_ret ?_)
  refine r_endt rfl rfl (kc rm0 (kc rm0 kr)) ?_
  obtain rfl := Option.some.inj h
  exact hk (i1.1, i1.2.1) f1_0 f1_2
 ·replace h := cond_f hb216 h
  refine c_skip (e_seq (c_seq (c_region (o1 rfl (o_p rfl ?_)))))
  replace h := bsome h
  obtain ⟨d3, h3, h⟩ := h
  refine o1 rfl (o_call has179 rfl (c_addr_Decode hg i1.1 12 d1.2 i1.2.2 f1_1 _ h3) (pc rm0 pn) ?_)
  refine o1 rfl (o_p rfl (o1 rfl (o_p rfl (o1 rfl (o_p rfl (o1 rfl (o_p rfl (o1 rfl (o_p rfl (o_end ?_))))))))))
  refine e_seq (c_seq (c_seq (c_region (o1 rfl (o_p rfl ?_)))))
  refine o1 rfl (o_p (v := (.bool (d3.2 != 0))) rfl ?_)
  refine o_end (e_seq ?_)
  replace h := bsome h
  obtain ⟨d4, h, hk4⟩ := h
  refine cj (D := Unit) (ι := Unit) (fun _ i4 => Rd i1.1 i1.2.1 5 (enI .u8) d4.1) (fun _ i4 => [(4, (.int .i64 d3.1))]) (fun _ i4 => i1.1 :: blk b0 (.cells (List.toArray [(SV.val i1.2.1), (.int .i64 d4.2)]) 213 (0, 0)) :: R) ?_ ?_
  ·refine c_cond (b := (d3.2 != 0)) rfl (fun hb240 => ?_) (fun hb240 => ?_)
   ·replace h := cond_t hb240 h
    refine c_region (o1 rfl (o_p rfl (o1 rfl (o_p rfl ?_))))
    replace h := bsome h
    obtain ⟨d5, h5, h⟩ := h
    refine o1 rfl (o_call has178 rfl (c_order_scanner_fail hg i1.1 d1.1 b0 i1.2.1 f1_0 d3.2 _ h5) (pc rm0 (pc rm0 pn)) (fun f5_0 => ?_))
    refine o_end ?_
    obtain rfl := Option.some.inj h
    exact ej () () f5_0 (sc rfl sn) (kc rm0 (kc rm0 kr))
   ·replace h := cond_f hb240 h
    refine c_skip ?_
    obtain rfl := Option.some.inj h
    exact ej () () f1_0 (sc rfl sn) (kc rm0 (kc rm0 kr))
  ·rintro _ i4 f4_0
   replace h := hk4
   clear hk4
   refine e_seq (c_seq (c_region (o1 rfl (o_p rfl (o1 rfl (o_p rfl (o_end ?_)))))))
   refine e_seq (c_ret (e_ret ?_))
   refine r_endt rfl rfl (kc rm0 (kc rm0 kr)) ?_
   obtain rfl := Option.some.inj h
   exact hk (i1.1, i1.2.1) f4_0 f1_2

theorem c_order_scanner_character {g : Gw} (hg : GK g) (X : HP) (p0 : Vorder_scanner) (b0 : Nat) (s0 : SV) (q0 : Rd X s0 5 (enI .u8) p0.p) (r : Vorder_scanner × Int) (h : m_order_scanner_character p0 = some r) : Tri env g 152 (List.toArray [(.pointer (some ⟨b0, 0, none⟩))]) [X, blk b0 (.cells (List.toArray [(SV.val s0), (.int .i64 p0.code)]) 213 (0, 0))] (fun K R => ∀ (i0 : HP × SV), (Rd i0.1 i0.2 5 (enI .u8) r.1.p) → (Ext X i0.1) → K (.int .u8 r.2) (i0.1 :: blk b0 (.cells (List.toArray [(SV.val i0.2), (.int .i64 r.1.code)]) 213 (0, 0)) :: R)) := by
 refine tri_of (fn := Tryz.f152) (N := 13) Tryz.func152 rfl rfl rfl ?_
 intro R K hk
 unfold m_order_scanner_character at h
 change GC _ none _ [] [(0, (.pointer (some ⟨b0, 0, none⟩)))] (X :: blk b0 (.cells (List.toArray [(SV.val s0), (.int .i64 p0.code)]) 213 (0, 0)) :: R) g _ _
 refine c_seq (c_region (o1 rfl (o_p rfl (o_end (e_seq (c_seq ?_))))))
 refine c_region (o1 rfl (o_p rfl ?_))
 replace h := bsome h
 obtain ⟨d1, h1, h⟩ := h
 refine o1 rfl (o_call has150 rfl (c_order_scanner_take hg X p0 b0 s0 q0 1 _ h1) (pc rm0 (pc rm0 pn)) (fun i1 f1_0 f1_1 f1_2 => ?_))
 replace h := gsome h
 obtain ⟨hg245, h⟩ := h
 refine o1 rfl (o_ix (s := i1.2.2) (n := 0) (e := (enI .u8)) rfl rfl rfl rfl rfl rfl rm0 f1_1 hg245 ?_)
 refine o1 rfl (o_ldE (s := i1.2.2) (e := (enI .u8)) (n := 0) (f := 0) (v := (.int .u8 (rd d1.2 0))) rfl rm0 f1_1 hg245 rfl rfl ?_)
 refine o1 rfl (o_p rfl (o_end (e_seq (c_seq (c_seq (c_region ?_))))))
 refine o1 rfl (o_p rfl ?_)
 replace h := bsome h
 obtain ⟨d2, h2, h⟩ := h
 refine o1 rfl (o_call has148 rfl (c_order_Is hg i1.1 (rd d1.2 0) _ h2) (pc rm0 pn) ?_)
 refine o_end (e_seq ?_)
 replace h := bsome h
 obtain ⟨d3, h, hk3⟩ := h
 refine cj (D := Unit) (ι := Unit) (fun _ i3 => Rd i1.1 i1.2.1 5 (enI .u8) d3.1) (fun _ i3 => [(3, (.int .u8 (rd d1.2 0)))]) (fun _ i3 => i1.1 :: blk b0 (.cells (List.toArray [(SV.val i1.2.1), (.int .i64 d3.2)]) 213 (0, 0)) :: R) ?_ ?_
 ·refine c_cond (b := d2) rfl (fun hb246 => ?_) (fun hb246 => ?_)
  ·replace h := cond_t hb246 h
   refine c_region (o1 rfl (o_p rfl ?_))
   replace h := bsome h
   obtain ⟨d4, h4, h⟩ := h
   refine o1 rfl (o_call has178 rfl (c_order_scanner_fail hg i1.1 d1.1 b0 i1.2.1 f1_0 10 _ h4) (pc rm0 (pc rm0 pn)) (fun f4_0 => ?_))
   refine o_end ?_
   obtain rfl := Option.some.inj h
   exact ej () () f4_0 (sc rfl sn) (kc rm0 (kc rm0 kr))
  ·replace h := cond_f hb246 h
   refine c_skip ?_
   obtain rfl := Option.some.inj h
   exact ej () () f1_0 (sc rfl sn) (kc rm0 (kc rm0 kr))
 ·rintro _ i3 f3_0
  replace h := hk3
  clear hk3
  refine e_seq (c_seq (c_region (o1 rfl (o_p rfl (o1 rfl (o_p rfl (o_end ?_)))))))
  refine e_seq (c_ret (e_ret ?_))
  refine r_endt rfl rfl (kc rm0 (kc rm0 kr)) ?_
  obtain rfl := Option.some.inj h
  exact hk (i1.1, i1.2.1) f3_0 f1_2

theorem c_attr_Pair_Check {g : Gw} (hg : GK g) (X : HP) (p0 : Vattr_Pair) (r : Int) (h : m_attr_Pair_Check p0 = some r) : Tri env g 180 (List.toArray [(.agg (List.toArray [(.int .u8 p0.f_Type), (.int .u8 p0.Value)]))]) [X] (fun K R => K (.int .i64 r) (X :: R)) := by
 refine tri_of (fn := Tryz.f180) (N := 61) Tryz.func180 rfl rfl rfl ?_
 intro R K hk
 unfold m_attr_Pair_Check at h
 change GC _ none _ [] [(0, (.agg (List.toArray [(.int .u8 p0.f_Type), (.int .u8 p0.Value)])))] (X :: R) g _ _
 refine c_seq (c_region ?_)
 refine o1 rfl (o_box (cs := [(.int .u8 p0.f_Type), (.int .u8 p0.Value)]) rfl rfl (fun b254 => ?_))
 refine o1 rfl (o_p rfl (o_end (e_seq (c_seq (c_region ?_)))))
 refine o1 rfl (o_fa (fd := ⟨ "Value", 5, 1, false, "", "", 1⟩) rfl rfl rfl rfl rfl ?_)
 refine o1 rfl (o_ld (b := b254) (off := 1) (v := (.int .u8 p0.Value)) rfl rm0 rfl rfl ?_)
 refine o1 rfl (o_p rfl (o_end (e_seq (c_seq (c_region (o1 rfl (o_p rfl ?_)))))))
 refine o_end (e_seq (c_seq (c_seq (c_region ?_))))
 refine o1 rfl (o_fa (fd := ⟨ "Type", 5, 0, false, "", "", 0⟩) rfl rfl rfl rfl rfl ?_)
 refine o1 rfl (o_ld (b := b254) (off := 0) (v := (.int .u8 p0.f_Type)) rfl rm0 rfl rfl ?_)
 refine o_end (e_seq (c_block (c_seq (c_region ?_))))
 refine o1 rfl (o_p (v := (.bool (p0.f_Type == 0))) rfl ?_)
 refine o1 rfl (o_p rfl (o_end (e_seq ?_)))
 replace h := bsome h
 obtain ⟨d2, h, hk2⟩ := h
 refine cj (D := Unit) (ι := Unit) (fun _ i2 => True) (fun _ i2 => [(4, (.bool d2))]) (fun _ i2 => X :: R) ?_ ?_
 ·refine c_cond (b := (p0.f_Type == 0)) rfl (fun hb256 => ?_) (fun hb256 => ?_)
  ·replace h := cond_t hb256 h
   refine c_region (o1 rfl (o_p rfl ?_))
   refine o1 rfl (o_p (v := (.bool (p0.Value == 0))) rfl ?_)
   refine o1 rfl (o_p rfl (o_end ?_))
   obtain rfl := Option.some.inj h
   exact ej () () trivial (sc rfl sn) (kc rm1 (kd kr))
  ·replace h := cond_f hb256 h
   refine c_seq (c_region ?_)
   refine o1 rfl (o_p (v := (.bool (p0.f_Type == 192))) rfl ?_)
   refine o1 rfl (o_p rfl (o_end (e_seq ?_)))
   refine c_cond (b := (p0.f_Type == 192)) rfl (fun hb257 => ?_) (fun hb257 => ?_)
   ·replace h := cond_t hb257 h
    refine c_region (o1 rfl (o_p rfl (o_end ?_)))
    obtain rfl := Option.some.inj h
    exact ej () () trivial (sc rfl sn) (kc rm1 (kd kr))
   ·replace h := cond_f hb257 h
    refine c_seq (c_region ?_)
    refine o1 rfl (o_p (v := (.bool (p0.f_Type == 65))) rfl ?_)
    refine o1 rfl (o_p rfl (o_end (e_seq ?_)))
    refine c_cond (b := (p0.f_Type == 65)) rfl (fun hb258 => ?_) (fun hb258 => ?_)
    ·replace h := cond_t hb258 h
     refine c_region (o1 rfl (o_p rfl ?_))
     refine o1 rfl (o_p (v := (.bool (p0.Value == 0))) rfl ?_)
     refine o1 rfl (o_p rfl ?_)
     rcases bool_or ((p0.Value == 0)) with hb259 | hb259
     ·replace h := cond_t hb259 h
      refine on rfl rfl rfl hb259 ?_
      refine on rfl rfl rfl hb259 ?_
      refine o1 rfl (o_pick_t rfl hb259 rfl ?_)
      refine o1 rfl (o_p rfl ?_)
      refine on rfl rfl rfl rfl ?_
      refine on rfl rfl rfl rfl ?_
      refine o1 rfl (o_pick_t rfl rfl rfl ?_)
      refine o1 rfl (o_p rfl ?_)
      refine on rfl rfl rfl rfl ?_
      refine on rfl rfl rfl rfl ?_
      refine o1 rfl (o_pick_t rfl rfl rfl ?_)
      refine o1 rfl (o_p rfl ?_)
      refine on rfl rfl rfl rfl ?_
      refine on rfl rfl rfl rfl ?_
      refine o1 rfl (o_pick_t rfl rfl rfl ?_)
      refine o1 rfl (o_p rfl ?_)
      refine on rfl rfl rfl rfl ?_
      refine on rfl rfl rfl rfl ?_
      refine o1 rfl (o_pick_t rfl rfl rfl ?_)
      refine o1 rfl (o_p rfl (o_end ?_))
      obtain rfl := Option.some.inj h
      exact ej () () trivial (sc rfl sn) (kc rm1 (kd kr))
     ·replace h := cond_f hb259 h
      refine oy rfl rfl rfl hb259 (o_p rfl ?_)
      refine oy rfl rfl rfl hb259 (o_p (v := (.bool (p0.Value == 240))) rfl ?_)
      refine o1 rfl (o_pick_f rfl hb259 rfl ?_)
      refine o1 rfl (o_p rfl ?_)
      rcases bool_or ((p0.Value == 240)) with hb260 | hb260
      ·replace h := cond_t hb260 h
       refine on rfl rfl rfl hb260 ?_
       refine on rfl rfl rfl hb260 ?_
       refine o1 rfl (o_pick_t rfl hb260 rfl ?_)
       refine o1 rfl (o_p rfl ?_)
       refine on rfl rfl rfl rfl ?_
       refine on rfl rfl rfl rfl ?_
       refine o1 rfl (o_pick_t rfl rfl rfl ?_)
       refine o1 rfl (o_p rfl ?_)
       refine on rfl rfl rfl rfl ?_
       refine on rfl rfl rfl rfl ?_
       refine o1 rfl (o_pick_t rfl rfl rfl ?_)
       refine o1 rfl (o_p rfl ?_)
       refine on rfl rfl rfl rfl ?_
       refine on rfl rfl rfl rfl ?_
       refine o1 rfl (o_pick_t rfl rfl rfl ?_)
       refine o1 rfl (o_p rfl (o_end ?_))
       obtain rfl := Option.some.inj h
       exact ej () () trivial (sc rfl sn) (kc rm1 (kd kr))
      ·replace h := cond_f hb260 h
       refine oy rfl rfl rfl hb260 (o_p rfl ?_)
       refine oy rfl rfl rfl hb260 (o_p (v := (.bool (p0.Value == 241))) rfl ?_)
       refine o1 rfl (o_pick_f rfl hb260 rfl ?_)
       refine o1 rfl (o_p rfl ?_)
       rcases bool_or ((p0.Value == 241)) with hb261 | hb261
       ·replace h := cond_t hb261 h
        refine on rfl rfl rfl hb261 ?_
        refine on rfl rfl rfl hb261 ?_
        refine o1 rfl (o_pick_t rfl hb261 rfl ?_)
        refine o1 rfl (o_p rfl ?_)
        refine on rfl rfl rfl rfl ?_
        refine on rfl rfl rfl rfl ?_
        refine o1 rfl (o_pick_t rfl rfl rfl ?_)
        refine o1 rfl (o_p rfl ?_)
        refine on rfl rfl rfl rfl ?_
        refine on rfl rfl rfl rfl ?_
        refine o1 rfl (o_pick_t rfl rfl rfl ?_)
        refine o1 rfl (o_p rfl (o_end ?_))
        obtain rfl := Option.some.inj h
        exact ej () () trivial (sc rfl sn) (kc rm1 (kd kr))
       ·replace h := cond_f hb261 h
        refine oy rfl rfl rfl hb261 (o_p rfl ?_)
        refine oy rfl rfl rfl hb261 (o_p (v := (.bool (p0.Value == 242))) rfl ?_)
        refine o1 rfl (o_pick_f rfl hb261 rfl ?_)
        refine o1 rfl (o_p rfl ?_)
        rcases bool_or ((p0.Value == 242)) with hb262 | hb262
        ·replace h := cond_t hb262 h
         refine on rfl rfl rfl hb262 ?_
         refine on rfl rfl rfl hb262 ?_
         refine o1 rfl (o_pick_t rfl hb262 rfl ?_)
         refine o1 rfl (o_p rfl ?_)
         refine on rfl rfl rfl rfl ?_
         refine on rfl rfl rfl rfl ?_
         refine o1 rfl (o_pick_t rfl rfl rfl ?_)
         refine o1 rfl (o_p rfl (o_end ?_))
         obtain rfl := Option.some.inj h
         exact ej () () trivial (sc rfl sn) (kc rm1 (kd kr))
        ·replace h := cond_f hb262 h
         refine oy rfl rfl rfl hb262 (o_p rfl ?_)
         refine oy rfl rfl rfl hb262 (o_p (v := (.bool (p0.Value == 244))) rfl ?_)
         refine o1 rfl (o_pick_f rfl hb262 rfl ?_)
         refine o1 rfl (o_p rfl ?_)
         rcases bool_or ((p0.Value == 244)) with hb263 | hb263
         ·replace h := cond_t hb263 h
          refine on rfl rfl rfl hb263 ?_
          refine on rfl rfl rfl hb263 ?_
          refine o1 rfl (o_pick_t rfl hb263 rfl ?_)
          refine o1 rfl (o_p rfl (o_end ?_))
          obtain rfl := Option.some.inj h
          exact ej () () trivial (sc rfl sn) (kc rm1 (kd kr))
         ·replace h := cond_f hb263 h
          refine oy rfl rfl rfl hb263 (o_p rfl ?_)
          refine oy rfl rfl rfl hb263 (o_p (v := (.bool (p0.Value == 248))) rfl ?_)
          refine o1 rfl (o_pick_f rfl hb263 rfl ?_)
          refine o1 rfl (o_p rfl (o_end ?_))
          obtain rfl := Option.some.inj h
          exact ej () () trivial (sc rfl sn) (kc rm1 (kd kr))
    ·replace h := cond_f hb258 h
     refine c_seq (c_region ?_)
     refine o1 rfl (o_p (v := (.bool (p0.f_Type == 66))) rfl ?_)
     refine o1 rfl (o_p rfl (o_end (e_seq ?_)))
     refine c_cond (b := (p0.f_Type == 66)) rfl (fun hb264 => ?_) (fun hb264 => ?_)
     ·replace h := cond_t hb264 h
      refine c_region (o1 rfl (o_p rfl ?_))
      refine o1 rfl (o_p (v := (.bool (p0.Value == 0))) rfl ?_)
      refine o1 rfl (o_p rfl ?_)
      rcases bool_or ((p0.Value == 0)) with hb265 | hb265
      ·replace h := cond_t hb265 h
       refine on rfl rfl rfl hb265 ?_
       refine on rfl rfl rfl hb265 ?_
       refine on rfl rfl rfl hb265 ?_
       refine ou rfl rfl rfl ?_
       refine ou rfl rfl rfl ?_
       refine on rfl rfl rfl hb265 ?_
       refine o1 rfl (o_pick_t rfl hb265 rfl ?_)
       refine o1 rfl (o_p rfl (o_end ?_))
       obtain rfl := Option.some.inj h
       exact ej () () trivial (sc rfl sn) (kc rm1 (kd kr))
      ·replace h := cond_f hb265 h
       refine oy rfl rfl rfl hb265 (o_p rfl ?_)
       refine oy rfl rfl rfl hb265 (o_p (v := (.bool (decide (p0.Value ≥ 241)))) rfl ?_)
       refine oy rfl rfl rfl hb265 (o_p rfl ?_)
       rcases bool_or ((decide (p0.Value ≥ 241))) with hb266 | hb266
       ·replace h := cond_t hb266 h
        refine oy rfl rfl rfl hb266 (o_p rfl ?_)
        refine oy rfl rfl rfl hb266 (o_p (v := (.bool (decide (p0.Value ≤ 247)))) rfl ?_)
        refine oy rfl rfl rfl hb265 (o_pick_t rfl hb266 rfl ?_)
        refine o1 rfl (o_pick_f rfl hb265 rfl ?_)
        refine o1 rfl (o_p rfl (o_end ?_))
        obtain rfl := Option.some.inj h
        exact ej () () trivial (sc rfl sn) (kc rm1 (kd kr))
       ·replace h := cond_f hb266 h
        refine on rfl rfl rfl hb266 ?_
        refine on rfl rfl rfl hb266 ?_
        refine oy rfl rfl rfl hb265 (o_pick_f rfl hb266 rfl ?_)
        refine o1 rfl (o_pick_f rfl hb265 rfl ?_)
        refine o1 rfl (o_p rfl (o_end ?_))
        obtain rfl := Option.some.inj h
        exact ej () () trivial (sc rfl sn) (kc rm1 (kd kr))
     ·replace h := cond_f hb264 h
      refine c_seq (c_region ?_)
      refine o1 rfl (o_p (v := (.bool (p0.f_Type == 67))) rfl ?_)
      refine o1 rfl (o_p rfl (o_end (e_seq ?_)))
      refine c_cond (b := (p0.f_Type == 67)) rfl (fun hb267 => ?_) (fun hb267 => ?_)
      ·replace h := cond_t hb267 h
       refine c_region (o1 rfl (o_p rfl ?_))
       refine o1 rfl (o_p (v := (.bool (p0.Value == 0))) rfl ?_)
       refine o1 rfl (o_p rfl ?_)
       rcases bool_or ((p0.Value == 0)) with hb268 | hb268
       ·replace h := cond_t hb268 h
        refine on rfl rfl rfl hb268 ?_
        refine on rfl rfl rfl hb268 ?_
        refine o1 rfl (o_pick_t rfl hb268 rfl ?_)
        refine o1 rfl (o_p rfl (o_end ?_))
        obtain rfl := Option.some.inj h
        exact ej () () trivial (sc rfl sn) (kc rm1 (kd kr))
       ·replace h := cond_f hb268 h
        refine oy rfl rfl rfl hb268 (o_p rfl ?_)
        refine oy rfl rfl rfl hb268 (o_p (v := (.bool (p0.Value == 241))) rfl ?_)
        refine o1 rfl (o_pick_f rfl hb268 rfl ?_)
        refine o1 rfl (o_p rfl (o_end ?_))
        obtain rfl := Option.some.inj h
        exact ej () () trivial (sc rfl sn) (kc rm1 (kd kr))
      ·replace h := cond_f hb267 h
       refine c_skip ?_
       obtain rfl := Option.some.inj h
       exact ej () () trivial (sc rfl sn) (kc rm1 (kd kr))
 ·rintro _ i2 _
  replace h := hk2
  clear hk2
  refine e_blk (e_seq (c_seq (c_seq (c_region (o1 rfl (o_p rfl ?_))))))
  refine o1 rfl (o_p (v := (.bool (!d2))) rfl ?_)
  refine o_end (e_seq ?_)
  refine c_cond (b := (!d2)) rfl (fun hb269 => ?_) (fun hb269 => ?_)
  ·replace h := cond_t hb269 h
   refine c_seq (c_region (o1 rfl (o_p rfl (o_end (e_seq (c_ret ?_))))))
   refine e_then_ret (e_ret ?_)
   refine r_endt rfl rfl (kc rm0 kr) ?_
   obtain rfl := Option.some.inj h
   exact hk
  ·replace h := cond_f hb269 h
   refine c_skip (e_seq (c_seq (c_region (o1 rfl (o_p rfl (o_end ?_))))))
   refine e_seq (c_ret (e_ret ?_))
   refine r_endt rfl rfl (kc rm0 kr) ?_
   obtain rfl := Option.some.inj h
   exact hk

theorem c_order_scanner_pair {g : Gw} (hg : GK g) (X : HP) (p0 : Vorder_scanner) (b0 : Nat) (s0 : SV) (q0 : Rd X s0 5 (enI .u8) p0.p) (r : Vorder_scanner × (List Vattr_Pair)) (h : m_order_scanner_pair p0 = some r) : Tri env g 153 (List.toArray [(.pointer (some ⟨b0, 0, none⟩))]) [X, blk b0 (.cells (List.toArray [(SV.val s0), (.int .i64 p0.code)]) 213 (0, 0))] (fun K R => ∀ (i0 : HP × SV × SV), (Rd i0.1 i0.2.1 5 (enI .u8) r.1.p) → (Ext X i0.1) → K (SV.val i0.2.2) (i0.1 :: blk b0 (.cells (List.toArray [(SV.val i0.2.1), (.int .i64 r.1.code)]) 213 (0, 0)) :: slO i0.2.2 254 en_Vattr_Pair r.2 :: R)) := by
 refine tri_of (fn := Tryz.f153) (N := 24) Tryz.func153 rfl rfl rfl ?_
 intro R K hk
 unfold m_order_scanner_pair at h
 change GC _ none _ [] [(0, (.pointer (some ⟨b0, 0, none⟩)))] (X :: blk b0 (.cells (List.toArray [(SV.val s0), (.int .i64 p0.code)]) 213 (0, 0)) :: R) g _ _
 refine c_seq (c_region (o1 rfl (o_p rfl (o_end (e_seq (c_seq ?_))))))
 refine c_region (o1 rfl (o_p rfl ?_))
 replace h := bsome h
 obtain ⟨d1, h1, h⟩ := h
 refine o1 rfl (o_call has150 rfl (c_order_scanner_take hg X p0 b0 s0 q0 2 _ h1) (pc rm0 (pc rm0 pn)) (fun i1 f1_0 f1_1 f1_2 => ?_))
 refine o1 rfl (o_p rfl (o_end (e_seq (c_seq ?_))))
 replace h := gsome h
 obtain ⟨hg250, h⟩ := h
 replace h := gsome h
 obtain ⟨hg251, h⟩ := h
 refine c_draw (n := 2) (q := [(0, 8, (SV.val i1.2.2)), (1, 9, (.pointer (some ⟨SV.blk i1.2.2, SV.off i1.2.2 + Int.toNat 0 * 1, none⟩))), (2, 10, (.int .u8 (rd d1.2 0))), (3, 11, (SV.val i1.2.2)), (4, 12, (.pointer (some ⟨SV.blk i1.2.2, SV.off i1.2.2 + Int.toNat 1 * 1, none⟩))), (5, 13, (.int .u8 (rd d1.2 1))), (6, 14, (.agg (List.toArray [(.int .u8 (rd d1.2 0)), (.int .u8 (rd d1.2 1))])))]) (pend := [0, 1, 2, 3, 4, 5, 6]) rfl rfl rfl ?_
 refine ⟨⟨fun _ => ⟨rfl, rfl, rfl, .inl ⟨rfl, (o_p rfl ⟨rfl, rfl⟩)⟩⟩, fun _ => ⟨rfl, rfl, rfl, .inl ⟨rfl, (o_ix (s := i1.2.2) (n := 0) (e := (enI .u8)) rfl rfl rfl rfl rfl rfl rm0 f1_1 hg250 ⟨rfl, rfl⟩)⟩⟩, fun _ => ⟨rfl, rfl, rfl, .inl ⟨rfl, (o_ldE (s := i1.2.2) (e := (enI .u8)) (n := 0) (f := 0) (v := (.int .u8 (rd d1.2 0))) rfl rm0 f1_1 hg250 rfl rfl ⟨rfl, rfl⟩)⟩⟩, fun _ => ⟨rfl, rfl, rfl, .inl ⟨rfl, (o_p rfl ⟨rfl, rfl⟩)⟩⟩, fun _ => ⟨rfl, rfl, rfl, .inl ⟨rfl, (o_ix (s := i1.2.2) (n := 1) (e := (enI .u8)) rfl rfl rfl rfl rfl rfl rm0 f1_1 hg251 ⟨rfl, rfl⟩)⟩⟩, fun _ => ⟨rfl, rfl, rfl, .inl ⟨rfl, (o_ldE (s := i1.2.2) (e := (enI .u8)) (n := 1) (f := 0) (v := (.int .u8 (rd d1.2 1))) rfl rm0 f1_1 hg251 rfl rfl ⟨rfl, rfl⟩)⟩⟩, fun _ => ⟨rfl, rfl, rfl, .inl ⟨rfl, (o_build (fs := [⟨ "Type", 5, 0, false, "", "", 0⟩, ⟨ "Value", 5, 1, false, "", "", 1⟩]) (ps := [(0, 1), (1, 1)]) (cs := [(.int .u8 (rd d1.2 0)), (.int .u8 (rd d1.2 1))]) rfl rfl rfl rfl rfl ⟨rfl, rfl⟩)⟩⟩, trivial⟩, rfl, .inr ⟨[7], rfl, rfl, ⟨rfl, .inl rfl, ?_⟩, trivial⟩⟩
 refine (o_alloc (cs := [(.int .u8 0), (.int .u8 0)]) rfl rfl (fun b252 => ?_))
 refine ⟨[], [0, 1, 2, 3, 4, 5, 6], rfl, rfl, rfl, rfl, ?_⟩
 refine ⟨⟨fun _ => ⟨rfl, rfl, rfl, .inl ⟨rfl, (o_p rfl ⟨rfl, rfl⟩)⟩⟩, fun _ => ⟨rfl, rfl, rfl, .inl ⟨rfl, (o_ix (s := i1.2.2) (n := 0) (e := (enI .u8)) rfl rfl rfl rfl rfl rfl rm1 f1_1 hg250 ⟨rfl, rfl⟩)⟩⟩, fun _ => ⟨rfl, rfl, rfl, .inl ⟨rfl, (o_ldE (s := i1.2.2) (e := (enI .u8)) (n := 0) (f := 0) (v := (.int .u8 (rd d1.2 0))) rfl rm1 f1_1 hg250 rfl rfl ⟨rfl, rfl⟩)⟩⟩, fun _ => ⟨rfl, rfl, rfl, .inl ⟨rfl, (o_p rfl ⟨rfl, rfl⟩)⟩⟩, fun _ => ⟨rfl, rfl, rfl, .inl ⟨rfl, (o_ix (s := i1.2.2) (n := 1) (e := (enI .u8)) rfl rfl rfl rfl rfl rfl rm1 f1_1 hg251 ⟨rfl, rfl⟩)⟩⟩, fun _ => ⟨rfl, rfl, rfl, .inl ⟨rfl, (o_ldE (s := i1.2.2) (e := (enI .u8)) (n := 1) (f := 0) (v := (.int .u8 (rd d1.2 1))) rfl rm1 f1_1 hg251 rfl rfl ⟨rfl, rfl⟩)⟩⟩, fun _ => ⟨rfl, rfl, rfl, .inl ⟨rfl, (o_build (fs := [⟨ "Type", 5, 0, false, "", "", 0⟩, ⟨ "Value", 5, 1, false, "", "", 1⟩]) (ps := [(0, 1), (1, 1)]) (cs := [(.int .u8 (rd d1.2 0)), (.int .u8 (rd d1.2 1))]) rfl rfl rfl rfl rfl ⟨rfl, rfl⟩)⟩⟩, trivial⟩, rfl, .inr ⟨[8], rfl, rfl, ⟨rfl, .inl rfl, ?_⟩, trivial⟩⟩
 refine (o_st (b := b252) (off := 0) (vs := [(.int .u8 (rd d1.2 0)), (.int .u8 (rd d1.2 1))]) (cs' := [(.int .u8 (rd d1.2 0)), (.int .u8 (rd d1.2 1))]) rfl rfl rp0 rfl rfl rfl rfl rfl rfl ?_)
 refine ⟨[], [], rfl, rfl, ?_⟩
 refine ⟨⟨(fun h => nomatch h), (fun h => nomatch h), (fun h => nomatch h), (fun h => nomatch h), (fun h => nomatch h), (fun h => nomatch h), (fun h => nomatch h), trivial⟩, rfl, rfl, rfl, ?_⟩
 refine e_seq (c_seq (c_seq (c_region ?_)))
 refine o1 rfl (o_ld (b := b252) (off := 0) (v := (.agg (List.toArray [(.int .u8 (rd d1.2 0)), (.int .u8 (rd d1.2 1))]))) rfl rm0 rfl rfl ?_)
 replace h := bsome h
 obtain ⟨d3, h3, h⟩ := h
 refine o1 rfl (o_call has180 rfl (c_attr_Pair_Check hg i1.1 (⟨(rd d1.2 0), (rd d1.2 1)⟩ : Vattr_Pair) _ h3) (pc rm1 pn) ?_)
 refine o1 rfl (o_p rfl (o_end (e_seq (c_seq (c_region (o1 rfl (o_p rfl ?_)))))))
 refine o1 rfl (o_p (v := (.bool (d3 != 0))) rfl ?_)
 refine o_end (e_seq ?_)
 replace h := bsome h
 obtain ⟨d4, h, hk4⟩ := h
 refine cj (D := Unit) (ι := Unit) (fun _ i4 => Rd i1.1 i1.2.1 5 (enI .u8) d4.1) (fun _ i4 => [(4, (.pointer (some ⟨b252, 0, none⟩)))]) (fun _ i4 => i1.1 :: blk b252 (.cells (List.toArray [(.int .u8 (rd d1.2 0)), (.int .u8 (rd d1.2 1))]) 254 (0, 0)) :: blk b0 (.cells (List.toArray [(SV.val i1.2.1), (.int .i64 d4.2)]) 213 (0, 0)) :: R) ?_ ?_
 ·refine c_cond (b := (d3 != 0)) rfl (fun hb270 => ?_) (fun hb270 => ?_)
  ·replace h := cond_t hb270 h
   refine c_region (o1 rfl (o_p rfl (o1 rfl (o_p rfl ?_))))
   replace h := bsome h
   obtain ⟨d5, h5, h⟩ := h
   refine o1 rfl (o_call has178 rfl (c_order_scanner_fail hg i1.1 d1.1 b0 i1.2.1 f1_0 d3 _ h5) (pc rm0 (pc rm1 pn)) (fun f5_0 => ?_))
   refine o_end ?_
   obtain rfl := Option.some.inj h
   exact ej () () f5_0 (sc rfl sn) (kc rm0 (kc rm1 (kc rm0 kr)))
  ·replace h := cond_f hb270 h
   refine c_skip ?_
   obtain rfl := Option.some.inj h
   exact ej () () f1_0 (sc rfl sn) (kc rm0 (kc rm0 (kc rm0 kr)))
 ·rintro _ i4 f4_0
  replace h := hk4
  clear hk4
  refine e_seq (c_seq (c_region ?_))
  refine o1 rfl (o_ld (b := b252) (off := 0) (v := (.agg (List.toArray [(.int .u8 (rd d1.2 0)), (.int .u8 (rd d1.2 1))]))) rfl rm1 rfl rfl ?_)
  refine o1 rfl (o_bs (e := en_Vattr_Pair) (l := [(⟨(rd d1.2 0), (rd d1.2 1)⟩ : Vattr_Pair)]) (zs := [(.int .u8 0), (.int .u8 0)]) rfl rfl rfl rfl rfl rfl rfl rfl rfl rfl (fun s271 => ?_))
  refine o1 rfl (o_p rfl (o_end (e_seq (c_ret (e_ret ?_)))))
  refine r_endt rfl rfl (kc rm1 (kc rm2 (kc rm0 (kd kr)))) ?_
  obtain rfl := Option.some.inj h
  exact hk (i1.1, i1.2.1, s271) f4_0 f1_2

theorem c_attr_Parse {g : Gw} (hg : GK g) (X : HP) (p0 : List Int) (s0 : SV) (q0 : Rd X s0 5 (enI .u8) p0) (r : (List Vattr_Pair) × Int × Int) (h : m_attr_Parse p0 = some r) : Tri env g 181 (List.toArray [(SV.val s0)]) [X] (fun K R => ∀ (i0 : SV), K (.tuple (List.toArray [(SV.val i0), (.int .i64 r.2.1), (.int .i64 r.2.2)])) (X :: slO i0 254 en_Vattr_Pair r.1 :: R)) := by
 refine tri_of (fn := Tryz.f181) (N := 56) Tryz.func181 rfl rfl rfl ?_
 intro R K hk
 unfold m_attr_Parse at h
 change GC _ none _ [] [(0, (SV.val s0))] (X :: R) g _ _
 refine c_seq (c_region (o1 rfl (o_p rfl (o1 rfl (o_p rfl (o1 rfl (o_p rfl (o_end ?_))))))))
 refine e_seq (c_seq (c_seq ?_))
 replace h := bsome h
 obtain ⟨d1, h, hk1⟩ := h
 refine cj (D := Unit) (ι := Unit) (fun _ i1 => True) (fun _ i1 => [(23, (.bool d1)), (0, (SV.val s0))]) (fun _ i1 => X :: R) ?_ ?_
 ·refine c_region (o1 rfl (o_p rfl ?_))
  refine o1 rfl (o_len (s := s0) rfl rfl rfl rm0 q0 ?_)
  refine o1 rfl (o_p (v := (.bool (decide ((p0.length : Int) < 1)))) rfl ?_)
  refine o1 rfl (o_p rfl ?_)
  rcases bool_or ((decide ((p0.length : Int) < 1))) with hb277 | hb277
  ·replace h := cond_t hb277 h
   refine on rfl rfl rfl hb277 ?_
   refine on rfl rfl rfl hb277 ?_
   refine on rfl rfl rfl hb277 ?_
   refine on rfl rfl rfl hb277 ?_
   refine on rfl rfl rfl hb277 ?_
   refine on rfl rfl rfl hb277 ?_
   refine on rfl rfl rfl hb277 ?_
   refine on rfl rfl rfl hb277 ?_
   refine on rfl rfl rfl hb277 ?_
   refine o1 rfl (o_pick_t rfl hb277 rfl ?_)
   refine o_end ?_
   obtain rfl := Option.some.inj h
   exact ej () () trivial (sc rfl (sc rfl sn)) (kc rm0 kr)
  ·replace h := cond_f hb277 h
   refine oy rfl rfl rfl hb277 (o_p rfl ?_)
   refine oy rfl rfl rfl hb277 (o_len (s := s0) rfl rfl rfl rm0 q0 ?_)
   refine oy rfl rfl rfl hb277 (o_p rfl ?_)
   replace h := gsome h
   obtain ⟨hg278, h⟩ := h
   refine oy rfl rfl rfl hb277 (o_ix (s := s0) (n := 0) (e := (enI .u8)) rfl rfl rfl rfl rfl rfl rm0 q0 hg278 ?_)
   refine oy rfl rfl rfl hb277 (o_ldE (s := s0) (e := (enI .u8)) (n := 0) (f := 0) (v := (.int .u8 (rd p0 0))) rfl rm0 q0 hg278 rfl rfl ?_)
   refine oy rfl rfl rfl hb277 (o_p (v := (.int .i64 (w64 ((rd p0 0))))) rfl ?_)
   refine oy rfl rfl rfl hb277 (o_p (v := (.int .i64 (w64 (2 * (w64 ((rd p0 0))))))) rfl ?_)
   refine oy rfl rfl rfl hb277 (o_p (v := (.int .i64 (w64 (1 + (w64 (2 * (w64 ((rd p0 0))))))))) rfl ?_)
   refine oy rfl rfl rfl hb277 (o_p (v := (.bool (decide ((p0.length : Int) < (w64 (1 + (w64 (2 * (w64 ((rd p0 0))))))))))) rfl ?_)
   refine o1 rfl (o_pick_f rfl hb277 rfl ?_)
   refine o_end ?_
   obtain rfl := Option.some.inj h
   exact ej () () trivial (sc rfl (sc rfl sn)) (kc rm0 kr)
 ·rintro _ i1 _
  replace h := hk1
  clear hk1
  refine e_seq ?_
  refine c_cond (b := d1) rfl (fun hb279 => ?_) (fun hb279 => ?_)
  ·replace h := cond_t hb279 h
   refine c_seq (c_region (o1 rfl (o_p rfl (o1 rfl (o_p rfl (o1 rfl (o_p rfl (o_end ?_))))))))
   refine e_seq (c_ret (e_then_ret (e_ret ?_)))
   refine r_add (slO SV.nil 254 en_Vattr_Pair []) (slO_nil _ _ _) ?_
   refine r_endt rfl rfl (kc rm1 (kc rm0 kr)) ?_
   obtain rfl := Option.some.inj h
   exact hk SV.nil
  ·replace h := cond_f hb279 h
   refine c_skip (e_seq (c_seq (c_region (o1 rfl (o_p rfl (o_end ?_))))))
   refine e_seq (c_seq (c_region (o1 rfl (o_p rfl ?_))))
   replace h := gsome h
   obtain ⟨hg280, h⟩ := h
   refine o1 rfl (o_ix (s := s0) (n := 0) (e := (enI .u8)) rfl rfl rfl rfl rfl rfl rm0 q0 hg280 ?_)
   refine o1 rfl (o_ldE (s := s0) (e := (enI .u8)) (n := 0) (f := 0) (v := (.int .u8 (rd p0 0))) rfl rm0 q0 hg280 rfl rfl ?_)
   refine o1 rfl (o_p (v := (.int .i64 (w64 ((rd p0 0))))) rfl ?_)
   refine o1 rfl (o_p (v := (.int .i64 (w64 (2 * (w64 ((rd p0 0))))))) rfl ?_)
   refine o1 rfl (o_p (v := (.int .i64 (w64 (1 + (w64 (2 * (w64 ((rd p0 0))))))))) rfl ?_)
   refine o1 rfl (o_p rfl (o_end (e_seq (c_seq (c_seq (c_region ?_))))))
   refine o1 rfl (o_p rfl (o_end (e_seq ?_)))
   replace h := jn_some h
   obtain ⟨y3, h, hk3⟩ := h
   refine cj (D := (List Vattr_Pair)) (ι := SV) (fun d3 i3 => y3 = Sum.inl d3) (fun d3 i3 => [(6, (.int .i64 (w64 (1 + (w64 (2 * (w64 ((rd p0 0))))))))), (5, (SV.val i3))]) (fun d3 i3 => X :: slO i3 254 en_Vattr_Pair d3 :: R) ?_ ?_
   ·refine c_block ?_
    refine c_add (slO SV.nil 254 en_Vattr_Pair []) (slO_nil _ _ _) ?_
    refine c_loop (l_sub (sc rfl (sc rfl (sc rfl (sc rfl sn)))) (l_keep (kc rm1 (kc rm0 kr)) (lf (X := Int × (List Vattr_Pair)) (ι := SV) (fun k x => attr_Parse_l4 p0 k x) _ (fun x4 i4 => True) (fun x4 i4 => [(7, (.int .i64 x4.1)), (6, (.int .i64 (w64 (1 + (w64 (2 * (w64 ((rd p0 0))))))))), (5, (SV.val i4)), (0, (SV.val s0))]) (fun x4 i4 => X :: slO i4 254 en_Vattr_Pair x4.2 :: R) (fun _ => rfl) ?_ fuel (1, ([] : List Vattr_Pair)) SV.nil trivial h)))
    clear h
    rintro k4 ih4 x4 i4 _ h
    rw [attr_Parse_l4.eq_2] at h
    refine l_round (c_seq (c_seq (c_region (o1 rfl (o_p rfl (o1 rfl (o_p rfl ?_)))))))
    refine o1 rfl (o_p (v := (.bool (decide (x4.1 < (w64 (1 + (w64 (2 * (w64 ((rd p0 0))))))))))) rfl ?_)
    refine o_end (e_seq ?_)
    refine c_cond (b := (decide (x4.1 < (w64 (1 + (w64 (2 * (w64 ((rd p0 0)))))))))) rfl (fun hb306 => ?_) (fun hb306 => ?_)
    ·replace h := cond_t hb306 h
     refine c_skip (e_seq (c_seq (c_block (c_seq ?_))))
     replace h := gsome h
     obtain ⟨hg307, h⟩ := h
     replace h := gsome h
     obtain ⟨hg308, h⟩ := h
     refine c_draw (n := 2) (q := [(0, 35, (SV.val s0)), (1, 36, (.int .i64 x4.1)), (2, 37, (.pointer (some ⟨SV.blk s0, SV.off s0 + Int.toNat x4.1 * 1, none⟩))), (3, 38, (.int .u8 (rd p0 x4.1))), (4, 39, (SV.val s0)), (5, 40, (.int .i64 x4.1)), (6, 41, (.int .i64 (w64 (x4.1 + 1)))), (7, 42, (.pointer (some ⟨SV.blk s0, SV.off s0 + Int.toNat (w64 (x4.1 + 1)) * 1, none⟩))), (8, 43, (.int .u8 (rd p0 (w64 (x4.1 + 1))))), (9, 44, (.agg (List.toArray [(.int .u8 (rd p0 x4.1)), (.int .u8 (rd p0 (w64 (x4.1 + 1))))])))]) (pend := [0, 1, 2, 3, 4, 5, 6, 7, 8, 9]) rfl rfl rfl ?_
     refine ⟨⟨fun _ => ⟨rfl, rfl, rfl, .inl ⟨rfl, (o_p rfl ⟨rfl, rfl⟩)⟩⟩, fun _ => ⟨rfl, rfl, rfl, .inl ⟨rfl, (o_p rfl ⟨rfl, rfl⟩)⟩⟩, fun _ => ⟨rfl, rfl, rfl, .inl ⟨rfl, (o_ix (s := s0) (n := x4.1) (e := (enI .u8)) rfl rfl rfl rfl rfl rfl rm0 q0 hg307 ⟨rfl, rfl⟩)⟩⟩, fun _ => ⟨rfl, rfl, rfl, .inl ⟨rfl, (o_ldE (s := s0) (e := (enI .u8)) (n := x4.1) (f := 0) (v := (.int .u8 (rd p0 x4.1))) rfl rm0 q0 hg307 rfl rfl ⟨rfl, rfl⟩)⟩⟩, fun _ => ⟨rfl, rfl, rfl, .inl ⟨rfl, (o_p rfl ⟨rfl, rfl⟩)⟩⟩, fun _ => ⟨rfl, rfl, rfl, .inl ⟨rfl, (o_p rfl ⟨rfl, rfl⟩)⟩⟩, fun _ => ⟨rfl, rfl, rfl, .inl ⟨rfl, (o_p (v := (.int .i64 (w64 (x4.1 + 1)))) rfl ⟨rfl, rfl⟩)⟩⟩, fun _ => ⟨rfl, rfl, rfl, .inl ⟨rfl, (o_ix (s := s0) (n := w64 (x4.1 + 1)) (e := (enI .u8)) rfl rfl rfl rfl rfl rfl rm0 q0 hg308 ⟨rfl, rfl⟩)⟩⟩, fun _ => ⟨rfl, rfl, rfl, .inl ⟨rfl, (o_ldE (s := s0) (e := (enI .u8)) (n := w64 (x4.1 + 1)) (f := 0) (v := (.int .u8 (rd p0 (w64 (x4.1 + 1))))) rfl rm0 q0 hg308 rfl rfl ⟨rfl, rfl⟩)⟩⟩, fun _ => ⟨rfl, rfl, rfl, .inl ⟨rfl, (o_build (fs := [⟨ "Type", 5, 0, false, "", "", 0⟩, ⟨ "Value", 5, 1, false, "", "", 1⟩]) (ps := [(0, 1), (1, 1)]) (cs := [(.int .u8 (rd p0 x4.1)), (.int .u8 (rd p0 (w64 (x4.1 + 1))))]) rfl rfl rfl rfl rfl ⟨rfl, rfl⟩)⟩⟩, trivial⟩, rfl, .inr ⟨[10], rfl, rfl, ⟨rfl, .inl rfl, ?_⟩, trivial⟩⟩
     refine (o_alloc (cs := [(.int .u8 0), (.int .u8 0)]) rfl rfl (fun b309 => ?_))
     refine ⟨[], [0, 1, 2, 3, 4, 5, 6, 7, 8, 9], rfl, rfl, rfl, rfl, ?_⟩
     refine ⟨⟨fun _ => ⟨rfl, rfl, rfl, .inl ⟨rfl, (o_p rfl ⟨rfl, rfl⟩)⟩⟩, fun _ => ⟨rfl, rfl, rfl, .inl ⟨rfl, (o_p rfl ⟨rfl, rfl⟩)⟩⟩, fun _ => ⟨rfl, rfl, rfl, .inl ⟨rfl, (o_ix (s := s0) (n := x4.1) (e := (enI .u8)) rfl rfl rfl rfl rfl rfl rm1 q0 hg307 ⟨rfl, rfl⟩)⟩⟩, fun _ => ⟨rfl, rfl, rfl, .inl ⟨rfl, (o_ldE (s := s0) (e := (enI .u8)) (n := x4.1) (f := 0) (v := (.int .u8 (rd p0 x4.1))) rfl rm1 q0 hg307 rfl rfl ⟨rfl, rfl⟩)⟩⟩, fun _ => ⟨rfl, rfl, rfl, .inl ⟨rfl, (o_p rfl ⟨rfl, rfl⟩)⟩⟩, fun _ => ⟨rfl, rfl, rfl, .inl ⟨rfl, (o_p rfl ⟨rfl, rfl⟩)⟩⟩, fun _ => ⟨rfl, rfl, rfl, .inl ⟨rfl, (o_p (v := (.int .i64 (w64 (x4.1 + 1)))) rfl ⟨rfl, rfl⟩)⟩⟩, fun _ => ⟨rfl, rfl, rfl, .inl ⟨rfl, (o_ix (s := s0) (n := w64 (x4.1 + 1)) (e := (enI .u8)) rfl rfl rfl rfl rfl rfl rm1 q0 hg308 ⟨rfl, rfl⟩)⟩⟩, fun _ => ⟨rfl, rfl, rfl, .inl ⟨rfl, (o_ldE (s := s0) (e := (enI .u8)) (n := w64 (x4.1 + 1)) (f := 0) (v := (.int .u8 (rd p0 (w64 (x4.1 + 1))))) rfl rm1 q0 hg308 rfl rfl ⟨rfl, rfl⟩)⟩⟩, fun _ => ⟨rfl, rfl, rfl, .inl ⟨rfl, (o_build (fs := [⟨ "Type", 5, 0, false, "", "", 0⟩, ⟨ "Value", 5, 1, false, "", "", 1⟩]) (ps := [(0, 1), (1, 1)]) (cs := [(.int .u8 (rd p0 x4.1)), (.int .u8 (rd p0 (w64 (x4.1 + 1))))]) rfl rfl rfl rfl rfl ⟨rfl, rfl⟩)⟩⟩, trivial⟩, rfl, .inr ⟨[11], rfl, rfl, ⟨rfl, .inl rfl, ?_⟩, trivial⟩⟩
     refine (o_st (b := b309) (off := 0) (vs := [(.int .u8 (rd p0 x4.1)), (.int .u8 (rd p0 (w64 (x4.1 + 1))))]) (cs' := [(.int .u8 (rd p0 x4.1)), (.int .u8 (rd p0 (w64 (x4.1 + 1))))]) rfl rfl rp0 rfl rfl rfl rfl rfl rfl ?_)
     refine ⟨[], [], rfl, rfl, ?_⟩
     refine ⟨⟨(fun h => nomatch h), (fun h => nomatch h), (fun h => nomatch h), (fun h => nomatch h), (fun h => nomatch h), (fun h => nomatch h), (fun h => nomatch h), (fun h => nomatch h), (fun h => nomatch h), (fun h => nomatch h), trivial⟩, rfl, rfl, rfl, ?_⟩
     refine e_seq (c_seq (c_seq (c_region ?_)))
     refine o1 rfl (o_ld (b := b309) (off := 0) (v := (.agg (List.toArray [(.int .u8 (rd p0 x4.1)), (.int .u8 (rd p0 (w64 (x4.1 + 1))))]))) rfl rm0 rfl rfl ?_)
     replace h := bsome h
     obtain ⟨d8, h8, h⟩ := h
     refine o1 rfl (o_call has180 rfl (c_attr_Pair_Check hg X (⟨(rd p0 x4.1), (rd p0 (w64 (x4.1 + 1)))⟩ : Vattr_Pair) _ h8) (pc rm1 pn) ?_)
     refine o1 rfl (o_p rfl (o_end (e_seq (c_seq (c_region (o1 rfl (o_p rfl ?_)))))))
     refine o1 rfl (o_p (v := (.bool (d8 != 0))) rfl ?_)
     refine o_end (e_seq ?_)
     refine c_cond (b := (d8 != 0)) rfl (fun hb311 => ?_) (fun hb311 => ?_)
     ·replace h := cond_t hb311 h
      refine c_seq (c_region (o1 rfl (o_p rfl (o1 rfl (o_p rfl (o1 rfl (o_p rfl (o1 rfl (o_p rfl ?_)))))))))
      refine o_end (e_seq (c_ret (e_then_ret (e_blk_ret (e_then_ret ?_)))))
      refine e_then_ret (e_blk_ret (ej_ret ?_))
      replace h := esc_some h
      obtain ⟨z3, h, rfl⟩ := h
      obtain rfl := (hk3 : z3 = _)
      refine e_then_ret (e_ret ?_)
      refine r_add (slO SV.nil 254 en_Vattr_Pair []) (slO_nil _ _ _) ?_
      refine r_endt rfl rfl (kc rm1 (kc rm0 (kd (kd kr)))) ?_
      obtain rfl := Option.some.inj h
      exact hk SV.nil
     ·replace h := cond_f hb311 h
      refine c_skip (e_seq (c_region (o1 rfl (o_p rfl ?_))))
      refine o1 rfl (o_ld (b := b309) (off := 0) (v := (.agg (List.toArray [(.int .u8 (rd p0 x4.1)), (.int .u8 (rd p0 (w64 (x4.1 + 1))))]))) rfl rm1 rfl rfl ?_)
      refine o1 rfl (o_bs (e := en_Vattr_Pair) (l := [(⟨(rd p0 x4.1), (rd p0 (w64 (x4.1 + 1)))⟩ : Vattr_Pair)]) (zs := [(.int .u8 0), (.int .u8 0)]) rfl rfl rfl rfl rfl rfl rfl rfl rfl rfl (fun s312 => ?_))
      replace h := gsome h
      obtain ⟨hg314, h⟩ := h
      refine o1 rfl (o_app (s := i4) (r := s312) (e := en_Vattr_Pair) (l := x4.2) (l2 := [(⟨(rd p0 x4.1), (rd p0 (w64 (x4.1 + 1)))⟩ : Vattr_Pair)]) (zs := [(.int .u8 0), (.int .u8 0)]) rfl rfl rfl rfl rfl rfl rfl rfl rfl rfl rfl rm3 rm0 (rd_own _ _ _ _) hg314 (fun s315 => ?_))
      refine o1 rfl (o_p rfl (o_end (e_blk (e_seq (c_region (o1 rfl (o_p rfl ?_)))))))
      refine o1 rfl (o_p (v := (.int .i64 (w64 (x4.1 + 2)))) rfl ?_)
      refine o1 rfl (o_p rfl (o_end ?_))
      exact e_loop (l_sub (sc rfl (sc rfl (sc rfl (sc rfl sn)))) (l_keep (kc rm2 (kc rm0 (kd (kd kr)))) (ih4 (w64 (x4.1 + 2), (x4.2 ++ [(⟨(rd p0 x4.1), (rd p0 (w64 (x4.1 + 1)))⟩ : Vattr_Pair)])) s315 trivial h)))
    ·replace h := cond_f hb306 h
     refine c_exit (e_then_exit (e_then_exit (e_blk_exit ?_)))
     obtain rfl := Option.some.inj h
     exact ej x4.2 i4 rfl (sc rfl (sc rfl sn)) (kc rm0 (kc rm0 kr))
   ·rintro d3 i3 rfl
    replace h := JK_inl hk3
    clear hk3
    refine e_seq (c_seq (c_region (o1 rfl (o_p rfl (o1 rfl (o_p rfl (o1 rfl (o_p rfl ?_))))))))
    refine o1 rfl (o_p rfl (o1 rfl (o_p rfl (o_end (e_seq (c_ret (e_ret ?_)))))))
    refine r_endt rfl rfl (kc rm0 (kc rm0 kr)) ?_
    obtain rfl := Option.some.inj h
    exact hk i3

theorem c_order_scanner_pairs {g : Gw} (hg : GK g) (X : HP) (p0 : Vorder_scanner) (b0 : Nat) (s0 : SV) (q0 : Rd X s0 5 (enI .u8) p0.p) (r : Vorder_scanner × (List Vattr_Pair)) (h : m_order_scanner_pairs p0 = some r) : Tri env g 154 (List.toArray [(.pointer (some ⟨b0, 0, none⟩))]) [X, blk b0 (.cells (List.toArray [(SV.val s0), (.int .i64 p0.code)]) 213 (0, 0))] (fun K R => ∀ (i0 : HP × SV × SV), (Rd i0.1 i0.2.1 5 (enI .u8) r.1.p) → (Ext X i0.1) → K (SV.val i0.2.2) (i0.1 :: blk b0 (.cells (List.toArray [(SV.val i0.2.1), (.int .i64 r.1.code)]) 213 (0, 0)) :: slO i0.2.2 254 en_Vattr_Pair r.2 :: R)) := by
 refine tri_of (fn := Tryz.f154) (N := 24) Tryz.func154 rfl rfl rfl ?_
 intro R K hk
 unfold m_order_scanner_pairs at h
 change GC _ none _ [] [(0, (.pointer (some ⟨b0, 0, none⟩)))] (X :: blk b0 (.cells (List.toArray [(SV.val s0), (.int .i64 p0.code)]) 213 (0, 0)) :: R) g _ _
 refine c_seq (c_region (o1 rfl (o_p rfl (o_end (e_seq (c_seq ?_))))))
 refine c_region (o1 rfl (o_p rfl (o1 rfl (o_p rfl ?_))))
 refine o1 rfl (o_fa (fd := ⟨ "p", 46, 0, false, "", "vitrine/order", 0⟩) rfl rfl rfl rfl rfl ?_)
 refine o1 rfl (o_ld (b := b0) (off := 0) (v := (SV.val s0)) rfl rm1 rfl rfl ?_)
 replace h := bsome h
 obtain ⟨d1, h1, h⟩ := h
 refine o1 rfl (o_call has181 rfl (c_attr_Parse hg X p0.p s0 q0 _ h1) (pc rm0 pn) (fun i1 => ?_))
 refine o1 rfl (o_p rfl (o1 rfl (o_p rfl (o1 rfl (o_p rfl (o1 rfl (o_p rfl (o1 rfl (o_p rfl (o1 rfl (o_p rfl ?_)))))))))))
 refine o1 rfl (o_p rfl (o_end (e_seq (c_seq (c_seq (c_region ?_))))))
 refine o1 rfl (o_p rfl ?_)
 refine o1 rfl (o_p (v := (.bool (d1.2.2 != 0))) rfl ?_)
 refine o_end (e_seq ?_)
 refine c_cond (b := (d1.2.2 != 0)) rfl (fun hb324 => ?_) (fun hb324 => ?_)
 ·replace h := cond_t hb324 h
  refine c_seq (c_region (o1 rfl (o_p rfl (o1 rfl (o_p rfl ?_)))))
  replace h := bsome h
  obtain ⟨d3, h3, h⟩ := h
  refine o1 rfl (o_call has178 rfl (c_order_scanner_fail hg X p0 b0 s0 q0 d1.2.2 _ h3) (pc rm0 (pc rm1 pn)) (fun f3_0 => ?_))
  refine o_end (e_seq (c_seq (c_region (o1 rfl (o_p rfl (o_end ?_))))))
  refine e_seq (c_ret (e_then_ret (e_ret ?_)))
  refine r_add (slO SV.nil 254 en_Vattr_Pair []) (slO_nil _ _ _) ?_
  refine r_endt rfl rfl (kc rm1 (kc rm1 (kc rm0 (kd kr)))) ?_
  obtain rfl := Option.some.inj h
  exact hk (X, s0, SV.nil) f3_0 (Ext.refl _)
 ·replace h := cond_f hb324 h
  refine c_skip (e_seq (c_seq (c_region (o1 rfl (o_p rfl (o1 rfl (o_p rfl ?_)))))))
  replace h := bsome h
  obtain ⟨d4, h4, h⟩ := h
  refine o1 rfl (o_call has150 rfl (c_order_scanner_take hg X p0 b0 s0 q0 d1.2.1 _ h4) (pc rm0 (pc rm1 pn)) (fun i4 f4_0 f4_1 f4_2 => ?_))
  refine o_end (e_seq (c_seq (c_region (o1 rfl (o_p rfl (o1 rfl (o_p rfl ?_)))))))
  refine o_end (e_seq (c_ret (e_ret ?_)))
  refine r_endt rfl rfl (kc rm0 (kc rm0 (kc rm0 kr))) ?_
  obtain rfl := Option.some.inj h
  exact hk (i4.1, i4.2.1, i1) f4_0 f4_2

end Go.Vt
