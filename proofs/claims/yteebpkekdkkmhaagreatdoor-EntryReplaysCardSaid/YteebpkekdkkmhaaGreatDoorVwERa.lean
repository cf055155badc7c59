/- The walks: each function does what its model says. No conditions. -/
import Derived.Test.YteebpkekdkkmhaaGreatDoorVmEM
import Derived.Test.YteebpkekdkkmhaaGreatDoorProg
import Derived.KernelRfl
set_option linter.unusedVariables false
set_option maxRecDepth 100000
set_option maxHeartbeats 4000000
namespace Go.Vt
open Go.Proofs
theorem si {α : Type _} {a b : α} (h : some a = some b) : a = b := Option.some.inj h
section
variable {E : Env} {ro : Option Nat} {N : Nat} {ds : List Deferred} {T : List (Nat × Value)} {H : List HP} {g : Gw} {Q : Qt}
theorem cr {id : Nat} {l : List Oper} {y : Code} (h : GO E ro N ds T H g l l (Exit.then (y.wpIn (W ro) 0 E.P Q) Q)) : GC E ro N ds T H g (.seq (.region id l.toArray false) y) Q := c_seq (c_region h)
theorem oe {l : List Oper} {y : Code} (h : GC E ro N ds T H g y Q) : GO E ro N ds T H g l [] (Exit.then (y.wpIn (W ro) 0 E.P Q) Q) := o_end (e_seq h)
theorem op {l rest : List Oper} {d : Nat} {o : Op} {ty : TypeId} {pos : String} {af : Array Edge} {v : Value} (hd : Nat.blt d N = true) (hv : pv E.tt T o = some v) (h : GO E ro N ds ((d, v) :: T) H g l rest Q) : GO E ro N ds T H g l (⟨some d, o, ty, pos, af, none⟩ :: rest) Q := o1 hd (o_p hv h)
end
abbrev f_0 : List Field := [⟨ "Type", 5, 0, false, "", "", 0⟩, ⟨ "Value", 5, 1, false, "", "", 1⟩]
abbrev f_1 : List Field := [⟨ "Char", 5, 0, false, "", "", 0⟩, ⟨ "Attr", 4, 1, false, "", "", 1⟩, ⟨ "FA", 5, 2, false, "", "", 2⟩, ⟨ "High", 5, 3, false, "", "", 3⟩, ⟨ "Color", 5, 4, false, "", "", 4⟩, ⟨ "Set", 5, 5, false, "", "", 5⟩]
abbrev f_2 : List Field := [⟨ "Rows", 3, 0, false, "", "", 0⟩, ⟨ "Cols", 3, 1, false, "", "", 8⟩]
abbrev f_3 : List Field := [⟨ "AID", 5, 0, false, "", "", 0⟩, ⟨ "Short", 4, 1, false, "", "", 1⟩, ⟨ "Cursor", 3, 2, false, "", "", 8⟩, ⟨ "Entries", 54, 3, false, "", "", 16⟩]
abbrev f_4 : List Field := [⟨ "Kind", 3, 0, false, "", "", 0⟩, ⟨ "Addr", 3, 1, false, "", "", 8⟩, ⟨ "Code", 5, 2, false, "", "", 16⟩, ⟨ "Graph", 4, 3, false, "", "", 17⟩, ⟨ "FA", 5, 4, false, "", "", 18⟩, ⟨ "Pairs", 79, 5, false, "", "", 24⟩, ⟨ "Text", 28, 6, false, "", "", 48⟩]
abbrev f_5 : List Field := [⟨ "Kind", 3, 0, false, "", "", 0⟩, ⟨ "Addr", 3, 1, false, "", "", 8⟩, ⟨ "Code", 5, 2, false, "", "", 16⟩, ⟨ "Graph", 4, 3, false, "", "", 17⟩, ⟨ "FA", 5, 4, false, "", "", 18⟩, ⟨ "Pairs", 89, 5, false, "", "", 24⟩, ⟨ "Text", 28, 6, false, "", "", 48⟩]
abbrev f_6 : List Field := [⟨ "Command", 3, 0, false, "", "", 0⟩, ⟨ "Restore", 4, 1, false, "", "", 8⟩, ⟨ "Alarm", 4, 2, false, "", "", 9⟩, ⟨ "Reset", 4, 3, false, "", "", 10⟩, ⟨ "Pieces", 3, 4, false, "", "", 16⟩, ⟨ "Fields", 28, 5, false, "", "", 24⟩]
abbrev f_7 : List Field := [⟨ "p", 28, 0, false, "", "vitrine/order", 0⟩, ⟨ "code", 29, 1, false, "", "vitrine/order", 24⟩]
abbrev f_8 : List Field := [⟨ "Addr", 3, 0, false, "", "", 0⟩, ⟨ "Text", 28, 1, false, "", "", 8⟩]
theorem J {α : Sort _} {a : α} : a = a := rfl
abbrev I (x : Int) : Value := .int .i64 x
abbrev U (x : Int) : Value := .int .u8 x
abbrev O (x : Bool) : Value := .bool x
abbrev V (x : SV) : Value := SV.val x
abbrev A {α : Type} (l : List α) : Array α := List.toArray l
abbrev F (b o : Nat) : Value := .pointer (some ⟨b, o, none⟩)
def tt : List (Nat × TI) := [
 (3, ⟨(.int .i64), 1, (.int .i64 0), 8⟩),
 (4, ⟨.bool, 1, (.bool false), 1⟩),
 (5, ⟨(.int .u8), 1, (.int .u8 0), 1⟩),
 (9, ⟨.string, 1, (.string ⟨#[]⟩), 16⟩),
 (22, ⟨(.slice 65), 1, (.slice none 0 0), 24⟩),
 (24, ⟨(.pointer 105), 1, (.pointer none), 8⟩),
 (25, ⟨(.pointer 40), 1, (.pointer none), 8⟩),
 (28, ⟨(.slice 5), 1, (.slice none 0 0), 24⟩),
 (29, ⟨(.int .i64), 1, (.int .i64 0), 8⟩),
 (33, ⟨(.slice 49), 1, (.slice none 0 0), 24⟩),
 (38, ⟨(.struct #[⟨ "Rows", 3, 0, false, "", "", 0⟩, ⟨ "Cols", 3, 1, false, "", "", 8⟩]), 2, (.agg #[(.int .i64 0), (.int .i64 0)]), 16⟩),
 (40, ⟨(.struct #[⟨ "Model", 3, 0, false, "", "", 0⟩, ⟨ "Alt", 4, 1, false, "", "", 8⟩, ⟨ "Size", 38, 2, false, "", "", 16⟩, ⟨ "L", 33, 4, false, "", "", 32⟩, ⟨ "Cursor", 3, 5, false, "", "", 56⟩]), 6, (.agg #[(.int .i64 0), (.bool false), (.int .i64 0), (.int .i64 0), (.slice none 0 0), (.int .i64 0)]), 64⟩),
 (44, ⟨(.struct #[⟨ "Command", 3, 0, false, "", "", 0⟩, ⟨ "Restore", 4, 1, false, "", "", 8⟩, ⟨ "Alarm", 4, 2, false, "", "", 9⟩, ⟨ "Reset", 4, 3, false, "", "", 10⟩, ⟨ "Pieces", 3, 4, false, "", "", 16⟩, ⟨ "Fields", 28, 5, false, "", "", 24⟩]), 6, (.agg #[(.int .i64 0), (.bool false), (.bool false), (.bool false), (.int .i64 0), (.slice none 0 0)]), 48⟩),
 (49, ⟨(.struct #[⟨ "Char", 5, 0, false, "", "", 0⟩, ⟨ "Attr", 4, 1, false, "", "", 1⟩, ⟨ "FA", 5, 2, false, "", "", 2⟩, ⟨ "High", 5, 3, false, "", "", 3⟩, ⟨ "Color", 5, 4, false, "", "", 4⟩, ⟨ "Set", 5, 5, false, "", "", 5⟩]), 6, (.agg #[(.int .u8 0), (.bool false), (.int .u8 0), (.int .u8 0), (.int .u8 0), (.int .u8 0)]), 6⟩),
 (54, ⟨(.slice 60), 1, (.slice none 0 0), 24⟩),
 (56, ⟨(.struct #[⟨ "AID", 5, 0, false, "", "", 0⟩, ⟨ "Short", 4, 1, false, "", "", 1⟩, ⟨ "Cursor", 3, 2, false, "", "", 8⟩, ⟨ "Entries", 54, 3, false, "", "", 16⟩]), 4, (.agg #[(.int .u8 0), (.bool false), (.int .i64 0), (.slice none 0 0)]), 40⟩),
 (60, ⟨(.struct #[⟨ "Addr", 3, 0, false, "", "", 0⟩, ⟨ "Text", 28, 1, false, "", "", 8⟩]), 2, (.agg #[(.int .i64 0), (.slice none 0 0)]), 32⟩),
 (65, ⟨(.struct #[⟨ "Do", 5, 0, false, "", "", 0⟩, ⟨ "N", 3, 1, false, "", "", 8⟩, ⟨ "On", 4, 2, false, "", "", 16⟩, ⟨ "Code", 5, 3, false, "", "", 17⟩, ⟨ "C", 49, 4, false, "", "", 18⟩, ⟨ "Text", 28, 10, false, "", "", 24⟩]), 11, (.agg #[(.int .u8 0), (.int .i64 0), (.bool false), (.int .u8 0), (.int .u8 0), (.bool false), (.int .u8 0), (.int .u8 0), (.int .u8 0), (.int .u8 0), (.slice none 0 0)]), 48⟩),
 (70, ⟨(.pointer 78), 1, (.pointer none), 8⟩),
 (78, ⟨(.struct #[⟨ "out", 28, 0, false, "", "vitrine/read", 0⟩, ⟨ "last", 49, 1, false, "", "vitrine/read", 24⟩, ⟨ "mode", 3, 7, false, "", "vitrine/read", 32⟩]), 8, (.agg #[(.slice none 0 0), (.int .u8 0), (.bool false), (.int .u8 0), (.int .u8 0), (.int .u8 0), (.int .u8 0), (.int .i64 0)]), 40⟩),
 (79, ⟨(.slice 82), 1, (.slice none 0 0), 24⟩),
 (82, ⟨(.struct #[⟨ "Type", 5, 0, false, "", "", 0⟩, ⟨ "Value", 5, 1, false, "", "", 1⟩]), 2, (.agg #[(.int .u8 0), (.int .u8 0)]), 2⟩),
 (86, ⟨(.slice 91), 1, (.slice none 0 0), 24⟩),
 (89, ⟨(.slice 93), 1, (.slice none 0 0), 24⟩),
 (91, ⟨(.struct #[⟨ "Kind", 3, 0, false, "", "", 0⟩, ⟨ "Addr", 3, 1, false, "", "", 8⟩, ⟨ "Code", 5, 2, false, "", "", 16⟩, ⟨ "Graph", 4, 3, false, "", "", 17⟩, ⟨ "FA", 5, 4, false, "", "", 18⟩, ⟨ "Pairs", 89, 5, false, "", "", 24⟩, ⟨ "Text", 28, 6, false, "", "", 48⟩]), 7, (.agg #[(.int .i64 0), (.int .i64 0), (.int .u8 0), (.bool false), (.int .u8 0), (.slice none 0 0), (.slice none 0 0)]), 72⟩),
 (93, ⟨(.struct #[⟨ "Type", 5, 0, false, "", "", 0⟩, ⟨ "Value", 5, 1, false, "", "", 1⟩]), 2, (.agg #[(.int .u8 0), (.int .u8 0)]), 2⟩),
 (103, ⟨(.struct #[⟨ "Rows", 3, 0, false, "", "", 0⟩, ⟨ "Cols", 3, 1, false, "", "", 8⟩]), 2, (.agg #[(.int .i64 0), (.int .i64 0)]), 16⟩),
 (105, ⟨(.struct #[⟨ "model", 3, 0, false, "", "vitrine/space", 0⟩, ⟨ "alternate", 4, 1, false, "", "vitrine/space", 8⟩, ⟨ "size", 103, 2, false, "", "vitrine/space", 16⟩, ⟨ "cells", 33, 4, false, "", "vitrine/space", 32⟩, ⟨ "cursor", 3, 5, false, "", "vitrine/space", 56⟩, ⟨ "attrs", 3, 6, false, "", "vitrine/space", 64⟩]), 7, (.agg #[(.int .i64 0), (.bool false), (.int .i64 0), (.int .i64 0), (.slice none 0 0), (.int .i64 0), (.int .i64 0)]), 72⟩),
 (126, ⟨(.pointer 128), 1, (.pointer none), 8⟩),
 (128, ⟨(.struct #[⟨ "p", 28, 0, false, "", "vitrine/order", 0⟩, ⟨ "code", 29, 1, false, "", "vitrine/order", 24⟩]), 2, (.agg #[(.slice none 0 0), (.int .i64 0)]), 32⟩),
 (133, ⟨(.slice 137), 1, (.slice none 0 0), 24⟩),
 (137, ⟨(.struct #[⟨ "Kind", 3, 0, false, "", "", 0⟩, ⟨ "Addr", 3, 1, false, "", "", 8⟩, ⟨ "Code", 5, 2, false, "", "", 16⟩, ⟨ "Graph", 4, 3, false, "", "", 17⟩, ⟨ "FA", 5, 4, false, "", "", 18⟩, ⟨ "Pairs", 79, 5, false, "", "", 24⟩, ⟨ "Text", 28, 6, false, "", "", 48⟩]), 7, (.agg #[(.int .i64 0), (.int .i64 0), (.int .u8 0), (.bool false), (.int .u8 0), (.slice none 0 0), (.slice none 0 0)]), 72⟩),
 (140, ⟨(.struct #[⟨ "word", 9, 0, false, "", "vitrine/write", 0⟩, ⟨ "one", 5, 1, false, "", "vitrine/write", 16⟩, ⟨ "other", 5, 2, false, "", "vitrine/write", 17⟩]), 3, (.agg #[(.string ⟨#[]⟩), (.int .u8 0), (.int .u8 0)]), 24⟩),
 (141, ⟨(.array 9 140), 27, (.agg #[(.string ⟨#[]⟩), (.int .u8 0), (.int .u8 0), (.string ⟨#[]⟩), (.int .u8 0), (.int .u8 0), (.string ⟨#[]⟩), (.int .u8 0), (.int .u8 0), (.string ⟨#[]⟩), (.int .u8 0), (.int .u8 0), (.string ⟨#[]⟩), (.int .u8 0), (.int .u8 0), (.string ⟨#[]⟩), (.int .u8 0), (.int .u8 0), (.string ⟨#[]⟩), (.int .u8 0), (.int .u8 0), (.string ⟨#[]⟩), (.int .u8 0), (.int .u8 0), (.string ⟨#[]⟩), (.int .u8 0), (.int .u8 0)]), 216⟩),
 (156, ⟨(.pointer 56), 1, (.pointer none), 8⟩),
 (158, ⟨(.slice 38), 1, (.slice none 0 0), 24⟩),
 (166, ⟨(.array 3 93), 6, (.agg #[(.int .u8 0), (.int .u8 0), (.int .u8 0), (.int .u8 0), (.int .u8 0), (.int .u8 0)]), 6⟩),
 (179, ⟨(.struct #[⟨ "Protected", 4, 0, false, "", "", 0⟩, ⟨ "Numeric", 4, 1, false, "", "", 1⟩, ⟨ "Display", 3, 2, false, "", "", 8⟩, ⟨ "Modified", 4, 3, false, "", "", 16⟩]), 4, (.agg #[(.bool false), (.bool false), (.int .i64 0), (.bool false)]), 24⟩),
 (185, ⟨(.pointer 187), 1, (.pointer none), 8⟩),
 (187, ⟨(.struct #[⟨ "s", 24, 0, false, "", "vitrine/write", 0⟩, ⟨ "n", 3, 1, false, "", "vitrine/write", 8⟩, ⟨ "look", 49, 2, false, "", "vitrine/write", 16⟩, ⟨ "texts", 4, 8, false, "", "vitrine/write", 22⟩]), 9, (.agg #[(.pointer none), (.int .i64 0), (.int .u8 0), (.bool false), (.int .u8 0), (.int .u8 0), (.int .u8 0), (.int .u8 0), (.bool false)]), 24⟩),
 (197, ⟨(.slice 9), 1, (.slice none 0 0), 24⟩),
 (198, ⟨(.slice 3), 1, (.slice none 0 0), 24⟩)]
theorem ttOk : tik Tryz.prog tt := ⟨⟨by kernel_rfl, by kernel_rfl⟩, ⟨by kernel_rfl, by kernel_rfl⟩, ⟨by kernel_rfl, by kernel_rfl⟩, ⟨by kernel_rfl, by kernel_rfl⟩, ⟨by kernel_rfl, by kernel_rfl⟩, ⟨by kernel_rfl, by kernel_rfl⟩, ⟨by kernel_rfl, by kernel_rfl⟩, ⟨by kernel_rfl, by kernel_rfl⟩, ⟨by kernel_rfl, by kernel_rfl⟩, ⟨by kernel_rfl, by kernel_rfl⟩, ⟨by kernel_rfl, by kernel_rfl⟩, ⟨by kernel_rfl, by kernel_rfl⟩, ⟨by kernel_rfl, by kernel_rfl⟩, ⟨by kernel_rfl, by kernel_rfl⟩, ⟨by kernel_rfl, by kernel_rfl⟩, ⟨by kernel_rfl, by kernel_rfl⟩, ⟨by kernel_rfl, by kernel_rfl⟩, ⟨by kernel_rfl, by kernel_rfl⟩, ⟨by kernel_rfl, by kernel_rfl⟩, ⟨by kernel_rfl, by kernel_rfl⟩, ⟨by kernel_rfl, by kernel_rfl⟩, ⟨by kernel_rfl, by kernel_rfl⟩, ⟨by kernel_rfl, by kernel_rfl⟩, ⟨by kernel_rfl, by kernel_rfl⟩, ⟨by kernel_rfl, by kernel_rfl⟩, ⟨by kernel_rfl, by kernel_rfl⟩, ⟨by kernel_rfl, by kernel_rfl⟩, ⟨by kernel_rfl, by kernel_rfl⟩, ⟨by kernel_rfl, by kernel_rfl⟩, ⟨by kernel_rfl, by kernel_rfl⟩, ⟨by kernel_rfl, by kernel_rfl⟩, ⟨by kernel_rfl, by kernel_rfl⟩, ⟨by kernel_rfl, by kernel_rfl⟩, ⟨by kernel_rfl, by kernel_rfl⟩, ⟨by kernel_rfl, by kernel_rfl⟩, ⟨by kernel_rfl, by kernel_rfl⟩, ⟨by kernel_rfl, by kernel_rfl⟩, ⟨by kernel_rfl, by kernel_rfl⟩, ⟨by kernel_rfl, by kernel_rfl⟩, ⟨by kernel_rfl, by kernel_rfl⟩, ⟨by kernel_rfl, by kernel_rfl⟩, ⟨by kernel_rfl, by kernel_rfl⟩, trivial⟩
noncomputable def env : Env := ⟨Tryz.prog, tt, tik_ok ttOk⟩
theorem stood : Stood env.P env.tt := stood_of (show stk Tryz.prog tt from ⟨by kernel_rfl, by kernel_rfl, by kernel_rfl, by kernel_rfl, by kernel_rfl, by kernel_rfl, by kernel_rfl, by kernel_rfl, by kernel_rfl, by kernel_rfl, by kernel_rfl, by kernel_rfl, by kernel_rfl, by kernel_rfl, by kernel_rfl, by kernel_rfl, by kernel_rfl, by kernel_rfl, by kernel_rfl, by kernel_rfl, by kernel_rfl, by kernel_rfl, by kernel_rfl, by kernel_rfl, by kernel_rfl, by kernel_rfl, by kernel_rfl, by kernel_rfl, by kernel_rfl, by kernel_rfl, by kernel_rfl, by kernel_rfl, by kernel_rfl, by kernel_rfl, by kernel_rfl, by kernel_rfl, by kernel_rfl, by kernel_rfl, by kernel_rfl, by kernel_rfl, by kernel_rfl, by kernel_rfl, trivial⟩)
def glob0 : List Value := [(.string (ByteArray.mk (List.toArray [78, 111, 116, 104, 105, 110, 103]))), (.int .u8 3), (.int .u8 3), (.string (ByteArray.mk (List.toArray [87, 114, 105, 116, 101]))), (.int .u8 1), (.int .u8 241), (.string (ByteArray.mk (List.toArray [69, 114, 97, 115, 101, 87, 114, 105, 116, 101]))), (.int .u8 5), (.int .u8 245), (.string (ByteArray.mk (List.toArray [69, 114, 97, 115, 101, 65, 108, 116, 101, 114, 110, 97, 116, 101]))), (.int .u8 13), (.int .u8 126), (.string (ByteArray.mk (List.toArray [69, 114, 97, 115, 101, 85, 110, 112, 114, 111, 116, 101, 99, 116, 101, 100]))), (.int .u8 15), (.int .u8 111), (.string (ByteArray.mk (List.toArray [82, 101, 97, 100, 66, 117, 102, 102, 101, 114]))), (.int .u8 2), (.int .u8 242), (.string (ByteArray.mk (List.toArray [82, 101, 97, 100, 77, 111, 100, 105, 102, 105, 101, 100]))), (.int .u8 6), (.int .u8 246), (.string (ByteArray.mk (List.toArray [82, 101, 97, 100, 65, 108, 108]))), (.int .u8 14), (.int .u8 110), (.string (ByteArray.mk (List.toArray [83, 116, 114, 117, 99, 116, 117, 114, 101, 100]))), (.int .u8 17), (.int .u8 243)]
def GK (g : Gw) : Prop := GKb g 0 glob0
def en_Vvitrineref12_Act : En (Vvitrineref12_Act × SV) := ⟨11, fun y => [(.int .u8 y.1.Do), (.int .i64 y.1.N), (.bool y.1.On), (.int .u8 y.1.Code), (.int .u8 y.1.C.Char), (.bool y.1.C.Attr), (.int .u8 y.1.C.FA), (.int .u8 y.1.C.High), (.int .u8 y.1.C.Color), (.int .u8 y.1.C.f_Set), (SV.val y.2)], fun _ => rfl, by decide, fun _ => rfl⟩
abbrev D_Vvitrineref12_Act (X : HP) (y : Vvitrineref12_Act × SV) : Prop := Rd X y.2 5 (enI .u8) y.1.Text
theorem D_Vvitrineref12_Act.ext {X X' : HP} (a : Ext X X') (y : Vvitrineref12_Act × SV) (h : D_Vvitrineref12_Act X y) : D_Vvitrineref12_Act X' y := Rd.ext h a
def en_Vattr_Pair : En Vattr_Pair := ⟨2, fun y => [(.int .u8 y.f_Type), (.int .u8 y.Value)], fun _ => rfl, by decide, fun _ => rfl⟩
def en_Vorder_Op : En (Vorder_Op × SV × SV) := ⟨7, fun y => [(.int .i64 y.1.Kind), (.int .i64 y.1.Addr), (.int .u8 y.1.Code), (.bool y.1.Graph), (.int .u8 y.1.FA), (SV.val y.2.1), (SV.val y.2.2)], fun _ => rfl, by decide, fun _ => rfl⟩
abbrev D_Vorder_Op (X : HP) (y : Vorder_Op × SV × SV) : Prop := Rd X y.2.1 93 en_Vattr_Pair y.1.Pairs ∧ Rd X y.2.2 5 (enI .u8) y.1.Text
theorem D_Vorder_Op.ext {X X' : HP} (a : Ext X X') (y : Vorder_Op × SV × SV) (h : D_Vorder_Op X y) : D_Vorder_Op X' y := ⟨Rd.ext h.1 a, Rd.ext h.2 a⟩
def en_Ventry_Entry : En (Ventry_Entry × SV) := ⟨2, fun y => [(.int .i64 y.1.Addr), (SV.val y.2)], fun _ => rfl, by decide, fun _ => rfl⟩
abbrev D_Ventry_Entry (X : HP) (y : Ventry_Entry × SV) : Prop := Rd X y.2 5 (enI .u8) y.1.Text
theorem D_Ventry_Entry.ext {X X' : HP} (a : Ext X X') (y : Ventry_Entry × SV) (h : D_Ventry_Entry X y) : D_Ventry_Entry X' y := Rd.ext h a
def en_Vapi_Cell : En Vapi_Cell := ⟨6, fun y => [(.int .u8 y.Char), (.bool y.Attr), (.int .u8 y.FA), (.int .u8 y.High), (.int .u8 y.Color), (.int .u8 y.f_Set)], fun _ => rfl, by decide, fun _ => rfl⟩
def en_Vvitrineref04_Size : En Vvitrineref04_Size := ⟨2, fun y => [(.int .i64 y.Rows), (.int .i64 y.Cols)], fun _ => rfl, by decide, fun _ => rfl⟩
def en_Vvitrineref05_Pair : En Vvitrineref05_Pair := ⟨2, fun y => [(.int .u8 y.f_Type), (.int .u8 y.Value)], fun _ => rfl, by decide, fun _ => rfl⟩
def en_Vvitrineref16_Op : En (Vvitrineref16_Op × SV × SV) := ⟨7, fun y => [(.int .i64 y.1.Kind), (.int .i64 y.1.Addr), (.int .u8 y.1.Code), (.bool y.1.Graph), (.int .u8 y.1.FA), (SV.val y.2.1), (SV.val y.2.2)], fun _ => rfl, by decide, fun _ => rfl⟩
abbrev D_Vvitrineref16_Op (X : HP) (y : Vvitrineref16_Op × SV × SV) : Prop := Rd X y.2.1 82 en_Vvitrineref05_Pair y.1.Pairs ∧ Rd X y.2.2 5 (enI .u8) y.1.Text
theorem D_Vvitrineref16_Op.ext {X X' : HP} (a : Ext X X') (y : Vvitrineref16_Op × SV × SV) (h : D_Vvitrineref16_Op X y) : D_Vvitrineref16_Op X' y := ⟨Rd.ext h.1 a, Rd.ext h.2 a⟩
def en_Vwrite_name : En Vwrite_name := ⟨3, fun y => [(.string y.word), (.int .u8 y.one), (.int .u8 y.other)], fun _ => rfl, by decide, fun _ => rfl⟩
theorem has4 : HasBody env.P 4 := ⟨_, Tryz.func4, rfl, rfl⟩
theorem has5 : HasBody env.P 5 := ⟨_, Tryz.func5, rfl, rfl⟩
theorem has6 : HasBody env.P 6 := ⟨_, Tryz.func6, rfl, rfl⟩
theorem has7 : HasBody env.P 7 := ⟨_, Tryz.func7, rfl, rfl⟩
theorem has8 : HasBody env.P 8 := ⟨_, Tryz.func8, rfl, rfl⟩
theorem has9 : HasBody env.P 9 := ⟨_, Tryz.func9, rfl, rfl⟩
theorem has10 : HasBody env.P 10 := ⟨_, Tryz.func10, rfl, rfl⟩
theorem has11 : HasBody env.P 11 := ⟨_, Tryz.func11, rfl, rfl⟩
theorem has12 : HasBody env.P 12 := ⟨_, Tryz.func12, rfl, rfl⟩
theorem has13 : HasBody env.P 13 := ⟨_, Tryz.func13, rfl, rfl⟩
theorem has14 : HasBody env.P 14 := ⟨_, Tryz.func14, rfl, rfl⟩
theorem has15 : HasBody env.P 15 := ⟨_, Tryz.func15, rfl, rfl⟩
theorem has16 : HasBody env.P 16 := ⟨_, Tryz.func16, rfl, rfl⟩
theorem has17 : HasBody env.P 17 := ⟨_, Tryz.func17, rfl, rfl⟩
theorem has18 : HasBody env.P 18 := ⟨_, Tryz.func18, rfl, rfl⟩
theorem has19 : HasBody env.P 19 := ⟨_, Tryz.func19, rfl, rfl⟩
theorem has20 : HasBody env.P 20 := ⟨_, Tryz.func20, rfl, rfl⟩
theorem has21 : HasBody env.P 21 := ⟨_, Tryz.func21, rfl, rfl⟩
theorem has22 : HasBody env.P 22 := ⟨_, Tryz.func22, rfl, rfl⟩
theorem has23 : HasBody env.P 23 := ⟨_, Tryz.func23, rfl, rfl⟩
theorem has24 : HasBody env.P 24 := ⟨_, Tryz.func24, rfl, rfl⟩
theorem has25 : HasBody env.P 25 := ⟨_, Tryz.func25, rfl, rfl⟩
theorem has26 : HasBody env.P 26 := ⟨_, Tryz.func26, rfl, rfl⟩
theorem has27 : HasBody env.P 27 := ⟨_, Tryz.func27, rfl, rfl⟩
theorem has28 : HasBody env.P 28 := ⟨_, Tryz.func28, rfl, rfl⟩
theorem has29 : HasBody env.P 29 := ⟨_, Tryz.func29, rfl, rfl⟩
theorem has30 : HasBody env.P 30 := ⟨_, Tryz.func30, rfl, rfl⟩
theorem has31 : HasBody env.P 31 := ⟨_, Tryz.func31, rfl, rfl⟩
theorem has32 : HasBody env.P 32 := ⟨_, Tryz.func32, rfl, rfl⟩
theorem has33 : HasBody env.P 33 := ⟨_, Tryz.func33, rfl, rfl⟩
theorem has34 : HasBody env.P 34 := ⟨_, Tryz.func34, rfl, rfl⟩
theorem has35 : HasBody env.P 35 := ⟨_, Tryz.func35, rfl, rfl⟩
theorem has36 : HasBody env.P 36 := ⟨_, Tryz.func36, rfl, rfl⟩
theorem has37 : HasBody env.P 37 := ⟨_, Tryz.func37, rfl, rfl⟩
theorem has38 : HasBody env.P 38 := ⟨_, Tryz.func38, rfl, rfl⟩
theorem has40 : HasBody env.P 40 := ⟨_, Tryz.func40, rfl, rfl⟩
theorem has41 : HasBody env.P 41 := ⟨_, Tryz.func41, rfl, rfl⟩
theorem has42 : HasBody env.P 42 := ⟨_, Tryz.func42, rfl, rfl⟩
theorem has43 : HasBody env.P 43 := ⟨_, Tryz.func43, rfl, rfl⟩
theorem has44 : HasBody env.P 44 := ⟨_, Tryz.func44, rfl, rfl⟩
theorem has45 : HasBody env.P 45 := ⟨_, Tryz.func45, rfl, rfl⟩
theorem has46 : HasBody env.P 46 := ⟨_, Tryz.func46, rfl, rfl⟩
theorem has47 : HasBody env.P 47 := ⟨_, Tryz.func47, rfl, rfl⟩
theorem has48 : HasBody env.P 48 := ⟨_, Tryz.func48, rfl, rfl⟩
theorem has49 : HasBody env.P 49 := ⟨_, Tryz.func49, rfl, rfl⟩
theorem has50 : HasBody env.P 50 := ⟨_, Tryz.func50, rfl, rfl⟩
theorem has51 : HasBody env.P 51 := ⟨_, Tryz.func51, rfl, rfl⟩
theorem has52 : HasBody env.P 52 := ⟨_, Tryz.func52, rfl, rfl⟩
theorem has53 : HasBody env.P 53 := ⟨_, Tryz.func53, rfl, rfl⟩
theorem has54 : HasBody env.P 54 := ⟨_, Tryz.func54, rfl, rfl⟩
theorem has55 : HasBody env.P 55 := ⟨_, Tryz.func55, rfl, rfl⟩
theorem has56 : HasBody env.P 56 := ⟨_, Tryz.func56, rfl, rfl⟩
theorem has57 : HasBody env.P 57 := ⟨_, Tryz.func57, rfl, rfl⟩
theorem has58 : HasBody env.P 58 := ⟨_, Tryz.func58, rfl, rfl⟩
theorem has59 : HasBody env.P 59 := ⟨_, Tryz.func59, rfl, rfl⟩
theorem has60 : HasBody env.P 60 := ⟨_, Tryz.func60, rfl, rfl⟩
theorem has61 : HasBody env.P 61 := ⟨_, Tryz.func61, rfl, rfl⟩
theorem has62 : HasBody env.P 62 := ⟨_, Tryz.func62, rfl, rfl⟩
theorem has63 : HasBody env.P 63 := ⟨_, Tryz.func63, rfl, rfl⟩
theorem has64 : HasBody env.P 64 := ⟨_, Tryz.func64, rfl, rfl⟩
theorem has65 : HasBody env.P 65 := ⟨_, Tryz.func65, rfl, rfl⟩
theorem has67 : HasBody env.P 67 := ⟨_, Tryz.func67, rfl, rfl⟩
theorem has74 : HasBody env.P 74 := ⟨_, Tryz.func74, rfl, rfl⟩
theorem has75 : HasBody env.P 75 := ⟨_, Tryz.func75, rfl, rfl⟩
theorem has76 : HasBody env.P 76 := ⟨_, Tryz.func76, rfl, rfl⟩
theorem has77 : HasBody env.P 77 := ⟨_, Tryz.func77, rfl, rfl⟩
theorem has78 : HasBody env.P 78 := ⟨_, Tryz.func78, rfl, rfl⟩
theorem has79 : HasBody env.P 79 := ⟨_, Tryz.func79, rfl, rfl⟩
theorem has80 : HasBody env.P 80 := ⟨_, Tryz.func80, rfl, rfl⟩
theorem has81 : HasBody env.P 81 := ⟨_, Tryz.func81, rfl, rfl⟩
theorem has82 : HasBody env.P 82 := ⟨_, Tryz.func82, rfl, rfl⟩
theorem has83 : HasBody env.P 83 := ⟨_, Tryz.func83, rfl, rfl⟩
theorem has84 : HasBody env.P 84 := ⟨_, Tryz.func84, rfl, rfl⟩
theorem has85 : HasBody env.P 85 := ⟨_, Tryz.func85, rfl, rfl⟩
theorem has86 : HasBody env.P 86 := ⟨_, Tryz.func86, rfl, rfl⟩
theorem has87 : HasBody env.P 87 := ⟨_, Tryz.func87, rfl, rfl⟩
theorem has88 : HasBody env.P 88 := ⟨_, Tryz.func88, rfl, rfl⟩
theorem has89 : HasBody env.P 89 := ⟨_, Tryz.func89, rfl, rfl⟩
theorem has90 : HasBody env.P 90 := ⟨_, Tryz.func90, rfl, rfl⟩
theorem has91 : HasBody env.P 91 := ⟨_, Tryz.func91, rfl, rfl⟩
theorem has92 : HasBody env.P 92 := ⟨_, Tryz.func92, rfl, rfl⟩
theorem has93 : HasBody env.P 93 := ⟨_, Tryz.func93, rfl, rfl⟩
theorem has94 : HasBody env.P 94 := ⟨_, Tryz.func94, rfl, rfl⟩
theorem has95 : HasBody env.P 95 := ⟨_, Tryz.func95, rfl, rfl⟩
theorem has96 : HasBody env.P 96 := ⟨_, Tryz.func96, rfl, rfl⟩
theorem has97 : HasBody env.P 97 := ⟨_, Tryz.func97, rfl, rfl⟩
theorem has98 : HasBody env.P 98 := ⟨_, Tryz.func98, rfl, rfl⟩
theorem has100 : HasBody env.P 100 := ⟨_, Tryz.func100, rfl, rfl⟩
theorem has101 : HasBody env.P 101 := ⟨_, Tryz.func101, rfl, rfl⟩
theorem has106 : HasBody env.P 106 := ⟨_, Tryz.func106, rfl, rfl⟩
theorem has107 : HasBody env.P 107 := ⟨_, Tryz.func107, rfl, rfl⟩
theorem has108 : HasBody env.P 108 := ⟨_, Tryz.func108, rfl, rfl⟩
theorem has109 : HasBody env.P 109 := ⟨_, Tryz.func109, rfl, rfl⟩
theorem has110 : HasBody env.P 110 := ⟨_, Tryz.func110, rfl, rfl⟩
theorem has112 : HasBody env.P 112 := ⟨_, Tryz.func112, rfl, rfl⟩
theorem has113 : HasBody env.P 113 := ⟨_, Tryz.func113, rfl, rfl⟩
theorem has114 : HasBody env.P 114 := ⟨_, Tryz.func114, rfl, rfl⟩
theorem has116 : HasBody env.P 116 := ⟨_, Tryz.func116, rfl, rfl⟩
theorem has117 : HasBody env.P 117 := ⟨_, Tryz.func117, rfl, rfl⟩
theorem has120 : HasBody env.P 120 := ⟨_, Tryz.func120, rfl, rfl⟩
theorem has121 : HasBody env.P 121 := ⟨_, Tryz.func121, rfl, rfl⟩
theorem has122 : HasBody env.P 122 := ⟨_, Tryz.func122, rfl, rfl⟩
theorem has123 : HasBody env.P 123 := ⟨_, Tryz.func123, rfl, rfl⟩

theorem c_addr_zone {g : Gw} (hg : GK g) (X : HP) (p0 : Int) (r : Int × Int × Int × Int) (h : m_addr_zone p0 = some r) : Tri env g 81 (A [(I p0)]) [X] (fun K R => K (.tuple (A [(U r.1), (U r.2.1), (I r.2.2.1), (I r.2.2.2)])) (X :: R)) := by
 refine tri_of (fn := Tryz.f81) (N := 14) Tryz.func81 J J J ?_
 intro R K hk
 unfold m_addr_zone at h
 change GC _ none _ [] [(0, (I p0))] (X :: R) g _ _
 refine cr (op J J (op J J (op J J (op J J ?_))))
 refine oe (c_seq (cr (op J J ?_)))
 refine o1 rfl (o_shr (m := p0) (n := 4) rfl rfl (by decide) ?_)
 refine oe (c_block (cr ?_))
 refine o1 J (o_p (v := (O ((ishr .i64 p0 4) == 0))) J ?_)
 refine op J J (oe ?_)
 refine c_cond (b := ((ishr .i64 p0 4) == 0)) J (fun hb30 => ?_) (fun hb30 => ?_)
 ·replace h := cond_t hb30 h
  refine cr (op J J (op J J (op J J (op J J ?_))))
  refine oe (c_ret (e_blk_ret (e_then_ret (e_ret ?_))))
  refine r_endt J J (kc rm0 kr) ?_
  obtain rfl := si h
  exact hk
 ·replace h := cond_f hb30 h
  refine cr ?_
  refine o1 J (o_p (v := (O ((ishr .i64 p0 4) == 1))) J ?_)
  refine op J J (oe ?_)
  refine c_cond (b := ((ishr .i64 p0 4) == 1)) J (fun hb31 => ?_) (fun hb31 => ?_)
  ·replace h := cond_t hb31 h
   refine cr (op J J (op J J (op J J (op J J ?_))))
   refine oe (c_ret (e_blk_ret (e_then_ret (e_ret ?_))))
   refine r_endt J J (kc rm0 kr) ?_
   obtain rfl := si h
   exact hk
  ·replace h := cond_f hb31 h
   refine cr ?_
   refine o1 J (o_p (v := (O ((ishr .i64 p0 4) == 2))) J ?_)
   refine op J J (oe ?_)
   refine c_cond (b := ((ishr .i64 p0 4) == 2)) J (fun hb32 => ?_) (fun hb32 => ?_)
   ·replace h := cond_t hb32 h
    refine cr (op J J (op J J (op J J (op J J ?_))))
    refine oe (c_ret (e_blk_ret (e_then_ret (e_ret ?_))))
    refine r_endt J J (kc rm0 kr) ?_
    obtain rfl := si h
    exact hk
   ·replace h := cond_f hb32 h
    refine c_skip (e_blk (e_seq (cr (op J J ?_))))
    refine op J J (op J J (op J J (oe (c_ret ?_))))
    refine e_ret ?_
    refine r_endt J J (kc rm0 kr) ?_
    obtain rfl := si h
    exact hk

theorem c_addr_Six {g : Gw} (hg : GK g) (X : HP) (p0 : Int) (r : Int) (h : m_addr_Six p0 = some r) : Tri env g 54 (A [(I p0)]) [X] (fun K R => K (U r) (X :: R)) := by
 refine tri_of (fn := Tryz.f54) (N := 35) Tryz.func54 J J J ?_
 intro R K hk
 unfold m_addr_Six at h
 change GC _ none _ [] [(0, (I p0))] (X :: R) g _ _
 refine cr (op J J (oe (c_seq ?_)))
 refine c_region (op J J ?_)
 refine o1 J (o_p (v := (I (iband .i64 p0 63))) J ?_)
 refine op J J (oe (cr (op J J ?_)))
 replace h := bsome h
 obtain ⟨d1, h1, h⟩ := h
 refine o1 J (o_call has81 J (c_addr_zone hg X (iband .i64 p0 63) _ h1) (pc rm0 pn) ?_)
 refine op J J (op J J (op J J (op J J (op J J (op J J ?_)))))
 refine op J J (op J J (op J J (oe (c_seq ?_))))
 refine c_region (op J J ?_)
 refine o1 J (o_p (v := (I (iband .i64 (iband .i64 p0 63) 15))) J ?_)
 refine op J J (oe (c_seq (c_seq ?_)))
 replace h := bsome h
 obtain ⟨d2, h, hk2⟩ := h
 refine cj (D := Unit) (ι := Unit) (fun _ i2 => True) (fun _ i2 => [(26, (O d2)), (7, (I (iband .i64 (iband .i64 p0 63) 15))), (4, (U d1.2.1)), (3, (U d1.1))]) (fun _ i2 => X :: R) ?_ ?_
 ·refine c_region (op J J (op J J ?_))
  refine o1 J (o_p (v := (O (decide ((iband .i64 (iband .i64 p0 63) 15) ≥ d1.2.2.1)))) J ?_)
  refine op J J ?_
  rcases bool_or ((decide ((iband .i64 (iband .i64 p0 63) 15) ≥ d1.2.2.1))) with hb33 | hb33
  ·replace h := cond_t hb33 h
   refine oy J J J hb33 (o_p J ?_)
   refine oy J J J hb33 (o_p J ?_)
   refine oy J J J hb33 (o_p (v := (O (decide ((iband .i64 (iband .i64 p0 63) 15) ≤ d1.2.2.2)))) J ?_)
   refine o1 J (o_pick_t J hb33 J ?_)
   refine o_end ?_
   obtain rfl := si h
   exact ej () () trivial (sc J (sc J (sc J (sc J sn)))) (kc rm0 kr)
  ·replace h := cond_f hb33 h
   refine on J J J hb33 ?_
   refine on J J J hb33 ?_
   refine on J J J hb33 ?_
   refine o1 J (o_pick_f J hb33 J ?_)
   refine o_end ?_
   obtain rfl := si h
   exact ej () () trivial (sc J (sc J (sc J (sc J sn)))) (kc rm0 kr)
 ·rintro _ i2 _
  replace h := hk2
  clear hk2
  refine e_seq ?_
  refine c_cond (b := d2) J (fun hb34 => ?_) (fun hb34 => ?_)
  ·replace h := cond_t hb34 h
   refine cr (op J J (op J J ?_))
   refine o1 J (o_p (v := (U (IntKind.wrap .u8 (iband .i64 (iband .i64 p0 63) 15)))) J ?_)
   refine o1 J (o_p (v := (U (ibor .u8 d1.2.1 (IntKind.wrap .u8 (iband .i64 (iband .i64 p0 63) 15))))) J ?_)
   refine op J J (oe (c_ret (e_then_ret (e_ret ?_))))
   refine r_endt J J (kc rm0 kr) ?_
   obtain rfl := si h
   exact hk
  ·replace h := cond_f hb34 h
   refine c_skip (e_seq (cr (op J J (op J J ?_))))
   refine o1 J (o_p (v := (U (IntKind.wrap .u8 (iband .i64 (iband .i64 p0 63) 15)))) J ?_)
   refine o1 J (o_p (v := (U (ibor .u8 d1.1 (IntKind.wrap .u8 (iband .i64 (iband .i64 p0 63) 15))))) J ?_)
   refine op J J (oe (c_ret (e_ret ?_)))
   refine r_endt J J (kc rm0 kr) ?_
   obtain rfl := si h
   exact hk

theorem c_addr_Unsix {g : Gw} (hg : GK g) (X : HP) (p0 : Int) (r : Int) (h : m_addr_Unsix p0 = some r) : Tri env g 85 (A [(U p0)]) [X] (fun K R => K (I r) (X :: R)) := by
 refine tri_of (fn := Tryz.f85) (N := 16) Tryz.func85 J J J ?_
 intro R K hk
 unfold m_addr_Unsix at h
 change GC _ none _ [] [(0, (U p0))] (X :: R) g _ _
 refine cr (op J J (oe (c_seq ?_)))
 refine cr (op J J (oe ?_))
 replace h := jn_some h
 obtain ⟨y1, h, hk1⟩ := h
 refine cj (D := Unit) (ι := Unit) (fun d1 i1 => y1 = Sum.inl d1) (fun d1 i1 => [(0, (U p0))]) (fun d1 i1 => X :: R) ?_ ?_
 ·refine c_block ?_
  refine c_loop (l_sub (sc J (sc J sn)) (l_keep (kc rm0 kr) (lf (X := Int) (ι := Unit) (fun k x => addr_Unsix_l2 p0 k x) _ (fun x2 i2 => True) (fun x2 i2 => [(4, (I x2)), (0, (U p0))]) (fun x2 i2 => X :: R) (fun _ => J) ?_ fuel 0 () trivial h)))
  clear h
  rintro k2 ih2 x2 i2 _ h
  rw [addr_Unsix_l2.eq_2] at h
  refine l_round (cr ?_)
  refine o1 J (o_p (v := (O (decide (x2 < 64)))) J ?_)
  refine oe (c_seq ?_)
  refine c_cond (b := (decide (x2 < 64))) J (fun hb38 => ?_) (fun hb38 => ?_)
  ·replace h := cond_t hb38 h
   refine c_skip (e_seq (c_seq (c_block (cr ?_))))
   refine op J J (op J J (oe (cr ?_)))
   refine op J J ?_
   replace h := bsome h
   obtain ⟨d5, h5, h⟩ := h
   refine o1 J (o_call has54 J (c_addr_Six hg X x2 _ h5) (pc rm0 pn) ?_)
   refine op J J ?_
   refine o1 J (o_p (v := (O (d5 == p0))) J ?_)
   refine oe ?_
   refine c_cond (b := (d5 == p0)) J (fun hb39 => ?_) (fun hb39 => ?_)
   ·replace h := cond_t hb39 h
    refine cr (op J J (op J J (oe ?_)))
    refine c_ret (e_blk_ret (e_then_ret (e_then_ret (e_blk_ret (ej_ret ?_)))))
    replace h := esc_some h
    obtain ⟨z1, h, rfl⟩ := h
    obtain rfl := (hk1 : z1 = _)
    refine e_then_ret (e_ret ?_)
    refine r_endt J J (kc rm0 kr) ?_
    obtain rfl := si h
    exact hk
   ·replace h := cond_f hb39 h
    refine c_skip (e_blk (e_seq (c_region ?_)))
    refine o1 J (o_p (v := (I (w64 (x2 + 1)))) J ?_)
    refine op J J (o_end ?_)
    exact e_loop (l_sub (sc J (sc J sn)) (l_keep (kc rm0 kr) (ih2 (w64 (x2 + 1)) () trivial h)))
  ·replace h := cond_f hb38 h
   refine c_exit (e_then_exit (e_then_exit (e_blk_exit ?_)))
   obtain rfl := si h
   exact ej () () J (sc J sn) (kc rm0 kr)
 ·rintro d1 i1 rfl
  replace h := JK_inl hk1
  clear hk1
  refine e_seq (cr (op J J ?_))
  refine o1 J (o_p (v := (U (iband .u8 p0 63))) J ?_)
  refine o1 J (o_p (v := (I (w64 (iband .u8 p0 63)))) J ?_)
  refine op J J (oe (c_ret (e_ret ?_)))
  refine r_endt J J (kc rm0 kr) ?_
  obtain rfl := si h
  exact hk

theorem c_addr_Decode {g : Gw} (hg : GK g) (X : HP) (p0 : Int) (p1 : List Int) (s0 : SV) (q0 : Rd X s0 5 (enI .u8) p1) (r : Int × Int) (h : m_addr_Decode p0 p1 = some r) : Tri env g 59 (A [(I p0), (V s0)]) [X] (fun K R => K (.tuple (A [(I r.1), (I r.2)])) (X :: R)) := by
 refine tri_of (fn := Tryz.f59) (N := 59) Tryz.func59 J J J ?_
 intro R K hk
 unfold m_addr_Decode at h
 change GC _ none _ [] [(0, (I p0)), (1, (V s0))] (X :: R) g _ _
 refine cr (op J J (op J J (oe ?_)))
 refine c_seq (c_block (c_seq ?_))
 replace h := bsome h
 obtain ⟨d2, h, hk2⟩ := h
 refine cj (D := Unit) (ι := Unit) (fun _ i2 => True) (fun _ i2 => [(7, (O d2)), (0, (I p0)), (1, (V s0))]) (fun _ i2 => X :: R) ?_ ?_
 ·refine c_region (op J J ?_)
  refine o1 J (o_p (v := (O (p0 != 12))) J ?_)
  refine op J J ?_
  rcases bool_or ((p0 != 12)) with hb17 | hb17
  ·replace h := cond_t hb17 h
   refine oy J J J hb17 (o_p J ?_)
   refine oy J J J hb17 (o_p (v := (O (p0 != 14))) J ?_)
   refine o1 J (o_pick_t J hb17 J ?_)
   refine op J J ?_
   rcases bool_or ((p0 != 14)) with hb18 | hb18
   ·replace h := cond_t hb18 h
    refine oy J J J hb18 (o_p J ?_)
    refine oy J J J hb18 (o_p (v := (O (p0 != 16))) J ?_)
    refine o1 J (o_pick_t J hb18 J ?_)
    refine op J J (o_end ?_)
    obtain rfl := si h
    exact ej () () trivial (sc J (sc J (sc J sn))) (kc rm0 kr)
   ·replace h := cond_f hb18 h
    refine on J J J hb18 ?_
    refine on J J J hb18 ?_
    refine o1 J (o_pick_f J hb18 J ?_)
    refine op J J (o_end ?_)
    obtain rfl := si h
    exact ej () () trivial (sc J (sc J (sc J sn))) (kc rm0 kr)
  ·replace h := cond_f hb17 h
   refine on J J J hb17 ?_
   refine on J J J hb17 ?_
   refine o1 J (o_pick_f J hb17 J ?_)
   refine op J J ?_
   refine on J J J J ?_
   refine on J J J J ?_
   refine o1 J (o_pick_f J J J ?_)
   refine op J J (o_end ?_)
   obtain rfl := si h
   exact ej () () trivial (sc J (sc J (sc J sn))) (kc rm0 kr)
 ·rintro _ i2 _
  replace h := hk2
  clear hk2
  refine e_seq ?_
  refine c_cond (b := d2) J (fun hb19 => ?_) (fun hb19 => ?_)
  ·replace h := cond_t hb19 h
   refine cr (op J J (op J J (oe ?_)))
   refine c_ret (e_blk_ret (e_then_ret (e_ret ?_)))
   refine r_endt J J (kc rm0 kr) ?_
   obtain rfl := si h
   exact hk
  ·replace h := cond_f hb19 h
   refine cr (op J J ?_)
   refine o1 J (o_len (s := s0) J J J rm0 q0 ?_)
   refine o1 J (o_p (v := (O (decide ((p1.length : Int) < 2)))) J ?_)
   refine op J J (oe ?_)
   refine c_cond (b := (decide ((p1.length : Int) < 2))) J (fun hb20 => ?_) (fun hb20 => ?_)
   ·replace h := cond_t hb20 h
    refine cr (op J J (op J J (oe ?_)))
    refine c_ret (e_blk_ret (e_then_ret (e_ret ?_)))
    refine r_endt J J (kc rm0 kr) ?_
    obtain rfl := si h
    exact hk
   ·replace h := cond_f hb20 h
    refine c_skip (e_blk (e_seq (c_seq ?_)))
    replace h := gsome h
    obtain ⟨hg21, h⟩ := h
    replace h := gsome h
    obtain ⟨hg22, h⟩ := h
    refine c_draw (n := 0) (q := [(0, 22, (V s0)), (1, 23, (F (SV.blk s0) (SV.off s0 + Int.toNat 0 * 1))), (2, 24, (U (rd p1 0))), (3, 25, (I (w64 ((rd p1 0))))), (4, 26, (I (ishl .i64 (w64 ((rd p1 0))) 8))), (5, 27, (V s0)), (6, 28, (F (SV.blk s0) (SV.off s0 + Int.toNat 1 * 1))), (7, 29, (U (rd p1 1))), (8, 30, (I (w64 ((rd p1 1))))), (9, 31, (I (ibor .i64 (ishl .i64 (w64 ((rd p1 0))) 8) (w64 ((rd p1 1)))))), (10, 6, (I (ibor .i64 (ishl .i64 (w64 ((rd p1 0))) 8) (w64 ((rd p1 1))))))]) (pend := [0, 1, 2, 3, 4, 5, 6, 7, 8, 9, 10]) J J J ?_
    refine ⟨⟨fun _ => ⟨rfl, rfl, rfl, .inl ⟨rfl, (o_p rfl ⟨rfl, rfl⟩)⟩⟩, fun _ => ⟨rfl, rfl, rfl, .inl ⟨rfl, (o_ix (s := s0) (n := 0) (e := (enI .u8)) rfl rfl rfl rfl rfl rfl rm0 q0 hg21 ⟨rfl, rfl⟩)⟩⟩, fun _ => ⟨rfl, rfl, rfl, .inl ⟨rfl, (o_ldE (s := s0) (e := (enI .u8)) (n := 0) (f := 0) (v := (U (rd p1 0))) rfl rm0 q0 hg21 rfl rfl ⟨rfl, rfl⟩)⟩⟩, fun _ => ⟨rfl, rfl, rfl, .inl ⟨rfl, (o_p (v := (I (w64 ((rd p1 0))))) rfl ⟨rfl, rfl⟩)⟩⟩, fun _ => ⟨rfl, rfl, rfl, .inl ⟨rfl, (o_shl (m := w64 ((rd p1 0))) (n := 8) rfl rfl (by decide) ⟨rfl, rfl⟩)⟩⟩, fun _ => ⟨rfl, rfl, rfl, .inl ⟨rfl, (o_p rfl ⟨rfl, rfl⟩)⟩⟩, fun _ => ⟨rfl, rfl, rfl, .inl ⟨rfl, (o_ix (s := s0) (n := 1) (e := (enI .u8)) rfl rfl rfl rfl rfl rfl rm0 q0 hg22 ⟨rfl, rfl⟩)⟩⟩, fun _ => ⟨rfl, rfl, rfl, .inl ⟨rfl, (o_ldE (s := s0) (e := (enI .u8)) (n := 1) (f := 0) (v := (U (rd p1 1))) rfl rm0 q0 hg22 rfl rfl ⟨rfl, rfl⟩)⟩⟩, fun _ => ⟨rfl, rfl, rfl, .inl ⟨rfl, (o_p (v := (I (w64 ((rd p1 1))))) rfl ⟨rfl, rfl⟩)⟩⟩, fun _ => ⟨rfl, rfl, rfl, .inl ⟨rfl, (o_p (v := (I (ibor .i64 (ishl .i64 (w64 ((rd p1 0))) 8) (w64 ((rd p1 1)))))) rfl ⟨rfl, rfl⟩)⟩⟩, fun _ => ⟨rfl, rfl, rfl, .inl ⟨rfl, (o_p rfl ⟨rfl, rfl⟩)⟩⟩, trivial⟩, rfl, rfl, rfl, ?_⟩
    refine e_seq (c_seq (c_block (c_seq ?_)))
    replace h := bsome h
    obtain ⟨d6, h, hk6⟩ := h
    refine cj (D := Unit) (ι := Unit) (fun _ i6 => True) (fun _ i6 => [(32, (O d6)), (6, (I (ibor .i64 (ishl .i64 (w64 ((rd p1 0))) 8) (w64 ((rd p1 1)))))), (1, (V s0))]) (fun _ i6 => X :: R) ?_ ?_
    ·refine c_region (op J J ?_)
     refine o1 J (o_p (v := (O (p0 == 16))) J ?_)
     refine op J J ?_
     rcases bool_or ((p0 == 16)) with hb23 | hb23
     ·replace h := cond_t hb23 h
      refine on J J J hb23 ?_
      refine on J J J hb23 ?_
      refine on J J J hb23 ?_
      refine on J J J hb23 ?_
      refine on J J J hb23 ?_
      refine o1 J (o_pick_t J hb23 J ?_)
      refine op J J (o_end ?_)
      obtain rfl := si h
      exact ej () () trivial (sc J (sc J (sc J sn))) (kc rm0 kr)
     ·replace h := cond_f hb23 h
      refine oy J J J hb23 (o_p J ?_)
      replace h := gsome h
      obtain ⟨hg24, h⟩ := h
      refine oy J J J hb23 (o_ix (s := s0) (n := 0) (e := (enI .u8)) J J J J J J rm0 q0 hg24 ?_)
      refine oy J J J hb23 (o_ldE (s := s0) (e := (enI .u8)) (n := 0) (f := 0) (v := (U (rd p1 0))) J rm0 q0 hg24 J J ?_)
      refine oy rfl rfl rfl hb23 (o_shr (m := (rd p1 0)) (n := 6) rfl rfl (by decide) ?_)
      refine oy J J J hb23 (o_p (v := (O ((ishr .u8 (rd p1 0) 6) == 0))) J ?_)
      refine o1 J (o_pick_f J hb23 J ?_)
      refine op J J (o_end ?_)
      obtain rfl := si h
      exact ej () () trivial (sc J (sc J (sc J sn))) (kc rm0 kr)
    ·rintro _ i6 _
     replace h := hk6
     clear hk6
     refine e_seq ?_
     refine c_cond (b := d6) J (fun hb25 => ?_) (fun hb25 => ?_)
     ·replace h := cond_t hb25 h
      refine cr (op J J (op J J (op J J (o_end ?_))))
      refine e_seq (c_ret (e_blk_ret (e_then_ret (e_ret ?_))))
      refine r_endt J J (kc rm0 kr) ?_
      obtain rfl := si h
      exact hk
     ·replace h := cond_f hb25 h
      refine cr (op J J ?_)
      replace h := gsome h
      obtain ⟨hg26, h⟩ := h
      refine o1 J (o_ix (s := s0) (n := 0) (e := (enI .u8)) J J J J J J rm0 q0 hg26 ?_)
      refine o1 J (o_ldE (s := s0) (e := (enI .u8)) (n := 0) (f := 0) (v := (U (rd p1 0))) J rm0 q0 hg26 J J ?_)
      refine o1 rfl (o_shr (m := (rd p1 0)) (n := 6) rfl rfl (by decide) ?_)
      refine o1 J (o_p (v := (O ((ishr .u8 (rd p1 0) 6) == 2))) J ?_)
      refine op J J (oe ?_)
      refine c_cond (b := ((ishr .u8 (rd p1 0) 6) == 2)) J (fun hb27 => ?_) (fun hb27 => ?_)
      ·replace h := cond_t hb27 h
       refine cr (op J J (op J J (oe ?_)))
       refine c_ret (e_blk_ret (e_then_ret (e_ret ?_)))
       refine r_endt J J (kc rm0 kr) ?_
       obtain rfl := si h
       exact hk
      ·replace h := cond_f hb27 h
       refine c_skip (e_blk (e_seq (c_seq ?_)))
       replace h := gsome h
       obtain ⟨hg28, h⟩ := h
       replace h := gsome h
       obtain ⟨hg29, h⟩ := h
       refine c_draw (n := 2) (q := [(0, 49, (V s0)), (1, 50, (F (SV.blk s0) (SV.off s0 + Int.toNat 0 * 1))), (2, 51, (U (rd p1 0))), (5, 54, (V s0)), (6, 55, (F (SV.blk s0) (SV.off s0 + Int.toNat 1 * 1))), (7, 56, (U (rd p1 1)))]) (pend := [0, 1, 2, 5, 6, 7]) J J J ?_
       replace h := bsome h
       obtain ⟨d9, h9, h⟩ := h
       refine ⟨⟨fun _ => ⟨J, J, J, .inl ⟨J, (o_p J ⟨J, J⟩)⟩⟩, fun _ => ⟨J, J, J, .inl ⟨J, (o_ix (s := s0) (n := 0) (e := (enI .u8)) J J J J J J rm0 q0 hg28 ⟨J, J⟩)⟩⟩, fun _ => ⟨J, J, J, .inl ⟨J, (o_ldE (s := s0) (e := (enI .u8)) (n := 0) (f := 0) (v := (U (rd p1 0))) J rm0 q0 hg28 J J ⟨J, J⟩)⟩⟩, fun _ => ⟨J, J, J, .inl ⟨J, (o_p J ⟨J, J⟩)⟩⟩, fun _ => ⟨J, J, J, .inl ⟨J, (o_ix (s := s0) (n := 1) (e := (enI .u8)) J J J J J J rm0 q0 hg29 ⟨J, J⟩)⟩⟩, fun _ => ⟨J, J, J, .inl ⟨J, (o_ldE (s := s0) (e := (enI .u8)) (n := 1) (f := 0) (v := (U (rd p1 1))) J rm0 q0 hg29 J J ⟨J, J⟩)⟩⟩, trivial⟩, J, .inr ⟨[3], J, J, ⟨J, .inl J, ?_⟩, trivial⟩⟩
       refine (o_call has85 J (c_addr_Unsix hg X (rd p1 0) _ h9) (pc rm0 pn) ?_)
       refine ⟨[(4, 53, (I (ishl .i64 d9 6)))], [5, 6, 7, 4], J, J, J, J, ?_⟩
       replace h := bsome h
       obtain ⟨d10, h10, h⟩ := h
       refine ⟨⟨fun _ => ⟨rfl, rfl, rfl, .inl ⟨rfl, (o_shl (m := d9) (n := 6) rfl rfl (by decide) ⟨rfl, rfl⟩)⟩⟩, (fun h => nomatch h), (fun h => nomatch h), (fun h => nomatch h), fun _ => ⟨rfl, rfl, rfl, .inl ⟨rfl, (o_p rfl ⟨rfl, rfl⟩)⟩⟩, fun _ => ⟨rfl, rfl, rfl, .inl ⟨rfl, (o_ix (s := s0) (n := 1) (e := (enI .u8)) rfl rfl rfl rfl rfl rfl rm0 q0 hg29 ⟨rfl, rfl⟩)⟩⟩, fun _ => ⟨rfl, rfl, rfl, .inl ⟨rfl, (o_ldE (s := s0) (e := (enI .u8)) (n := 1) (f := 0) (v := (U (rd p1 1))) rfl rm0 q0 hg29 rfl rfl ⟨rfl, rfl⟩)⟩⟩, trivial⟩, rfl, .inr ⟨[8], rfl, rfl, ⟨rfl, .inl rfl, ?_⟩, trivial⟩⟩
       refine (o_call has85 J (c_addr_Unsix hg X (rd p1 1) _ h10) (pc rm0 pn) ?_)
       refine ⟨[(9, 58, (I (ibor .i64 (ishl .i64 d9 6) d10))), (10, 4, (I (ibor .i64 (ishl .i64 d9 6) d10))), (11, 5, (I 0))], [4, 9, 10, 11], J, J, J, J, ?_⟩
       refine ⟨⟨fun _ => ⟨rfl, rfl, rfl, .inl ⟨rfl, (o_p (v := (I (ibor .i64 (ishl .i64 d9 6) d10))) rfl ⟨rfl, rfl⟩)⟩⟩, fun _ => ⟨rfl, rfl, rfl, .inl ⟨rfl, (o_p rfl ⟨rfl, rfl⟩)⟩⟩, fun _ => ⟨rfl, rfl, rfl, .inl ⟨rfl, (o_p rfl ⟨rfl, rfl⟩)⟩⟩, fun _ => ⟨rfl, rfl, rfl, .inl ⟨rfl, (o_shl (m := d9) (n := 6) rfl rfl (by decide) ⟨rfl, rfl⟩)⟩⟩, (fun h => nomatch h), (fun h => nomatch h), (fun h => nomatch h), (fun h => nomatch h), (fun h => nomatch h), (fun h => nomatch h), trivial⟩, rfl, rfl, rfl, ?_⟩
       refine e_seq (c_ret (e_ret ?_))
       refine r_endt J J (kc rm0 kr) ?_
       obtain rfl := si h
       exact hk

theorem c_entry_begin {g : Gw} (hg : GK g) (X : HP) (p0 : List Int) (s0 : SV) (q0 : Rd X s0 5 (enI .u8) p0) (r : Ventry_Report × (List Int) × Int) (h : m_entry_begin p0 = some r) : Tri env g 30 (A [(V s0)]) [X] (fun K R => ∀ (i0 : SV), (Rd X i0 5 (enI .u8) r.2.1) → K (.tuple (A [(.agg (A [(U r.1.AID), (O r.1.Short), (I r.1.Cursor), (V SV.nil)])), (V i0), (I r.2.2)])) (X :: R)) := by
 refine tri_of (fn := Tryz.f30) (N := 36) Tryz.func30 J J J ?_
 intro R K hk
 unfold m_entry_begin at h
 change GC _ none _ [] [(0, (V s0))] (X :: R) g _ _
 refine cr ?_
 refine o1 J (o_alloc (cs := [(U 0), (O false), (I 0), (V SV.nil)]) J J (fun b8 => ?_))
 refine op J J (op J J (oe (c_seq (c_seq ?_))))
 refine c_region (op J J ?_)
 refine o1 J (o_len (s := s0) J J J rm1 q0 ?_)
 refine oe (c_block (c_seq (cr ?_)))
 refine o1 J (o_p (v := (O ((p0.length : Int) == 0))) J ?_)
 refine op J J (oe ?_)
 replace h := bsome h
 obtain ⟨d2, h, hk2⟩ := h
 refine cj (D := Unit) (ι := Unit) (fun _ i2 => True) (fun _ i2 => [(9, (O d2)), (8, (I (p0.length : Int))), (2, (F b8 0)), (0, (V s0))]) (fun _ i2 => X :: blk b8 (.cells (A [(U 0), (O false), (I 0), (V SV.nil)]) 56 (0, 0)) :: R) ?_ ?_
 ·refine c_cond (b := ((p0.length : Int) == 0)) J (fun hb10 => ?_) (fun hb10 => ?_)
  ·replace h := cond_t hb10 h
   refine c_skip ?_
   obtain rfl := si h
   exact ej () () trivial (sc J (sc J (sc J (sc J sn)))) (kc rm1 (kc rm0 kr))
  ·replace h := cond_f hb10 h
   refine c_region ?_
   refine o1 J (o_p (v := (O ((p0.length : Int) == 2))) J ?_)
   refine op J J (o_end ?_)
   obtain rfl := si h
   exact ej () () trivial (sc J (sc J (sc J (sc J sn)))) (kc rm1 (kc rm0 kr))
 ·rintro _ i2 _
  replace h := hk2
  clear hk2
  refine e_seq ?_
  refine c_cond (b := d2) J (fun hb11 => ?_) (fun hb11 => ?_)
  ·replace h := cond_t hb11 h
   refine cr ?_
   refine o1 J (o_build (fs := f_3) (ps := [(0, 1), (1, 1), (2, 1), (3, 1)]) (cs := [(U 0), (O false), (I 0), (V SV.nil)]) J J J J J ?_)
   refine o0 (o_st (b := b8) (off := 0) (vs := [(U 0), (O false), (I 0), (V SV.nil)]) (cs' := [(U 0), (O false), (I 0), (V SV.nil)]) J J rp1 J J J J J J ?_)
   refine op J J (op J J (oe (c_ret (e_blk_ret ?_))))
   refine e_then_ret (e_ret ?_)
   refine r_endc (B := [[(U 0), (O false), (I 0), (V SV.nil)]]) J ⟨⟨_, _, _, _, J, rm1⟩, trivial⟩ J (kc rm0 (kd kr)) ?_
   obtain rfl := si h
   exact hk SV.nil (rd_nil _ _ _)
  ·replace h := cond_f hb11 h
   refine cr ?_
   refine o1 J (o_p (v := (O ((p0.length : Int) == 1))) J ?_)
   refine op J J (oe ?_)
   refine c_cond (b := ((p0.length : Int) == 1)) J (fun hb12 => ?_) (fun hb12 => ?_)
   ·replace h := cond_t hb12 h
    refine cr (op J J ?_)
    replace h := gsome h
    obtain ⟨hg13, h⟩ := h
    refine o1 J (o_ix (s := s0) (n := 0) (e := (enI .u8)) J J J J J J rm0 q0 hg13 ?_)
    refine o1 J (o_ldE (s := s0) (e := (enI .u8)) (n := 0) (f := 0) (v := (U (rd p0 0))) J rm0 q0 hg13 J J ?_)
    refine o1 J (o_build (fs := f_3) (ps := [(0, 1), (1, 1), (2, 1), (3, 1)]) (cs := [(U (rd p0 0)), (O true), (I 0), (V SV.nil)]) J J J J J ?_)
    refine o0 (o_st (b := b8) (off := 0) (vs := [(U (rd p0 0)), (O true), (I 0), (V SV.nil)]) (cs' := [(U (rd p0 0)), (O true), (I 0), (V SV.nil)]) J J rp1 J J J J J J ?_)
    refine op J J (op J J (oe (c_ret (e_blk_ret ?_))))
    refine e_then_ret (e_ret ?_)
    refine r_endc (B := [[(U (rd p0 0)), (O true), (I 0), (V SV.nil)]]) J ⟨⟨_, _, _, _, J, rm1⟩, trivial⟩ J (kc rm0 (kd kr)) ?_
    obtain rfl := si h
    exact hk SV.nil (rd_nil _ _ _)
   ·replace h := cond_f hb12 h
    refine c_skip (e_blk (e_seq (cr (op J J ?_))))
    replace h := gsome h
    obtain ⟨hg14, h⟩ := h
    refine o1 rfl (o_sl (a := 1) (b := (p0.length : Int)) (m := none) rfl rfl rfl rfl rfl rm0 q0 rfl rfl rfl (by decide) hg14 mx_none (fun s16 hr15 => ?_))
    replace hr15 := rd_tk hr15
    replace h := bsome h
    obtain ⟨d4, h4, h⟩ := h
    refine o1 J (o_call has59 J (c_addr_Decode hg X 12 (List.drop 1 p0) s16 hr15 _ h4) (pc rm0 pn) ?_)
    refine op J J (op J J (op J J (op J J (op J J (o_end ?_)))))
    refine e_seq (c_seq (cr (op J J ?_)))
    refine o1 J (o_p (v := (O (d4.2 != 0))) J ?_)
    refine oe ?_
    refine c_cond (b := (d4.2 != 0)) J (fun hb40 => ?_) (fun hb40 => ?_)
    ·replace h := cond_t hb40 h
     refine cr ?_
     refine o1 J (o_build (fs := f_3) (ps := [(0, 1), (1, 1), (2, 1), (3, 1)]) (cs := [(U 0), (O false), (I 0), (V SV.nil)]) J J J J J ?_)
     refine op J J ?_
     refine o0 (o_st (b := b8) (off := 0) (vs := [(U 0), (O false), (I 0), (V SV.nil)]) (cs' := [(U 0), (O false), (I 0), (V SV.nil)]) J J rp1 J J J J J J ?_)
     refine op J J (op J J (oe (c_ret (e_then_ret ?_))))
     refine e_ret ?_
     refine r_endc (B := [[(U 0), (O false), (I 0), (V SV.nil)]]) J ⟨⟨_, _, _, _, J, rm1⟩, trivial⟩ J (kc rm0 (kd kr)) ?_
     obtain rfl := si h
     exact hk SV.nil (rd_nil _ _ _)
    ·replace h := cond_f hb40 h
     refine c_skip (e_seq (c_seq ?_))
     replace h := gsome h
     obtain ⟨hg41, h⟩ := h
     replace h := gsome h
     obtain ⟨hg42, h⟩ := h
     have hr43 : Rd X (SV.cut s0 1 (Int.toNat 3) (Int.toNat (p0.length : Int)) (mxv s0 none)) 5 (enI .u8) (List.drop 3 p0) := rd_tk (Rd.cutv q0 hg42 mx_none)
     refine c_draw (n := 1) (q := [(0, 29, (V s0)), (1, 30, (F (SV.blk s0) (SV.off s0 + Int.toNat 0 * 1))), (2, 31, (U (rd p0 0))), (3, 32, (I d4.1)), (4, 33, (.agg (A [(U (rd p0 0)), (O false), (I d4.1), (V SV.nil)]))), (5, 34, (V s0)), (6, 35, (V (SV.cut s0 1 (Int.toNat 3) (Int.toNat (p0.length : Int)) (mxv s0 none))))]) (pend := [0, 1, 2, 3, 4, 5, 6]) J J J ?_
     refine ⟨⟨fun _ => ⟨rfl, rfl, rfl, .inl ⟨rfl, (o_p rfl ⟨rfl, rfl⟩)⟩⟩, fun _ => ⟨rfl, rfl, rfl, .inl ⟨rfl, (o_ix (s := s0) (n := 0) (e := (enI .u8)) rfl rfl rfl rfl rfl rfl rm0 q0 hg41 ⟨rfl, rfl⟩)⟩⟩, fun _ => ⟨rfl, rfl, rfl, .inl ⟨rfl, (o_ldE (s := s0) (e := (enI .u8)) (n := 0) (f := 0) (v := (U (rd p0 0))) rfl rm0 q0 hg41 rfl rfl ⟨rfl, rfl⟩)⟩⟩, fun _ => ⟨rfl, rfl, rfl, .inl ⟨rfl, (o_p rfl ⟨rfl, rfl⟩)⟩⟩, fun _ => ⟨rfl, rfl, rfl, .inl ⟨rfl, (o_build (fs := f_3) (ps := [(0, 1), (1, 1), (2, 1), (3, 1)]) (cs := [(U (rd p0 0)), (O false), (I d4.1), (V SV.nil)]) rfl rfl rfl rfl rfl ⟨rfl, rfl⟩)⟩⟩, fun _ => ⟨rfl, rfl, rfl, .inl ⟨rfl, (o_p rfl ⟨rfl, rfl⟩)⟩⟩, fun _ => ⟨rfl, rfl, rfl, .inl ⟨rfl, (o_slx (a := 3) (b := (p0.length : Int)) (m := none) rfl rfl rfl rfl rfl rm0 q0 rfl rfl rfl (by decide) hg42 mx_none ⟨rfl, rfl⟩)⟩⟩, trivial⟩, rfl, .inr ⟨[7], rfl, rfl, ⟨rfl, .inl rfl, ?_⟩, trivial⟩⟩
     refine (o_st (b := b8) (off := 0) (vs := [(U (rd p0 0)), (O false), (I d4.1), (V SV.nil)]) (cs' := [(U (rd p0 0)), (O false), (I d4.1), (V SV.nil)]) J J rp1 J J J J J J ?_)
     refine ⟨[(8, 3, (V (SV.cut s0 1 (Int.toNat 3) (Int.toNat (p0.length : Int)) (mxv s0 none)))), (9, 4, (I 0))], [5, 6, 8, 9], J, J, ?_⟩
     refine ⟨⟨fun _ => ⟨rfl, rfl, rfl, .inl ⟨rfl, (o_p rfl ⟨rfl, rfl⟩)⟩⟩, fun _ => ⟨rfl, rfl, rfl, .inl ⟨rfl, (o_p rfl ⟨rfl, rfl⟩)⟩⟩, (fun h => nomatch h), (fun h => nomatch h), (fun h => nomatch h), (fun h => nomatch h), (fun h => nomatch h), fun _ => ⟨rfl, rfl, rfl, .inl ⟨rfl, (o_p rfl ⟨rfl, rfl⟩)⟩⟩, fun _ => ⟨rfl, rfl, rfl, .inl ⟨rfl, (o_slx (a := 3) (b := (p0.length : Int)) (m := none) rfl rfl rfl rfl rfl rm0 q0 rfl rfl rfl (by decide) hg42 mx_none ⟨rfl, rfl⟩)⟩⟩, trivial⟩, rfl, rfl, rfl, ?_⟩
     refine e_seq (c_ret (e_ret ?_))
     refine r_endc (B := [[(U (rd p0 0)), (O false), (I d4.1), (V SV.nil)]]) J ⟨⟨_, _, _, _, J, rm1⟩, trivial⟩ J (kc rm0 (kd kr)) ?_
     obtain rfl := si h
     exact hk (SV.cut s0 1 (Int.toNat 3) (Int.toNat (p0.length : Int)) (mxv s0 none)) hr43

theorem c_order_Name {g : Gw} (hg : GK g) (X : HP) (p0 : Int) (r : ByteArray) (h : m_order_Name p0 = some r) : Tri env g 84 (A [(I p0)]) [X] (fun K R => K (.string r) (X :: R)) := by
 refine tri_of (fn := Tryz.f84) (N := 26) Tryz.func84 J J J ?_
 intro R K hk
 unfold m_order_Name at h
 change GC _ none _ [] [(0, (I p0))] (X :: R) g _ _
 refine cr (op J J (oe (c_seq ?_)))
 refine cr (op J J (oe (c_block ?_)))
 refine cr ?_
 refine o1 J (o_p (v := (O (p0 == 0))) J ?_)
 refine op J J (oe ?_)
 refine c_cond (b := (p0 == 0)) J (fun hb54 => ?_) (fun hb54 => ?_)
 ·replace h := cond_t hb54 h
  refine cr (op J J (oe (c_ret ?_)))
  refine e_blk_ret (e_then_ret (e_ret ?_))
  refine r_endt J J (kc rm0 kr) ?_
  obtain rfl := si h
  exact hk
 ·replace h := cond_f hb54 h
  refine cr ?_
  refine o1 J (o_p (v := (O (p0 == 5))) J ?_)
  refine op J J (oe ?_)
  refine c_cond (b := (p0 == 5)) J (fun hb55 => ?_) (fun hb55 => ?_)
  ·replace h := cond_t hb55 h
   refine cr (op J J (oe (c_ret ?_)))
   refine e_blk_ret (e_then_ret (e_ret ?_))
   refine r_endt J J (kc rm0 kr) ?_
   obtain rfl := si h
   exact hk
  ·replace h := cond_f hb55 h
   refine cr ?_
   refine o1 J (o_p (v := (O (p0 == 8))) J ?_)
   refine op J J (oe ?_)
   refine c_cond (b := (p0 == 8)) J (fun hb56 => ?_) (fun hb56 => ?_)
   ·replace h := cond_t hb56 h
    refine cr (op J J (oe (c_ret ?_)))
    refine e_blk_ret (e_then_ret (e_ret ?_))
    refine r_endt J J (kc rm0 kr) ?_
    obtain rfl := si h
    exact hk
   ·replace h := cond_f hb56 h
    refine cr ?_
    refine o1 J (o_p (v := (O (p0 == 17))) J ?_)
    refine op J J (oe ?_)
    refine c_cond (b := (p0 == 17)) J (fun hb57 => ?_) (fun hb57 => ?_)
    ·replace h := cond_t hb57 h
     refine cr (op J J (oe (c_ret ?_)))
     refine e_blk_ret (e_then_ret (e_ret ?_))
     refine r_endt J J (kc rm0 kr) ?_
     obtain rfl := si h
     exact hk
    ·replace h := cond_f hb57 h
     refine cr ?_
     refine o1 J (o_p (v := (O (p0 == 18))) J ?_)
     refine op J J (oe ?_)
     refine c_cond (b := (p0 == 18)) J (fun hb58 => ?_) (fun hb58 => ?_)
     ·replace h := cond_t hb58 h
      refine cr (op J J (oe (c_ret ?_)))
      refine e_blk_ret (e_then_ret (e_ret ?_))
      refine r_endt J J (kc rm0 kr) ?_
      obtain rfl := si h
      exact hk
     ·replace h := cond_f hb58 h
      refine cr ?_
      refine o1 J (o_p (v := (O (p0 == 19))) J ?_)
      refine op J J (oe ?_)
      refine c_cond (b := (p0 == 19)) J (fun hb59 => ?_) (fun hb59 => ?_)
      ·replace h := cond_t hb59 h
       refine cr (op J J (oe (c_ret ?_)))
       refine e_blk_ret (e_then_ret (e_ret ?_))
       refine r_endt J J (kc rm0 kr) ?_
       obtain rfl := si h
       exact hk
      ·replace h := cond_f hb59 h
       refine cr ?_
       refine o1 J (o_p (v := (O (p0 == 29))) J ?_)
       refine op J J (oe ?_)
       refine c_cond (b := (p0 == 29)) J (fun hb60 => ?_) (fun hb60 => ?_)
       ·replace h := cond_t hb60 h
        refine cr (op J J (oe (c_ret ?_)))
        refine e_blk_ret (e_then_ret (e_ret ?_))
        refine r_endt J J (kc rm0 kr) ?_
        obtain rfl := si h
        exact hk
       ·replace h := cond_f hb60 h
        refine cr ?_
        refine o1 J (o_p (v := (O (p0 == 40))) J ?_)
        refine op J J (oe ?_)
        refine c_cond (b := (p0 == 40)) J (fun hb61 => ?_) (fun hb61 => ?_)
        ·replace h := cond_t hb61 h
         refine cr (op J J (oe (c_ret ?_)))
         refine e_blk_ret (e_then_ret (e_ret ?_))
         refine r_endt J J (kc rm0 kr) ?_
         obtain rfl := si h
         exact hk
        ·replace h := cond_f hb61 h
         refine cr ?_
         refine o1 J (o_p (v := (O (p0 == 41))) J ?_)
         refine op J J (oe ?_)
         refine c_cond (b := (p0 == 41)) J (fun hb62 => ?_) (fun hb62 => ?_)
         ·replace h := cond_t hb62 h
          refine cr (op J J (oe (c_ret ?_)))
          refine e_blk_ret (e_then_ret (e_ret ?_))
          refine r_endt J J (kc rm0 kr) ?_
          obtain rfl := si h
          exact hk
         ·replace h := cond_f hb62 h
          refine cr ?_
          refine o1 J (o_p (v := (O (p0 == 44))) J ?_)
          refine op J J (oe ?_)
          refine c_cond (b := (p0 == 44)) J (fun hb63 => ?_) (fun hb63 => ?_)
          ·replace h := cond_t hb63 h
           refine cr (op J J (oe (c_ret ?_)))
           refine e_blk_ret (e_then_ret (e_ret ?_))
           refine r_endt J J (kc rm0 kr) ?_
           obtain rfl := si h
           exact hk
          ·replace h := cond_f hb63 h
           refine cr ?_
           refine o1 J (o_p (v := (O (p0 == 60))) J ?_)
           refine op J J (oe ?_)
           refine c_cond (b := (p0 == 60)) J (fun hb64 => ?_) (fun hb64 => ?_)
           ·replace h := cond_t hb64 h
            refine cr (op J J (oe (c_ret ?_)))
            refine e_blk_ret (e_then_ret (e_ret ?_))
            refine r_endt J J (kc rm0 kr) ?_
            obtain rfl := si h
            exact hk
           ·replace h := cond_f hb64 h
            refine c_skip (e_blk (e_seq (cr (op J J ?_))))
            refine oe (c_ret (e_ret ?_))
            refine r_endt J J (kc rm0 kr) ?_
            obtain rfl := si h
            exact hk

theorem c_order_Is {g : Gw} (hg : GK g) (X : HP) (p0 : Int) (r : Bool) (h : m_order_Is p0 = some r) : Tri env g 58 (A [(U p0)]) [X] (fun K R => K (O r) (X :: R)) := by
 refine tri_of (fn := Tryz.f58) (N := 11) Tryz.func58 J J J ?_
 intro R K hk
 unfold m_order_Is at h
 change GC _ none _ [] [(0, (U p0))] (X :: R) g _ _
 refine cr (op J J (oe (c_seq ?_)))
 replace h := bsome h
 obtain ⟨d1, h, hk1⟩ := h
 refine cj (D := Unit) (ι := Unit) (fun _ i1 => True) (fun _ i1 => [(2, (O d1))]) (fun _ i1 => X :: R) ?_ ?_
 ·refine c_region (op J J ?_)
  refine o1 J (o_p (v := (O (p0 != 0))) J ?_)
  refine op J J ?_
  rcases bool_or ((p0 != 0)) with hb53 | hb53
  ·replace h := cond_t hb53 h
   refine oy J J J hb53 (o_p J ?_)
   refine oy J J J hb53 (o_p (v := (I (w64 (p0)))) J ?_)
   replace h := bsome h
   obtain ⟨d2, h2, h⟩ := h
   refine oy J J J hb53 (o_call has84 J (c_order_Name hg X (w64 (p0)) _ h2) (pc rm0 pn) ?_)
   refine oy J J J hb53 (o_p (v := (O (!(d2.data.toList == (ByteArray.mk (A [])).data.toList)))) J ?_)
   refine o1 J (o_pick_t J hb53 J ?_)
   refine op J J (o_end ?_)
   obtain rfl := si h
   exact ej () () trivial (sc J sn) (kc rm0 kr)
  ·replace h := cond_f hb53 h
   refine on J J J hb53 ?_
   refine on J J J hb53 ?_
   refine on J J J hb53 ?_
   refine on J J J hb53 ?_
   refine o1 J (o_pick_f J hb53 J ?_)
   refine op J J (o_end ?_)
   obtain rfl := si h
   exact ej () () trivial (sc J sn) (kc rm0 kr)
 ·rintro _ i1 _
  replace h := hk1
  clear hk1
  refine e_seq (c_ret (e_ret ?_))
  refine r_endt J J (kc rm0 kr) ?_
  obtain rfl := si h
  exact hk

theorem c_order_scanner_fail {g : Gw} (hg : GK g) (X : HP) (p0 : Vorder_scanner) (b0 : Nat) (s0 : SV) (q0 : Rd X s0 5 (enI .u8) p0.p) (p1 : Int) (r : Vorder_scanner) (h : m_order_scanner_fail p0 p1 = some r) : Tri env g 107 (A [(F b0 0), (I p1)]) [X, blk b0 (.cells (A [(V s0), (I p0.code)]) 128 (0, 0))] (fun K R => (Rd X s0 5 (enI .u8) r.p) → K (.tuple (A [])) (X :: blk b0 (.cells (A [(V s0), (I r.code)]) 128 (0, 0)) :: R)) := by
 refine tri_of (fn := Tryz.f107) (N := 13) Tryz.func107 J J J ?_
 intro R K hk
 unfold m_order_scanner_fail at h
 change GC _ none _ [] [(0, (F b0 0)), (1, (I p1))] (X :: blk b0 (.cells (A [(V s0), (I p0.code)]) 128 (0, 0)) :: R) g _ _
 refine cr (op J J (op J J ?_))
 refine o1 J (o_fa (fd := ⟨ "code", 29, 1, false, "", "vitrine/order", 24⟩) J J J J J ?_)
 refine o1 J (o_ld (b := b0) (off := 1) (v := (I p0.code)) J rm1 J J ?_)
 refine o1 J (o_p (v := (O (p0.code == 0))) J ?_)
 refine oe ?_
 refine c_cond (b := (p0.code == 0)) J (fun hb76 => ?_) (fun hb76 => ?_)
 ·replace h := cond_t hb76 h
  refine c_region (op J J (op J J (op J J ?_)))
  refine o1 J (o_fa (fd := ⟨ "code", 29, 1, false, "", "vitrine/order", 24⟩) J J J J J ?_)
  refine o0 (o_st (b := b0) (off := 1) (vs := [(I p1)]) (cs' := [(V s0), (I p1)]) J J rp1 J J J J J J ?_)
  refine o_end (e_fall ?_)
  refine r_endt J J (kc rm0 (kc rm0 kr)) ?_
  obtain rfl := si h
  exact hk q0
 ·replace h := cond_f hb76 h
  refine c_skip (e_fall ?_)
  refine r_endt J J (kc rm0 (kc rm0 kr)) ?_
  obtain rfl := si h
  exact hk q0

theorem c_order_scanner_take {g : Gw} (hg : GK g) (X : HP) (p0 : Vorder_scanner) (b0 : Nat) (s0 : SV) (q0 : Rd X s0 5 (enI .u8) p0.p) (p1 : Int) (r : Vorder_scanner × (List Int)) (h : m_order_scanner_take p0 p1 = some r) : Tri env g 87 (A [(F b0 0), (I p1)]) [X, blk b0 (.cells (A [(V s0), (I p0.code)]) 128 (0, 0))] (fun K R => ∀ (i0 : HP × SV × SV), (Rd i0.1 i0.2.1 5 (enI .u8) r.1.p) → (Rd i0.1 i0.2.2 5 (enI .u8) r.2) → (Ext X i0.1) → K (V i0.2.2) (i0.1 :: blk b0 (.cells (A [(V i0.2.1), (I r.1.code)]) 128 (0, 0)) :: R)) := by
 refine tri_of (fn := Tryz.f87) (N := 37) Tryz.func87 J J J ?_
 intro R K hk
 unfold m_order_scanner_take at h
 change GC _ none _ [] [(0, (F b0 0)), (1, (I p1))] (X :: blk b0 (.cells (A [(V s0), (I p0.code)]) 128 (0, 0)) :: R) g _ _
 refine cr (op J J (oe (c_seq ?_)))
 refine cr (op J J (op J J ?_))
 refine o1 J (o_fa (fd := ⟨ "p", 28, 0, false, "", "vitrine/order", 0⟩) J J J J J ?_)
 refine o1 J (o_ld (b := b0) (off := 0) (v := (V s0)) J rm1 J J ?_)
 refine o1 J (o_len (s := s0) J J J rm0 q0 ?_)
 refine op J J ?_
 refine o1 J (o_p (v := (O (decide ((p0.p.length : Int) < p1)))) J ?_)
 refine oe ?_
 refine c_cond (b := (decide ((p0.p.length : Int) < p1))) J (fun hb75 => ?_) (fun hb75 => ?_)
 ·replace h := cond_t hb75 h
  refine cr (op J J ?_)
  replace h := bsome h
  obtain ⟨d2, h2, h⟩ := h
  refine o1 J (o_call has107 J (c_order_scanner_fail hg X p0 b0 s0 q0 2 _ h2) (pc rm0 (pc rm0 pn)) (fun f2_0 => ?_))
  refine oe (cr (op J J (op J J ?_)))
  refine o1 J (o_fa (fd := ⟨ "p", 28, 0, false, "", "vitrine/order", 0⟩) J J J J J ?_)
  refine o0 (o_st (b := b0) (off := 0) (vs := [(V SV.nil)]) (cs' := [(V SV.nil), (I d2.code)]) J J rp1 J J J J J J ?_)
  refine oe (cr (op J J ?_))
  replace h := gsome h
  obtain ⟨hg77, h⟩ := h
  refine o1 J (o_mk (e := (enI .u8)) (z := 0) (zs := [(U 0)]) J J J J J J J J J hg77 (fun s78 => ?_))
  refine op J J (oe (c_ret (e_then_ret (e_ret ?_))))
  refine r_fz rm0 rm0 (fun X87 hx88 hs89 => ?_)
  refine r_endt J J (kc rm0 (kc rm0 kr)) ?_
  obtain rfl := si h
  exact hk (X87, SV.nil, s78) (rd_nil _ _ _) hs89 hx88
 ·replace h := cond_f hb75 h
  refine c_skip (e_seq (cr (op J J (op J J ?_))))
  refine o1 J (o_fa (fd := ⟨ "p", 28, 0, false, "", "vitrine/order", 0⟩) J J J J J ?_)
  refine o1 J (o_ld (b := b0) (off := 0) (v := (V s0)) J rm1 J J ?_)
  refine op J J (op J J ?_)
  replace h := gsome h
  obtain ⟨hg80, h⟩ := h
  replace h := gsome h
  obtain ⟨hg81, h⟩ := h
  refine o1 rfl (o_sl (a := 0) (b := p1) (m := (some p1)) rfl rfl rfl rfl rfl rm0 q0 rfl rfl rfl (by decide) hg80 (mx_some hg81) (fun s83 hr82 => ?_))
  refine op J J (oe (cr (op J J ?_)))
  refine op J J (op J J ?_)
  refine o1 J (o_fa (fd := ⟨ "p", 28, 0, false, "", "vitrine/order", 0⟩) J J J J J ?_)
  refine o1 J (o_ld (b := b0) (off := 0) (v := (V s0)) J rm1 J J ?_)
  refine op J J ?_
  replace h := gsome h
  obtain ⟨hg84, h⟩ := h
  refine o1 rfl (o_sl (a := p1) (b := (p0.p.length : Int)) (m := none) rfl rfl rfl rfl rfl rm0 q0 rfl rfl rfl (by decide) hg84 mx_none (fun s86 hr85 => ?_))
  replace hr85 := rd_tk hr85
  refine op J J ?_
  refine o1 J (o_fa (fd := ⟨ "p", 28, 0, false, "", "vitrine/order", 0⟩) J J J J J ?_)
  refine o0 (o_st (b := b0) (off := 0) (vs := [(V s86)]) (cs' := [(V s86), (I p0.code)]) J J rp1 J J J J J J ?_)
  refine oe (cr (op J J (op J J ?_)))
  refine oe (c_ret (e_ret ?_))
  refine r_endt J J (kc rm0 (kc rm0 kr)) ?_
  obtain rfl := si h
  exact hk (X, s86, s83) hr85 hr82 (Ext.refl _)

theorem c_bytes_Clone {g : Gw} (hg : GK g) (X : HP) (p0 : List Int) (s0 : SV) (q0 : Rd X s0 5 (enI .u8) p0) (r : (List Int)) (h : m_bytes_Clone p0 = some r) : Tri env g 34 (A [(V s0)]) [X] (fun K R => ∀ (i0 : SV), K (V i0) (X :: slO i0 5 (enI .u8) r :: R)) := by
 refine tri_of (fn := Tryz.f34) (N := 8) Tryz.func34 J J J ?_
 intro R K hk
 unfold m_bytes_Clone at h
 change GC _ none _ [] [(0, (V s0))] (X :: R) g _ _
 refine cr (op J J (oe (c_seq ?_)))
 refine cr (op J J ?_)
 refine o1 J (o_eqnil J J J ?_)
 refine oe ?_
 refine c_nilq rm0 q0 (fun h1 h2 => ?_) (fun h1 => ?_)
 ·subst h1
  subst h2
  refine c_cond_t J J ?_
  refine cr (op J J (oe (c_ret ?_)))
  refine e_then_ret (e_ret ?_)
  obtain ⟨_, h⟩ := gsome h
  obtain rfl := si h
  refine r_add (slO SV.nil 5 (enI .u8) []) (slO_nil _ _ _) ?_
  refine r_endt J J (kc rm1 (kc rm0 kr)) ?_
  exact hk SV.nil
 ·refine c_cond_f J h1 ?_
  refine c_skip (e_seq (cr ?_))
  refine o1 J (o_bs (e := (enI .u8)) (l := ([] : List Int)) (zs := [(U 0)]) J J J J J J J J J J (fun s1 => ?_))
  refine op J J ?_
  obtain ⟨hg, h⟩ := gsome h
  obtain rfl := si h
  refine o1 rfl (o_app (s := s1) (r := s0) (e := (enI .u8)) (l := ([] : List Int)) (l2 := p0) (zs := [(U 0)]) rfl rfl rfl rfl rfl rfl rfl rfl rfl rfl rfl rm0 rm0 q0 (by simpa using hg) (fun s2 => ?_))
  refine op J J (oe (c_ret (e_ret ?_)))
  refine r_endt J J (kc rm1 (kc rm0 kr)) ?_
  exact hk s2

theorem c_order_scanner_text {g : Gw} (hg : GK g) (X : HP) (p0 : Vorder_scanner) (b0 : Nat) (s0 : SV) (q0 : Rd X s0 5 (enI .u8) p0.p) (r : Vorder_scanner × (List Int)) (h : m_order_scanner_text p0 = some r) : Tri env g 86 (A [(F b0 0)]) [X, blk b0 (.cells (A [(V s0), (I p0.code)]) 128 (0, 0))] (fun K R => ∀ (i0 : HP × SV × SV), (Rd i0.1 i0.2.1 5 (enI .u8) r.1.p) → (Ext X i0.1) → K (V i0.2.2) (i0.1 :: blk b0 (.cells (A [(V i0.2.1), (I r.1.code)]) 128 (0, 0)) :: slO i0.2.2 5 (enI .u8) r.2 :: R)) := by
 refine tri_of (fn := Tryz.f86) (N := 28) Tryz.func86 J J J ?_
 intro R K hk
 unfold m_order_scanner_text at h
 change GC _ none _ [] [(0, (F b0 0))] (X :: blk b0 (.cells (A [(V s0), (I p0.code)]) 128 (0, 0)) :: R) g _ _
 refine cr (op J J (oe (c_seq ?_)))
 refine c_region (op J J (oe (c_seq ?_)))
 replace h := bsome h
 obtain ⟨d1, h, hk1⟩ := h
 refine cj (D := Unit) (ι := Unit) (fun _ i1 => True) (fun _ i1 => [(3, (I d1)), (0, (F b0 0))]) (fun _ i1 => X :: blk b0 (.cells (A [(V s0), (I p0.code)]) 128 (0, 0)) :: R) ?_ ?_
 ·refine c_block ?_
  refine c_loop (l_sub (sc J (sc J sn)) (l_keep (kc rm0 (kc rm0 kr)) (lf (X := Int) (ι := Unit) (fun k x => order_scanner_text_l2 p0 k x) _ (fun x2 i2 => True) (fun x2 i2 => [(3, (I x2)), (0, (F b0 0))]) (fun x2 i2 => X :: blk b0 (.cells (A [(V s0), (I p0.code)]) 128 (0, 0)) :: R) (fun _ => J) ?_ fuel 0 () trivial h)))
  clear h
  rintro k2 ih2 x2 i2 _ h
  rw [order_scanner_text_l2.eq_2] at h
  refine l_round (c_seq (c_seq ?_))
  replace h := bsome h
  obtain ⟨d3, h, hk3⟩ := h
  refine cj (D := Unit) (ι := Unit) (fun _ i3 => True) (fun _ i3 => [(21, (O d3)), (3, (I x2)), (0, (F b0 0))]) (fun _ i3 => X :: blk b0 (.cells (A [(V s0), (I p0.code)]) 128 (0, 0)) :: R) ?_ ?_
  ·refine c_region (op J J (op J J (op J J ?_)))
   refine o1 J (o_fa (fd := ⟨ "p", 28, 0, false, "", "vitrine/order", 0⟩) J J J J J ?_)
   refine o1 J (o_ld (b := b0) (off := 0) (v := (V s0)) J rm1 J J ?_)
   refine o1 J (o_len (s := s0) J J J rm0 q0 ?_)
   refine o1 J (o_p (v := (O (decide (x2 < (p0.p.length : Int))))) J ?_)
   refine op J J ?_
   rcases bool_or ((decide (x2 < (p0.p.length : Int)))) with hb72 | hb72
   ·replace h := cond_t hb72 h
    refine oy J J J hb72 (o_p J ?_)
    refine oy J J J hb72 (o_p J ?_)
    refine oy J J J hb72 (o_fa (fd := ⟨ "p", 28, 0, false, "", "vitrine/order", 0⟩) J J J J J ?_)
    refine oy J J J hb72 (o_ld (b := b0) (off := 0) (v := (V s0)) J rm1 J J ?_)
    refine oy J J J hb72 (o_p J ?_)
    replace h := gsome h
    obtain ⟨hg73, h⟩ := h
    refine oy J J J hb72 (o_ix (s := s0) (n := x2) (e := (enI .u8)) J J J J J J rm0 q0 hg73 ?_)
    refine oy J J J hb72 (o_ldE (s := s0) (e := (enI .u8)) (n := x2) (f := 0) (v := (U (rd p0.p x2))) J rm0 q0 hg73 J J ?_)
    replace h := bsome h
    obtain ⟨d4, h4, h⟩ := h
    refine oy J J J hb72 (o_call has58 J (c_order_Is hg X (rd p0.p x2) _ h4) (pc rm0 pn) ?_)
    refine oy J J J hb72 (o_p (v := (O (!d4))) J ?_)
    refine o1 J (o_pick_t J hb72 J ?_)
    refine o_end ?_
    obtain rfl := si h
    exact ej () () trivial (sc J (sc J (sc J sn))) (kc rm0 (kc rm0 kr))
   ·replace h := cond_f hb72 h
    refine on J J J hb72 ?_
    refine on J J J hb72 ?_
    refine on J J J hb72 ?_
    refine on J J J hb72 ?_
    refine on J J J hb72 ?_
    refine on J J J hb72 ?_
    refine on J J J hb72 ?_
    refine on J J J hb72 ?_
    refine on J J J hb72 ?_
    refine o1 J (o_pick_f J hb72 J ?_)
    refine o_end ?_
    obtain rfl := si h
    exact ej () () trivial (sc J (sc J (sc J sn))) (kc rm0 (kc rm0 kr))
  ·rintro _ i3 _
   replace h := hk3
   clear hk3
   refine e_seq ?_
   refine c_cond (b := d3) J (fun hb74 => ?_) (fun hb74 => ?_)
   ·replace h := cond_t hb74 h
    refine c_skip (e_seq (c_block (c_region (op J J ?_))))
    refine o1 J (o_p (v := (I (w64 (x2 + 1)))) J ?_)
    refine op J J (o_end (e_blk ?_))
    exact e_loop (l_sub (sc J (sc J sn)) (l_keep (kc rm0 (kc rm0 kr)) (ih2 (w64 (x2 + 1)) () trivial h)))
   ·replace h := cond_f hb74 h
    refine c_exit (e_then_exit (e_then_exit (e_blk_exit ?_)))
    obtain rfl := si h
    exact ej () () trivial (sc J (sc J sn)) (kc rm0 (kc rm0 kr))
 ·rintro _ i1 _
  replace h := hk1
  clear hk1
  refine e_seq (cr (op J J (op J J ?_)))
  replace h := bsome h
  obtain ⟨d6, h6, h⟩ := h
  refine o1 J (o_call has87 J (c_order_scanner_take hg X p0 b0 s0 q0 d1 _ h6) (pc rm0 (pc rm0 pn)) (fun i6 f6_0 f6_1 f6_2 => ?_))
  replace h := bsome h
  obtain ⟨d7, h7, h⟩ := h
  refine o1 J (o_call has34 J (c_bytes_Clone hg i6.1 d6.2 i6.2.2 f6_1 _ h7) (pc rm0 pn) (fun i7 => ?_))
  refine op J J (oe (c_ret (e_ret ?_)))
  refine r_endt J J (kc rm0 (kc rm1 (kc rm0 kr))) ?_
  obtain rfl := si h
  exact hk (i6.1, i6.2.1, i7) f6_0 f6_2

theorem c_order_scanner_addr {g : Gw} (hg : GK g) (X : HP) (p0 : Vorder_scanner) (b0 : Nat) (s0 : SV) (q0 : Rd X s0 5 (enI .u8) p0.p) (r : Vorder_scanner × Int) (h : m_order_scanner_addr p0 = some r) : Tri env g 88 (A [(F b0 0)]) [X, blk b0 (.cells (A [(V s0), (I p0.code)]) 128 (0, 0))] (fun K R => ∀ (i0 : HP × SV), (Rd i0.1 i0.2 5 (enI .u8) r.1.p) → (Ext X i0.1) → K (I r.2) (i0.1 :: blk b0 (.cells (A [(V i0.2), (I r.1.code)]) 128 (0, 0)) :: R)) := by
 refine tri_of (fn := Tryz.f88) (N := 24) Tryz.func88 J J J ?_
 intro R K hk
 unfold m_order_scanner_addr at h
 change GC _ none _ [] [(0, (F b0 0))] (X :: blk b0 (.cells (A [(V s0), (I p0.code)]) 128 (0, 0)) :: R) g _ _
 refine cr (op J J (oe (c_seq ?_)))
 refine c_region (op J J ?_)
 replace h := bsome h
 obtain ⟨d1, h1, h⟩ := h
 refine o1 J (o_call has87 J (c_order_scanner_take hg X p0 b0 s0 q0 2 _ h1) (pc rm0 (pc rm0 pn)) (fun i1 f1_0 f1_1 f1_2 => ?_))
 refine op J J (oe (c_seq (cr ?_)))
 refine op J J (op J J ?_)
 refine o1 J (o_fa (fd := ⟨ "code", 29, 1, false, "", "vitrine/order", 24⟩) J J J J J ?_)
 refine o1 J (o_ld (b := b0) (off := 1) (v := (I d1.1.code)) J rm1 J J ?_)
 refine o1 J (o_p (v := (O (d1.1.code != 0))) J ?_)
 refine oe ?_
 refine c_cond (b := (d1.1.code != 0)) J (fun hb104 => ?_) (fun hb104 => ?_)
 ·replace h := cond_t hb104 h
  refine cr (op J J (oe (c_ret ?_)))
  refine e_then_ret (e_ret ?_)
  refine r_endt J J (kc rm0 (kc rm0 kr)) ?_
  obtain rfl := si h
  exact hk (i1.1, i1.2.1) f1_0 f1_2
 ·replace h := cond_f hb104 h
  refine c_skip (e_seq (cr (op J J ?_)))
  replace h := bsome h
  obtain ⟨d3, h3, h⟩ := h
  refine o1 J (o_call has59 J (c_addr_Decode hg i1.1 12 d1.2 i1.2.2 f1_1 _ h3) (pc rm0 pn) ?_)
  refine op J J (op J J (op J J (op J J (op J J (o_end ?_)))))
  refine e_seq (c_seq (cr (op J J ?_)))
  refine o1 J (o_p (v := (O (d3.2 != 0))) J ?_)
  refine oe ?_
  replace h := bsome h
  obtain ⟨d4, h, hk4⟩ := h
  refine cj (D := Unit) (ι := Unit) (fun _ i4 => Rd i1.1 i1.2.1 5 (enI .u8) d4.1) (fun _ i4 => [(4, (I d3.1))]) (fun _ i4 => i1.1 :: blk b0 (.cells (A [(V i1.2.1), (I d4.2)]) 128 (0, 0)) :: R) ?_ ?_
  ·refine c_cond (b := (d3.2 != 0)) J (fun hb105 => ?_) (fun hb105 => ?_)
   ·replace h := cond_t hb105 h
    refine c_region (op J J (op J J ?_))
    replace h := bsome h
    obtain ⟨d5, h5, h⟩ := h
    refine o1 J (o_call has107 J (c_order_scanner_fail hg i1.1 d1.1 b0 i1.2.1 f1_0 d3.2 _ h5) (pc rm0 (pc rm0 pn)) (fun f5_0 => ?_))
    refine o_end ?_
    obtain rfl := si h
    exact ej () () f5_0 (sc J sn) (kc rm0 (kc rm0 kr))
   ·replace h := cond_f hb105 h
    refine c_skip ?_
    obtain rfl := si h
    exact ej () () f1_0 (sc J sn) (kc rm0 (kc rm0 kr))
  ·rintro _ i4 f4_0
   replace h := hk4
   clear hk4
   refine e_seq (cr (op J J (op J J (o_end ?_))))
   refine e_seq (c_ret (e_ret ?_))
   refine r_endt J J (kc rm0 (kc rm0 kr)) ?_
   obtain rfl := si h
   exact hk (i1.1, i1.2.1) f4_0 f1_2

theorem c_order_scanner_character {g : Gw} (hg : GK g) (X : HP) (p0 : Vorder_scanner) (b0 : Nat) (s0 : SV) (q0 : Rd X s0 5 (enI .u8) p0.p) (r : Vorder_scanner × Int) (h : m_order_scanner_character p0 = some r) : Tri env g 89 (A [(F b0 0)]) [X, blk b0 (.cells (A [(V s0), (I p0.code)]) 128 (0, 0))] (fun K R => ∀ (i0 : HP × SV), (Rd i0.1 i0.2 5 (enI .u8) r.1.p) → (Ext X i0.1) → K (U r.2) (i0.1 :: blk b0 (.cells (A [(V i0.2), (I r.1.code)]) 128 (0, 0)) :: R)) := by
 refine tri_of (fn := Tryz.f89) (N := 13) Tryz.func89 J J J ?_
 intro R K hk
 unfold m_order_scanner_character at h
 change GC _ none _ [] [(0, (F b0 0))] (X :: blk b0 (.cells (A [(V s0), (I p0.code)]) 128 (0, 0)) :: R) g _ _
 refine cr (op J J (oe (c_seq ?_)))
 refine c_region (op J J ?_)
 replace h := bsome h
 obtain ⟨d1, h1, h⟩ := h
 refine o1 J (o_call has87 J (c_order_scanner_take hg X p0 b0 s0 q0 1 _ h1) (pc rm0 (pc rm0 pn)) (fun i1 f1_0 f1_1 f1_2 => ?_))
 replace h := gsome h
 obtain ⟨hg110, h⟩ := h
 refine o1 J (o_ix (s := i1.2.2) (n := 0) (e := (enI .u8)) J J J J J J rm0 f1_1 hg110 ?_)
 refine o1 J (o_ldE (s := i1.2.2) (e := (enI .u8)) (n := 0) (f := 0) (v := (U (rd d1.2 0))) J rm0 f1_1 hg110 J J ?_)
 refine op J J (oe (c_seq (cr ?_)))
 refine op J J ?_
 replace h := bsome h
 obtain ⟨d2, h2, h⟩ := h
 refine o1 J (o_call has58 J (c_order_Is hg i1.1 (rd d1.2 0) _ h2) (pc rm0 pn) ?_)
 refine oe ?_
 replace h := bsome h
 obtain ⟨d3, h, hk3⟩ := h
 refine cj (D := Unit) (ι := Unit) (fun _ i3 => Rd i1.1 i1.2.1 5 (enI .u8) d3.1) (fun _ i3 => [(3, (U (rd d1.2 0)))]) (fun _ i3 => i1.1 :: blk b0 (.cells (A [(V i1.2.1), (I d3.2)]) 128 (0, 0)) :: R) ?_ ?_
 ·refine c_cond (b := d2) J (fun hb111 => ?_) (fun hb111 => ?_)
  ·replace h := cond_t hb111 h
   refine c_region (op J J ?_)
   replace h := bsome h
   obtain ⟨d4, h4, h⟩ := h
   refine o1 J (o_call has107 J (c_order_scanner_fail hg i1.1 d1.1 b0 i1.2.1 f1_0 10 _ h4) (pc rm0 (pc rm0 pn)) (fun f4_0 => ?_))
   refine o_end ?_
   obtain rfl := si h
   exact ej () () f4_0 (sc J sn) (kc rm0 (kc rm0 kr))
  ·replace h := cond_f hb111 h
   refine c_skip ?_
   obtain rfl := si h
   exact ej () () f1_0 (sc J sn) (kc rm0 (kc rm0 kr))
 ·rintro _ i3 f3_0
  replace h := hk3
  clear hk3
  refine e_seq (cr (op J J (op J J (o_end ?_))))
  refine e_seq (c_ret (e_ret ?_))
  refine r_endt J J (kc rm0 (kc rm0 kr)) ?_
  obtain rfl := si h
  exact hk (i1.1, i1.2.1) f3_0 f1_2

theorem c_attr_Pair_Check {g : Gw} (hg : GK g) (X : HP) (p0 : Vattr_Pair) (r : Int) (h : m_attr_Pair_Check p0 = some r) : Tri env g 82 (A [(.agg (A [(U p0.f_Type), (U p0.Value)]))]) [X] (fun K R => K (I r) (X :: R)) := by
 refine tri_of (fn := Tryz.f82) (N := 61) Tryz.func82 J J J ?_
 intro R K hk
 unfold m_attr_Pair_Check at h
 change GC _ none _ [] [(0, (.agg (A [(U p0.f_Type), (U p0.Value)])))] (X :: R) g _ _
 refine cr ?_
 refine o1 J (o_box (cs := [(U p0.f_Type), (U p0.Value)]) J J (fun b119 => ?_))
 refine op J J (oe (cr ?_))
 refine o1 J (o_fa (fd := ⟨ "Value", 5, 1, false, "", "", 1⟩) J J J J J ?_)
 refine o1 J (o_ld (b := b119) (off := 1) (v := (U p0.Value)) J rm0 J J ?_)
 refine op J J (oe (cr (op J J ?_)))
 refine oe (c_seq (cr ?_))
 refine o1 J (o_fa (fd := ⟨ "Type", 5, 0, false, "", "", 0⟩) J J J J J ?_)
 refine o1 J (o_ld (b := b119) (off := 0) (v := (U p0.f_Type)) J rm0 J J ?_)
 refine oe (c_block (cr ?_))
 refine o1 J (o_p (v := (O (p0.f_Type == 0))) J ?_)
 refine op J J (oe ?_)
 replace h := bsome h
 obtain ⟨d2, h, hk2⟩ := h
 refine cj (D := Unit) (ι := Unit) (fun _ i2 => True) (fun _ i2 => [(4, (O d2))]) (fun _ i2 => X :: R) ?_ ?_
 ·refine c_cond (b := (p0.f_Type == 0)) J (fun hb121 => ?_) (fun hb121 => ?_)
  ·replace h := cond_t hb121 h
   refine c_region (op J J ?_)
   refine o1 J (o_p (v := (O (p0.Value == 0))) J ?_)
   refine op J J (o_end ?_)
   obtain rfl := si h
   exact ej () () trivial (sc J sn) (kc rm1 (kd kr))
  ·replace h := cond_f hb121 h
   refine cr ?_
   refine o1 J (o_p (v := (O (p0.f_Type == 192))) J ?_)
   refine op J J (oe ?_)
   refine c_cond (b := (p0.f_Type == 192)) J (fun hb122 => ?_) (fun hb122 => ?_)
   ·replace h := cond_t hb122 h
    refine c_region (op J J (o_end ?_))
    obtain rfl := si h
    exact ej () () trivial (sc J sn) (kc rm1 (kd kr))
   ·replace h := cond_f hb122 h
    refine cr ?_
    refine o1 J (o_p (v := (O (p0.f_Type == 65))) J ?_)
    refine op J J (oe ?_)
    refine c_cond (b := (p0.f_Type == 65)) J (fun hb123 => ?_) (fun hb123 => ?_)
    ·replace h := cond_t hb123 h
     refine c_region (op J J ?_)
     refine o1 J (o_p (v := (O (p0.Value == 0))) J ?_)
     refine op J J ?_
     rcases bool_or ((p0.Value == 0)) with hb124 | hb124
     ·replace h := cond_t hb124 h
      refine on J J J hb124 ?_
      refine on J J J hb124 ?_
      refine o1 J (o_pick_t J hb124 J ?_)
      refine op J J ?_
      refine on J J J J ?_
      refine on J J J J ?_
      refine o1 J (o_pick_t J J J ?_)
      refine op J J ?_
      refine on J J J J ?_
      refine on J J J J ?_
      refine o1 J (o_pick_t J J J ?_)
      refine op J J ?_
      refine on J J J J ?_
      refine on J J J J ?_
      refine o1 J (o_pick_t J J J ?_)
      refine op J J ?_
      refine on J J J J ?_
      refine on J J J J ?_
      refine o1 J (o_pick_t J J J ?_)
      refine op J J (o_end ?_)
      obtain rfl := si h
      exact ej () () trivial (sc J sn) (kc rm1 (kd kr))
     ·replace h := cond_f hb124 h
      refine oy J J J hb124 (o_p J ?_)
      refine oy J J J hb124 (o_p (v := (O (p0.Value == 240))) J ?_)
      refine o1 J (o_pick_f J hb124 J ?_)
      refine op J J ?_
      rcases bool_or ((p0.Value == 240)) with hb125 | hb125
      ·replace h := cond_t hb125 h
       refine on J J J hb125 ?_
       refine on J J J hb125 ?_
       refine o1 J (o_pick_t J hb125 J ?_)
       refine op J J ?_
       refine on J J J J ?_
       refine on J J J J ?_
       refine o1 J (o_pick_t J J J ?_)
       refine op J J ?_
       refine on J J J J ?_
       refine on J J J J ?_
       refine o1 J (o_pick_t J J J ?_)
       refine op J J ?_
       refine on J J J J ?_
       refine on J J J J ?_
       refine o1 J (o_pick_t J J J ?_)
       refine op J J (o_end ?_)
       obtain rfl := si h
       exact ej () () trivial (sc J sn) (kc rm1 (kd kr))
      ·replace h := cond_f hb125 h
       refine oy J J J hb125 (o_p J ?_)
       refine oy J J J hb125 (o_p (v := (O (p0.Value == 241))) J ?_)
       refine o1 J (o_pick_f J hb125 J ?_)
       refine op J J ?_
       rcases bool_or ((p0.Value == 241)) with hb126 | hb126
       ·replace h := cond_t hb126 h
        refine on J J J hb126 ?_
        refine on J J J hb126 ?_
        refine o1 J (o_pick_t J hb126 J ?_)
        refine op J J ?_
        refine on J J J J ?_
        refine on J J J J ?_
        refine o1 J (o_pick_t J J J ?_)
        refine op J J ?_
        refine on J J J J ?_
        refine on J J J J ?_
        refine o1 J (o_pick_t J J J ?_)
        refine op J J (o_end ?_)
        obtain rfl := si h
        exact ej () () trivial (sc J sn) (kc rm1 (kd kr))
       ·replace h := cond_f hb126 h
        refine oy J J J hb126 (o_p J ?_)
        refine oy J J J hb126 (o_p (v := (O (p0.Value == 242))) J ?_)
        refine o1 J (o_pick_f J hb126 J ?_)
        refine op J J ?_
        rcases bool_or ((p0.Value == 242)) with hb127 | hb127
        ·replace h := cond_t hb127 h
         refine on J J J hb127 ?_
         refine on J J J hb127 ?_
         refine o1 J (o_pick_t J hb127 J ?_)
         refine op J J ?_
         refine on J J J J ?_
         refine on J J J J ?_
         refine o1 J (o_pick_t J J J ?_)
         refine op J J (o_end ?_)
         obtain rfl := si h
         exact ej () () trivial (sc J sn) (kc rm1 (kd kr))
        ·replace h := cond_f hb127 h
         refine oy J J J hb127 (o_p J ?_)
         refine oy J J J hb127 (o_p (v := (O (p0.Value == 244))) J ?_)
         refine o1 J (o_pick_f J hb127 J ?_)
         refine op J J ?_
         rcases bool_or ((p0.Value == 244)) with hb128 | hb128
         ·replace h := cond_t hb128 h
          refine on J J J hb128 ?_
          refine on J J J hb128 ?_
          refine o1 J (o_pick_t J hb128 J ?_)
          refine op J J (o_end ?_)
          obtain rfl := si h
          exact ej () () trivial (sc J sn) (kc rm1 (kd kr))
         ·replace h := cond_f hb128 h
          refine oy J J J hb128 (o_p J ?_)
          refine oy J J J hb128 (o_p (v := (O (p0.Value == 248))) J ?_)
          refine o1 J (o_pick_f J hb128 J ?_)
          refine op J J (o_end ?_)
          obtain rfl := si h
          exact ej () () trivial (sc J sn) (kc rm1 (kd kr))
    ·replace h := cond_f hb123 h
     refine cr ?_
     refine o1 J (o_p (v := (O (p0.f_Type == 66))) J ?_)
     refine op J J (oe ?_)
     refine c_cond (b := (p0.f_Type == 66)) J (fun hb129 => ?_) (fun hb129 => ?_)
     ·replace h := cond_t hb129 h
      refine c_region (op J J ?_)
      refine o1 J (o_p (v := (O (p0.Value == 0))) J ?_)
      refine op J J ?_
      rcases bool_or ((p0.Value == 0)) with hb130 | hb130
      ·replace h := cond_t hb130 h
       refine on J J J hb130 ?_
       refine on J J J hb130 ?_
       refine on J J J hb130 ?_
       refine ou J J J ?_
       refine ou J J J ?_
       refine on J J J hb130 ?_
       refine o1 J (o_pick_t J hb130 J ?_)
       refine op J J (o_end ?_)
       obtain rfl := si h
       exact ej () () trivial (sc J sn) (kc rm1 (kd kr))
      ·replace h := cond_f hb130 h
       refine oy J J J hb130 (o_p J ?_)
       refine oy J J J hb130 (o_p (v := (O (decide (p0.Value ≥ 241)))) J ?_)
       refine oy J J J hb130 (o_p J ?_)
       rcases bool_or ((decide (p0.Value ≥ 241))) with hb131 | hb131
       ·replace h := cond_t hb131 h
        refine oy J J J hb131 (o_p J ?_)
        refine oy J J J hb131 (o_p (v := (O (decide (p0.Value ≤ 247)))) J ?_)
        refine oy J J J hb130 (o_pick_t J hb131 J ?_)
        refine o1 J (o_pick_f J hb130 J ?_)
        refine op J J (o_end ?_)
        obtain rfl := si h
        exact ej () () trivial (sc J sn) (kc rm1 (kd kr))
       ·replace h := cond_f hb131 h
        refine on J J J hb131 ?_
        refine on J J J hb131 ?_
        refine oy J J J hb130 (o_pick_f J hb131 J ?_)
        refine o1 J (o_pick_f J hb130 J ?_)
        refine op J J (o_end ?_)
        obtain rfl := si h
        exact ej () () trivial (sc J sn) (kc rm1 (kd kr))
     ·replace h := cond_f hb129 h
      refine cr ?_
      refine o1 J (o_p (v := (O (p0.f_Type == 67))) J ?_)
      refine op J J (oe ?_)
      refine c_cond (b := (p0.f_Type == 67)) J (fun hb132 => ?_) (fun hb132 => ?_)
      ·replace h := cond_t hb132 h
       refine c_region (op J J ?_)
       refine o1 J (o_p (v := (O (p0.Value == 0))) J ?_)
       refine op J J ?_
       rcases bool_or ((p0.Value == 0)) with hb133 | hb133
       ·replace h := cond_t hb133 h
        refine on J J J hb133 ?_
        refine on J J J hb133 ?_
        refine o1 J (o_pick_t J hb133 J ?_)
        refine op J J (o_end ?_)
        obtain rfl := si h
        exact ej () () trivial (sc J sn) (kc rm1 (kd kr))
       ·replace h := cond_f hb133 h
        refine oy J J J hb133 (o_p J ?_)
        refine oy J J J hb133 (o_p (v := (O (p0.Value == 241))) J ?_)
        refine o1 J (o_pick_f J hb133 J ?_)
        refine op J J (o_end ?_)
        obtain rfl := si h
        exact ej () () trivial (sc J sn) (kc rm1 (kd kr))
      ·replace h := cond_f hb132 h
       refine c_skip ?_
       obtain rfl := si h
       exact ej () () trivial (sc J sn) (kc rm1 (kd kr))
 ·rintro _ i2 _
  replace h := hk2
  clear hk2
  refine e_blk (e_seq (c_seq (cr (op J J ?_))))
  refine o1 J (o_p (v := (O (!d2))) J ?_)
  refine oe ?_
  refine c_cond (b := (!d2)) J (fun hb134 => ?_) (fun hb134 => ?_)
  ·replace h := cond_t hb134 h
   refine cr (op J J (oe (c_ret ?_)))
   refine e_then_ret (e_ret ?_)
   refine r_endt J J (kc rm0 kr) ?_
   obtain rfl := si h
   exact hk
  ·replace h := cond_f hb134 h
   refine c_skip (e_seq (cr (op J J (o_end ?_))))
   refine e_seq (c_ret (e_ret ?_))
   refine r_endt J J (kc rm0 kr) ?_
   obtain rfl := si h
   exact hk

theorem c_order_scanner_pair {g : Gw} (hg : GK g) (X : HP) (p0 : Vorder_scanner) (b0 : Nat) (s0 : SV) (q0 : Rd X s0 5 (enI .u8) p0.p) (r : Vorder_scanner × (List Vattr_Pair)) (h : m_order_scanner_pair p0 = some r) : Tri env g 90 (A [(F b0 0)]) [X, blk b0 (.cells (A [(V s0), (I p0.code)]) 128 (0, 0))] (fun K R => ∀ (i0 : HP × SV × SV), (Rd i0.1 i0.2.1 5 (enI .u8) r.1.p) → (Ext X i0.1) → K (V i0.2.2) (i0.1 :: blk b0 (.cells (A [(V i0.2.1), (I r.1.code)]) 128 (0, 0)) :: slO i0.2.2 93 en_Vattr_Pair r.2 :: R)) := by
 refine tri_of (fn := Tryz.f90) (N := 24) Tryz.func90 J J J ?_
 intro R K hk
 unfold m_order_scanner_pair at h
 change GC _ none _ [] [(0, (F b0 0))] (X :: blk b0 (.cells (A [(V s0), (I p0.code)]) 128 (0, 0)) :: R) g _ _
 refine cr (op J J (oe (c_seq ?_)))
 refine c_region (op J J ?_)
 replace h := bsome h
 obtain ⟨d1, h1, h⟩ := h
 refine o1 J (o_call has87 J (c_order_scanner_take hg X p0 b0 s0 q0 2 _ h1) (pc rm0 (pc rm0 pn)) (fun i1 f1_0 f1_1 f1_2 => ?_))
 refine op J J (oe (c_seq ?_))
 replace h := gsome h
 obtain ⟨hg115, h⟩ := h
 replace h := gsome h
 obtain ⟨hg116, h⟩ := h
 refine c_draw (n := 2) (q := [(0, 8, (V i1.2.2)), (1, 9, (F (SV.blk i1.2.2) (SV.off i1.2.2 + Int.toNat 0 * 1))), (2, 10, (U (rd d1.2 0))), (3, 11, (V i1.2.2)), (4, 12, (F (SV.blk i1.2.2) (SV.off i1.2.2 + Int.toNat 1 * 1))), (5, 13, (U (rd d1.2 1))), (6, 14, (.agg (A [(U (rd d1.2 0)), (U (rd d1.2 1))])))]) (pend := [0, 1, 2, 3, 4, 5, 6]) J J J ?_
 refine ⟨⟨fun _ => ⟨J, J, J, .inl ⟨J, (o_p J ⟨J, J⟩)⟩⟩, fun _ => ⟨J, J, J, .inl ⟨J, (o_ix (s := i1.2.2) (n := 0) (e := (enI .u8)) J J J J J J rm0 f1_1 hg115 ⟨J, J⟩)⟩⟩, fun _ => ⟨J, J, J, .inl ⟨J, (o_ldE (s := i1.2.2) (e := (enI .u8)) (n := 0) (f := 0) (v := (U (rd d1.2 0))) J rm0 f1_1 hg115 J J ⟨J, J⟩)⟩⟩, fun _ => ⟨J, J, J, .inl ⟨J, (o_p J ⟨J, J⟩)⟩⟩, fun _ => ⟨J, J, J, .inl ⟨J, (o_ix (s := i1.2.2) (n := 1) (e := (enI .u8)) J J J J J J rm0 f1_1 hg116 ⟨J, J⟩)⟩⟩, fun _ => ⟨J, J, J, .inl ⟨J, (o_ldE (s := i1.2.2) (e := (enI .u8)) (n := 1) (f := 0) (v := (U (rd d1.2 1))) J rm0 f1_1 hg116 J J ⟨J, J⟩)⟩⟩, fun _ => ⟨J, J, J, .inl ⟨J, (o_build (fs := f_0) (ps := [(0, 1), (1, 1)]) (cs := [(U (rd d1.2 0)), (U (rd d1.2 1))]) J J J J J ⟨J, J⟩)⟩⟩, trivial⟩, J, .inr ⟨[7], J, J, ⟨J, .inl J, ?_⟩, trivial⟩⟩
 refine (o_alloc (cs := [(U 0), (U 0)]) J J (fun b117 => ?_))
 refine ⟨[], [0, 1, 2, 3, 4, 5, 6], J, J, J, J, ?_⟩
 refine ⟨⟨fun _ => ⟨J, J, J, .inl ⟨J, (o_p J ⟨J, J⟩)⟩⟩, fun _ => ⟨J, J, J, .inl ⟨J, (o_ix (s := i1.2.2) (n := 0) (e := (enI .u8)) J J J J J J rm1 f1_1 hg115 ⟨J, J⟩)⟩⟩, fun _ => ⟨J, J, J, .inl ⟨J, (o_ldE (s := i1.2.2) (e := (enI .u8)) (n := 0) (f := 0) (v := (U (rd d1.2 0))) J rm1 f1_1 hg115 J J ⟨J, J⟩)⟩⟩, fun _ => ⟨J, J, J, .inl ⟨J, (o_p J ⟨J, J⟩)⟩⟩, fun _ => ⟨J, J, J, .inl ⟨J, (o_ix (s := i1.2.2) (n := 1) (e := (enI .u8)) J J J J J J rm1 f1_1 hg116 ⟨J, J⟩)⟩⟩, fun _ => ⟨J, J, J, .inl ⟨J, (o_ldE (s := i1.2.2) (e := (enI .u8)) (n := 1) (f := 0) (v := (U (rd d1.2 1))) J rm1 f1_1 hg116 J J ⟨J, J⟩)⟩⟩, fun _ => ⟨J, J, J, .inl ⟨J, (o_build (fs := f_0) (ps := [(0, 1), (1, 1)]) (cs := [(U (rd d1.2 0)), (U (rd d1.2 1))]) J J J J J ⟨J, J⟩)⟩⟩, trivial⟩, J, .inr ⟨[8], J, J, ⟨J, .inl J, ?_⟩, trivial⟩⟩
 refine (o_st (b := b117) (off := 0) (vs := [(U (rd d1.2 0)), (U (rd d1.2 1))]) (cs' := [(U (rd d1.2 0)), (U (rd d1.2 1))]) J J rp0 J J J J J J ?_)
 refine ⟨[], [], J, J, ?_⟩
 refine ⟨⟨(fun h => nomatch h), (fun h => nomatch h), (fun h => nomatch h), (fun h => nomatch h), (fun h => nomatch h), (fun h => nomatch h), (fun h => nomatch h), trivial⟩, J, J, J, ?_⟩
 refine e_seq (c_seq (cr ?_))
 refine o1 J (o_ld (b := b117) (off := 0) (v := (.agg (A [(U (rd d1.2 0)), (U (rd d1.2 1))]))) J rm0 J J ?_)
 replace h := bsome h
 obtain ⟨d3, h3, h⟩ := h
 refine o1 J (o_call has82 J (c_attr_Pair_Check hg i1.1 (⟨(rd d1.2 0), (rd d1.2 1)⟩ : Vattr_Pair) _ h3) (pc rm1 pn) ?_)
 refine op J J (oe (cr (op J J ?_)))
 refine o1 J (o_p (v := (O (d3 != 0))) J ?_)
 refine oe ?_
 replace h := bsome h
 obtain ⟨d4, h, hk4⟩ := h
 refine cj (D := Unit) (ι := Unit) (fun _ i4 => Rd i1.1 i1.2.1 5 (enI .u8) d4.1) (fun _ i4 => [(4, (F b117 0))]) (fun _ i4 => i1.1 :: blk b117 (.cells (A [(U (rd d1.2 0)), (U (rd d1.2 1))]) 93 (0, 0)) :: blk b0 (.cells (A [(V i1.2.1), (I d4.2)]) 128 (0, 0)) :: R) ?_ ?_
 ·refine c_cond (b := (d3 != 0)) J (fun hb135 => ?_) (fun hb135 => ?_)
  ·replace h := cond_t hb135 h
   refine c_region (op J J (op J J ?_))
   replace h := bsome h
   obtain ⟨d5, h5, h⟩ := h
   refine o1 J (o_call has107 J (c_order_scanner_fail hg i1.1 d1.1 b0 i1.2.1 f1_0 d3 _ h5) (pc rm0 (pc rm1 pn)) (fun f5_0 => ?_))
   refine o_end ?_
   obtain rfl := si h
   exact ej () () f5_0 (sc J sn) (kc rm0 (kc rm1 (kc rm0 kr)))
  ·replace h := cond_f hb135 h
   refine c_skip ?_
   obtain rfl := si h
   exact ej () () f1_0 (sc J sn) (kc rm0 (kc rm0 (kc rm0 kr)))
 ·rintro _ i4 f4_0
  replace h := hk4
  clear hk4
  refine e_seq (cr ?_)
  refine o1 J (o_ld (b := b117) (off := 0) (v := (.agg (A [(U (rd d1.2 0)), (U (rd d1.2 1))]))) J rm1 J J ?_)
  refine o1 J (o_bs (e := en_Vattr_Pair) (l := [(⟨(rd d1.2 0), (rd d1.2 1)⟩ : Vattr_Pair)]) (zs := [(U 0), (U 0)]) J J J J J J J J J J (fun s136 => ?_))
  refine op J J (oe (c_ret (e_ret ?_)))
  refine r_endt J J (kc rm1 (kc rm2 (kc rm0 (kd kr)))) ?_
  obtain rfl := si h
  exact hk (i1.1, i1.2.1, s136) f4_0 f1_2

theorem c_attr_Parse {g : Gw} (hg : GK g) (X : HP) (p0 : List Int) (s0 : SV) (q0 : Rd X s0 5 (enI .u8) p0) (r : (List Vattr_Pair) × Int × Int) (h : m_attr_Parse p0 = some r) : Tri env g 108 (A [(V s0)]) [X] (fun K R => ∀ (i0 : SV), K (.tuple (A [(V i0), (I r.2.1), (I r.2.2)])) (X :: slO i0 93 en_Vattr_Pair r.1 :: R)) := by
 refine tri_of (fn := Tryz.f108) (N := 56) Tryz.func108 J J J ?_
 intro R K hk
 unfold m_attr_Parse at h
 change GC _ none _ [] [(0, (V s0))] (X :: R) g _ _
 refine cr (op J J (op J J (op J J (o_end ?_))))
 refine e_seq (c_seq (c_seq ?_))
 replace h := bsome h
 obtain ⟨d1, h, hk1⟩ := h
 refine cj (D := Unit) (ι := Unit) (fun _ i1 => True) (fun _ i1 => [(23, (O d1)), (0, (V s0))]) (fun _ i1 => X :: R) ?_ ?_
 ·refine c_region (op J J ?_)
  refine o1 J (o_len (s := s0) J J J rm0 q0 ?_)
  refine o1 J (o_p (v := (O (decide ((p0.length : Int) < 1)))) J ?_)
  refine op J J ?_
  rcases bool_or ((decide ((p0.length : Int) < 1))) with hb142 | hb142
  ·replace h := cond_t hb142 h
   refine on J J J hb142 ?_
   refine on J J J hb142 ?_
   refine on J J J hb142 ?_
   refine on J J J hb142 ?_
   refine on J J J hb142 ?_
   refine on J J J hb142 ?_
   refine on J J J hb142 ?_
   refine on J J J hb142 ?_
   refine on J J J hb142 ?_
   refine o1 J (o_pick_t J hb142 J ?_)
   refine o_end ?_
   obtain rfl := si h
   exact ej () () trivial (sc J (sc J sn)) (kc rm0 kr)
  ·replace h := cond_f hb142 h
   refine oy J J J hb142 (o_p J ?_)
   refine oy J J J hb142 (o_len (s := s0) J J J rm0 q0 ?_)
   refine oy J J J hb142 (o_p J ?_)
   replace h := gsome h
   obtain ⟨hg143, h⟩ := h
   refine oy J J J hb142 (o_ix (s := s0) (n := 0) (e := (enI .u8)) J J J J J J rm0 q0 hg143 ?_)
   refine oy J J J hb142 (o_ldE (s := s0) (e := (enI .u8)) (n := 0) (f := 0) (v := (U (rd p0 0))) J rm0 q0 hg143 J J ?_)
   refine oy J J J hb142 (o_p (v := (I (w64 ((rd p0 0))))) J ?_)
   refine oy J J J hb142 (o_p (v := (I (w64 (2 * (w64 ((rd p0 0))))))) J ?_)
   refine oy J J J hb142 (o_p (v := (I (w64 (1 + (w64 (2 * (w64 ((rd p0 0))))))))) J ?_)
   refine oy J J J hb142 (o_p (v := (O (decide ((p0.length : Int) < (w64 (1 + (w64 (2 * (w64 ((rd p0 0))))))))))) J ?_)
   refine o1 J (o_pick_f J hb142 J ?_)
   refine o_end ?_
   obtain rfl := si h
   exact ej () () trivial (sc J (sc J sn)) (kc rm0 kr)
 ·rintro _ i1 _
  replace h := hk1
  clear hk1
  refine e_seq ?_
  refine c_cond (b := d1) J (fun hb144 => ?_) (fun hb144 => ?_)
  ·replace h := cond_t hb144 h
   refine cr (op J J (op J J (op J J (o_end ?_))))
   refine e_seq (c_ret (e_then_ret (e_ret ?_)))
   refine r_add (slO SV.nil 93 en_Vattr_Pair []) (slO_nil _ _ _) ?_
   refine r_endt J J (kc rm1 (kc rm0 kr)) ?_
   obtain rfl := si h
   exact hk SV.nil
  ·replace h := cond_f hb144 h
   refine c_skip (e_seq (cr (op J J (o_end ?_))))
   refine e_seq (cr (op J J ?_))
   replace h := gsome h
   obtain ⟨hg145, h⟩ := h
   refine o1 J (o_ix (s := s0) (n := 0) (e := (enI .u8)) J J J J J J rm0 q0 hg145 ?_)
   refine o1 J (o_ldE (s := s0) (e := (enI .u8)) (n := 0) (f := 0) (v := (U (rd p0 0))) J rm0 q0 hg145 J J ?_)
   refine o1 J (o_p (v := (I (w64 ((rd p0 0))))) J ?_)
   refine o1 J (o_p (v := (I (w64 (2 * (w64 ((rd p0 0))))))) J ?_)
   refine o1 J (o_p (v := (I (w64 (1 + (w64 (2 * (w64 ((rd p0 0))))))))) J ?_)
   refine op J J (oe (c_seq (cr ?_)))
   refine op J J (oe ?_)
   replace h := jn_some h
   obtain ⟨y3, h, hk3⟩ := h
   refine cj (D := (List Vattr_Pair)) (ι := SV) (fun d3 i3 => y3 = Sum.inl d3) (fun d3 i3 => [(6, (I (w64 (1 + (w64 (2 * (w64 ((rd p0 0))))))))), (5, (V i3))]) (fun d3 i3 => X :: slO i3 93 en_Vattr_Pair d3 :: R) ?_ ?_
   ·refine c_block ?_
    refine c_add (slO SV.nil 93 en_Vattr_Pair []) (slO_nil _ _ _) ?_
    refine c_loop (l_sub (sc J (sc J (sc J (sc J sn)))) (l_keep (kc rm1 (kc rm0 kr)) (lf (X := Int × (List Vattr_Pair)) (ι := SV) (fun k x => attr_Parse_l4 p0 k x) _ (fun x4 i4 => True) (fun x4 i4 => [(7, (I x4.1)), (6, (I (w64 (1 + (w64 (2 * (w64 ((rd p0 0))))))))), (5, (V i4)), (0, (V s0))]) (fun x4 i4 => X :: slO i4 93 en_Vattr_Pair x4.2 :: R) (fun _ => J) ?_ fuel (1, ([] : List Vattr_Pair)) SV.nil trivial h)))
    clear h
    rintro k4 ih4 x4 i4 _ h
    rw [attr_Parse_l4.eq_2] at h
    refine l_round (c_seq (cr (op J J (op J J ?_))))
    refine o1 J (o_p (v := (O (decide (x4.1 < (w64 (1 + (w64 (2 * (w64 ((rd p0 0))))))))))) J ?_)
    refine oe ?_
    refine c_cond (b := (decide (x4.1 < (w64 (1 + (w64 (2 * (w64 ((rd p0 0)))))))))) J (fun hb171 => ?_) (fun hb171 => ?_)
    ·replace h := cond_t hb171 h
     refine c_skip (e_seq (c_seq (c_block (c_seq ?_))))
     replace h := gsome h
     obtain ⟨hg172, h⟩ := h
     replace h := gsome h
     obtain ⟨hg173, h⟩ := h
     refine c_draw (n := 2) (q := [(0, 35, (V s0)), (1, 36, (I x4.1)), (2, 37, (F (SV.blk s0) (SV.off s0 + Int.toNat x4.1 * 1))), (3, 38, (U (rd p0 x4.1))), (4, 39, (V s0)), (5, 40, (I x4.1)), (6, 41, (I (w64 (x4.1 + 1)))), (7, 42, (F (SV.blk s0) (SV.off s0 + Int.toNat (w64 (x4.1 + 1)) * 1))), (8, 43, (U (rd p0 (w64 (x4.1 + 1))))), (9, 44, (.agg (A [(U (rd p0 x4.1)), (U (rd p0 (w64 (x4.1 + 1))))])))]) (pend := [0, 1, 2, 3, 4, 5, 6, 7, 8, 9]) J J J ?_
     refine ⟨⟨fun _ => ⟨J, J, J, .inl ⟨J, (o_p J ⟨J, J⟩)⟩⟩, fun _ => ⟨J, J, J, .inl ⟨J, (o_p J ⟨J, J⟩)⟩⟩, fun _ => ⟨J, J, J, .inl ⟨J, (o_ix (s := s0) (n := x4.1) (e := (enI .u8)) J J J J J J rm0 q0 hg172 ⟨J, J⟩)⟩⟩, fun _ => ⟨J, J, J, .inl ⟨J, (o_ldE (s := s0) (e := (enI .u8)) (n := x4.1) (f := 0) (v := (U (rd p0 x4.1))) J rm0 q0 hg172 J J ⟨J, J⟩)⟩⟩, fun _ => ⟨J, J, J, .inl ⟨J, (o_p J ⟨J, J⟩)⟩⟩, fun _ => ⟨J, J, J, .inl ⟨J, (o_p J ⟨J, J⟩)⟩⟩, fun _ => ⟨J, J, J, .inl ⟨J, (o_p (v := (I (w64 (x4.1 + 1)))) J ⟨J, J⟩)⟩⟩, fun _ => ⟨J, J, J, .inl ⟨J, (o_ix (s := s0) (n := w64 (x4.1 + 1)) (e := (enI .u8)) J J J J J J rm0 q0 hg173 ⟨J, J⟩)⟩⟩, fun _ => ⟨J, J, J, .inl ⟨J, (o_ldE (s := s0) (e := (enI .u8)) (n := w64 (x4.1 + 1)) (f := 0) (v := (U (rd p0 (w64 (x4.1 + 1))))) J rm0 q0 hg173 J J ⟨J, J⟩)⟩⟩, fun _ => ⟨J, J, J, .inl ⟨J, (o_build (fs := f_0) (ps := [(0, 1), (1, 1)]) (cs := [(U (rd p0 x4.1)), (U (rd p0 (w64 (x4.1 + 1))))]) J J J J J ⟨J, J⟩)⟩⟩, trivial⟩, J, .inr ⟨[10], J, J, ⟨J, .inl J, ?_⟩, trivial⟩⟩
     refine (o_alloc (cs := [(U 0), (U 0)]) J J (fun b174 => ?_))
     refine ⟨[], [0, 1, 2, 3, 4, 5, 6, 7, 8, 9], J, J, J, J, ?_⟩
     refine ⟨⟨fun _ => ⟨J, J, J, .inl ⟨J, (o_p J ⟨J, J⟩)⟩⟩, fun _ => ⟨J, J, J, .inl ⟨J, (o_p J ⟨J, J⟩)⟩⟩, fun _ => ⟨J, J, J, .inl ⟨J, (o_ix (s := s0) (n := x4.1) (e := (enI .u8)) J J J J J J rm1 q0 hg172 ⟨J, J⟩)⟩⟩, fun _ => ⟨J, J, J, .inl ⟨J, (o_ldE (s := s0) (e := (enI .u8)) (n := x4.1) (f := 0) (v := (U (rd p0 x4.1))) J rm1 q0 hg172 J J ⟨J, J⟩)⟩⟩, fun _ => ⟨J, J, J, .inl ⟨J, (o_p J ⟨J, J⟩)⟩⟩, fun _ => ⟨J, J, J, .inl ⟨J, (o_p J ⟨J, J⟩)⟩⟩, fun _ => ⟨J, J, J, .inl ⟨J, (o_p (v := (I (w64 (x4.1 + 1)))) J ⟨J, J⟩)⟩⟩, fun _ => ⟨J, J, J, .inl ⟨J, (o_ix (s := s0) (n := w64 (x4.1 + 1)) (e := (enI .u8)) J J J J J J rm1 q0 hg173 ⟨J, J⟩)⟩⟩, fun _ => ⟨J, J, J, .inl ⟨J, (o_ldE (s := s0) (e := (enI .u8)) (n := w64 (x4.1 + 1)) (f := 0) (v := (U (rd p0 (w64 (x4.1 + 1))))) J rm1 q0 hg173 J J ⟨J, J⟩)⟩⟩, fun _ => ⟨J, J, J, .inl ⟨J, (o_build (fs := f_0) (ps := [(0, 1), (1, 1)]) (cs := [(U (rd p0 x4.1)), (U (rd p0 (w64 (x4.1 + 1))))]) J J J J J ⟨J, J⟩)⟩⟩, trivial⟩, J, .inr ⟨[11], J, J, ⟨J, .inl J, ?_⟩, trivial⟩⟩
     refine (o_st (b := b174) (off := 0) (vs := [(U (rd p0 x4.1)), (U (rd p0 (w64 (x4.1 + 1))))]) (cs' := [(U (rd p0 x4.1)), (U (rd p0 (w64 (x4.1 + 1))))]) J J rp0 J J J J J J ?_)
     refine ⟨[], [], J, J, ?_⟩
     refine ⟨⟨(fun h => nomatch h), (fun h => nomatch h), (fun h => nomatch h), (fun h => nomatch h), (fun h => nomatch h), (fun h => nomatch h), (fun h => nomatch h), (fun h => nomatch h), (fun h => nomatch h), (fun h => nomatch h), trivial⟩, J, J, J, ?_⟩
     refine e_seq (c_seq (cr ?_))
     refine o1 J (o_ld (b := b174) (off := 0) (v := (.agg (A [(U (rd p0 x4.1)), (U (rd p0 (w64 (x4.1 + 1))))]))) J rm0 J J ?_)
     replace h := bsome h
     obtain ⟨d8, h8, h⟩ := h
     refine o1 J (o_call has82 J (c_attr_Pair_Check hg X (⟨(rd p0 x4.1), (rd p0 (w64 (x4.1 + 1)))⟩ : Vattr_Pair) _ h8) (pc rm1 pn) ?_)
     refine op J J (oe (cr (op J J ?_)))
     refine o1 J (o_p (v := (O (d8 != 0))) J ?_)
     refine oe ?_
     refine c_cond (b := (d8 != 0)) J (fun hb176 => ?_) (fun hb176 => ?_)
     ·replace h := cond_t hb176 h
      refine cr (op J J (op J J (op J J (op J J ?_))))
      refine oe (c_ret (e_then_ret (e_blk_ret (e_then_ret ?_))))
      refine e_then_ret (e_blk_ret (ej_ret ?_))
      replace h := esc_some h
      obtain ⟨z3, h, rfl⟩ := h
      obtain rfl := (hk3 : z3 = _)
      refine e_then_ret (e_ret ?_)
      refine r_add (slO SV.nil 93 en_Vattr_Pair []) (slO_nil _ _ _) ?_
      refine r_endt J J (kc rm1 (kc rm0 (kd (kd kr)))) ?_
      obtain rfl := si h
      exact hk SV.nil
     ·replace h := cond_f hb176 h
      refine c_skip (e_seq (c_region (op J J ?_)))
      refine o1 J (o_ld (b := b174) (off := 0) (v := (.agg (A [(U (rd p0 x4.1)), (U (rd p0 (w64 (x4.1 + 1))))]))) J rm1 J J ?_)
      refine o1 J (o_bs (e := en_Vattr_Pair) (l := [(⟨(rd p0 x4.1), (rd p0 (w64 (x4.1 + 1)))⟩ : Vattr_Pair)]) (zs := [(U 0), (U 0)]) J J J J J J J J J J (fun s177 => ?_))
      replace h := gsome h
      obtain ⟨hg179, h⟩ := h
      refine o1 J (o_app (s := i4) (r := s177) (e := en_Vattr_Pair) (l := x4.2) (l2 := [(⟨(rd p0 x4.1), (rd p0 (w64 (x4.1 + 1)))⟩ : Vattr_Pair)]) (zs := [(U 0), (U 0)]) J J J J J J J J J J J rm3 rm0 (rd_own _ _ _ _) hg179 (fun s180 => ?_))
      refine op J J (o_end (e_blk (e_seq (c_region (op J J ?_)))))
      refine o1 J (o_p (v := (I (w64 (x4.1 + 2)))) J ?_)
      refine op J J (o_end ?_)
      exact e_loop (l_sub (sc J (sc J (sc J (sc J sn)))) (l_keep (kc rm2 (kc rm0 (kd (kd kr)))) (ih4 (w64 (x4.1 + 2), (x4.2 ++ [(⟨(rd p0 x4.1), (rd p0 (w64 (x4.1 + 1)))⟩ : Vattr_Pair)])) s180 trivial h)))
    ·replace h := cond_f hb171 h
     refine c_exit (e_then_exit (e_then_exit (e_blk_exit ?_)))
     obtain rfl := si h
     exact ej x4.2 i4 J (sc J (sc J sn)) (kc rm0 (kc rm0 kr))
   ·rintro d3 i3 rfl
    replace h := JK_inl hk3
    clear hk3
    refine e_seq (cr (op J J (op J J (op J J ?_))))
    refine op J J (op J J (oe (c_ret (e_ret ?_))))
    refine r_endt J J (kc rm0 (kc rm0 kr)) ?_
    obtain rfl := si h
    exact hk i3

theorem c_order_scanner_pairs {g : Gw} (hg : GK g) (X : HP) (p0 : Vorder_scanner) (b0 : Nat) (s0 : SV) (q0 : Rd X s0 5 (enI .u8) p0.p) (r : Vorder_scanner × (List Vattr_Pair)) (h : m_order_scanner_pairs p0 = some r) : Tri env g 91 (A [(F b0 0)]) [X, blk b0 (.cells (A [(V s0), (I p0.code)]) 128 (0, 0))] (fun K R => ∀ (i0 : HP × SV × SV), (Rd i0.1 i0.2.1 5 (enI .u8) r.1.p) → (Ext X i0.1) → K (V i0.2.2) (i0.1 :: blk b0 (.cells (A [(V i0.2.1), (I r.1.code)]) 128 (0, 0)) :: slO i0.2.2 93 en_Vattr_Pair r.2 :: R)) := by
 refine tri_of (fn := Tryz.f91) (N := 24) Tryz.func91 J J J ?_
 intro R K hk
 unfold m_order_scanner_pairs at h
 change GC _ none _ [] [(0, (F b0 0))] (X :: blk b0 (.cells (A [(V s0), (I p0.code)]) 128 (0, 0)) :: R) g _ _
 refine cr (op J J (oe (c_seq ?_)))
 refine c_region (op J J (op J J ?_))
 refine o1 J (o_fa (fd := ⟨ "p", 28, 0, false, "", "vitrine/order", 0⟩) J J J J J ?_)
 refine o1 J (o_ld (b := b0) (off := 0) (v := (V s0)) J rm1 J J ?_)
 replace h := bsome h
 obtain ⟨d1, h1, h⟩ := h
 refine o1 J (o_call has108 J (c_attr_Parse hg X p0.p s0 q0 _ h1) (pc rm0 pn) (fun i1 => ?_))
 refine op J J (op J J (op J J (op J J (op J J (op J J ?_)))))
 refine op J J (oe (c_seq (cr ?_)))
 refine op J J ?_
 refine o1 J (o_p (v := (O (d1.2.2 != 0))) J ?_)
 refine oe ?_
 refine c_cond (b := (d1.2.2 != 0)) J (fun hb189 => ?_) (fun hb189 => ?_)
 ·replace h := cond_t hb189 h
  refine cr (op J J (op J J ?_))
  replace h := bsome h
  obtain ⟨d3, h3, h⟩ := h
  refine o1 J (o_call has107 J (c_order_scanner_fail hg X p0 b0 s0 q0 d1.2.2 _ h3) (pc rm0 (pc rm1 pn)) (fun f3_0 => ?_))
  refine oe (cr (op J J (o_end ?_)))
  refine e_seq (c_ret (e_then_ret (e_ret ?_)))
  refine r_add (slO SV.nil 93 en_Vattr_Pair []) (slO_nil _ _ _) ?_
  refine r_endt J J (kc rm1 (kc rm1 (kc rm0 (kd kr)))) ?_
  obtain rfl := si h
  exact hk (X, s0, SV.nil) f3_0 (Ext.refl _)
 ·replace h := cond_f hb189 h
  refine c_skip (e_seq (cr (op J J (op J J ?_))))
  replace h := bsome h
  obtain ⟨d4, h4, h⟩ := h
  refine o1 J (o_call has87 J (c_order_scanner_take hg X p0 b0 s0 q0 d1.2.1 _ h4) (pc rm0 (pc rm1 pn)) (fun i4 f4_0 f4_1 f4_2 => ?_))
  refine oe (cr (op J J (op J J ?_)))
  refine oe (c_ret (e_ret ?_))
  refine r_endt J J (kc rm0 (kc rm0 (kc rm0 kr))) ?_
  obtain rfl := si h
  exact hk (i4.1, i4.2.1, i1) f4_0 f4_2

theorem c_order_scanner_op {g : Gw} (hg : GK g) (X : HP) (p0 : Vorder_scanner) (b0 : Nat) (s0 : SV) (q0 : Rd X s0 5 (enI .u8) p0.p) (r : Vorder_scanner × Vorder_Op) (h : m_order_scanner_op p0 = some r) : Tri env g 60 (A [(F b0 0)]) [X, blk b0 (.cells (A [(V s0), (I p0.code)]) 128 (0, 0))] (fun K R => ∀ (i0 : HP × SV × SV × SV), (Rd i0.1 i0.2.1 5 (enI .u8) r.1.p) → (Ext X i0.1) → K (.agg (A [(I r.2.Kind), (I r.2.Addr), (U r.2.Code), (O r.2.Graph), (U r.2.FA), (V i0.2.2.1), (V i0.2.2.2)])) (i0.1 :: blk b0 (.cells (A [(V i0.2.1), (I r.1.code)]) 128 (0, 0)) :: slO i0.2.2.1 93 en_Vattr_Pair r.2.Pairs :: slO i0.2.2.2 5 (enI .u8) r.2.Text :: R)) := by
 refine tri_of (fn := Tryz.f60) (N := 79) Tryz.func60 J J J ?_
 intro R K hk
 unfold m_order_scanner_op at h
 change GC _ none _ [] [(0, (F b0 0))] (X :: blk b0 (.cells (A [(V s0), (I p0.code)]) 128 (0, 0)) :: R) g _ _
 refine cr ?_
 refine o1 J (o_alloc (cs := [(I 0), (I 0), (U 0), (O false), (U 0), (V SV.nil), (V SV.nil)]) J J (fun b50 => ?_))
 refine oe (c_seq (cr (op J J ?_)))
 refine op J J ?_
 refine o1 J (o_fa (fd := ⟨ "p", 28, 0, false, "", "vitrine/order", 0⟩) J J J J J ?_)
 refine o1 J (o_ld (b := b0) (off := 0) (v := (V s0)) J rm2 J J ?_)
 replace h := gsome h
 obtain ⟨hg52, h⟩ := h
 refine o1 J (o_ix (s := s0) (n := 0) (e := (enI .u8)) J J J J J J rm1 q0 hg52 ?_)
 refine o1 J (o_ldE (s := s0) (e := (enI .u8)) (n := 0) (f := 0) (v := (U (rd p0.p 0))) J rm1 q0 hg52 J J ?_)
 replace h := bsome h
 obtain ⟨d1, h1, h⟩ := h
 refine o1 J (o_call has58 J (c_order_Is hg X (rd p0.p 0) _ h1) (pc rm1 pn) ?_)
 refine o1 J (o_p (v := (O (!d1))) J ?_)
 refine oe ?_
 refine c_cond (b := (!d1)) J (fun hb65 => ?_) (fun hb65 => ?_)
 ·replace h := cond_t hb65 h
  refine cr (op J J ?_)
  replace h := bsome h
  obtain ⟨d3, h3, h⟩ := h
  refine o1 J (o_call has86 J (c_order_scanner_text hg X p0 b0 s0 q0 _ h3) (pc rm0 (pc rm1 pn)) (fun i3 f3_0 f3_1 => ?_))
  refine o1 J (o_build (fs := f_5) (ps := [(0, 1), (1, 1), (2, 1), (3, 1), (4, 1), (5, 1), (6, 1)]) (cs := [(I 0), (I 0), (U 0), (O false), (U 0), (V SV.nil), (V i3.2.2)]) J J J J J ?_)
  refine o0 (o_st (b := b50) (off := 0) (vs := [(I 0), (I 0), (U 0), (O false), (U 0), (V SV.nil), (V i3.2.2)]) (cs' := [(I 0), (I 0), (U 0), (O false), (U 0), (V SV.nil), (V i3.2.2)]) J J rp3 J J J J J J ?_)
  refine oe (c_ret (e_then_ret (e_ret ?_)))
  refine r_add (slO SV.nil 93 en_Vattr_Pair []) (slO_nil _ _ _) ?_
  refine r_endc (B := [[(I 0), (I 0), (U 0), (O false), (U 0), (V SV.nil), (V i3.2.2)]]) J ⟨⟨_, _, _, _, J, rm4⟩, trivial⟩ J (kc rm1 (kc rm1 (kc rm0 (kc rm0 (kd kr))))) ?_
  obtain rfl := si h
  exact hk (i3.1, i3.2.1, SV.nil, i3.2.2) f3_0 f3_1
 ·replace h := cond_f hb65 h
  refine c_skip (e_seq (cr (op J J ?_)))
  replace h := bsome h
  obtain ⟨d4, h4, h⟩ := h
  refine o1 J (o_call has87 J (c_order_scanner_take hg X p0 b0 s0 q0 1 _ h4) (pc rm0 (pc rm1 pn)) (fun i4 f4_0 f4_1 f4_2 => ?_))
  replace h := gsome h
  obtain ⟨hg99, h⟩ := h
  refine o1 J (o_ix (s := i4.2.2) (n := 0) (e := (enI .u8)) J J J J J J rm0 f4_1 hg99 ?_)
  refine o1 J (o_ldE (s := i4.2.2) (e := (enI .u8)) (n := 0) (f := 0) (v := (U (rd d4.2 0))) J rm0 f4_1 hg99 J J ?_)
  refine o1 J (o_p (v := (I (w64 ((rd d4.2 0))))) J ?_)
  refine o1 J (o_build (fs := f_5) (ps := [(0, 1), (1, 1), (2, 1), (3, 1), (4, 1), (5, 1), (6, 1)]) (cs := [(I (w64 ((rd d4.2 0)))), (I 0), (U 0), (O false), (U 0), (V SV.nil), (V SV.nil)]) J J J J J ?_)
  refine o1 J (o_alloc (cs := [(I 0), (I 0), (U 0), (O false), (U 0), (V SV.nil), (V SV.nil)]) J J (fun b100 => ?_))
  refine o0 (o_st (b := b100) (off := 0) (vs := [(I (w64 ((rd d4.2 0)))), (I 0), (U 0), (O false), (U 0), (V SV.nil), (V SV.nil)]) (cs' := [(I (w64 ((rd d4.2 0)))), (I 0), (U 0), (O false), (U 0), (V SV.nil), (V SV.nil)]) J J rp0 J J J J J J ?_)
  refine oe (c_seq (cr ?_))
  refine o1 J (o_fa (fd := ⟨ "Kind", 3, 0, false, "", "", 0⟩) J J J J J ?_)
  refine o1 J (o_ld (b := b100) (off := 0) (v := (I (w64 ((rd d4.2 0))))) J rm0 J J ?_)
  refine oe (c_block (c_seq (cr ?_)))
  refine o1 J (o_p (v := (O ((w64 ((rd d4.2 0))) == 17))) J ?_)
  refine op J J (oe ?_)
  replace h := bsome h
  obtain ⟨d6, h, hk6⟩ := h
  refine cj (D := Unit) (ι := Unit) (fun _ i6 => True) (fun _ i6 => [(23, (O d6)), (22, (I (w64 ((rd d4.2 0))))), (3, (F b100 0)), (2, (F b50 0)), (0, (F b0 0))]) (fun _ i6 => i4.1 :: blk b100 (.cells (A [(I (w64 ((rd d4.2 0)))), (I 0), (U 0), (O false), (U 0), (V SV.nil), (V SV.nil)]) 91 (0, 0)) :: blk b50 (.cells (A [(I 0), (I 0), (U 0), (O false), (U 0), (V SV.nil), (V SV.nil)]) 91 (0, 0)) :: blk b0 (.cells (A [(V i4.2.1), (I d4.1.code)]) 128 (0, 0)) :: R) ?_ ?_
  ·refine c_cond (b := ((w64 ((rd d4.2 0))) == 17)) J (fun hb102 => ?_) (fun hb102 => ?_)
   ·replace h := cond_t hb102 h
    refine c_skip ?_
    obtain rfl := si h
    exact ej () () trivial (sc J (sc J (sc J (sc J (sc J sn))))) (kc rm1 (kc rm0 (kc rm1 (kc rm0 kr))))
   ·replace h := cond_f hb102 h
    refine c_region ?_
    refine o1 J (o_p (v := (O ((w64 ((rd d4.2 0))) == 18))) J ?_)
    refine op J J (o_end ?_)
    obtain rfl := si h
    exact ej () () trivial (sc J (sc J (sc J (sc J (sc J sn))))) (kc rm1 (kc rm0 (kc rm1 (kc rm0 kr))))
  ·rintro _ i6 _
   replace h := hk6
   clear hk6
   refine e_seq ?_
   replace h := bsome h
   obtain ⟨d7, h, hk7⟩ := h
   refine cj (D := Unit) (ι := HP × SV × SV) (fun _ i7 => (Rd i7.1 i7.2.2 5 (enI .u8) d7.2.2.2.2.2.1) ∧ (Ext X i7.1)) (fun _ i7 => [(3, (F b100 0)), (2, (F b50 0))]) (fun _ i7 => i7.1 :: blk b100 (.cells (A [(I (w64 ((rd d4.2 0)))), (I d7.1), (U d7.2.1), (O d7.2.2.1), (U d7.2.2.2.1), (V i7.2.1), (V SV.nil)]) 91 (0, 0)) :: blk b50 (.cells (A [(I 0), (I 0), (U 0), (O false), (U 0), (V SV.nil), (V SV.nil)]) 91 (0, 0)) :: blk b0 (.cells (A [(V i7.2.2), (I d7.2.2.2.2.2.2)]) 128 (0, 0)) :: slO i7.2.1 93 en_Vattr_Pair d7.2.2.2.2.1 :: R) ?_ ?_
   ·refine c_cond (b := d6) J (fun hb103 => ?_) (fun hb103 => ?_)
    ·replace h := cond_t hb103 h
     refine c_region (op J J ?_)
     replace h := bsome h
     obtain ⟨d8, h8, h⟩ := h
     refine o1 J (o_call has88 J (c_order_scanner_addr hg i4.1 d4.1 b0 i4.2.1 f4_0 _ h8) (pc rm0 (pc rm2 pn)) (fun i8 f8_0 f8_1 => ?_))
     refine o1 J (o_fa (fd := ⟨ "Addr", 3, 1, false, "", "", 8⟩) J J J J J ?_)
     refine o0 (o_st (b := b100) (off := 1) (vs := [(I d8.2)]) (cs' := [(I (w64 ((rd d4.2 0)))), (I d8.2), (U 0), (O false), (U 0), (V SV.nil), (V SV.nil)]) J J rp2 J J J J J J ?_)
     refine o_end ?_
     refine e_add (slO SV.nil 93 en_Vattr_Pair []) (slO_nil _ _ _) ?_
     obtain rfl := si h
     exact ej () (i8.1, SV.nil, i8.2) ⟨f8_0, (Ext.trans f4_2 f8_1)⟩ (sc J (sc J sn)) (kc rm1 (kc rm2 (kc rm2 (kc rm1 (kc rm0 kr)))))
    ·replace h := cond_f hb103 h
     refine cr ?_
     refine o1 J (o_p (v := (O ((w64 ((rd d4.2 0))) == 60))) J ?_)
     refine op J J (oe ?_)
     refine c_cond (b := ((w64 ((rd d4.2 0))) == 60)) J (fun hb106 => ?_) (fun hb106 => ?_)
     ·replace h := cond_t hb106 h
      refine cr (op J J ?_)
      replace h := bsome h
      obtain ⟨d9, h9, h⟩ := h
      refine o1 J (o_call has88 J (c_order_scanner_addr hg i4.1 d4.1 b0 i4.2.1 f4_0 _ h9) (pc rm0 (pc rm2 pn)) (fun i9 f9_0 f9_1 => ?_))
      refine o1 J (o_fa (fd := ⟨ "Addr", 3, 1, false, "", "", 8⟩) J J J J J ?_)
      refine o0 (o_st (b := b100) (off := 1) (vs := [(I d9.2)]) (cs' := [(I (w64 ((rd d4.2 0)))), (I d9.2), (U 0), (O false), (U 0), (V SV.nil), (V SV.nil)]) J J rp2 J J J J J J ?_)
      refine oe (c_seq (c_seq ?_))
      replace h := bsome h
      obtain ⟨d10, h, hk10⟩ := h
      refine cj (D := Unit) (ι := Unit) (fun _ i10 => True) (fun _ i10 => [(48, (O d10)), (3, (F b100 0)), (2, (F b50 0)), (0, (F b0 0))]) (fun _ i10 => i9.1 :: blk b100 (.cells (A [(I (w64 ((rd d4.2 0)))), (I d9.2), (U 0), (O false), (U 0), (V SV.nil), (V SV.nil)]) 91 (0, 0)) :: blk b50 (.cells (A [(I 0), (I 0), (U 0), (O false), (U 0), (V SV.nil), (V SV.nil)]) 91 (0, 0)) :: blk b0 (.cells (A [(V i9.2), (I d9.1.code)]) 128 (0, 0)) :: R) ?_ ?_
      ·refine c_region (op J J (op J J ?_))
       refine o1 J (o_fa (fd := ⟨ "p", 28, 0, false, "", "vitrine/order", 0⟩) J J J J J ?_)
       refine o1 J (o_ld (b := b0) (off := 0) (v := (V i9.2)) J rm1 J J ?_)
       refine o1 J (o_len (s := i9.2) J J J rm0 f9_0 ?_)
       refine o1 J (o_p (v := (O (decide ((d9.1.p.length : Int) > 0)))) J ?_)
       refine op J J ?_
       rcases bool_or ((decide ((d9.1.p.length : Int) > 0))) with hb107 | hb107
       ·replace h := cond_t hb107 h
        refine oy J J J hb107 (o_p J ?_)
        refine oy J J J hb107 (o_p J ?_)
        refine oy J J J hb107 (o_fa (fd := ⟨ "p", 28, 0, false, "", "vitrine/order", 0⟩) J J J J J ?_)
        refine oy J J J hb107 (o_ld (b := b0) (off := 0) (v := (V i9.2)) J rm1 J J ?_)
        replace h := gsome h
        obtain ⟨hg108, h⟩ := h
        refine oy J J J hb107 (o_ix (s := i9.2) (n := 0) (e := (enI .u8)) J J J J J J rm0 f9_0 hg108 ?_)
        refine oy J J J hb107 (o_ldE (s := i9.2) (e := (enI .u8)) (n := 0) (f := 0) (v := (U (rd d9.1.p 0))) J rm0 f9_0 hg108 J J ?_)
        refine oy J J J hb107 (o_p (v := (O ((rd d9.1.p 0) == 8))) J ?_)
        refine o1 J (o_pick_t J hb107 J ?_)
        refine o_end ?_
        obtain rfl := si h
        exact ej () () trivial (sc J (sc J (sc J (sc J sn)))) (kc rm0 (kc rm1 (kc rm1 (kc rm0 kr))))
       ·replace h := cond_f hb107 h
        refine on J J J hb107 ?_
        refine on J J J hb107 ?_
        refine on J J J hb107 ?_
        refine on J J J hb107 ?_
        refine on J J J hb107 ?_
        refine on J J J hb107 ?_
        refine on J J J hb107 ?_
        refine o1 J (o_pick_f J hb107 J ?_)
        refine o_end ?_
        obtain rfl := si h
        exact ej () () trivial (sc J (sc J (sc J (sc J sn)))) (kc rm0 (kc rm1 (kc rm1 (kc rm0 kr))))
      ·rintro _ i10 _
       replace h := hk10
       clear hk10
       refine e_seq ?_
       replace h := bsome h
       obtain ⟨d11, h, hk11⟩ := h
       refine cj (D := Unit) (ι := HP × SV) (fun _ i11 => (Rd i11.1 i11.2 5 (enI .u8) d11.2.1) ∧ (Ext X i11.1)) (fun _ i11 => [(3, (F b100 0)), (2, (F b50 0)), (0, (F b0 0))]) (fun _ i11 => i11.1 :: blk b100 (.cells (A [(I (w64 ((rd d4.2 0)))), (I d9.2), (U 0), (O d11.1), (U 0), (V SV.nil), (V SV.nil)]) 91 (0, 0)) :: blk b50 (.cells (A [(I 0), (I 0), (U 0), (O false), (U 0), (V SV.nil), (V SV.nil)]) 91 (0, 0)) :: blk b0 (.cells (A [(V i11.2), (I d11.2.2)]) 128 (0, 0)) :: R) ?_ ?_
       ·refine c_cond (b := d10) J (fun hb109 => ?_) (fun hb109 => ?_)
        ·replace h := cond_t hb109 h
         refine cr (op J J ?_)
         replace h := bsome h
         obtain ⟨d12, h12, h⟩ := h
         refine o1 J (o_call has87 J (c_order_scanner_take hg i9.1 d9.1 b0 i9.2 f9_0 1 _ h12) (pc rm0 (pc rm2 pn)) (fun i12 f12_0 f12_1 f12_2 => ?_))
         refine oe (c_region ?_)
         refine o1 J (o_fa (fd := ⟨ "Graph", 4, 3, false, "", "", 17⟩) J J J J J ?_)
         refine o0 (o_st (b := b100) (off := 3) (vs := [(O true)]) (cs' := [(I (w64 ((rd d4.2 0)))), (I d9.2), (U 0), (O true), (U 0), (V SV.nil), (V SV.nil)]) J J rp2 J J J J J J ?_)
         refine o_end ?_
         obtain rfl := si h
         exact ej () (i12.1, i12.2.1) ⟨f12_0, (Ext.trans (Ext.trans f4_2 f9_1) f12_2)⟩ (sc J (sc J (sc J sn))) (kc rm0 (kc rm1 (kc rm1 (kc rm0 kr))))
        ·replace h := cond_f hb109 h
         refine c_skip ?_
         obtain rfl := si h
         exact ej () (i9.1, i9.2) ⟨f9_0, (Ext.trans f4_2 f9_1)⟩ (sc J (sc J (sc J sn))) (kc rm0 (kc rm0 (kc rm0 (kc rm0 kr))))
       ·rintro _ i11 ⟨f11_0, f11_1⟩
        replace h := hk11
        clear hk11
        refine e_seq (c_region (op J J ?_))
        replace h := bsome h
        obtain ⟨d13, h13, h⟩ := h
        refine o1 J (o_call has89 J (c_order_scanner_character hg i11.1 (⟨d11.2.1, d11.2.2⟩ : Vorder_scanner) b0 i11.2 f11_0 _ h13) (pc rm0 (pc rm2 pn)) (fun i13 f13_0 f13_1 => ?_))
        refine o1 J (o_fa (fd := ⟨ "Code", 5, 2, false, "", "", 16⟩) J J J J J ?_)
        refine o0 (o_st (b := b100) (off := 2) (vs := [(U d13.2)]) (cs' := [(I (w64 ((rd d4.2 0)))), (I d9.2), (U d13.2), (O d11.1), (U 0), (V SV.nil), (V SV.nil)]) J J rp2 J J J J J J ?_)
        refine o_end ?_
        refine e_add (slO SV.nil 93 en_Vattr_Pair []) (slO_nil _ _ _) ?_
        obtain rfl := si h
        exact ej () (i13.1, SV.nil, i13.2) ⟨f13_0, (Ext.trans f11_1 f13_1)⟩ (sc J (sc J sn)) (kc rm1 (kc rm2 (kc rm2 (kc rm1 (kc rm0 kr)))))
     ·replace h := cond_f hb106 h
      refine cr ?_
      refine o1 J (o_p (v := (O ((w64 ((rd d4.2 0))) == 29))) J ?_)
      refine op J J (oe ?_)
      refine c_cond (b := ((w64 ((rd d4.2 0))) == 29)) J (fun hb112 => ?_) (fun hb112 => ?_)
      ·replace h := cond_t hb112 h
       refine c_region (op J J ?_)
       replace h := bsome h
       obtain ⟨d14, h14, h⟩ := h
       refine o1 J (o_call has87 J (c_order_scanner_take hg i4.1 d4.1 b0 i4.2.1 f4_0 1 _ h14) (pc rm0 (pc rm2 pn)) (fun i14 f14_0 f14_1 f14_2 => ?_))
       replace h := gsome h
       obtain ⟨hg113, h⟩ := h
       refine o1 J (o_ix (s := i14.2.2) (n := 0) (e := (enI .u8)) J J J J J J rm0 f14_1 hg113 ?_)
       refine o1 J (o_ldE (s := i14.2.2) (e := (enI .u8)) (n := 0) (f := 0) (v := (U (rd d14.2 0))) J rm0 f14_1 hg113 J J ?_)
       refine o1 J (o_fa (fd := ⟨ "FA", 5, 4, false, "", "", 18⟩) J J J J J ?_)
       refine o0 (o_st (b := b100) (off := 4) (vs := [(U (rd d14.2 0))]) (cs' := [(I (w64 ((rd d4.2 0)))), (I 0), (U 0), (O false), (U (rd d14.2 0)), (V SV.nil), (V SV.nil)]) J J rp2 J J J J J J ?_)
       refine o_end ?_
       refine e_add (slO SV.nil 93 en_Vattr_Pair []) (slO_nil _ _ _) ?_
       obtain rfl := si h
       exact ej () (i14.1, SV.nil, i14.2.1) ⟨f14_0, (Ext.trans f4_2 f14_2)⟩ (sc J (sc J sn)) (kc rm1 (kc rm2 (kc rm2 (kc rm1 (kc rm0 kr)))))
      ·replace h := cond_f hb112 h
       refine cr ?_
       refine o1 J (o_p (v := (O ((w64 ((rd d4.2 0))) == 40))) J ?_)
       refine op J J (oe ?_)
       refine c_cond (b := ((w64 ((rd d4.2 0))) == 40)) J (fun hb114 => ?_) (fun hb114 => ?_)
       ·replace h := cond_t hb114 h
        refine c_region (op J J ?_)
        replace h := bsome h
        obtain ⟨d15, h15, h⟩ := h
        refine o1 J (o_call has90 J (c_order_scanner_pair hg i4.1 d4.1 b0 i4.2.1 f4_0 _ h15) (pc rm0 (pc rm2 pn)) (fun i15 f15_0 f15_1 => ?_))
        refine o1 J (o_fa (fd := ⟨ "Pairs", 89, 5, false, "", "", 24⟩) J J J J J ?_)
        refine o0 (o_st (b := b100) (off := 5) (vs := [(V i15.2.2)]) (cs' := [(I (w64 ((rd d4.2 0)))), (I 0), (U 0), (O false), (U 0), (V i15.2.2), (V SV.nil)]) J J rp3 J J J J J J ?_)
        refine o_end ?_
        obtain rfl := si h
        exact ej () (i15.1, i15.2.2, i15.2.1) ⟨f15_0, (Ext.trans f4_2 f15_1)⟩ (sc J (sc J sn)) (kc rm0 (kc rm2 (kc rm2 (kc rm0 (kc rm0 kr)))))
       ·replace h := cond_f hb114 h
        refine c_seq (cr ?_)
        refine o1 J (o_p (v := (O ((w64 ((rd d4.2 0))) == 41))) J ?_)
        refine op J J (oe ?_)
        replace h := bsome h
        obtain ⟨d16, h, hk16⟩ := h
        refine cj (D := Unit) (ι := Unit) (fun _ i16 => True) (fun _ i16 => [(67, (O d16)), (22, (I (w64 ((rd d4.2 0))))), (3, (F b100 0)), (2, (F b50 0)), (0, (F b0 0))]) (fun _ i16 => i4.1 :: blk b100 (.cells (A [(I (w64 ((rd d4.2 0)))), (I 0), (U 0), (O false), (U 0), (V SV.nil), (V SV.nil)]) 91 (0, 0)) :: blk b50 (.cells (A [(I 0), (I 0), (U 0), (O false), (U 0), (V SV.nil), (V SV.nil)]) 91 (0, 0)) :: blk b0 (.cells (A [(V i4.2.1), (I d4.1.code)]) 128 (0, 0)) :: R) ?_ ?_
        ·refine c_cond (b := ((w64 ((rd d4.2 0))) == 41)) J (fun hb140 => ?_) (fun hb140 => ?_)
         ·replace h := cond_t hb140 h
          refine c_skip ?_
          obtain rfl := si h
          exact ej () () trivial (sc J (sc J (sc J (sc J (sc J sn))))) (kc rm0 (kc rm0 (kc rm0 (kc rm0 kr))))
         ·replace h := cond_f hb140 h
          refine c_region ?_
          refine o1 J (o_p (v := (O ((w64 ((rd d4.2 0))) == 44))) J ?_)
          refine op J J (o_end ?_)
          obtain rfl := si h
          exact ej () () trivial (sc J (sc J (sc J (sc J (sc J sn))))) (kc rm0 (kc rm0 (kc rm0 (kc rm0 kr))))
        ·rintro _ i16 _
         replace h := hk16
         clear hk16
         refine e_seq ?_
         refine c_cond (b := d16) J (fun hb141 => ?_) (fun hb141 => ?_)
         ·replace h := cond_t hb141 h
          refine c_region (op J J ?_)
          replace h := bsome h
          obtain ⟨d17, h17, h⟩ := h
          refine o1 J (o_call has91 J (c_order_scanner_pairs hg i4.1 d4.1 b0 i4.2.1 f4_0 _ h17) (pc rm0 (pc rm2 pn)) (fun i17 f17_0 f17_1 => ?_))
          refine o1 J (o_fa (fd := ⟨ "Pairs", 89, 5, false, "", "", 24⟩) J J J J J ?_)
          refine o0 (o_st (b := b100) (off := 5) (vs := [(V i17.2.2)]) (cs' := [(I (w64 ((rd d4.2 0)))), (I 0), (U 0), (O false), (U 0), (V i17.2.2), (V SV.nil)]) J J rp3 J J J J J J ?_)
          refine o_end ?_
          obtain rfl := si h
          exact ej () (i17.1, i17.2.2, i17.2.1) ⟨f17_0, (Ext.trans f4_2 f17_1)⟩ (sc J (sc J sn)) (kc rm0 (kc rm2 (kc rm2 (kc rm0 (kc rm0 kr)))))
         ·replace h := cond_f hb141 h
          refine cr ?_
          refine o1 J (o_p (v := (O ((w64 ((rd d4.2 0))) == 8))) J ?_)
          refine op J J (oe ?_)
          refine c_cond (b := ((w64 ((rd d4.2 0))) == 8)) J (fun hb193 => ?_) (fun hb193 => ?_)
          ·replace h := cond_t hb193 h
           refine c_region (op J J ?_)
           replace h := bsome h
           obtain ⟨d18, h18, h⟩ := h
           refine o1 J (o_call has89 J (c_order_scanner_character hg i4.1 d4.1 b0 i4.2.1 f4_0 _ h18) (pc rm0 (pc rm2 pn)) (fun i18 f18_0 f18_1 => ?_))
           refine o1 J (o_fa (fd := ⟨ "Code", 5, 2, false, "", "", 16⟩) J J J J J ?_)
           refine o0 (o_st (b := b100) (off := 2) (vs := [(U d18.2)]) (cs' := [(I (w64 ((rd d4.2 0)))), (I 0), (U d18.2), (O false), (U 0), (V SV.nil), (V SV.nil)]) J J rp2 J J J J J J ?_)
           refine o_end ?_
           refine e_add (slO SV.nil 93 en_Vattr_Pair []) (slO_nil _ _ _) ?_
           obtain rfl := si h
           exact ej () (i18.1, SV.nil, i18.2) ⟨f18_0, (Ext.trans f4_2 f18_1)⟩ (sc J (sc J sn)) (kc rm1 (kc rm2 (kc rm2 (kc rm1 (kc rm0 kr)))))
          ·replace h := cond_f hb193 h
           refine c_skip ?_
           refine e_add (slO SV.nil 93 en_Vattr_Pair []) (slO_nil _ _ _) ?_
           obtain rfl := si h
           exact ej () (i4.1, SV.nil, i4.2.1) ⟨f4_0, f4_2⟩ (sc J (sc J sn)) (kc rm1 (kc rm1 (kc rm1 (kc rm1 (kc rm0 kr)))))
   ·rintro _ i7 ⟨f7_0, f7_1⟩
    replace h := hk7
    clear hk7
    refine e_blk (e_seq (cr ?_))
    refine o1 J (o_ld (b := b100) (off := 0) (v := (.agg (A [(I (w64 ((rd d4.2 0)))), (I d7.1), (U d7.2.1), (O d7.2.2.1), (U d7.2.2.2.1), (V i7.2.1), (V SV.nil)]))) J rm1 J J ?_)
    refine o0 (o_st (b := b50) (off := 0) (vs := [(I (w64 ((rd d4.2 0)))), (I d7.1), (U d7.2.1), (O d7.2.2.1), (U d7.2.2.2.1), (V i7.2.1), (V SV.nil)]) (cs' := [(I (w64 ((rd d4.2 0)))), (I d7.1), (U d7.2.1), (O d7.2.2.1), (U d7.2.2.2.1), (V i7.2.1), (V SV.nil)]) J J rp2 J J J J J J ?_)
    refine oe (c_ret (e_ret ?_))
    refine r_add (slO SV.nil 5 (enI .u8) []) (slO_nil _ _ _) ?_
    refine r_endc (B := [[(I (w64 ((rd d4.2 0)))), (I d7.1), (U d7.2.1), (O d7.2.2.1), (U d7.2.2.2.1), (V i7.2.1), (V SV.nil)]]) J ⟨⟨_, _, _, _, J, rm3⟩, trivial⟩ J (kc rm1 (kc rm3 (kc rm3 (kc rm0 (kd (kd kr)))))) ?_
    obtain rfl := si h
    exact hk (i7.1, i7.2.2, i7.2.1, SV.nil) f7_0 f7_1

theorem c_order_All {g : Gw} (hg : GK g) (X : HP) (p0 : List Int) (s0 : SV) (q0 : Rd X s0 5 (enI .u8) p0) (r : (List Vorder_Op) × Int × Int) (h : m_order_All p0 = some r) : Tri env g 31 (A [(V s0)]) [X] (fun K R => ∀ (i0 : HP × SV × (List (Vorder_Op × SV × SV))), (NL (D_Vorder_Op i0.1) i0.2.2 r.1) → (Ext X i0.1) → K (.tuple (A [(V i0.2.1), (I r.2.1), (I r.2.2)])) (i0.1 :: slO i0.2.1 91 en_Vorder_Op i0.2.2 :: R)) := by
 refine tri_of (fn := Tryz.f31) (N := 46) Tryz.func31 J J J ?_
 intro R K hk
 unfold m_order_All at h
 change GC _ none _ [] [(0, (V s0))] (X :: R) g _ _
 refine cr (op J J (op J J (op J J (o_end ?_))))
 refine e_seq (cr (op J J (oe ?_)))
 refine cr (op J J ?_)
 refine o1 J (o_build (fs := f_7) (ps := [(0, 1), (1, 1)]) (cs := [(V s0), (I 0)]) J J J J J ?_)
 refine o1 J (o_box (cs := [(V s0), (I 0)]) J J (fun b47 => ?_))
 refine op J J (oe (c_seq ?_))
 replace h := jn_some h
 obtain ⟨y1, h, hk1⟩ := h
 refine cj (D := (List Vorder_Op)) (ι := HP × SV × (List (Vorder_Op × SV × SV))) (fun d1 i1 => (y1 = Sum.inl d1) ∧ (NL (D_Vorder_Op i1.1) i1.2.2 d1) ∧ (Rd i1.1 s0 5 (enI .u8) p0) ∧ (Ext X i1.1)) (fun d1 i1 => [(5, (V i1.2.1)), (0, (V s0))]) (fun d1 i1 => i1.1 :: slO i1.2.1 91 en_Vorder_Op i1.2.2 :: R) ?_ ?_
 ·refine c_block ?_
  refine c_add (slO SV.nil 91 en_Vorder_Op []) (slO_nil _ _ _) ?_
  refine c_loop (l_sub (sc J (sc J (sc J sn))) (l_keep (kc rm2 (kc rm1 (kc rm0 kr))) (lf (X := (List Vorder_Op) × (List Int) × Int) (ι := HP × SV × (List (Vorder_Op × SV × SV)) × SV) (fun k x => order_All_l2 p0 k x) _ (fun x2 i2 => (NL (D_Vorder_Op i2.1) i2.2.2.1 x2.1) ∧ (Rd i2.1 s0 5 (enI .u8) p0) ∧ (Rd i2.1 i2.2.2.2 5 (enI .u8) x2.2.1) ∧ (Ext X i2.1)) (fun x2 i2 => [(6, (F b47 0)), (5, (V i2.2.1)), (0, (V s0))]) (fun x2 i2 => i2.1 :: blk b47 (.cells (A [(V i2.2.2.2), (I x2.2.2)]) 128 (0, 0)) :: slO i2.2.1 91 en_Vorder_Op i2.2.2.1 :: R) (fun _ => J) ?_ fuel (([] : List Vorder_Op), p0, 0) (X, SV.nil, [], s0) ⟨NL.nil, q0, q0, (Ext.refl _)⟩ h)))
  clear h
  rintro k2 ih2 x2 i2 ⟨f2_0, f2_1, f2_2, f2_3⟩ h
  rw [order_All_l2.eq_2] at h
  refine l_round (c_seq (cr (op J J (op J J ?_))))
  refine o1 J (o_fa (fd := ⟨ "p", 28, 0, false, "", "vitrine/order", 0⟩) J J J J J ?_)
  refine o1 J (o_ld (b := b47) (off := 0) (v := (V i2.2.2.2)) J rm1 J J ?_)
  refine o1 J (o_len (s := i2.2.2.2) J J J rm0 f2_2 ?_)
  refine o1 J (o_p (v := (O (decide ((x2.2.1.length : Int) > 0)))) J ?_)
  refine oe ?_
  refine c_cond (b := (decide ((x2.2.1.length : Int) > 0))) J (fun hb240 => ?_) (fun hb240 => ?_)
  ·replace h := cond_t hb240 h
   refine c_skip (e_seq (c_block (cr (op J J ?_))))
   refine op J J ?_
   refine o1 J (o_fa (fd := ⟨ "p", 28, 0, false, "", "vitrine/order", 0⟩) J J J J J ?_)
   refine o1 J (o_ld (b := b47) (off := 0) (v := (V i2.2.2.2)) J rm1 J J ?_)
   refine o1 J (o_len (s := i2.2.2.2) J J J rm0 f2_2 ?_)
   refine op J J (oe (cr (op J J ?_)))
   replace h := bsome h
   obtain ⟨d4, h4, h⟩ := h
   refine o1 J (o_call has60 J (c_order_scanner_op hg i2.1 (⟨x2.2.1, x2.2.2⟩ : Vorder_scanner) b47 i2.2.2.2 f2_2 _ h4) (pc rm0 (pc rm0 pn)) (fun i4 f4_0 f4_1 => ?_))
   refine o1 J (o_alloc (cs := [(I 0), (I 0), (U 0), (O false), (U 0), (V SV.nil), (V SV.nil)]) J J (fun b243 => ?_))
   refine o0 (o_st (b := b243) (off := 0) (vs := [(I d4.2.Kind), (I d4.2.Addr), (U d4.2.Code), (O d4.2.Graph), (U d4.2.FA), (V i4.2.2.1), (V i4.2.2.2)]) (cs' := [(I d4.2.Kind), (I d4.2.Addr), (U d4.2.Code), (O d4.2.Graph), (U d4.2.FA), (V i4.2.2.1), (V i4.2.2.2)]) J J rp0 J J J J J J ?_)
   refine oe (c_seq (cr (op J J ?_)))
   refine op J J ?_
   refine o1 J (o_fa (fd := ⟨ "code", 29, 1, false, "", "vitrine/order", 24⟩) J J J J J ?_)
   refine o1 J (o_ld (b := b47) (off := 1) (v := (I d4.1.code)) J rm2 J J ?_)
   refine o1 J (o_p (v := (O (d4.1.code != 0))) J ?_)
   refine oe ?_
   refine c_cond (b := (d4.1.code != 0)) J (fun hb245 => ?_) (fun hb245 => ?_)
   ·replace h := cond_t hb245 h
    refine c_seq ?_
    refine c_draw (n := 0) (q := [(0, 30, (V i2.2.1)), (1, 31, (V s0)), (2, 32, (I (p0.length : Int))), (3, 33, (I (x2.2.1.length : Int))), (4, 34, (I (w64 ((p0.length : Int) - (x2.2.1.length : Int))))), (5, 35, (F b47 0)), (6, 36, (F b47 0)), (7, 37, (F b47 1)), (8, 38, (I d4.1.code)), (9, 2, (V i2.2.1)), (10, 3, (I (w64 ((p0.length : Int) - (x2.2.1.length : Int))))), (11, 4, (I d4.1.code))]) (pend := [0, 1, 2, 3, 4, 5, 6, 7, 8, 9, 10, 11]) J J J ?_
    refine ⟨⟨fun _ => ⟨J, J, J, .inl ⟨J, (o_p J ⟨J, J⟩)⟩⟩, fun _ => ⟨J, J, J, .inl ⟨J, (o_p J ⟨J, J⟩)⟩⟩, fun _ => ⟨J, J, J, .inl ⟨J, (o_len (s := s0) J J J rm1 (Rd.ext f2_1 f4_1) ⟨J, J⟩)⟩⟩, fun _ => ⟨J, J, J, .inl ⟨J, (o_p J ⟨J, J⟩)⟩⟩, fun _ => ⟨J, J, J, .inl ⟨J, (o_p (v := (I (w64 ((p0.length : Int) - (x2.2.1.length : Int))))) J ⟨J, J⟩)⟩⟩, fun _ => ⟨J, J, J, .inl ⟨J, (o_p J ⟨J, J⟩)⟩⟩, fun _ => ⟨J, J, J, .inl ⟨J, (o_p J ⟨J, J⟩)⟩⟩, fun _ => ⟨J, J, J, .inl ⟨J, (o_fa (fd := ⟨ "code", 29, 1, false, "", "vitrine/order", 24⟩) J J J J J ⟨J, J⟩)⟩⟩, fun _ => ⟨J, J, J, .inl ⟨J, (o_ld (b := b47) (off := 1) (v := (I d4.1.code)) J rm2 J J ⟨J, J⟩)⟩⟩, fun _ => ⟨J, J, J, .inl ⟨J, (o_p J ⟨J, J⟩)⟩⟩, fun _ => ⟨J, J, J, .inl ⟨J, (o_p J ⟨J, J⟩)⟩⟩, fun _ => ⟨J, J, J, .inl ⟨J, (o_p J ⟨J, J⟩)⟩⟩, trivial⟩, J, J, J, ?_⟩
    refine e_seq (c_ret (e_then_ret (e_blk_ret (e_then_ret (e_blk_ret ?_)))))
    refine ej_ret ?_
    replace h := esc_some h
    obtain ⟨z1, h, rfl⟩ := h
    obtain rfl := (hk1 : z1 = _)
    refine e_then_ret (e_ret ?_)
    refine r_endt J J (kc rm1 (kc rm4 (kd (kd (kd (kd kr)))))) ?_
    obtain rfl := si h
    exact hk (i4.1, i2.2.1, i2.2.2.1) (NL.mono f2_0 (D_Vorder_Op.ext f4_1)) (Ext.trans f2_3 f4_1)
   ·replace h := cond_f hb245 h
    refine c_skip (e_seq (c_region (op J J ?_)))
    refine o1 J (o_ld (b := b243) (off := 0) (v := (.agg (A [(I d4.2.Kind), (I d4.2.Addr), (U d4.2.Code), (O d4.2.Graph), (U d4.2.FA), (V i4.2.2.1), (V i4.2.2.2)]))) J rm0 J J ?_)
    refine o_fz rm3 rm1 (fun X246 hx247 hs248 => ?_)
    refine o_fz rm3 rm0 (fun X249 hx250 hs251 => ?_)
    refine o1 J (o_bs (e := en_Vorder_Op) (l := [(d4.2, (i4.2.2.1, i4.2.2.2))]) (zs := [(I 0), (I 0), (U 0), (O false), (U 0), (V SV.nil), (V SV.nil)]) J J J J J J J J J J (fun s252 => ?_))
    replace h := gsome h
    obtain ⟨hg254, h⟩ := h
    refine o1 J (o_app (s := i2.2.1) (r := s252) (e := en_Vorder_Op) (l := i2.2.2.1) (l2 := [(d4.2, (i4.2.2.1, i4.2.2.2))]) (zs := [(I 0), (I 0), (U 0), (O false), (U 0), (V SV.nil), (V SV.nil)]) J J J J J J J J J J J rm4 rm0 (rd_own _ _ _ _) (len2 (D := D_Vorder_Op X249) (D' := D_Vorder_Op X249) (NL.mono f2_0 (D_Vorder_Op.ext (Ext.trans (Ext.trans f4_1 hx247) hx250))) (NL.cons (D := D_Vorder_Op X249) (x := d4.2) (s := (i4.2.2.1, i4.2.2.2)) ⟨(Rd.ext hs248 hx250), hs251⟩ NL.nil) hg254) (fun s255 => ?_))
    refine op J J (o_end (e_blk ?_))
    exact e_loop (l_sub (sc J (sc J (sc J sn))) (l_keep (kc rm2 (kc rm3 (kc rm0 (kd (kd kr))))) (ih2 ((x2.1 ++ [d4.2]), d4.1.p, d4.1.code) (X249, s255, (i2.2.2.1 ++ [(d4.2, (i4.2.2.1, i4.2.2.2))]), i4.2.1) ⟨(NL.app (NL.mono f2_0 (D_Vorder_Op.ext (Ext.trans (Ext.trans f4_1 hx247) hx250))) (NL.cons (D := D_Vorder_Op X249) (x := d4.2) (s := (i4.2.2.1, i4.2.2.2)) ⟨(Rd.ext hs248 hx250), hs251⟩ NL.nil)), (Rd.ext f2_1 (Ext.trans (Ext.trans f4_1 hx247) hx250)), (Rd.ext f4_0 (Ext.trans hx247 hx250)), (Ext.trans (Ext.trans (Ext.trans f2_3 f4_1) hx247) hx250)⟩ h)))
  ·replace h := cond_f hb240 h
   refine c_exit (e_then_exit (e_then_exit (e_blk_exit ?_)))
   obtain rfl := si h
   exact ej x2.1 (i2.1, i2.2.1, i2.2.2.1) ⟨J, f2_0, f2_1, f2_3⟩ (sc J (sc J sn)) (kc rm0 (kc rm1 (kd kr)))
 ·rintro d1 i1 ⟨rfl, f1_0, f1_1, f1_2⟩
  replace h := JK_inl hk1
  clear hk1
  refine e_seq (cr (op J J (op J J ?_)))
  refine o1 J (o_len (s := s0) J J J rm0 f1_1 ?_)
  refine op J J (op J J (op J J (oe (c_ret ?_))))
  refine e_ret ?_
  refine r_endt J J (kc rm0 (kc rm0 kr)) ?_
  obtain rfl := si h
  exact hk (i1.1, i1.2.1, i1.2.2) f1_0 f1_2

theorem c_entry_Report_add {g : Gw} (hg : GK g) (X : HP) (p0 : Ventry_Report) (b0 : Nat) (s0 : SV) (L0 : List (Ventry_Entry × SV)) (q0 : NL DT L0 p0.Entries) (p1 : List Int) (s1 : SV) (q1 : Rd X s1 5 (enI .u8) p1) (r : Ventry_Report) (h : m_entry_Report_add p0 p1 = some r) : Tri env g 42 (A [(F b0 0), (V s1)]) [X, blk b0 (.cells (A [(U p0.AID), (O p0.Short), (I p0.Cursor), (V s0)]) 56 (0, 0)), slE 5 (enI .u8) (fun y : Ventry_Entry => y.Text) s0 60 en_Ventry_Entry L0] (fun K R => ∀ (i0 : SV × (List (Ventry_Entry × SV))), (NL DT i0.2 r.Entries) → K (.tuple (A [])) (X :: blk b0 (.cells (A [(U r.AID), (O r.Short), (I r.Cursor), (V i0.1)]) 56 (0, 0)) :: slE 5 (enI .u8) (fun y : Ventry_Entry => y.Text) i0.1 60 en_Ventry_Entry i0.2 :: R)) := by
 refine tri_of (fn := Tryz.f42) (N := 36) Tryz.func42 J J J ?_
 intro R K hk
 unfold m_entry_Report_add at h
 change GC _ none _ [] [(0, (F b0 0)), (1, (V s1))] (X :: blk b0 (.cells (A [(U p0.AID), (O p0.Short), (I p0.Cursor), (V s0)]) 56 (0, 0)) :: slE 5 (enI .u8) (fun y : Ventry_Entry => y.Text) s0 60 en_Ventry_Entry L0 :: R) g _ _
 refine c_seq (cr (op J J (op J J ?_)))
 refine o1 J (o_fa (fd := ⟨ "Entries", 54, 3, false, "", "", 16⟩) J J J J J ?_)
 refine o1 J (o_ld (b := b0) (off := 3) (v := (V s0)) J rm1 J J ?_)
 refine o1 J (o_lenN (s := s0) J J J rm2 rd_E q0 ?_)
 refine o1 J (o_p (v := (O ((p0.Entries.length : Int) == 0))) J ?_)
 refine oe ?_
 replace h := bsome h
 obtain ⟨d1, h, hk1⟩ := h
 refine cj (D := Unit) (ι := SV × (List (Ventry_Entry × SV))) (fun _ i1 => NL DT i1.2 d1) (fun _ i1 => [(0, (F b0 0)), (1, (V s1))]) (fun _ i1 => X :: blk b0 (.cells (A [(U p0.AID), (O p0.Short), (I p0.Cursor), (V i1.1)]) 56 (0, 0)) :: slE 5 (enI .u8) (fun y : Ventry_Entry => y.Text) i1.1 60 en_Ventry_Entry i1.2 :: R) ?_ ?_
 ·refine c_cond (b := ((p0.Entries.length : Int) == 0)) J (fun hb279 => ?_) (fun hb279 => ?_)
  ·replace h := cond_t hb279 h
   refine c_region (op J J ?_)
   refine o1 J (o_build (fs := f_8) (ps := [(0, 1), (1, 1)]) (cs := [(I 0), (V SV.nil)]) J J J J J ?_)
   refine o1 J (o_bs (e := en_Ventry_Entry) (l := [((⟨0, ([] : List Int)⟩ : Ventry_Entry), SV.nil)]) (zs := [(I 0), (V SV.nil)]) J J J J J J J J J J (fun s280 => ?_))
   refine op J J ?_
   refine o1 J (o_fa (fd := ⟨ "Entries", 54, 3, false, "", "", 16⟩) J J J J J ?_)
   refine o_toE (t2 := 5) (e2 := (enI .u8)) (π := (fun y : Ventry_Entry => y.Text)) rm0 (nilE_cons J nilE_nil) ?_
   refine o0 (o_st (b := b0) (off := 3) (vs := [(V s280)]) (cs' := [(U p0.AID), (O p0.Short), (I p0.Cursor), (V s280)]) J J rp2 J J J J J J ?_)
   refine o_end ?_
   obtain rfl := si h
   exact ej () (s280, [((⟨0, ([] : List Int)⟩ : Ventry_Entry), SV.nil)]) (NL.dt (NL.cons (D := D_Ventry_Entry X) (x := (⟨0, ([] : List Int)⟩ : Ventry_Entry)) (s := SV.nil) (rd_nil _ _ _) NL.nil)) (sc J (sc J sn)) (kc rm1 (kc rm1 (kc rm0 (kd kr))))
  ·replace h := cond_f hb279 h
   refine c_skip ?_
   obtain rfl := si h
   exact ej () (s0, L0) q0 (sc J (sc J sn)) (kc rm0 (kc rm0 (kc rm0 kr)))
 ·rintro _ i1 f1_0
  replace h := hk1
  clear hk1
  refine e_seq (c_seq ?_)
  replace h := gsome h
  obtain ⟨hg283, h⟩ := h
  refine c_draw (n := 0) (q := [(0, 16, (F b0 0)), (1, 17, (F b0 0)), (2, 18, (F b0 3)), (3, 19, (V i1.1)), (4, 20, (F b0 0)), (5, 21, (F b0 0)), (6, 22, (F b0 3)), (7, 23, (V i1.1)), (8, 24, (I (d1.length : Int))), (9, 25, (I (w64 ((d1.length : Int) - 1)))), (10, 26, (F (SV.blk i1.1) (SV.off i1.1 + Int.toNat (w64 ((d1.length : Int) - 1)) * 2))), (11, 4, (F (SV.blk i1.1) (SV.off i1.1 + Int.toNat (w64 ((d1.length : Int) - 1)) * 2)))]) (pend := [0, 1, 2, 3, 4, 5, 6, 7, 8, 9, 10, 11]) J J J ?_
  refine ⟨⟨fun _ => ⟨J, J, J, .inl ⟨J, (o_p J ⟨J, J⟩)⟩⟩, fun _ => ⟨J, J, J, .inl ⟨J, (o_p J ⟨J, J⟩)⟩⟩, fun _ => ⟨J, J, J, .inl ⟨J, (o_fa (fd := ⟨ "Entries", 54, 3, false, "", "", 16⟩) J J J J J ⟨J, J⟩)⟩⟩, fun _ => ⟨J, J, J, .inl ⟨J, (o_ld (b := b0) (off := 3) (v := (V i1.1)) J rm1 J J ⟨J, J⟩)⟩⟩, fun _ => ⟨J, J, J, .inl ⟨J, (o_p J ⟨J, J⟩)⟩⟩, fun _ => ⟨J, J, J, .inl ⟨J, (o_p J ⟨J, J⟩)⟩⟩, fun _ => ⟨J, J, J, .inl ⟨J, (o_fa (fd := ⟨ "Entries", 54, 3, false, "", "", 16⟩) J J J J J ⟨J, J⟩)⟩⟩, fun _ => ⟨J, J, J, .inl ⟨J, (o_ld (b := b0) (off := 3) (v := (V i1.1)) J rm1 J J ⟨J, J⟩)⟩⟩, fun _ => ⟨J, J, J, .inl ⟨J, (o_lenN (s := i1.1) J J J rm2 rd_E f1_0 ⟨J, J⟩)⟩⟩, fun _ => ⟨J, J, J, .inl ⟨J, (o_p (v := (I (w64 ((d1.length : Int) - 1)))) J ⟨J, J⟩)⟩⟩, fun _ => ⟨J, J, J, .inl ⟨J, (o_ix (s := i1.1) (n := w64 ((d1.length : Int) - 1)) (e := en_Ventry_Entry) J J J J J J rm2 rd_E (NL.lt f1_0 hg283) ⟨J, J⟩)⟩⟩, fun _ => ⟨J, J, J, .inl ⟨J, (o_p J ⟨J, J⟩)⟩⟩, trivial⟩, J, J, J, ?_⟩
  refine e_seq (c_region (op J J (op J J (op J J ?_))))
  refine o1 J (o_fa (fd := ⟨ "Text", 28, 1, false, "", "", 8⟩) J J J J J ?_)
  obtain ⟨sv284, he_sv284, _⟩ := NL.rd f1_0 hg283
  refine o_open (n := w64 ((d1.length : Int) - 1)) (x := (rd d1 (w64 ((d1.length : Int) - 1)))) (sv := sv284) rm2 (NL.lt f1_0 hg283) ⟨inferInstance, he_sv284⟩ ?_
  refine o1 rfl (o_ldE (s := i1.1) (e := en_Ventry_Entry) (n := w64 ((d1.length : Int) - 1)) (f := 1) (v := (V sv284)) rfl rm0 (rd_own _ _ _ _) (NL.lt f1_0 hg283) rfl (by rw [he_sv284]; rfl) ?_)
  refine op J J ?_
  replace h := gsome h
  obtain ⟨hg288, h⟩ := h
  refine o1 J (o_app (s := sv284) (r := s1) (e := (enI .u8)) (l := (rd d1 (w64 ((d1.length : Int) - 1))).Text) (l2 := p1) (zs := [(U 0)]) J J J J J J J J J J J rm2 rm3 q1 hg288 (fun s289 => ?_))
  refine op J J ?_
  refine o1 J (o_fa (fd := ⟨ "Text", 28, 1, false, "", "", 8⟩) J J J J J ?_)
  refine o0 (o_stE (s := i1.1) (e := en_Ventry_Entry) (n := w64 ((d1.length : Int) - 1)) (f := 1) (vs := [(V s289)]) (u := ((⟨(rd d1 (w64 ((d1.length : Int) - 1))).Addr, ((rd d1 (w64 ((d1.length : Int) - 1))).Text ++ p1)⟩ : Ventry_Entry), s289)) rfl rfl rp1 (NL.lt f1_0 hg283) rfl rfl rfl rfl rfl (by rw [he_sv284]; rfl) ?_)
  refine o_close (L := i1.2) (n := w64 ((d1.length : Int) - 1)) (NL.lt f1_0 hg283) rm1 rm1 rm0 rm0 ?_
  refine o_end (e_fall ?_)
  refine r_endt J J (kc rm1 (kc rm1 (kc rm0 kr))) ?_
  obtain rfl := si h
  exact hk (i1.1, (List.set i1.2 (Int.toNat (w64 ((d1.length : Int) - 1))) ((⟨(rd d1 (w64 ((d1.length : Int) - 1))).Addr, ((rd d1 (w64 ((d1.length : Int) - 1))).Text ++ p1)⟩ : Ventry_Entry), s289))) (NL.set f1_0 trivial)

theorem c_entry_Parse {g : Gw} (hg : GK g) (X : HP) (p0 : List Int) (s0 : SV) (q0 : Rd X s0 5 (enI .u8) p0) (r : Ventry_Report × Int) (h : m_entry_Parse p0 = some r) : Tri env g 17 (A [(V s0)]) [X] (fun K R => ∀ (i0 : HP × SV × (List (Ventry_Entry × SV))), (NL DT i0.2.2 r.1.Entries) → (Ext X i0.1) → K (.tuple (A [(.agg (A [(U r.1.AID), (O r.1.Short), (I r.1.Cursor), (V i0.2.1)])), (I r.2)])) (i0.1 :: slE 5 (enI .u8) (fun y : Ventry_Entry => y.Text) i0.2.1 60 en_Ventry_Entry i0.2.2 :: R)) := by
 refine tri_of (fn := Tryz.f17) (N := 65) Tryz.func17 J J J ?_
 intro R K hk
 unfold m_entry_Parse at h
 change GC _ none _ [] [(0, (V s0))] (X :: R) g _ _
 refine cr ?_
 refine o1 J (o_alloc (cs := [(U 0), (O false), (I 0), (V SV.nil)]) J J (fun b6 => ?_))
 refine op J J (oe (cr (op J J ?_)))
 replace h := bsome h
 obtain ⟨d1, h1, h⟩ := h
 refine o1 J (o_call has30 J (c_entry_begin hg X p0 s0 q0 _ h1) (pc rm1 pn) (fun i1 f1_0 => ?_))
 refine op J J (op J J (op J J (op J J ?_)))
 refine o1 J (o_alloc (cs := [(U 0), (O false), (I 0), (V SV.nil)]) J J (fun b44 => ?_))
 refine o0 (o_st (b := b44) (off := 0) (vs := [(U d1.1.AID), (O d1.1.Short), (I d1.1.Cursor), (V SV.nil)]) (cs' := [(U d1.1.AID), (O d1.1.Short), (I d1.1.Cursor), (V SV.nil)]) J J rp0 J J J J J J ?_)
 refine op J J (op J J (oe (c_seq (c_seq ?_))))
 refine c_region (op J J ?_)
 refine o1 J (o_p (v := (O (d1.2.2 != 0))) J ?_)
 refine oe ?_
 refine c_cond (b := (d1.2.2 != 0)) J (fun hb46 => ?_) (fun hb46 => ?_)
 ·replace h := cond_t hb46 h
  refine cr ?_
  refine o1 J (o_build (fs := f_3) (ps := [(0, 1), (1, 1), (2, 1), (3, 1)]) (cs := [(U 0), (O false), (I 0), (V SV.nil)]) J J J J J ?_)
  refine op J J ?_
  refine o0 (o_st (b := b6) (off := 0) (vs := [(U 0), (O false), (I 0), (V SV.nil)]) (cs' := [(U 0), (O false), (I 0), (V SV.nil)]) J J rp2 J J J J J J ?_)
  refine op J J (oe (c_ret (e_then_ret (e_ret ?_))))
  refine r_add (slE 5 (enI .u8) (fun y : Ventry_Entry => y.Text) SV.nil 60 en_Ventry_Entry []) (slE_nil _ _ _) ?_
  refine r_endc (B := [[(U 0), (O false), (I 0), (V SV.nil)]]) J ⟨⟨_, _, _, _, J, rm3⟩, trivial⟩ J (kc rm2 (kc rm0 (kd (kd kr)))) ?_
  obtain rfl := si h
  exact hk (X, SV.nil, []) NL.nil (Ext.refl _)
 ·replace h := cond_f hb46 h
  refine c_skip (e_seq (cr (op J J ?_)))
  replace h := bsome h
  obtain ⟨d3, h3, h⟩ := h
  refine o1 J (o_call has31 J (c_order_All hg X d1.2.1 i1 f1_0 _ h3) (pc rm1 pn) (fun i3 f3_0 f3_1 => ?_))
  refine op J J (op J J (op J J (op J J (op J J (op J J ?_)))))
  refine op J J (oe (c_seq (cr ?_)))
  refine op J J ?_
  refine o1 J (o_p (v := (O (d3.2.2 != 0))) J ?_)
  refine oe ?_
  refine c_cond (b := (d3.2.2 != 0)) J (fun hb262 => ?_) (fun hb262 => ?_)
  ·replace h := cond_t hb262 h
   refine cr ?_
   refine o1 J (o_build (fs := f_3) (ps := [(0, 1), (1, 1), (2, 1), (3, 1)]) (cs := [(U 0), (O false), (I 0), (V SV.nil)]) J J J J J ?_)
   refine op J J ?_
   refine o0 (o_st (b := b6) (off := 0) (vs := [(U 0), (O false), (I 0), (V SV.nil)]) (cs' := [(U 0), (O false), (I 0), (V SV.nil)]) J J rp3 J J J J J J ?_)
   refine op J J (oe (c_ret (e_then_ret (e_ret ?_))))
   refine r_add (slE 5 (enI .u8) (fun y : Ventry_Entry => y.Text) SV.nil 60 en_Ventry_Entry []) (slE_nil _ _ _) ?_
   refine r_endc (B := [[(U 0), (O false), (I 0), (V SV.nil)]]) J ⟨⟨_, _, _, _, J, rm4⟩, trivial⟩ J (kc rm1 (kc rm0 (kd (kd (kd kr))))) ?_
   obtain rfl := si h
   exact hk (i3.1, SV.nil, []) NL.nil f3_1
  ·replace h := cond_f hb262 h
   refine c_skip (e_seq (c_seq (cr (op J J ?_))))
   refine o1 J (o_lenN (s := i3.2.1) J J J rm1 (rd_own _ _ _ _) f3_0 ?_)
   refine op J J (oe ?_)
   replace h := jn_some h
   obtain ⟨y5, h, hk5⟩ := h
   refine cj (D := Int × Bool × Int × (List Ventry_Entry)) (ι := HP × SV × (List (Ventry_Entry × SV))) (fun d5 i5 => (y5 = Sum.inl d5) ∧ (NL DT i5.2.2 d5.2.2.2) ∧ (Ext X i5.1)) (fun d5 i5 => [(4, (F b44 0)), (2, (F b6 0))]) (fun d5 i5 => i5.1 :: blk b44 (.cells (A [(U d5.1), (O d5.2.1), (I d5.2.2.1), (V i5.2.1)]) 56 (0, 0)) :: blk b6 (.cells (A [(U 0), (O false), (I 0), (V SV.nil)]) 56 (0, 0)) :: slE 5 (enI .u8) (fun y : Ventry_Entry => y.Text) i5.2.1 60 en_Ventry_Entry i5.2.2 :: R) ?_ ?_
   ·refine c_block ?_
    refine c_add (slE 5 (enI .u8) (fun y : Ventry_Entry => y.Text) SV.nil 60 en_Ventry_Entry []) (slE_nil _ _ _) ?_
    refine c_loop (l_sub (sc J (sc J (sc J (sc J (sc J sn))))) (l_keep (kc rm1 (kc rm1 (kc rm1 (kc rm1 (kc rm0 kr))))) (lf (X := Int × Int × Bool × Int × (List Ventry_Entry)) (ι := HP × (List (Vorder_Op × SV × SV)) × SV × (List (Ventry_Entry × SV))) (fun k x => entry_Parse_l6 d3 k x) _ (fun x6 i6 => (NL (D_Vorder_Op i6.1) i6.2.1 d3.1) ∧ (NL DT i6.2.2.2 x6.2.2.2.2) ∧ (Ext X i6.1)) (fun x6 i6 => [(33, (I x6.1)), (32, (I (d3.1.length : Int))), (31, (V i3.2.1)), (4, (F b44 0)), (2, (F b6 0))]) (fun x6 i6 => i6.1 :: slO i3.2.1 91 en_Vorder_Op i6.2.1 :: blk b44 (.cells (A [(U x6.2.1), (O x6.2.2.1), (I x6.2.2.2.1), (V i6.2.2.1)]) 56 (0, 0)) :: blk b6 (.cells (A [(U 0), (O false), (I 0), (V SV.nil)]) 56 (0, 0)) :: slE 5 (enI .u8) (fun y : Ventry_Entry => y.Text) i6.2.2.1 60 en_Ventry_Entry i6.2.2.2 :: R) (fun _ => J) ?_ fuel (0, d1.1.AID, d1.1.Short, d1.1.Cursor, ([] : List Ventry_Entry)) (i3.1, i3.2.2, SV.nil, []) ⟨f3_0, NL.nil, f3_1⟩ h)))
    clear h
    rintro k6 ih6 x6 i6 ⟨f6_0, f6_1, f6_2⟩ h
    rw [entry_Parse_l6.eq_2] at h
    refine l_round (cr ?_)
    refine o1 J (o_p (v := (O (decide (x6.1 < (d3.1.length : Int))))) J ?_)
    refine oe (c_seq ?_)
    refine c_cond (b := (decide (x6.1 < (d3.1.length : Int)))) J (fun hb334 => ?_) (fun hb334 => ?_)
    ·replace h := cond_t hb334 h
     refine c_skip (e_seq (c_seq (c_block (cr ?_))))
     replace h := gsome h
     obtain ⟨hg335, h⟩ := h
     refine o1 J (o_ix (s := i3.2.1) (n := x6.1) (e := en_Vorder_Op) J J J J J J rm1 (rd_own _ _ _ _) (NL.lt f6_0 hg335) ?_)
     obtain ⟨sv336, he_sv336, hd_sv336⟩ := NL.rd f6_0 hg335
     have hr337 : Rd i6.1 sv336.1 93 en_Vattr_Pair ((rd d3.1 x6.1).Pairs) := hd_sv336.1
     have hr338 : Rd i6.1 sv336.2 5 (enI .u8) ((rd d3.1 x6.1).Text) := hd_sv336.2
     refine o1 rfl (o_ldE (s := i3.2.1) (e := en_Vorder_Op) (n := x6.1) (f := 0) (v := (.agg (A [(I ((rd d3.1 x6.1).Kind)), (I ((rd d3.1 x6.1).Addr)), (U ((rd d3.1 x6.1).Code)), (O ((rd d3.1 x6.1).Graph)), (U ((rd d3.1 x6.1).FA)), (V sv336.1), (V sv336.2)]))) rfl rm1 (rd_own _ _ _ _) (NL.lt f6_0 hg335) rfl (by rw [he_sv336]; rfl) ?_)
     refine o1 J (o_alloc (cs := [(I 0), (I 0), (U 0), (O false), (U 0), (V SV.nil), (V SV.nil)]) J J (fun b339 => ?_))
     refine o0 (o_st (b := b339) (off := 0) (vs := [(I ((rd d3.1 x6.1).Kind)), (I ((rd d3.1 x6.1).Addr)), (U ((rd d3.1 x6.1).Code)), (O ((rd d3.1 x6.1).Graph)), (U ((rd d3.1 x6.1).FA)), (V sv336.1), (V sv336.2)]) (cs' := [(I ((rd d3.1 x6.1).Kind)), (I ((rd d3.1 x6.1).Addr)), (U ((rd d3.1 x6.1).Code)), (O ((rd d3.1 x6.1).Graph)), (U ((rd d3.1 x6.1).FA)), (V sv336.1), (V sv336.2)]) J J rp0 J J J J J J ?_)
     refine oe (cr ?_)
     refine o1 J (o_fa (fd := ⟨ "Kind", 3, 0, false, "", "", 0⟩) J J J J J ?_)
     refine o1 J (o_ld (b := b339) (off := 0) (v := (I ((rd d3.1 x6.1).Kind))) J rm0 J J ?_)
     refine oe (c_block (cr ?_))
     refine o1 J (o_p (v := (O (((rd d3.1 x6.1).Kind) == 17))) J ?_)
     refine op J J (oe ?_)
     replace h := jn_some h
     obtain ⟨y10, h, hk10⟩ := h
     refine cj (D := Int × Bool × Int × (List Ventry_Entry)) (ι := HP × (List (Vorder_Op × SV × SV)) × SV × (List (Ventry_Entry × SV))) (fun d10 i10 => (y10 = Sum.inl d10) ∧ (NL (D_Vorder_Op i10.1) i10.2.1 d3.1) ∧ (NL DT i10.2.2.2 d10.2.2.2) ∧ (Ext X i10.1)) (fun d10 i10 => [(33, (I x6.1)), (32, (I (d3.1.length : Int))), (31, (V i3.2.1)), (4, (F b44 0)), (2, (F b6 0))]) (fun d10 i10 => i10.1 :: slO i3.2.1 91 en_Vorder_Op i10.2.1 :: blk b44 (.cells (A [(U d10.1), (O d10.2.1), (I d10.2.2.1), (V i10.2.2.1)]) 56 (0, 0)) :: blk b6 (.cells (A [(U 0), (O false), (I 0), (V SV.nil)]) 56 (0, 0)) :: slE 5 (enI .u8) (fun y : Ventry_Entry => y.Text) i10.2.2.1 60 en_Ventry_Entry i10.2.2.2 :: R) ?_ ?_
     ·refine c_cond (b := (((rd d3.1 x6.1).Kind) == 17)) J (fun hb341 => ?_) (fun hb341 => ?_)
      ·replace h := cond_t hb341 h
       refine c_region ?_
       refine o1 J (o_fa (fd := ⟨ "Entries", 54, 3, false, "", "", 16⟩) J J J J J ?_)
       refine o1 J (o_ld (b := b44) (off := 3) (v := (V i6.2.2.1)) J rm3 J J ?_)
       refine o1 J (o_fa (fd := ⟨ "Addr", 3, 1, false, "", "", 8⟩) J J J J J ?_)
       refine o1 J (o_ld (b := b339) (off := 1) (v := (I ((rd d3.1 x6.1).Addr))) J rm0 J J ?_)
       refine o1 J (o_build (fs := f_8) (ps := [(0, 1), (1, 1)]) (cs := [(I ((rd d3.1 x6.1).Addr)), (V SV.nil)]) J J J J J ?_)
       refine o1 J (o_bs (e := en_Ventry_Entry) (l := [((⟨(rd d3.1 x6.1).Addr, ([] : List Int)⟩ : Ventry_Entry), SV.nil)]) (zs := [(I 0), (V SV.nil)]) J J J J J J J J J J (fun s342 => ?_))
       replace h := gsome h
       obtain ⟨hg344, h⟩ := h
       refine o_unE rm6 ?_
       refine o1 J (o_app (s := i6.2.2.1) (r := s342) (e := en_Ventry_Entry) (l := i6.2.2.2) (l2 := [((⟨(rd d3.1 x6.1).Addr, ([] : List Int)⟩ : Ventry_Entry), SV.nil)]) (zs := [(I 0), (V SV.nil)]) J J J J J J J J J J J rm0 rm1 (rd_own _ _ _ _) (len2 f6_1 (NL.cons (D := D_Ventry_Entry i6.1) (x := (⟨(rd d3.1 x6.1).Addr, ([] : List Int)⟩ : Ventry_Entry)) (s := SV.nil) (rd_nil _ _ _) NL.nil) hg344) (fun s345 => ?_))
       refine o_mkE (t2 := 5) (e2 := (enI .u8)) (π := (fun y : Ventry_Entry => y.Text)) (L := i6.2.2.2) rm0 rm0 (nilE_cons J nilE_nil) ?_
       refine o1 J (o_fa (fd := ⟨ "Entries", 54, 3, false, "", "", 16⟩) J J J J J ?_)
       refine o0 (o_st (b := b44) (off := 3) (vs := [(V s345)]) (cs' := [(U x6.2.1), (O x6.2.2.1), (I x6.2.2.2.1), (V s345)]) J J rp5 J J J J J J ?_)
       refine o_end ?_
       obtain rfl := si h
       exact ej (x6.2.1, x6.2.2.1, x6.2.2.2.1, (x6.2.2.2.2 ++ [(⟨(rd d3.1 x6.1).Addr, ([] : List Int)⟩ : Ventry_Entry)])) (i6.1, i6.2.1, s345, (i6.2.2.2 ++ [((⟨(rd d3.1 x6.1).Addr, ([] : List Int)⟩ : Ventry_Entry), SV.nil)])) ⟨J, f6_0, (NL.app f6_1 (NL.dt (NL.cons (D := D_Ventry_Entry i6.1) (x := (⟨(rd d3.1 x6.1).Addr, ([] : List Int)⟩ : Ventry_Entry)) (s := SV.nil) (rd_nil _ _ _) NL.nil))), f6_2⟩ (sc J (sc J (sc J (sc J (sc J sn))))) (kc rm3 (kc rm3 (kc rm3 (kc rm3 (kc rm0 (kd (kd kr)))))))
      ·replace h := cond_f hb341 h
       refine cr ?_
       refine o1 J (o_p (v := (O (((rd d3.1 x6.1).Kind) == 0))) J ?_)
       refine op J J (oe ?_)
       refine c_cond (b := (((rd d3.1 x6.1).Kind) == 0)) J (fun hb347 => ?_) (fun hb347 => ?_)
       ·replace h := cond_t hb347 h
        refine c_region ?_
        refine o1 J (o_fa (fd := ⟨ "Text", 28, 6, false, "", "", 48⟩) J J J J J ?_)
        refine o1 J (o_ld (b := b339) (off := 6) (v := (V sv336.2)) J rm0 J J ?_)
        replace h := bsome h
        obtain ⟨d11, h11, h⟩ := h
        refine o1 J (o_call has42 J (c_entry_Report_add hg i6.1 (⟨x6.2.1, x6.2.2.1, x6.2.2.2.1, x6.2.2.2.2⟩ : Ventry_Report) b44 i6.2.2.1 i6.2.2.2 f6_1 ((rd d3.1 x6.1).Text) sv336.2 hr338 _ h11) (pc rm1 (pc rm2 (pc rm3 pn))) (fun i11 f11_0 => ?_))
        refine o_end ?_
        obtain rfl := si h
        exact ej (d11.AID, d11.Short, d11.Cursor, d11.Entries) (i6.1, i6.2.1, i11.1, i11.2) ⟨J, f6_0, f11_0, f6_2⟩ (sc J (sc J (sc J (sc J (sc J sn))))) (kc rm0 (kc rm3 (kc rm0 (kc rm2 (kc rm0 (kd kr))))))
       ·replace h := cond_f hb347 h
        refine cr ?_
        refine o1 J (o_p (v := (O (((rd d3.1 x6.1).Kind) == 8))) J ?_)
        refine op J J (oe ?_)
        refine c_cond (b := (((rd d3.1 x6.1).Kind) == 8)) J (fun hb349 => ?_) (fun hb349 => ?_)
        ·replace h := cond_t hb349 h
         refine c_region ?_
         refine o1 J (o_fa (fd := ⟨ "Code", 5, 2, false, "", "", 16⟩) J J J J J ?_)
         refine o1 J (o_ld (b := b339) (off := 2) (v := (U ((rd d3.1 x6.1).Code))) J rm0 J J ?_)
         refine o1 J (o_bs (e := (enI .u8)) (l := [(rd d3.1 x6.1).Code]) (zs := [(U 0)]) J J J J J J J J J J (fun s350 => ?_))
         refine o_fz rm0 rm1 (fun X352 hx353 hs354 => ?_)
         replace h := bsome h
         obtain ⟨d12, h12, h⟩ := h
         refine o1 J (o_call has42 J (c_entry_Report_add hg X352 (⟨x6.2.1, x6.2.2.1, x6.2.2.2.1, x6.2.2.2.2⟩ : Ventry_Report) b44 i6.2.2.1 i6.2.2.2 f6_1 [(rd d3.1 x6.1).Code] s350 hs354 _ h12) (pc rm0 (pc rm2 (pc rm3 pn))) (fun i12 f12_0 => ?_))
         refine o_end ?_
         obtain rfl := si h
         exact ej (d12.AID, d12.Short, d12.Cursor, d12.Entries) (X352, i6.2.1, i12.1, i12.2) ⟨J, (NL.mono f6_0 (D_Vorder_Op.ext hx353)), f12_0, (Ext.trans f6_2 hx353)⟩ (sc J (sc J (sc J (sc J (sc J sn))))) (kc rm0 (kc rm3 (kc rm0 (kc rm2 (kc rm0 (kd kr))))))
        ·replace h := cond_f hb349 h
         refine cr ?_
         refine o1 J (o_p (v := (O (((rd d3.1 x6.1).Kind) == 40))) J ?_)
         refine op J J (oe ?_)
         refine c_cond (b := (((rd d3.1 x6.1).Kind) == 40)) J (fun hb356 => ?_) (fun hb356 => ?_)
         ·replace h := cond_t hb356 h
          refine c_skip ?_
          obtain rfl := si h
          exact ej (x6.2.1, x6.2.2.1, x6.2.2.2.1, x6.2.2.2.2) (i6.1, i6.2.1, i6.2.2.1, i6.2.2.2) ⟨J, f6_0, f6_1, f6_2⟩ (sc J (sc J (sc J (sc J (sc J sn))))) (kc rm1 (kc rm1 (kc rm1 (kc rm1 (kc rm1 (kd kr))))))
         ·replace h := cond_f hb356 h
          refine cr ?_
          refine o1 J (o_build (fs := f_3) (ps := [(0, 1), (1, 1), (2, 1), (3, 1)]) (cs := [(U 0), (O false), (I 0), (V SV.nil)]) J J J J J ?_)
          refine o0 (o_st (b := b6) (off := 0) (vs := [(U 0), (O false), (I 0), (V SV.nil)]) (cs' := [(U 0), (O false), (I 0), (V SV.nil)]) J J rp4 J J J J J J ?_)
          refine op J J (oe (c_ret (ej_ret ?_)))
          replace h := esc_some h
          obtain ⟨z10, h, rfl⟩ := h
          obtain rfl := (hk10 : z10 = _)
          refine e_blk_ret (e_blk_ret (e_then_ret (e_then_ret (e_blk_ret (ej_ret ?_)))))
          replace h := esc_some h
          obtain ⟨z5, h, rfl⟩ := h
          obtain rfl := (hk5 : z5 = _)
          refine e_then_ret (e_ret ?_)
          refine r_add (slE 5 (enI .u8) (fun y : Ventry_Entry => y.Text) SV.nil 60 en_Ventry_Entry []) (slE_nil _ _ _) ?_
          refine r_endc (B := [[(U 0), (O false), (I 0), (V SV.nil)]]) J ⟨⟨_, _, _, _, J, rm5⟩, trivial⟩ J (kc rm2 (kc rm0 (kd (kd (kd (kd (kd kr))))))) ?_
          obtain rfl := si h
          exact hk (i6.1, SV.nil, []) NL.nil f6_2
     ·rintro d10 i10 ⟨rfl, f10_0, f10_1, f10_2⟩
      replace h := JK_inl hk10
      clear hk10
      refine e_blk (e_blk (e_seq (c_region ?_)))
      refine o1 J (o_p (v := (I (w64 (x6.1 + 1)))) J ?_)
      refine op J J (o_end ?_)
      exact e_loop (l_sub (sc J (sc J (sc J (sc J (sc J sn))))) (l_keep (kc rm0 (kc rm0 (kc rm0 (kc rm0 (kc rm0 kr))))) (ih6 (w64 (x6.1 + 1), d10.1, d10.2.1, d10.2.2.1, d10.2.2.2) (i10.1, i10.2.1, i10.2.2.1, i10.2.2.2) ⟨f10_0, f10_1, f10_2⟩ h)))
    ·replace h := cond_f hb334 h
     refine c_exit (e_then_exit (e_then_exit (e_blk_exit ?_)))
     obtain rfl := si h
     exact ej (x6.2.1, x6.2.2.1, x6.2.2.2.1, x6.2.2.2.2) (i6.1, i6.2.2.1, i6.2.2.2) ⟨J, f6_1, f6_2⟩ (sc J (sc J sn)) (kc rm0 (kc rm1 (kc rm1 (kc rm1 (kd kr)))))
   ·rintro d5 i5 ⟨rfl, f5_0, f5_1⟩
    replace h := JK_inl hk5
    clear hk5
    refine e_seq (cr ?_)
    refine o1 J (o_ld (b := b44) (off := 0) (v := (.agg (A [(U d5.1), (O d5.2.1), (I d5.2.2.1), (V i5.2.1)]))) J rm1 J J ?_)
    refine o0 (o_st (b := b6) (off := 0) (vs := [(U d5.1), (O d5.2.1), (I d5.2.2.1), (V i5.2.1)]) (cs' := [(U d5.1), (O d5.2.1), (I d5.2.2.1), (V i5.2.1)]) J J rp2 J J J J J J ?_)
    refine op J J (oe (c_ret (e_ret ?_)))
    refine r_endc (B := [[(U d5.1), (O d5.2.1), (I d5.2.2.1), (V i5.2.1)]]) J ⟨⟨_, _, _, _, J, rm2⟩, trivial⟩ J (kc rm0 (kc rm2 (kd (kd kr)))) ?_
    obtain rfl := si h
    exact hk (i5.1, i5.2.1, i5.2.2) f5_0 f5_1

theorem c_vitrinelaw20_awake {g : Gw} (hg : GK g) (X : HP) (r : Bool) (h : m_vitrinelaw20_awake = some r) : Tri env g 4 (A []) [X] (fun K R => ∀ (i0 : HP), (Ext X i0) → K (O r) (i0 :: R)) := by
 refine tri_of (fn := Tryz.f4) (N := 43) Tryz.func4 J J J ?_
 intro R K hk
 unfold m_vitrinelaw20_awake at h
 change GC _ none _ [] [] (X :: R) g _ _
 refine cr (op J J (oe (c_seq ?_)))
 refine c_region ?_
 refine o1 J (o_bs (e := (enI .u8)) (l := [125, 64, 194, 17, 64, 193, 193, 194]) (zs := [(U 0)]) J J J J J J J J J J (fun s1 => ?_))
 refine o_fz rm0 rm0 (fun X3 hx4 hs5 => ?_)
 replace h := bsome h
 obtain ⟨d1, h1, h⟩ := h
 refine o1 J (o_call has17 J (c_entry_Parse hg X3 [125, 64, 194, 17, 64, 193, 193, 194] s1 hs5 _ h1) (pc rm0 pn) (fun i1 f1_0 f1_1 => ?_))
 refine op J J (op J J (op J J ?_))
 refine o1 J (o_alloc (cs := [(U 0), (O false), (I 0), (V SV.nil)]) J J (fun b368 => ?_))
 refine o0 (o_st (b := b368) (off := 0) (vs := [(U d1.1.AID), (O d1.1.Short), (I d1.1.Cursor), (V i1.2.1)]) (cs' := [(U d1.1.AID), (O d1.1.Short), (I d1.1.Cursor), (V i1.2.1)]) J J rp0 J J J J J J ?_)
 refine op J J (oe (c_seq ?_))
 replace h := bsome h
 obtain ⟨d2, h, hk2⟩ := h
 refine cj (D := Unit) (ι := Unit) (fun _ i2 => True) (fun _ i2 => [(0, (O d2))]) (fun _ i2 => i1.1 :: R) ?_ ?_
 ·refine c_region (op J J ?_)
  refine o1 J (o_p (v := (O (d1.2 == 0))) J ?_)
  refine op J J ?_
  rcases bool_or ((d1.2 == 0)) with hb370 | hb370
  ·replace h := cond_t hb370 h
   refine oy J J J hb370 (o_fa (fd := ⟨ "AID", 5, 0, false, "", "", 0⟩) J J J J J ?_)
   refine oy J J J hb370 (o_ld (b := b368) (off := 0) (v := (U d1.1.AID)) J rm0 J J ?_)
   refine oy J J J hb370 (o_p (v := (O (d1.1.AID == 125))) J ?_)
   refine o1 J (o_pick_t J hb370 J ?_)
   refine op J J ?_
   rcases bool_or ((d1.1.AID == 125)) with hb371 | hb371
   ·replace h := cond_t hb371 h
    refine oy J J J hb371 (o_fa (fd := ⟨ "Cursor", 3, 2, false, "", "", 8⟩) J J J J J ?_)
    refine oy J J J hb371 (o_ld (b := b368) (off := 2) (v := (I d1.1.Cursor)) J rm0 J J ?_)
    refine oy J J J hb371 (o_p (v := (O (d1.1.Cursor == 2))) J ?_)
    refine o1 J (o_pick_t J hb371 J ?_)
    refine op J J ?_
    rcases bool_or ((d1.1.Cursor == 2)) with hb372 | hb372
    ·replace h := cond_t hb372 h
     refine oy J J J hb372 (o_fa (fd := ⟨ "Entries", 54, 3, false, "", "", 16⟩) J J J J J ?_)
     refine oy J J J hb372 (o_ld (b := b368) (off := 3) (v := (V i1.2.1)) J rm0 J J ?_)
     refine oy J J J hb372 (o_lenN (s := i1.2.1) J J J rm2 rd_E f1_0 ?_)
     refine oy J J J hb372 (o_p (v := (O ((d1.1.Entries.length : Int) == 1))) J ?_)
     refine o1 J (o_pick_t J hb372 J ?_)
     refine op J J ?_
     rcases bool_or (((d1.1.Entries.length : Int) == 1)) with hb373 | hb373
     ·replace h := cond_t hb373 h
      refine oy J J J hb373 (o_fa (fd := ⟨ "Entries", 54, 3, false, "", "", 16⟩) J J J J J ?_)
      refine oy J J J hb373 (o_ld (b := b368) (off := 3) (v := (V i1.2.1)) J rm0 J J ?_)
      replace h := gsome h
      obtain ⟨hg374, h⟩ := h
      refine oy J J J hb373 (o_ix (s := i1.2.1) (n := 0) (e := en_Ventry_Entry) J J J J J J rm2 rd_E (NL.lt f1_0 hg374) ?_)
      refine oy J J J hb373 (o_fa (fd := ⟨ "Addr", 3, 0, false, "", "", 0⟩) J J J J J ?_)
      obtain ⟨sv375, he_sv375, _⟩ := NL.rd f1_0 hg374
      refine oy rfl rfl rfl hb373 (o_ldE (s := i1.2.1) (e := en_Ventry_Entry) (n := 0) (f := 0) (v := (I ((rd d1.1.Entries 0).Addr))) rfl rm2 rd_E (NL.lt f1_0 hg374) rfl (by rw [he_sv375]; rfl) ?_)
      refine oy J J J hb373 (o_p (v := (O (((rd d1.1.Entries 0).Addr) == 1))) J ?_)
      refine o1 J (o_pick_t J hb373 J ?_)
      refine op J J ?_
      rcases bool_or ((((rd d1.1.Entries 0).Addr) == 1)) with hb376 | hb376
      ·replace h := cond_t hb376 h
       refine oy J J J hb376 (o_fa (fd := ⟨ "Entries", 54, 3, false, "", "", 16⟩) J J J J J ?_)
       refine oy J J J hb376 (o_ld (b := b368) (off := 3) (v := (V i1.2.1)) J rm0 J J ?_)
       replace h := gsome h
       obtain ⟨hg377, h⟩ := h
       refine oy J J J hb376 (o_ix (s := i1.2.1) (n := 0) (e := en_Ventry_Entry) J J J J J J rm2 rd_E (NL.lt f1_0 hg377) ?_)
       refine oy J J J hb376 (o_fa (fd := ⟨ "Text", 28, 1, false, "", "", 8⟩) J J J J J ?_)
       obtain ⟨sv378, he_sv378, _⟩ := NL.rd f1_0 hg377
       refine o_open (n := 0) (x := (rd d1.1.Entries 0)) (sv := sv378) rm2 (NL.lt f1_0 hg377) ⟨inferInstance, he_sv378⟩ ?_
       refine oy rfl rfl rfl hb376 (o_ldE (s := i1.2.1) (e := en_Ventry_Entry) (n := 0) (f := 1) (v := (V sv378)) rfl rm0 (rd_own _ _ _ _) (NL.lt f1_0 hg377) rfl (by rw [he_sv378]; rfl) ?_)
       refine oy J J J hb376 (o_b2s (s := sv378) J J J J J J J rm2 (rd_own _ _ _ _) ?_)
       refine oy J J J hb376 (o_p (v := (O ((bstr ((rd d1.1.Entries 0).Text)).data.toList == (ByteArray.mk (A [193, 194])).data.toList))) J ?_)
       refine o1 J (o_pick_t J hb376 J ?_)
       refine op J J (o_end ?_)
       obtain rfl := si h
       exact ej () () trivial (sc J sn) (kc rm5 (kd (kd (kd (kd (kd kr))))))
      ·replace h := cond_f hb376 h
       refine on J J J hb376 ?_
       refine on J J J hb376 ?_
       refine on J J J hb376 ?_
       refine on J J J hb376 ?_
       refine on J J J hb376 ?_
       refine on J J J hb376 ?_
       refine on J J J hb376 ?_
       refine o1 J (o_pick_f J hb376 J ?_)
       refine op J J (o_end ?_)
       obtain rfl := si h
       exact ej () () trivial (sc J sn) (kc rm1 (kd (kd kr)))
     ·replace h := cond_f hb373 h
      refine on J J J hb373 ?_
      refine on J J J hb373 ?_
      refine on J J J hb373 ?_
      refine on J J J hb373 ?_
      refine on J J J hb373 ?_
      refine on J J J hb373 ?_
      refine o1 J (o_pick_f J hb373 J ?_)
      refine op J J ?_
      refine on J J J J ?_
      refine on J J J J ?_
      refine on J J J J ?_
      refine on J J J J ?_
      refine on J J J J ?_
      refine on J J J J ?_
      refine on J J J J ?_
      refine o1 J (o_pick_f J J J ?_)
      refine op J J (o_end ?_)
      obtain rfl := si h
      exact ej () () trivial (sc J sn) (kc rm1 (kd (kd kr)))
    ·replace h := cond_f hb372 h
     refine on J J J hb372 ?_
     refine on J J J hb372 ?_
     refine on J J J hb372 ?_
     refine on J J J hb372 ?_
     refine o1 J (o_pick_f J hb372 J ?_)
     refine op J J ?_
     refine on J J J J ?_
     refine on J J J J ?_
     refine on J J J J ?_
     refine on J J J J ?_
     refine on J J J J ?_
     refine on J J J J ?_
     refine o1 J (o_pick_f J J J ?_)
     refine op J J ?_
     refine on J J J J ?_
     refine on J J J J ?_
     refine on J J J J ?_
     refine on J J J J ?_
     refine on J J J J ?_
     refine on J J J J ?_
     refine on J J J J ?_
     refine o1 J (o_pick_f J J J ?_)
     refine op J J (o_end ?_)
     obtain rfl := si h
     exact ej () () trivial (sc J sn) (kc rm1 (kd (kd kr)))
   ·replace h := cond_f hb371 h
    refine on J J J hb371 ?_
    refine on J J J hb371 ?_
    refine on J J J hb371 ?_
    refine o1 J (o_pick_f J hb371 J ?_)
    refine op J J ?_
    refine on J J J J ?_
    refine on J J J J ?_
    refine on J J J J ?_
    refine on J J J J ?_
    refine o1 J (o_pick_f J J J ?_)
    refine op J J ?_
    refine on J J J J ?_
    refine on J J J J ?_
    refine on J J J J ?_
    refine on J J J J ?_
    refine on J J J J ?_
    refine on J J J J ?_
    refine o1 J (o_pick_f J J J ?_)
    refine op J J ?_
    refine on J J J J ?_
    refine on J J J J ?_
    refine on J J J J ?_
    refine on J J J J ?_
    refine on J J J J ?_
    refine on J J J J ?_
    refine on J J J J ?_
    refine o1 J (o_pick_f J J J ?_)
    refine op J J (o_end ?_)
    obtain rfl := si h
    exact ej () () trivial (sc J sn) (kc rm1 (kd (kd kr)))
  ·replace h := cond_f hb370 h
   refine on J J J hb370 ?_
   refine on J J J hb370 ?_
   refine on J J J hb370 ?_
   refine o1 J (o_pick_f J hb370 J ?_)
   refine op J J ?_
   refine on J J J J ?_
   refine on J J J J ?_
   refine on J J J J ?_
   refine o1 J (o_pick_f J J J ?_)
   refine op J J ?_
   refine on J J J J ?_
   refine on J J J J ?_
   refine on J J J J ?_
   refine on J J J J ?_
   refine o1 J (o_pick_f J J J ?_)
   refine op J J ?_
   refine on J J J J ?_
   refine on J J J J ?_
   refine on J J J J ?_
   refine on J J J J ?_
   refine on J J J J ?_
   refine on J J J J ?_
   refine o1 J (o_pick_f J J J ?_)
   refine op J J ?_
   refine on J J J J ?_
   refine on J J J J ?_
   refine on J J J J ?_
   refine on J J J J ?_
   refine on J J J J ?_
   refine on J J J J ?_
   refine on J J J J ?_
   refine o1 J (o_pick_f J J J ?_)
   refine op J J (o_end ?_)
   obtain rfl := si h
   exact ej () () trivial (sc J sn) (kc rm1 (kd (kd kr)))
 ·rintro _ i2 _
  replace h := hk2
  clear hk2
  refine e_seq (c_ret (e_ret ?_))
  refine r_endt J J (kc rm0 kr) ?_
  obtain rfl := si h
  exact hk i1.1 (Ext.trans hx4 f1_1)

theorem c_addr_Model {g : Gw} (hg : GK g) (X : HP) (p0 : Int) (r : Vaddr_Size × Int) (h : m_addr_Model p0 = some r) : Tri env g 43 (A [(I p0)]) [X] (fun K R => K (.tuple (A [(.agg (A [(I r.1.Rows), (I r.1.Cols)])), (I r.2)])) (X :: R)) := by
 refine tri_of (fn := Tryz.f43) (N := 18) Tryz.func43 J J J ?_
 intro R K hk
 unfold m_addr_Model at h
 change GC _ none _ [] [(0, (I p0))] (X :: R) g _ _
 refine cr ?_
 refine o1 J (o_alloc (cs := [(I 0), (I 0)]) J J (fun b383 => ?_))
 refine op J J (oe (c_seq (cr ?_)))
 refine op J J (oe (c_block (cr ?_)))
 refine o1 J (o_p (v := (O (p0 == 2))) J ?_)
 refine op J J (oe ?_)
 refine c_cond (b := (p0 == 2)) J (fun hb385 => ?_) (fun hb385 => ?_)
 ·replace h := cond_t hb385 h
  refine cr ?_
  refine o1 J (o_build (fs := f_2) (ps := [(0, 1), (1, 1)]) (cs := [(I 24), (I 80)]) J J J J J ?_)
  refine o0 (o_st (b := b383) (off := 0) (vs := [(I 24), (I 80)]) (cs' := [(I 24), (I 80)]) J J rp0 J J J J J J ?_)
  refine op J J (oe (c_ret (e_blk_ret (e_then_ret ?_))))
  refine e_ret ?_
  refine r_endc (B := [[(I 24), (I 80)]]) J ⟨⟨_, _, _, _, J, rm0⟩, trivial⟩ J (kc rm1 (kd kr)) ?_
  obtain rfl := si h
  exact hk
 ·replace h := cond_f hb385 h
  refine cr ?_
  refine o1 J (o_p (v := (O (p0 == 3))) J ?_)
  refine op J J (oe ?_)
  refine c_cond (b := (p0 == 3)) J (fun hb386 => ?_) (fun hb386 => ?_)
  ·replace h := cond_t hb386 h
   refine cr ?_
   refine o1 J (o_build (fs := f_2) (ps := [(0, 1), (1, 1)]) (cs := [(I 32), (I 80)]) J J J J J ?_)
   refine o0 (o_st (b := b383) (off := 0) (vs := [(I 32), (I 80)]) (cs' := [(I 32), (I 80)]) J J rp0 J J J J J J ?_)
   refine op J J (oe (c_ret (e_blk_ret (e_then_ret ?_))))
   refine e_ret ?_
   refine r_endc (B := [[(I 32), (I 80)]]) J ⟨⟨_, _, _, _, J, rm0⟩, trivial⟩ J (kc rm1 (kd kr)) ?_
   obtain rfl := si h
   exact hk
  ·replace h := cond_f hb386 h
   refine cr ?_
   refine o1 J (o_p (v := (O (p0 == 4))) J ?_)
   refine op J J (oe ?_)
   refine c_cond (b := (p0 == 4)) J (fun hb387 => ?_) (fun hb387 => ?_)
   ·replace h := cond_t hb387 h
    refine cr ?_
    refine o1 J (o_build (fs := f_2) (ps := [(0, 1), (1, 1)]) (cs := [(I 43), (I 80)]) J J J J J ?_)
    refine o0 (o_st (b := b383) (off := 0) (vs := [(I 43), (I 80)]) (cs' := [(I 43), (I 80)]) J J rp0 J J J J J J ?_)
    refine op J J (oe (c_ret (e_blk_ret (e_then_ret ?_))))
    refine e_ret ?_
    refine r_endc (B := [[(I 43), (I 80)]]) J ⟨⟨_, _, _, _, J, rm0⟩, trivial⟩ J (kc rm1 (kd kr)) ?_
    obtain rfl := si h
    exact hk
   ·replace h := cond_f hb387 h
    refine cr ?_
    refine o1 J (o_p (v := (O (p0 == 5))) J ?_)
    refine op J J (oe ?_)
    refine c_cond (b := (p0 == 5)) J (fun hb388 => ?_) (fun hb388 => ?_)
    ·replace h := cond_t hb388 h
     refine cr ?_
     refine o1 J (o_build (fs := f_2) (ps := [(0, 1), (1, 1)]) (cs := [(I 27), (I 132)]) J J J J J ?_)
     refine o0 (o_st (b := b383) (off := 0) (vs := [(I 27), (I 132)]) (cs' := [(I 27), (I 132)]) J J rp0 J J J J J J ?_)
     refine op J J (oe (c_ret (e_blk_ret (e_then_ret ?_))))
     refine e_ret ?_
     refine r_endc (B := [[(I 27), (I 132)]]) J ⟨⟨_, _, _, _, J, rm0⟩, trivial⟩ J (kc rm1 (kd kr)) ?_
     obtain rfl := si h
     exact hk
    ·replace h := cond_f hb388 h
     refine c_skip (e_blk (e_seq (cr ?_)))
     refine o1 J (o_build (fs := f_2) (ps := [(0, 1), (1, 1)]) (cs := [(I 0), (I 0)]) J J J J J ?_)
     refine o0 (o_st (b := b383) (off := 0) (vs := [(I 0), (I 0)]) (cs' := [(I 0), (I 0)]) J J rp0 J J J J J J ?_)
     refine op J J (oe (c_ret (e_ret ?_)))
     refine r_endc (B := [[(I 0), (I 0)]]) J ⟨⟨_, _, _, _, J, rm0⟩, trivial⟩ J (kc rm1 (kd kr)) ?_
     obtain rfl := si h
     exact hk

theorem c_addr_Size_Valid {g : Gw} (hg : GK g) (X : HP) (p0 : Vaddr_Size) (r : Bool) (h : m_addr_Size_Valid p0 = some r) : Tri env g 74 (A [(.agg (A [(I p0.Rows), (I p0.Cols)]))]) [X] (fun K R => K (O r) (X :: R)) := by
 refine tri_of (fn := Tryz.f74) (N := 29) Tryz.func74 J J J ?_
 intro R K hk
 unfold m_addr_Size_Valid at h
 change GC _ none _ [] [(0, (.agg (A [(I p0.Rows), (I p0.Cols)])))] (X :: R) g _ _
 refine cr ?_
 refine o1 J (o_box (cs := [(I p0.Rows), (I p0.Cols)]) J J (fun b397 => ?_))
 refine op J J (oe (c_seq ?_))
 replace h := bsome h
 obtain ⟨d1, h, hk1⟩ := h
 refine cj (D := Unit) (ι := Unit) (fun _ i1 => True) (fun _ i1 => [(2, (O d1))]) (fun _ i1 => X :: R) ?_ ?_
 ·refine c_region ?_
  refine o1 J (o_fa (fd := ⟨ "Rows", 3, 0, false, "", "", 0⟩) J J J J J ?_)
  refine o1 J (o_ld (b := b397) (off := 0) (v := (I p0.Rows)) J rm0 J J ?_)
  refine o1 J (o_p (v := (O (decide (p0.Rows ≥ 1)))) J ?_)
  refine op J J ?_
  rcases bool_or ((decide (p0.Rows ≥ 1))) with hb399 | hb399
  ·replace h := cond_t hb399 h
   refine oy J J J hb399 (o_fa (fd := ⟨ "Rows", 3, 0, false, "", "", 0⟩) J J J J J ?_)
   refine oy J J J hb399 (o_ld (b := b397) (off := 0) (v := (I p0.Rows)) J rm0 J J ?_)
   refine oy J J J hb399 (o_p (v := (O (decide (p0.Rows ≤ 43)))) J ?_)
   refine o1 J (o_pick_t J hb399 J ?_)
   refine op J J ?_
   rcases bool_or ((decide (p0.Rows ≤ 43))) with hb400 | hb400
   ·replace h := cond_t hb400 h
    refine oy J J J hb400 (o_fa (fd := ⟨ "Cols", 3, 1, false, "", "", 8⟩) J J J J J ?_)
    refine oy J J J hb400 (o_ld (b := b397) (off := 1) (v := (I p0.Cols)) J rm0 J J ?_)
    refine oy J J J hb400 (o_p (v := (O (decide (p0.Cols ≥ 1)))) J ?_)
    refine o1 J (o_pick_t J hb400 J ?_)
    refine op J J ?_
    rcases bool_or ((decide (p0.Cols ≥ 1))) with hb401 | hb401
    ·replace h := cond_t hb401 h
     refine oy J J J hb401 (o_fa (fd := ⟨ "Cols", 3, 1, false, "", "", 8⟩) J J J J J ?_)
     refine oy J J J hb401 (o_ld (b := b397) (off := 1) (v := (I p0.Cols)) J rm0 J J ?_)
     refine oy J J J hb401 (o_p (v := (O (decide (p0.Cols ≤ 132)))) J ?_)
     refine o1 J (o_pick_t J hb401 J ?_)
     refine op J J ?_
     rcases bool_or ((decide (p0.Cols ≤ 132))) with hb402 | hb402
     ·replace h := cond_t hb402 h
      refine oy J J J hb402 (o_fa (fd := ⟨ "Rows", 3, 0, false, "", "", 0⟩) J J J J J ?_)
      refine oy J J J hb402 (o_ld (b := b397) (off := 0) (v := (I p0.Rows)) J rm0 J J ?_)
      refine oy J J J hb402 (o_fa (fd := ⟨ "Cols", 3, 1, false, "", "", 8⟩) J J J J J ?_)
      refine oy J J J hb402 (o_ld (b := b397) (off := 1) (v := (I p0.Cols)) J rm0 J J ?_)
      refine oy J J J hb402 (o_p (v := (I (w64 (p0.Rows * p0.Cols)))) J ?_)
      refine oy J J J hb402 (o_p (v := (O (decide ((w64 (p0.Rows * p0.Cols)) ≤ 3564)))) J ?_)
      refine o1 J (o_pick_t J hb402 J ?_)
      refine op J J (o_end ?_)
      obtain rfl := si h
      exact ej () () trivial (sc J sn) (kc rm1 (kd kr))
     ·replace h := cond_f hb402 h
      refine on J J J hb402 ?_
      refine on J J J hb402 ?_
      refine on J J J hb402 ?_
      refine on J J J hb402 ?_
      refine on J J J hb402 ?_
      refine on J J J hb402 ?_
      refine o1 J (o_pick_f J hb402 J ?_)
      refine op J J (o_end ?_)
      obtain rfl := si h
      exact ej () () trivial (sc J sn) (kc rm1 (kd kr))
    ·replace h := cond_f hb401 h
     refine on J J J hb401 ?_
     refine on J J J hb401 ?_
     refine on J J J hb401 ?_
     refine o1 J (o_pick_f J hb401 J ?_)
     refine op J J ?_
     refine on J J J J ?_
     refine on J J J J ?_
     refine on J J J J ?_
     refine on J J J J ?_
     refine on J J J J ?_
     refine on J J J J ?_
     refine o1 J (o_pick_f J J J ?_)
     refine op J J (o_end ?_)
     obtain rfl := si h
     exact ej () () trivial (sc J sn) (kc rm1 (kd kr))
   ·replace h := cond_f hb400 h
    refine on J J J hb400 ?_
    refine on J J J hb400 ?_
    refine on J J J hb400 ?_
    refine o1 J (o_pick_f J hb400 J ?_)
    refine op J J ?_
    refine on J J J J ?_
    refine on J J J J ?_
    refine on J J J J ?_
    refine o1 J (o_pick_f J J J ?_)
    refine op J J ?_
    refine on J J J J ?_
    refine on J J J J ?_
    refine on J J J J ?_
    refine on J J J J ?_
    refine on J J J J ?_
    refine on J J J J ?_
    refine o1 J (o_pick_f J J J ?_)
    refine op J J (o_end ?_)
    obtain rfl := si h
    exact ej () () trivial (sc J sn) (kc rm1 (kd kr))
  ·replace h := cond_f hb399 h
   refine on J J J hb399 ?_
   refine on J J J hb399 ?_
   refine on J J J hb399 ?_
   refine o1 J (o_pick_f J hb399 J ?_)
   refine op J J ?_
   refine on J J J J ?_
   refine on J J J J ?_
   refine on J J J J ?_
   refine o1 J (o_pick_f J J J ?_)
   refine op J J ?_
   refine on J J J J ?_
   refine on J J J J ?_
   refine on J J J J ?_
   refine o1 J (o_pick_f J J J ?_)
   refine op J J ?_
   refine on J J J J ?_
   refine on J J J J ?_
   refine on J J J J ?_
   refine on J J J J ?_
   refine on J J J J ?_
   refine on J J J J ?_
   refine o1 J (o_pick_f J J J ?_)
   refine op J J (o_end ?_)
   obtain rfl := si h
   exact ej () () trivial (sc J sn) (kc rm1 (kd kr))
 ·rintro _ i1 _
  replace h := hk1
  clear hk1
  refine e_seq (c_ret (e_ret ?_))
  refine r_endt J J (kc rm0 kr) ?_
  obtain rfl := si h
  exact hk

theorem c_addr_Size_Cells {g : Gw} (hg : GK g) (X : HP) (p0 : Vaddr_Size) (r : Int) (h : m_addr_Size_Cells p0 = some r) : Tri env g 49 (A [(.agg (A [(I p0.Rows), (I p0.Cols)]))]) [X] (fun K R => K (I r) (X :: R)) := by
 refine tri_of (fn := Tryz.f49) (N := 11) Tryz.func49 J J J ?_
 intro R K hk
 unfold m_addr_Size_Cells at h
 change GC _ none _ [] [(0, (.agg (A [(I p0.Rows), (I p0.Cols)])))] (X :: R) g _ _
 refine cr ?_
 refine o1 J (o_box (cs := [(I p0.Rows), (I p0.Cols)]) J J (fun b395 => ?_))
 refine op J J (oe (c_seq (cr ?_)))
 refine o1 J (o_ld (b := b395) (off := 0) (v := (.agg (A [(I p0.Rows), (I p0.Cols)]))) J rm0 J J ?_)
 replace h := bsome h
 obtain ⟨d1, h1, h⟩ := h
 refine o1 J (o_call has74 J (c_addr_Size_Valid hg X p0 _ h1) (pc rm1 pn) ?_)
 refine o1 J (o_p (v := (O (!d1))) J ?_)
 refine oe ?_
 refine c_cond (b := (!d1)) J (fun hb403 => ?_) (fun hb403 => ?_)
 ·replace h := cond_t hb403 h
  refine cr (op J J (oe (c_ret ?_)))
  refine e_then_ret (e_ret ?_)
  refine r_endt J J (kc rm0 (kd kr)) ?_
  obtain rfl := si h
  exact hk
 ·replace h := cond_f hb403 h
  refine c_skip (e_seq (cr ?_))
  refine o1 J (o_fa (fd := ⟨ "Rows", 3, 0, false, "", "", 0⟩) J J J J J ?_)
  refine o1 J (o_ld (b := b395) (off := 0) (v := (I p0.Rows)) J rm1 J J ?_)
  refine o1 J (o_fa (fd := ⟨ "Cols", 3, 1, false, "", "", 8⟩) J J J J J ?_)
  refine o1 J (o_ld (b := b395) (off := 1) (v := (I p0.Cols)) J rm1 J J ?_)
  refine o1 J (o_p (v := (I (w64 (p0.Rows * p0.Cols)))) J ?_)
  refine op J J (oe (c_ret (e_ret ?_)))
  refine r_endt J J (kc rm0 (kd kr)) ?_
  obtain rfl := si h
  exact hk

theorem c_space_Space_Clear {g : Gw} (hg : GK g) (X : HP) (p0 : Vspace_Space) (b0 : Nat) (s0 : SV) (q0 : Rd X s0 49 en_Vapi_Cell p0.cells) (p1 : Bool) (r : Vspace_Space) (h : m_space_Space_Clear p0 p1 = some r) : Tri env g 21 (A [(F b0 0), (O p1)]) [X, blk b0 (.cells (A [(I p0.model), (O p0.alternate), (I p0.size.Rows), (I p0.size.Cols), (V s0), (I p0.cursor), (I p0.attrs)]) 105 (0, 0))] (fun K R => ∀ (i0 : SV), K (.tuple (A [])) (X :: blk b0 (.cells (A [(I r.model), (O r.alternate), (I r.size.Rows), (I r.size.Cols), (V i0), (I r.cursor), (I r.attrs)]) 105 (0, 0)) :: slO i0 49 en_Vapi_Cell r.cells :: R)) := by
 refine tri_of (fn := Tryz.f21) (N := 39) Tryz.func21 J J J ?_
 intro R K hk
 unfold m_space_Space_Clear at h
 change GC _ none _ [] [(0, (F b0 0)), (1, (O p1))] (X :: blk b0 (.cells (A [(I p0.model), (O p0.alternate), (I p0.size.Rows), (I p0.size.Cols), (V s0), (I p0.cursor), (I p0.attrs)]) 105 (0, 0)) :: R) g _ _
 refine c_seq (cr (op J J ?_))
 refine o1 J (o_p (v := (O false)) J ?_)
 refine oe ?_
 refine c_cond_f J J ?_
 refine c_skip (e_seq (cr (op J J (o_end ?_))))
 refine e_seq (c_seq (cr (op J J (o_end ?_))))
 refine e_seq ?_
 replace h := bsome h
 obtain ⟨d1, h, hk1⟩ := h
 refine cj (D := Unit) (ι := Unit) (fun _ i1 => True) (fun _ i1 => [(4, (I d1)), (0, (F b0 0)), (1, (O p1))]) (fun _ i1 => X :: blk b0 (.cells (A [(I p0.model), (O p0.alternate), (I p0.size.Rows), (I p0.size.Cols), (V s0), (I p0.cursor), (I p0.attrs)]) 105 (0, 0)) :: R) ?_ ?_
 ·refine c_cond (b := p1) J (fun hb394 => ?_) (fun hb394 => ?_)
  ·replace h := cond_t hb394 h
   refine c_region (op J J (op J J ?_))
   refine o1 J (o_fa (fd := ⟨ "model", 3, 0, false, "", "vitrine/space", 0⟩) J J J J J ?_)
   refine o1 J (o_ld (b := b0) (off := 0) (v := (I p0.model)) J rm1 J J ?_)
   refine op J J (o_end ?_)
   obtain rfl := si h
   exact ej () () trivial (sc J (sc J (sc J sn))) (kc rm0 (kc rm0 kr))
  ·replace h := cond_f hb394 h
   refine c_skip ?_
   obtain rfl := si h
   exact ej () () trivial (sc J (sc J (sc J sn))) (kc rm0 (kc rm0 kr))
 ·rintro _ i1 _
  replace h := hk1
  clear hk1
  refine e_seq (cr (op J J (op J J (op J J ?_))))
  refine o1 J (o_fa (fd := ⟨ "alternate", 4, 1, false, "", "vitrine/space", 8⟩) J J J J J ?_)
  refine o0 (o_st (b := b0) (off := 1) (vs := [(O p1)]) (cs' := [(I p0.model), (O p1), (I p0.size.Rows), (I p0.size.Cols), (V s0), (I p0.cursor), (I p0.attrs)]) J J rp1 J J J J J J ?_)
  refine oe (cr (op J J (op J J ?_)))
  replace h := bsome h
  obtain ⟨d2, h2, h⟩ := h
  refine o1 J (o_call has43 J (c_addr_Model hg X d1 _ h2) (pc rm0 pn) ?_)
  refine op J J (op J J (op J J (op J J ?_)))
  refine o1 J (o_fa (fd := ⟨ "size", 103, 2, false, "", "vitrine/space", 16⟩) J J J J J ?_)
  refine o0 (o_st (b := b0) (off := 2) (vs := [(I d2.1.Rows), (I d2.1.Cols)]) (cs' := [(I p0.model), (O p1), (I d2.1.Rows), (I d2.1.Cols), (V s0), (I p0.cursor), (I p0.attrs)]) J J rp1 J J J J J J ?_)
  refine oe (cr (op J J (op J J ?_)))
  refine op J J ?_
  refine o1 J (o_fa (fd := ⟨ "size", 103, 2, false, "", "vitrine/space", 16⟩) J J J J J ?_)
  refine o1 J (o_ld (b := b0) (off := 2) (v := (.agg (A [(I d2.1.Rows), (I d2.1.Cols)]))) J rm1 J J ?_)
  replace h := bsome h
  obtain ⟨d3, h3, h⟩ := h
  refine o1 J (o_call has49 J (c_addr_Size_Cells hg X d2.1 _ h3) (pc rm0 pn) ?_)
  replace h := gsome h
  obtain ⟨hg404, h⟩ := h
  refine o1 J (o_mk (e := en_Vapi_Cell) (z := (⟨0, false, 0, 0, 0, 0⟩ : Vapi_Cell)) (zs := [(U 0), (O false), (U 0), (U 0), (U 0), (U 0)]) J J J J J J J J J hg404 (fun s405 => ?_))
  refine op J J ?_
  refine o1 J (o_fa (fd := ⟨ "cells", 33, 4, false, "", "vitrine/space", 32⟩) J J J J J ?_)
  refine o0 (o_st (b := b0) (off := 4) (vs := [(V s405)]) (cs' := [(I p0.model), (O p1), (I d2.1.Rows), (I d2.1.Cols), (V s405), (I p0.cursor), (I p0.attrs)]) J J rp2 J J J J J J ?_)
  refine oe (c_region (op J J (op J J (op J J ?_))))
  refine o1 J (o_fa (fd := ⟨ "cursor", 3, 5, false, "", "vitrine/space", 56⟩) J J J J J ?_)
  refine o0 (o_st (b := b0) (off := 5) (vs := [(I 0)]) (cs' := [(I p0.model), (O p1), (I d2.1.Rows), (I d2.1.Cols), (V s405), (I 0), (I p0.attrs)]) J J rp2 J J J J J J ?_)
  refine op J J ?_
  refine o1 J (o_fa (fd := ⟨ "attrs", 3, 6, false, "", "vitrine/space", 64⟩) J J J J J ?_)
  refine o0 (o_st (b := b0) (off := 6) (vs := [(I 0)]) (cs' := [(I p0.model), (O p1), (I d2.1.Rows), (I d2.1.Cols), (V s405), (I 0), (I 0)]) J J rp2 J J J J J J ?_)
  refine o_end (e_fall ?_)
  refine r_endt J J (kc rm1 (kc rm1 (kc rm0 kr))) ?_
  obtain rfl := si h
  exact hk s405

theorem c_space_New {g : Gw} (hg : GK g) (X : HP) (p0 : Int) (r : (Int) ⊕ (Vspace_Space × Int)) (h : m_space_New p0 = some r) : Tri env g 18 (A [(I p0)]) [X] (fun K R => match r with | .inl r => K (.tuple (A [(.pointer none), (I r)])) (X :: R) | .inr r => ∀ (i0 : Nat × SV), K (.tuple (A [(F i0.1 0), (I r.2)])) (X :: blk i0.1 (.cells (A [(I r.1.model), (O r.1.alternate), (I r.1.size.Rows), (I r.1.size.Cols), (V i0.2), (I r.1.cursor), (I r.1.attrs)]) 105 (0, 0)) :: slO i0.2 49 en_Vapi_Cell r.1.cells :: R)) := by
 refine tri_of (fn := Tryz.f18) (N := 21) Tryz.func18 J J J ?_
 intro R K hk
 unfold m_space_New at h
 change GC _ none _ [] [(0, (I p0))] (X :: R) g _ _
 refine cr (op J J (op J J (oe ?_)))
 refine c_seq (cr (op J J ?_))
 replace h := bsome h
 obtain ⟨d1, h1, h⟩ := h
 refine o1 J (o_call has43 J (c_addr_Model hg X p0 _ h1) (pc rm0 pn) ?_)
 refine op J J (op J J (op J J ?_))
 refine o1 J (o_alloc (cs := [(I 0), (I 0)]) J J (fun b389 => ?_))
 refine o0 (o_st (b := b389) (off := 0) (vs := [(I d1.1.Rows), (I d1.1.Cols)]) (cs' := [(I d1.1.Rows), (I d1.1.Cols)]) J J rp0 J J J J J J ?_)
 refine op J J (oe (cr (op J J ?_)))
 refine o1 J (o_p (v := (O (d1.2 != 0))) J ?_)
 refine oe ?_
 refine c_cond (b := (d1.2 != 0)) J (fun hb391 => ?_) (fun hb391 => ?_)
 ·replace h := cond_t hb391 h
  refine cr (op J J (op J J (op J J (o_end ?_))))
  refine e_seq (c_ret (e_then_ret (e_ret ?_)))
  refine r_endt J J (kc rm1 (kd kr)) ?_
  obtain rfl := si h
  exact hk
 ·replace h := cond_f hb391 h
  refine c_skip (e_seq (cr (op J J ?_)))
  refine o1 J (o_build (fs := [⟨ "model", 3, 0, false, "", "vitrine/space", 0⟩, ⟨ "alternate", 4, 1, false, "", "vitrine/space", 8⟩, ⟨ "size", 103, 2, false, "", "vitrine/space", 16⟩, ⟨ "cells", 33, 4, false, "", "vitrine/space", 32⟩, ⟨ "cursor", 3, 5, false, "", "vitrine/space", 56⟩, ⟨ "attrs", 3, 6, false, "", "vitrine/space", 64⟩]) (ps := [(0, 1), (1, 1), (2, 2), (4, 1), (5, 1), (6, 1)]) (cs := [(I p0), (O false), (I 0), (I 0), (V SV.nil), (I 0), (I 0)]) J J J J J ?_)
  refine o1 J (o_box (cs := [(I p0), (O false), (I 0), (I 0), (V SV.nil), (I 0), (I 0)]) J J (fun b392 => ?_))
  refine op J J (oe (cr (op J J ?_)))
  replace h := bsome h
  obtain ⟨d3, h3, h⟩ := h
  refine o1 J (o_call has21 J (c_space_Space_Clear hg X (⟨p0, false, (⟨0, 0⟩ : Vaddr_Size), ([] : List Vapi_Cell), 0, 0⟩ : Vspace_Space) b392 SV.nil (rd_nil _ _ _) false _ h3) (pc rm2 (pc rm0 pn)) (fun i3 => ?_))
  refine oe (cr (op J J (op J J ?_)))
  refine op J J (oe (c_ret (e_ret ?_)))
  refine r_endt J J (kc rm0 (kc rm0 (kc rm0 (kd kr)))) ?_
  obtain rfl := si h
  exact hk (b392, i3)

theorem c_vitrineref04_Model {g : Gw} (hg : GK g) (X : HP) (p0 : Int) (r : Vvitrineref04_Size × Bool) (h : m_vitrineref04_Model p0 = some r) : Tri env g 44 (A [(I p0)]) [X] (fun K R => K (.tuple (A [(.agg (A [(I r.1.Rows), (I r.1.Cols)])), (O r.2)])) (X :: R)) := by
 refine tri_of (fn := Tryz.f44) (N := 20) Tryz.func44 J J J ?_
 intro R K hk
 unfold m_vitrineref04_Model at h
 change GC _ none _ [] [(0, (I p0))] (X :: R) g _ _
 refine cr ?_
 refine o1 J (o_alloc (cs := [(I 0), (I 0)]) J J (fun b413 => ?_))
 refine op J J (oe (c_seq (c_seq ?_)))
 replace h := bsome h
 obtain ⟨d1, h, hk1⟩ := h
 refine cj (D := Unit) (ι := Unit) (fun _ i1 => True) (fun _ i1 => [(9, (O d1)), (2, (F b413 0)), (0, (I p0))]) (fun _ i1 => X :: blk b413 (.cells (A [(I 0), (I 0)]) 38 (0, 0)) :: R) ?_ ?_
 ·refine c_region (op J J ?_)
  refine o1 J (o_p (v := (O (decide (p0 < 2)))) J ?_)
  refine op J J ?_
  rcases bool_or ((decide (p0 < 2))) with hb415 | hb415
  ·replace h := cond_t hb415 h
   refine on J J J hb415 ?_
   refine on J J J hb415 ?_
   refine o1 J (o_pick_t J hb415 J ?_)
   refine o_end ?_
   obtain rfl := si h
   exact ej () () trivial (sc J (sc J (sc J sn))) (kc rm1 (kc rm0 kr))
  ·replace h := cond_f hb415 h
   refine oy J J J hb415 (o_p J ?_)
   refine oy J J J hb415 (o_p (v := (O (decide (p0 > 5)))) J ?_)
   refine o1 J (o_pick_f J hb415 J ?_)
   refine o_end ?_
   obtain rfl := si h
   exact ej () () trivial (sc J (sc J (sc J sn))) (kc rm1 (kc rm0 kr))
 ·rintro _ i1 _
  replace h := hk1
  clear hk1
  refine e_seq ?_
  refine c_cond (b := d1) J (fun hb416 => ?_) (fun hb416 => ?_)
  ·replace h := cond_t hb416 h
   refine cr ?_
   refine o1 J (o_build (fs := f_2) (ps := [(0, 1), (1, 1)]) (cs := [(I 0), (I 0)]) J J J J J ?_)
   refine o0 (o_st (b := b413) (off := 0) (vs := [(I 0), (I 0)]) (cs' := [(I 0), (I 0)]) J J rp1 J J J J J J ?_)
   refine op J J (oe (c_ret (e_then_ret (e_ret ?_))))
   refine r_endc (B := [[(I 0), (I 0)]]) J ⟨⟨_, _, _, _, J, rm1⟩, trivial⟩ J (kc rm0 (kd kr)) ?_
   obtain rfl := si h
   exact hk
  ·replace h := cond_f hb416 h
   refine c_skip (e_seq (cr ?_))
   refine o1 J (o_build (fs := f_2) (ps := [(0, 1), (1, 1)]) (cs := [(I 24), (I 80)]) J J J J J ?_)
   refine o1 J (o_build (fs := f_2) (ps := [(0, 1), (1, 1)]) (cs := [(I 32), (I 80)]) J J J J J ?_)
   refine o1 J (o_build (fs := f_2) (ps := [(0, 1), (1, 1)]) (cs := [(I 43), (I 80)]) J J J J J ?_)
   refine o1 J (o_build (fs := f_2) (ps := [(0, 1), (1, 1)]) (cs := [(I 27), (I 132)]) J J J J J ?_)
   refine o1 J (o_bs (e := en_Vvitrineref04_Size) (l := [(⟨24, 80⟩ : Vvitrineref04_Size), (⟨32, 80⟩ : Vvitrineref04_Size), (⟨43, 80⟩ : Vvitrineref04_Size), (⟨27, 132⟩ : Vvitrineref04_Size)]) (zs := [(I 0), (I 0)]) J J J J J J J J J J (fun s417 => ?_))
   refine op J J ?_
   refine o1 J (o_p (v := (I (w64 (p0 - 2)))) J ?_)
   replace h := gsome h
   obtain ⟨hg419, h⟩ := h
   refine o1 J (o_ix (s := s417) (n := w64 (p0 - 2)) (e := en_Vvitrineref04_Size) J J J J J J rm0 (rd_own _ _ _ _) hg419 ?_)
   refine o1 J (o_ldE (s := s417) (e := en_Vvitrineref04_Size) (n := w64 (p0 - 2)) (f := 0) (v := (.agg (A [(I ((rd [(⟨24, 80⟩ : Vvitrineref04_Size), (⟨32, 80⟩ : Vvitrineref04_Size), (⟨43, 80⟩ : Vvitrineref04_Size), (⟨27, 132⟩ : Vvitrineref04_Size)] (w64 (p0 - 2))).Rows)), (I ((rd [(⟨24, 80⟩ : Vvitrineref04_Size), (⟨32, 80⟩ : Vvitrineref04_Size), (⟨43, 80⟩ : Vvitrineref04_Size), (⟨27, 132⟩ : Vvitrineref04_Size)] (w64 (p0 - 2))).Cols))]))) J rm0 (rd_own _ _ _ _) hg419 J J ?_)
   refine o0 (o_st (b := b413) (off := 0) (vs := [(I ((rd [(⟨24, 80⟩ : Vvitrineref04_Size), (⟨32, 80⟩ : Vvitrineref04_Size), (⟨43, 80⟩ : Vvitrineref04_Size), (⟨27, 132⟩ : Vvitrineref04_Size)] (w64 (p0 - 2))).Rows)), (I ((rd [(⟨24, 80⟩ : Vvitrineref04_Size), (⟨32, 80⟩ : Vvitrineref04_Size), (⟨43, 80⟩ : Vvitrineref04_Size), (⟨27, 132⟩ : Vvitrineref04_Size)] (w64 (p0 - 2))).Cols))]) (cs' := [(I ((rd [(⟨24, 80⟩ : Vvitrineref04_Size), (⟨32, 80⟩ : Vvitrineref04_Size), (⟨43, 80⟩ : Vvitrineref04_Size), (⟨27, 132⟩ : Vvitrineref04_Size)] (w64 (p0 - 2))).Rows)), (I ((rd [(⟨24, 80⟩ : Vvitrineref04_Size), (⟨32, 80⟩ : Vvitrineref04_Size), (⟨43, 80⟩ : Vvitrineref04_Size), (⟨27, 132⟩ : Vvitrineref04_Size)] (w64 (p0 - 2))).Cols))]) J J rp2 J J J J J J ?_)
   refine op J J (oe (c_ret (e_ret ?_)))
   refine r_endc (B := [[(I ((rd [(⟨24, 80⟩ : Vvitrineref04_Size), (⟨32, 80⟩ : Vvitrineref04_Size), (⟨43, 80⟩ : Vvitrineref04_Size), (⟨27, 132⟩ : Vvitrineref04_Size)] (w64 (p0 - 2))).Rows)), (I ((rd [(⟨24, 80⟩ : Vvitrineref04_Size), (⟨32, 80⟩ : Vvitrineref04_Size), (⟨43, 80⟩ : Vvitrineref04_Size), (⟨27, 132⟩ : Vvitrineref04_Size)] (w64 (p0 - 2))).Cols))]]) J ⟨⟨_, _, _, _, J, rm2⟩, trivial⟩ J (kc rm1 (kd (kd kr))) ?_
   obtain rfl := si h
   exact hk

theorem c_vitrineref04_Valid {g : Gw} (hg : GK g) (X : HP) (p0 : Vvitrineref04_Size) (r : Bool) (h : m_vitrineref04_Valid p0 = some r) : Tri env g 106 (A [(.agg (A [(I p0.Rows), (I p0.Cols)]))]) [X] (fun K R => K (O r) (X :: R)) := by
 refine tri_of (fn := Tryz.f106) (N := 29) Tryz.func106 J J J ?_
 intro R K hk
 unfold m_vitrineref04_Valid at h
 change GC _ none _ [] [(0, (.agg (A [(I p0.Rows), (I p0.Cols)])))] (X :: R) g _ _
 refine cr ?_
 refine o1 J (o_box (cs := [(I p0.Rows), (I p0.Cols)]) J J (fun b428 => ?_))
 refine op J J (oe (c_seq ?_))
 replace h := bsome h
 obtain ⟨d1, h, hk1⟩ := h
 refine cj (D := Unit) (ι := Unit) (fun _ i1 => True) (fun _ i1 => [(2, (O d1))]) (fun _ i1 => X :: R) ?_ ?_
 ·refine c_region ?_
  refine o1 J (o_fa (fd := ⟨ "Rows", 3, 0, false, "", "", 0⟩) J J J J J ?_)
  refine o1 J (o_ld (b := b428) (off := 0) (v := (I p0.Rows)) J rm0 J J ?_)
  refine o1 J (o_p (v := (O (decide (p0.Rows ≥ 1)))) J ?_)
  refine op J J ?_
  rcases bool_or ((decide (p0.Rows ≥ 1))) with hb430 | hb430
  ·replace h := cond_t hb430 h
   refine oy J J J hb430 (o_fa (fd := ⟨ "Rows", 3, 0, false, "", "", 0⟩) J J J J J ?_)
   refine oy J J J hb430 (o_ld (b := b428) (off := 0) (v := (I p0.Rows)) J rm0 J J ?_)
   refine oy J J J hb430 (o_p (v := (O (decide (p0.Rows ≤ 43)))) J ?_)
   refine o1 J (o_pick_t J hb430 J ?_)
   refine op J J ?_
   rcases bool_or ((decide (p0.Rows ≤ 43))) with hb431 | hb431
   ·replace h := cond_t hb431 h
    refine oy J J J hb431 (o_fa (fd := ⟨ "Cols", 3, 1, false, "", "", 8⟩) J J J J J ?_)
    refine oy J J J hb431 (o_ld (b := b428) (off := 1) (v := (I p0.Cols)) J rm0 J J ?_)
    refine oy J J J hb431 (o_p (v := (O (decide (p0.Cols ≥ 1)))) J ?_)
    refine o1 J (o_pick_t J hb431 J ?_)
    refine op J J ?_
    rcases bool_or ((decide (p0.Cols ≥ 1))) with hb432 | hb432
    ·replace h := cond_t hb432 h
     refine oy J J J hb432 (o_fa (fd := ⟨ "Cols", 3, 1, false, "", "", 8⟩) J J J J J ?_)
     refine oy J J J hb432 (o_ld (b := b428) (off := 1) (v := (I p0.Cols)) J rm0 J J ?_)
     refine oy J J J hb432 (o_p (v := (O (decide (p0.Cols ≤ 132)))) J ?_)
     refine o1 J (o_pick_t J hb432 J ?_)
     refine op J J ?_
     rcases bool_or ((decide (p0.Cols ≤ 132))) with hb433 | hb433
     ·replace h := cond_t hb433 h
      refine oy J J J hb433 (o_fa (fd := ⟨ "Rows", 3, 0, false, "", "", 0⟩) J J J J J ?_)
      refine oy J J J hb433 (o_ld (b := b428) (off := 0) (v := (I p0.Rows)) J rm0 J J ?_)
      refine oy J J J hb433 (o_fa (fd := ⟨ "Cols", 3, 1, false, "", "", 8⟩) J J J J J ?_)
      refine oy J J J hb433 (o_ld (b := b428) (off := 1) (v := (I p0.Cols)) J rm0 J J ?_)
      refine oy J J J hb433 (o_p (v := (I (w64 (p0.Rows * p0.Cols)))) J ?_)
      refine oy J J J hb433 (o_p (v := (O (decide ((w64 (p0.Rows * p0.Cols)) ≤ 3564)))) J ?_)
      refine o1 J (o_pick_t J hb433 J ?_)
      refine op J J (o_end ?_)
      obtain rfl := si h
      exact ej () () trivial (sc J sn) (kc rm1 (kd kr))
     ·replace h := cond_f hb433 h
      refine on J J J hb433 ?_
      refine on J J J hb433 ?_
      refine on J J J hb433 ?_
      refine on J J J hb433 ?_
      refine on J J J hb433 ?_
      refine on J J J hb433 ?_
      refine o1 J (o_pick_f J hb433 J ?_)
      refine op J J (o_end ?_)
      obtain rfl := si h
      exact ej () () trivial (sc J sn) (kc rm1 (kd kr))
    ·replace h := cond_f hb432 h
     refine on J J J hb432 ?_
     refine on J J J hb432 ?_
     refine on J J J hb432 ?_
     refine o1 J (o_pick_f J hb432 J ?_)
     refine op J J ?_
     refine on J J J J ?_
     refine on J J J J ?_
     refine on J J J J ?_
     refine on J J J J ?_
     refine on J J J J ?_
     refine on J J J J ?_
     refine o1 J (o_pick_f J J J ?_)
     refine op J J (o_end ?_)
     obtain rfl := si h
     exact ej () () trivial (sc J sn) (kc rm1 (kd kr))
   ·replace h := cond_f hb431 h
    refine on J J J hb431 ?_
    refine on J J J hb431 ?_
    refine on J J J hb431 ?_
    refine o1 J (o_pick_f J hb431 J ?_)
    refine op J J ?_
    refine on J J J J ?_
    refine on J J J J ?_
    refine on J J J J ?_
    refine o1 J (o_pick_f J J J ?_)
    refine op J J ?_
    refine on J J J J ?_
    refine on J J J J ?_
    refine on J J J J ?_
    refine on J J J J ?_
    refine on J J J J ?_
    refine on J J J J ?_
    refine o1 J (o_pick_f J J J ?_)
    refine op J J (o_end ?_)
    obtain rfl := si h
    exact ej () () trivial (sc J sn) (kc rm1 (kd kr))
  ·replace h := cond_f hb430 h
   refine on J J J hb430 ?_
   refine on J J J hb430 ?_
   refine on J J J hb430 ?_
   refine o1 J (o_pick_f J hb430 J ?_)
   refine op J J ?_
   refine on J J J J ?_
   refine on J J J J ?_
   refine on J J J J ?_
   refine o1 J (o_pick_f J J J ?_)
   refine op J J ?_
   refine on J J J J ?_
   refine on J J J J ?_
   refine on J J J J ?_
   refine o1 J (o_pick_f J J J ?_)
   refine op J J ?_
   refine on J J J J ?_
   refine on J J J J ?_
   refine on J J J J ?_
   refine on J J J J ?_
   refine on J J J J ?_
   refine on J J J J ?_
   refine o1 J (o_pick_f J J J ?_)
   refine op J J (o_end ?_)
   obtain rfl := si h
   exact ej () () trivial (sc J sn) (kc rm1 (kd kr))
 ·rintro _ i1 _
  replace h := hk1
  clear hk1
  refine e_seq (c_ret (e_ret ?_))
  refine r_endt J J (kc rm0 kr) ?_
  obtain rfl := si h
  exact hk

theorem c_vitrineref04_Cells {g : Gw} (hg : GK g) (X : HP) (p0 : Vvitrineref04_Size) (r : Int) (h : m_vitrineref04_Cells p0 = some r) : Tri env g 77 (A [(.agg (A [(I p0.Rows), (I p0.Cols)]))]) [X] (fun K R => K (I r) (X :: R)) := by
 refine tri_of (fn := Tryz.f77) (N := 11) Tryz.func77 J J J ?_
 intro R K hk
 unfold m_vitrineref04_Cells at h
 change GC _ none _ [] [(0, (.agg (A [(I p0.Rows), (I p0.Cols)])))] (X :: R) g _ _
 refine cr ?_
 refine o1 J (o_box (cs := [(I p0.Rows), (I p0.Cols)]) J J (fun b426 => ?_))
 refine op J J (oe (c_seq (cr ?_)))
 refine o1 J (o_ld (b := b426) (off := 0) (v := (.agg (A [(I p0.Rows), (I p0.Cols)]))) J rm0 J J ?_)
 replace h := bsome h
 obtain ⟨d1, h1, h⟩ := h
 refine o1 J (o_call has106 J (c_vitrineref04_Valid hg X p0 _ h1) (pc rm1 pn) ?_)
 refine o1 J (o_p (v := (O (!d1))) J ?_)
 refine oe ?_
 refine c_cond (b := (!d1)) J (fun hb434 => ?_) (fun hb434 => ?_)
 ·replace h := cond_t hb434 h
  refine cr (op J J (oe (c_ret ?_)))
  refine e_then_ret (e_ret ?_)
  refine r_endt J J (kc rm0 (kd kr)) ?_
  obtain rfl := si h
  exact hk
 ·replace h := cond_f hb434 h
  refine c_skip (e_seq (cr ?_))
  refine o1 J (o_fa (fd := ⟨ "Rows", 3, 0, false, "", "", 0⟩) J J J J J ?_)
  refine o1 J (o_ld (b := b426) (off := 0) (v := (I p0.Rows)) J rm1 J J ?_)
  refine o1 J (o_fa (fd := ⟨ "Cols", 3, 1, false, "", "", 8⟩) J J J J J ?_)
  refine o1 J (o_ld (b := b426) (off := 1) (v := (I p0.Cols)) J rm1 J J ?_)
  refine o1 J (o_p (v := (I (w64 (p0.Rows * p0.Cols)))) J ?_)
  refine op J J (oe (c_ret (e_ret ?_)))
  refine r_endt J J (kc rm0 (kd kr)) ?_
  obtain rfl := si h
  exact hk

theorem c_vitrineref12_Clear {g : Gw} (hg : GK g) (X : HP) (p0 : Vvitrineref12_Space) (b0 : Nat) (s0 : SV) (q0 : Rd X s0 49 en_Vapi_Cell p0.L) (p1 : Bool) (r : Vvitrineref12_Space) (h : m_vitrineref12_Clear p0 p1 = some r) : Tri env g 45 (A [(F b0 0), (O p1)]) [X, blk b0 (.cells (A [(I p0.Model), (O p0.Alt), (I p0.Size.Rows), (I p0.Size.Cols), (V s0), (I p0.Cursor)]) 40 (0, 0))] (fun K R => ∀ (i0 : SV), K (.tuple (A [])) (X :: blk b0 (.cells (A [(I r.Model), (O r.Alt), (I r.Size.Rows), (I r.Size.Cols), (V i0), (I r.Cursor)]) 40 (0, 0)) :: slO i0 49 en_Vapi_Cell r.L :: R)) := by
 refine tri_of (fn := Tryz.f45) (N := 39) Tryz.func45 J J J ?_
 intro R K hk
 unfold m_vitrineref12_Clear at h
 change GC _ none _ [] [(0, (F b0 0)), (1, (O p1))] (X :: blk b0 (.cells (A [(I p0.Model), (O p0.Alt), (I p0.Size.Rows), (I p0.Size.Cols), (V s0), (I p0.Cursor)]) 40 (0, 0)) :: R) g _ _
 refine cr (op J J (op J J (op J J ?_)))
 refine o1 J (o_fa (fd := ⟨ "Alt", 4, 1, false, "", "", 8⟩) J J J J J ?_)
 refine o0 (o_st (b := b0) (off := 1) (vs := [(O p1)]) (cs' := [(I p0.Model), (O p1), (I p0.Size.Rows), (I p0.Size.Cols), (V s0), (I p0.Cursor)]) J J rp1 J J J J J J ?_)
 refine oe (cr (op J J ?_))
 replace h := bsome h
 obtain ⟨d1, h1, h⟩ := h
 refine o1 J (o_call has44 J (c_vitrineref04_Model hg X 2 _ h1) (pc rm0 pn) ?_)
 refine op J J (op J J (op J J (op J J ?_)))
 refine o1 J (o_fa (fd := ⟨ "Size", 38, 2, false, "", "", 16⟩) J J J J J ?_)
 refine o0 (o_st (b := b0) (off := 2) (vs := [(I d1.1.Rows), (I d1.1.Cols)]) (cs' := [(I p0.Model), (O p1), (I d1.1.Rows), (I d1.1.Cols), (V s0), (I p0.Cursor)]) J J rp1 J J J J J J ?_)
 refine oe (c_seq (cr (op J J ?_)))
 refine oe ?_
 replace h := bsome h
 obtain ⟨d2, h, hk2⟩ := h
 refine cj (D := Unit) (ι := Unit) (fun _ i2 => True) (fun _ i2 => [(0, (F b0 0))]) (fun _ i2 => X :: blk b0 (.cells (A [(I p0.Model), (O p1), (I d2.1), (I d2.2), (V s0), (I p0.Cursor)]) 40 (0, 0)) :: R) ?_ ?_
 ·refine c_cond (b := p1) J (fun hb425 => ?_) (fun hb425 => ?_)
  ·replace h := cond_t hb425 h
   refine c_region (op J J (op J J (op J J ?_)))
   refine o1 J (o_fa (fd := ⟨ "Model", 3, 0, false, "", "", 0⟩) J J J J J ?_)
   refine o1 J (o_ld (b := b0) (off := 0) (v := (I p0.Model)) J rm1 J J ?_)
   replace h := bsome h
   obtain ⟨d3, h3, h⟩ := h
   refine o1 J (o_call has44 J (c_vitrineref04_Model hg X p0.Model _ h3) (pc rm0 pn) ?_)
   refine op J J (op J J (op J J (op J J ?_)))
   refine o1 J (o_fa (fd := ⟨ "Size", 38, 2, false, "", "", 16⟩) J J J J J ?_)
   refine o0 (o_st (b := b0) (off := 2) (vs := [(I d3.1.Rows), (I d3.1.Cols)]) (cs' := [(I p0.Model), (O p1), (I d3.1.Rows), (I d3.1.Cols), (V s0), (I p0.Cursor)]) J J rp1 J J J J J J ?_)
   refine o_end ?_
   obtain rfl := si h
   exact ej () () trivial (sc J sn) (kc rm0 (kc rm0 kr))
  ·replace h := cond_f hb425 h
   refine c_skip ?_
   obtain rfl := si h
   exact ej () () trivial (sc J sn) (kc rm0 (kc rm0 kr))
 ·rintro _ i2 _
  replace h := hk2
  clear hk2
  refine e_seq (cr (op J J (op J J (op J J ?_))))
  refine o1 J (o_fa (fd := ⟨ "Size", 38, 2, false, "", "", 16⟩) J J J J J ?_)
  refine o1 J (o_ld (b := b0) (off := 2) (v := (.agg (A [(I d2.1), (I d2.2)]))) J rm1 J J ?_)
  replace h := bsome h
  obtain ⟨d4, h4, h⟩ := h
  refine o1 J (o_call has77 J (c_vitrineref04_Cells hg X (⟨d2.1, d2.2⟩ : Vvitrineref04_Size) _ h4) (pc rm0 pn) ?_)
  replace h := gsome h
  obtain ⟨hg435, h⟩ := h
  refine o1 J (o_mk (e := en_Vapi_Cell) (z := (⟨0, false, 0, 0, 0, 0⟩ : Vapi_Cell)) (zs := [(U 0), (O false), (U 0), (U 0), (U 0), (U 0)]) J J J J J J J J J hg435 (fun s436 => ?_))
  refine op J J ?_
  refine o1 J (o_fa (fd := ⟨ "L", 33, 4, false, "", "", 32⟩) J J J J J ?_)
  refine o0 (o_st (b := b0) (off := 4) (vs := [(V s436)]) (cs' := [(I p0.Model), (O p1), (I d2.1), (I d2.2), (V s436), (I p0.Cursor)]) J J rp2 J J J J J J ?_)
  refine oe (c_region (op J J (op J J ?_)))
  refine o1 J (o_fa (fd := ⟨ "Cursor", 3, 5, false, "", "", 56⟩) J J J J J ?_)
  refine o0 (o_st (b := b0) (off := 5) (vs := [(I 0)]) (cs' := [(I p0.Model), (O p1), (I d2.1), (I d2.2), (V s436), (I 0)]) J J rp2 J J J J J J ?_)
  refine o_end (e_fall ?_)
  refine r_endt J J (kc rm1 (kc rm1 (kc rm0 kr))) ?_
  obtain rfl := si h
  exact hk s436

end Go.Vt
