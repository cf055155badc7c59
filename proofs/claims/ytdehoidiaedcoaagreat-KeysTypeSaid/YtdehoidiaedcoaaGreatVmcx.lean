/- Lemmas. No conditions. -/
import Derived.Test.YtdehoidiaedcoaaGreatVmbx
import Derived.KernelRfl
import Derived.Test.YtdehoidiaedcoaaGreatProg
set_option linter.unusedVariables false
set_option linter.unusedSimpArgs false
set_option linter.unusedVariables false
set_option maxRecDepth 100000
set_option maxHeartbeats 4000000
namespace Go.Vt
open Go.Proofs
theorem si {α : Type _} {a b : α} (h : some a = some b) : a = b := Option.some.inj h
section
variable {E : Env} {ro : Option Nat} {N : Nat} {ds : List Deferred} {T : List (Nat × Value)} {H : List HP} {g : Gw} {Q : Qt}
theorem cr {id : Nat} {l : List Oper} {y : Code} (h : GO E ro N ds T H g l l (Exit.then (y.wpIn (W ro) 0 E.P Q) Q)) : GC E ro N ds T H g (.seq (.region id l.toArray false) y) Q := c_seq (c_region h)
theorem oe {l : List Oper} {y : Code} (h : GC E ro N ds T H g y Q) : GO E ro N ds T H g l [] (Exit.then (y.wpIn (W ro) 0 E.P Q) Q) := o_end (e_seq h)
theorem op {l rest : List Oper} {d : Nat} {o : Op} {ty : TypeId} {pos : String} {af : Array Edge} {v : Value} (hd : Nat.blt d N = true) (hv : pv E.tt T o = some v) (h : GO E ro N ds ((d, v) :: T) H g l rest Q) : GO E ro N ds T H g l (⟨some d, o, ty, pos, af, none⟩ :: rest) Q := o1 hd (o_p hv h)
end
abbrev f_0 : List Field := [⟨ "code", 5, 0, false, "", "vitrine/page", 0⟩, ⟨ "sign", 149, 1, false, "", "vitrine/page", 2⟩]
abbrev f_1 : List Field := [⟨ "Rows", 3, 0, false, "", "", 0⟩, ⟨ "Cols", 3, 1, false, "", "", 8⟩]
abbrev f_2 : List Field := [⟨ "Do", 5, 0, false, "", "", 0⟩, ⟨ "N", 3, 1, false, "", "", 8⟩, ⟨ "On", 4, 2, false, "", "", 16⟩, ⟨ "Code", 5, 3, false, "", "", 17⟩, ⟨ "C", 26, 4, false, "", "", 18⟩, ⟨ "Text", 22, 10, false, "", "", 24⟩]
abbrev f_3 : List Field := [⟨ "Protected", 4, 0, false, "", "", 0⟩, ⟨ "Numeric", 4, 1, false, "", "", 1⟩, ⟨ "Display", 3, 2, false, "", "", 8⟩, ⟨ "Modified", 4, 3, false, "", "", 16⟩]
abbrev f_4 : List Field := [⟨ "Kind", 3, 0, false, "", "", 0⟩, ⟨ "Sign", 21, 1, false, "", "", 8⟩, ⟨ "N", 3, 2, false, "", "", 16⟩]
abbrev f_5 : List Field := [⟨ "Char", 5, 0, false, "", "", 0⟩, ⟨ "Attr", 4, 1, false, "", "", 1⟩, ⟨ "FA", 5, 2, false, "", "", 2⟩, ⟨ "High", 5, 3, false, "", "", 3⟩, ⟨ "Color", 5, 4, false, "", "", 4⟩, ⟨ "Set", 5, 5, false, "", "", 5⟩]
theorem J {α : Sort _} {a : α} : a = a := rfl
abbrev I (x : Int) : Value := .int .i64 x
abbrev U (x : Int) : Value := .int .u8 x
abbrev O (x : Bool) : Value := .bool x
abbrev V (x : SV) : Value := SV.val x
abbrev A {α : Type} (l : List α) : Array α := List.toArray l
abbrev F (b o : Nat) : Value := .pointer (some ⟨b, o, none⟩)
def tt : List (Nat × TI) := [
 (1, ⟨(.func #[] #[] false), 1, .nilFunc, 8⟩),
 (3, ⟨(.int .i64), 1, (.int .i64 0), 8⟩),
 (4, ⟨.bool, 1, (.bool false), 1⟩),
 (5, ⟨(.int .u8), 1, (.int .u8 0), 1⟩),
 (9, ⟨.string, 1, (.string ⟨#[]⟩), 16⟩),
 (21, ⟨(.int .i32), 1, (.int .i32 0), 4⟩),
 (22, ⟨(.slice 5), 1, (.slice none 0 0), 24⟩),
 (23, ⟨(.slice 46), 1, (.slice none 0 0), 24⟩),
 (26, ⟨(.struct #[⟨ "Char", 5, 0, false, "", "", 0⟩, ⟨ "Attr", 4, 1, false, "", "", 1⟩, ⟨ "FA", 5, 2, false, "", "", 2⟩, ⟨ "High", 5, 3, false, "", "", 3⟩, ⟨ "Color", 5, 4, false, "", "", 4⟩, ⟨ "Set", 5, 5, false, "", "", 5⟩]), 6, (.agg #[(.int .u8 0), (.bool false), (.int .u8 0), (.int .u8 0), (.int .u8 0), (.int .u8 0)]), 6⟩),
 (28, ⟨(.struct #[⟨ "Do", 5, 0, false, "", "", 0⟩, ⟨ "N", 3, 1, false, "", "", 8⟩, ⟨ "On", 4, 2, false, "", "", 16⟩, ⟨ "Code", 5, 3, false, "", "", 17⟩, ⟨ "C", 26, 4, false, "", "", 18⟩, ⟨ "Text", 22, 10, false, "", "", 24⟩]), 11, (.agg #[(.int .u8 0), (.int .i64 0), (.bool false), (.int .u8 0), (.int .u8 0), (.bool false), (.int .u8 0), (.int .u8 0), (.int .u8 0), (.int .u8 0), (.slice none 0 0)]), 48⟩),
 (29, ⟨(.slice 28), 1, (.slice none 0 0), 24⟩),
 (30, ⟨(.pointer 115), 1, (.pointer none), 8⟩),
 (31, ⟨(.pointer 122), 1, (.pointer none), 8⟩),
 (32, ⟨(.pointer 41), 1, (.pointer none), 8⟩),
 (35, ⟨(.pointer 111), 1, (.pointer none), 8⟩),
 (36, ⟨(.int .i64), 1, (.int .i64 0), 8⟩),
 (39, ⟨(.pointer 74), 1, (.pointer none), 8⟩),
 (41, ⟨(.struct #[⟨ "S", 39, 0, false, "", "", 0⟩, ⟨ "Page", 3, 1, false, "", "", 8⟩, ⟨ "Lock", 3, 2, false, "", "", 16⟩, ⟨ "Ins", 4, 3, false, "", "", 24⟩, ⟨ "AID", 5, 4, false, "", "", 25⟩]), 5, (.agg #[(.pointer none), (.int .i64 0), (.int .i64 0), (.bool false), (.int .u8 0)]), 32⟩),
 (45, ⟨(.struct #[⟨ "Kind", 3, 0, false, "", "", 0⟩, ⟨ "Sign", 21, 1, false, "", "", 8⟩, ⟨ "N", 3, 2, false, "", "", 16⟩]), 3, (.agg #[(.int .i64 0), (.int .i32 0), (.int .i64 0)]), 24⟩),
 (46, ⟨(.struct #[⟨ "Kind", 3, 0, false, "", "", 0⟩, ⟨ "Sign", 21, 1, false, "", "", 8⟩, ⟨ "N", 3, 2, false, "", "", 16⟩]), 3, (.agg #[(.int .i64 0), (.int .i32 0), (.int .i64 0)]), 24⟩),
 (56, ⟨(.struct #[⟨ "Protected", 4, 0, false, "", "", 0⟩, ⟨ "Numeric", 4, 1, false, "", "", 1⟩, ⟨ "Display", 3, 2, false, "", "", 8⟩, ⟨ "Modified", 4, 3, false, "", "", 16⟩]), 4, (.agg #[(.bool false), (.bool false), (.int .i64 0), (.bool false)]), 24⟩),
 (71, ⟨(.struct #[⟨ "Rows", 3, 0, false, "", "", 0⟩, ⟨ "Cols", 3, 1, false, "", "", 8⟩]), 2, (.agg #[(.int .i64 0), (.int .i64 0)]), 16⟩),
 (72, ⟨(.slice 26), 1, (.slice none 0 0), 24⟩),
 (74, ⟨(.struct #[⟨ "Model", 3, 0, false, "", "", 0⟩, ⟨ "Alt", 4, 1, false, "", "", 8⟩, ⟨ "Size", 71, 2, false, "", "", 16⟩, ⟨ "L", 72, 4, false, "", "", 32⟩, ⟨ "Cursor", 3, 5, false, "", "", 56⟩]), 6, (.agg #[(.int .i64 0), (.bool false), (.int .i64 0), (.int .i64 0), (.slice none 0 0), (.int .i64 0)]), 64⟩),
 (75, ⟨(.slice 3), 1, (.slice none 0 0), 24⟩),
 (93, ⟨(.slice 151), 1, (.slice none 0 0), 24⟩),
 (97, ⟨(.struct #[]), 0, (.agg #[]), 0⟩),
 (98, ⟨(.struct #[]), 0, (.agg #[]), 0⟩),
 (99, ⟨(.int .u32), 1, (.int .u32 0), 4⟩),
 (101, ⟨(.struct #[⟨ "_", 98, 0, false, "", "sync/atomic", 0⟩, ⟨ "v", 99, 0, false, "", "sync/atomic", 0⟩]), 1, (.agg #[(.int .u32 0)]), 4⟩),
 (103, ⟨(.struct #[⟨ "state", 21, 0, false, "", "internal/sync", 0⟩, ⟨ "sema", 99, 1, false, "", "internal/sync", 4⟩]), 2, (.agg #[(.int .i32 0), (.int .u32 0)]), 8⟩),
 (105, ⟨(.struct #[⟨ "_", 97, 0, false, "", "sync", 0⟩, ⟨ "mu", 103, 0, false, "", "sync", 0⟩]), 2, (.agg #[(.int .i32 0), (.int .u32 0)]), 8⟩),
 (107, ⟨(.struct #[⟨ "_", 97, 0, false, "", "sync", 0⟩, ⟨ "done", 101, 0, false, "", "sync", 0⟩, ⟨ "m", 105, 1, false, "", "sync", 4⟩]), 3, (.agg #[(.int .u32 0), (.int .i32 0), (.int .u32 0)]), 12⟩),
 (108, ⟨(.array 256 21), 256, (.agg #[(.int .i32 0), (.int .i32 0), (.int .i32 0), (.int .i32 0), (.int .i32 0), (.int .i32 0), (.int .i32 0), (.int .i32 0), (.int .i32 0), (.int .i32 0), (.int .i32 0), (.int .i32 0), (.int .i32 0), (.int .i32 0), (.int .i32 0), (.int .i32 0), (.int .i32 0), (.int .i32 0), (.int .i32 0), (.int .i32 0), (.int .i32 0), (.int .i32 0), (.int .i32 0), (.int .i32 0), (.int .i32 0), (.int .i32 0), (.int .i32 0), (.int .i32 0), (.int .i32 0), (.int .i32 0), (.int .i32 0), (.int .i32 0), (.int .i32 0), (.int .i32 0), (.int .i32 0), (.int .i32 0), (.int .i32 0), (.int .i32 0), (.int .i32 0), (.int .i32 0), (.int .i32 0), (.int .i32 0), (.int .i32 0), (.int .i32 0), (.int .i32 0), (.int .i32 0), (.int .i32 0), (.int .i32 0), (.int .i32 0), (.int .i32 0), (.int .i32 0), (.int .i32 0), (.int .i32 0), (.int .i32 0), (.int .i32 0), (.int .i32 0), (.int .i32 0), (.int .i32 0), (.int .i32 0), (.int .i32 0), (.int .i32 0), (.int .i32 0), (.int .i32 0), (.int .i32 0), (.int .i32 0), (.int .i32 0), (.int .i32 0), (.int .i32 0), (.int .i32 0), (.int .i32 0), (.int .i32 0), (.int .i32 0), (.int .i32 0), (.int .i32 0), (.int .i32 0), (.int .i32 0), (.int .i32 0), (.int .i32 0), (.int .i32 0), (.int .i32 0), (.int .i32 0), (.int .i32 0), (.int .i32 0), (.int .i32 0), (.int .i32 0), (.int .i32 0), (.int .i32 0), (.int .i32 0), (.int .i32 0), (.int .i32 0), (.int .i32 0), (.int .i32 0), (.int .i32 0), (.int .i32 0), (.int .i32 0), (.int .i32 0), (.int .i32 0), (.int .i32 0), (.int .i32 0), (.int .i32 0), (.int .i32 0), (.int .i32 0), (.int .i32 0), (.int .i32 0), (.int .i32 0), (.int .i32 0), (.int .i32 0), (.int .i32 0), (.int .i32 0), (.int .i32 0), (.int .i32 0), (.int .i32 0), (.int .i32 0), (.int .i32 0), (.int .i32 0), (.int .i32 0), (.int .i32 0), (.int .i32 0), (.int .i32 0), (.int .i32 0), (.int .i32 0), (.int .i32 0), (.int .i32 0), (.int .i32 0), (.int .i32 0), (.int .i32 0), (.int .i32 0), (.int .i32 0), (.int .i32 0), (.int .i32 0), (.int .i32 0), (.int .i32 0), (.int .i32 0), (.int .i32 0), (.int .i32 0), (.int .i32 0), (.int .i32 0), (.int .i32 0), (.int .i32 0), (.int .i32 0), (.int .i32 0), (.int .i32 0), (.int .i32 0), (.int .i32 0), (.int .i32 0), (.int .i32 0), (.int .i32 0), (.int .i32 0), (.int .i32 0), (.int .i32 0), (.int .i32 0), (.int .i32 0), (.int .i32 0), (.int .i32 0), (.int .i32 0), (.int .i32 0), (.int .i32 0), (.int .i32 0), (.int .i32 0), (.int .i32 0), (.int .i32 0), (.int .i32 0), (.int .i32 0), (.int .i32 0), (.int .i32 0), (.int .i32 0), (.int .i32 0), (.int .i32 0), (.int .i32 0), (.int .i32 0), (.int .i32 0), (.int .i32 0), (.int .i32 0), (.int .i32 0), (.int .i32 0), (.int .i32 0), (.int .i32 0), (.int .i32 0), (.int .i32 0), (.int .i32 0), (.int .i32 0), (.int .i32 0), (.int .i32 0), (.int .i32 0), (.int .i32 0), (.int .i32 0), (.int .i32 0), (.int .i32 0), (.int .i32 0), (.int .i32 0), (.int .i32 0), (.int .i32 0), (.int .i32 0), (.int .i32 0), (.int .i32 0), (.int .i32 0), (.int .i32 0), (.int .i32 0), (.int .i32 0), (.int .i32 0), (.int .i32 0), (.int .i32 0), (.int .i32 0), (.int .i32 0), (.int .i32 0), (.int .i32 0), (.int .i32 0), (.int .i32 0), (.int .i32 0), (.int .i32 0), (.int .i32 0), (.int .i32 0), (.int .i32 0), (.int .i32 0), (.int .i32 0), (.int .i32 0), (.int .i32 0), (.int .i32 0), (.int .i32 0), (.int .i32 0), (.int .i32 0), (.int .i32 0), (.int .i32 0), (.int .i32 0), (.int .i32 0), (.int .i32 0), (.int .i32 0), (.int .i32 0), (.int .i32 0), (.int .i32 0), (.int .i32 0), (.int .i32 0), (.int .i32 0), (.int .i32 0), (.int .i32 0), (.int .i32 0), (.int .i32 0), (.int .i32 0), (.int .i32 0), (.int .i32 0), (.int .i32 0), (.int .i32 0), (.int .i32 0), (.int .i32 0), (.int .i32 0), (.int .i32 0), (.int .i32 0), (.int .i32 0), (.int .i32 0), (.int .i32 0), (.int .i32 0), (.int .i32 0), (.int .i32 0), (.int .i32 0), (.int .i32 0), (.int .i32 0)]), 1024⟩),
 (109, ⟨(.map 21 5), 1, (.map none), 8⟩),
 (111, ⟨(.struct #[⟨ "number", 3, 0, false, "", "vitrine/page", 0⟩, ⟨ "once", 107, 1, false, "", "vitrine/page", 8⟩, ⟨ "signs", 108, 4, false, "", "vitrine/page", 20⟩, ⟨ "codes", 109, 260, false, "", "vitrine/page", 1048⟩]), 261, (.agg #[(.int .i64 0), (.int .u32 0), (.int .i32 0), (.int .u32 0), (.int .i32 0), (.int .i32 0), (.int .i32 0), (.int .i32 0), (.int .i32 0), (.int .i32 0), (.int .i32 0), (.int .i32 0), (.int .i32 0), (.int .i32 0), (.int .i32 0), (.int .i32 0), (.int .i32 0), (.int .i32 0), (.int .i32 0), (.int .i32 0), (.int .i32 0), (.int .i32 0), (.int .i32 0), (.int .i32 0), (.int .i32 0), (.int .i32 0), (.int .i32 0), (.int .i32 0), (.int .i32 0), (.int .i32 0), (.int .i32 0), (.int .i32 0), (.int .i32 0), (.int .i32 0), (.int .i32 0), (.int .i32 0), (.int .i32 0), (.int .i32 0), (.int .i32 0), (.int .i32 0), (.int .i32 0), (.int .i32 0), (.int .i32 0), (.int .i32 0), (.int .i32 0), (.int .i32 0), (.int .i32 0), (.int .i32 0), (.int .i32 0), (.int .i32 0), (.int .i32 0), (.int .i32 0), (.int .i32 0), (.int .i32 0), (.int .i32 0), (.int .i32 0), (.int .i32 0), (.int .i32 0), (.int .i32 0), (.int .i32 0), (.int .i32 0), (.int .i32 0), (.int .i32 0), (.int .i32 0), (.int .i32 0), (.int .i32 0), (.int .i32 0), (.int .i32 0), (.int .i32 0), (.int .i32 0), (.int .i32 0), (.int .i32 0), (.int .i32 0), (.int .i32 0), (.int .i32 0), (.int .i32 0), (.int .i32 0), (.int .i32 0), (.int .i32 0), (.int .i32 0), (.int .i32 0), (.int .i32 0), (.int .i32 0), (.int .i32 0), (.int .i32 0), (.int .i32 0), (.int .i32 0), (.int .i32 0), (.int .i32 0), (.int .i32 0), (.int .i32 0), (.int .i32 0), (.int .i32 0), (.int .i32 0), (.int .i32 0), (.int .i32 0), (.int .i32 0), (.int .i32 0), (.int .i32 0), (.int .i32 0), (.int .i32 0), (.int .i32 0), (.int .i32 0), (.int .i32 0), (.int .i32 0), (.int .i32 0), (.int .i32 0), (.int .i32 0), (.int .i32 0), (.int .i32 0), (.int .i32 0), (.int .i32 0), (.int .i32 0), (.int .i32 0), (.int .i32 0), (.int .i32 0), (.int .i32 0), (.int .i32 0), (.int .i32 0), (.int .i32 0), (.int .i32 0), (.int .i32 0), (.int .i32 0), (.int .i32 0), (.int .i32 0), (.int .i32 0), (.int .i32 0), (.int .i32 0), (.int .i32 0), (.int .i32 0), (.int .i32 0), (.int .i32 0), (.int .i32 0), (.int .i32 0), (.int .i32 0), (.int .i32 0), (.int .i32 0), (.int .i32 0), (.int .i32 0), (.int .i32 0), (.int .i32 0), (.int .i32 0), (.int .i32 0), (.int .i32 0), (.int .i32 0), (.int .i32 0), (.int .i32 0), (.int .i32 0), (.int .i32 0), (.int .i32 0), (.int .i32 0), (.int .i32 0), (.int .i32 0), (.int .i32 0), (.int .i32 0), (.int .i32 0), (.int .i32 0), (.int .i32 0), (.int .i32 0), (.int .i32 0), (.int .i32 0), (.int .i32 0), (.int .i32 0), (.int .i32 0), (.int .i32 0), (.int .i32 0), (.int .i32 0), (.int .i32 0), (.int .i32 0), (.int .i32 0), (.int .i32 0), (.int .i32 0), (.int .i32 0), (.int .i32 0), (.int .i32 0), (.int .i32 0), (.int .i32 0), (.int .i32 0), (.int .i32 0), (.int .i32 0), (.int .i32 0), (.int .i32 0), (.int .i32 0), (.int .i32 0), (.int .i32 0), (.int .i32 0), (.int .i32 0), (.int .i32 0), (.int .i32 0), (.int .i32 0), (.int .i32 0), (.int .i32 0), (.int .i32 0), (.int .i32 0), (.int .i32 0), (.int .i32 0), (.int .i32 0), (.int .i32 0), (.int .i32 0), (.int .i32 0), (.int .i32 0), (.int .i32 0), (.int .i32 0), (.int .i32 0), (.int .i32 0), (.int .i32 0), (.int .i32 0), (.int .i32 0), (.int .i32 0), (.int .i32 0), (.int .i32 0), (.int .i32 0), (.int .i32 0), (.int .i32 0), (.int .i32 0), (.int .i32 0), (.int .i32 0), (.int .i32 0), (.int .i32 0), (.int .i32 0), (.int .i32 0), (.int .i32 0), (.int .i32 0), (.int .i32 0), (.int .i32 0), (.int .i32 0), (.int .i32 0), (.int .i32 0), (.int .i32 0), (.int .i32 0), (.int .i32 0), (.int .i32 0), (.int .i32 0), (.int .i32 0), (.int .i32 0), (.int .i32 0), (.int .i32 0), (.int .i32 0), (.int .i32 0), (.int .i32 0), (.int .i32 0), (.int .i32 0), (.int .i32 0), (.int .i32 0), (.int .i32 0), (.int .i32 0), (.int .i32 0), (.int .i32 0), (.int .i32 0), (.int .i32 0), (.int .i32 0), (.int .i32 0), (.int .i32 0), (.int .i32 0), (.int .i32 0), (.int .i32 0), (.int .i32 0), (.int .i32 0), (.int .i32 0), (.int .i32 0), (.map none)]), 1056⟩),
 (115, ⟨(.struct #[⟨ "s", 31, 0, false, "", "vitrine/keys", 0⟩, ⟨ "p", 35, 1, false, "", "vitrine/keys", 8⟩, ⟨ "lock", 3, 2, false, "", "vitrine/keys", 16⟩, ⟨ "inserts", 4, 3, false, "", "vitrine/keys", 24⟩, ⟨ "aid", 5, 4, false, "", "vitrine/keys", 25⟩]), 5, (.agg #[(.pointer none), (.pointer none), (.int .i64 0), (.bool false), (.int .u8 0)]), 32⟩),
 (118, ⟨(.func #[3] #[4] false), 1, .nilFunc, 8⟩),
 (120, ⟨(.struct #[⟨ "Rows", 3, 0, false, "", "", 0⟩, ⟨ "Cols", 3, 1, false, "", "", 8⟩]), 2, (.agg #[(.int .i64 0), (.int .i64 0)]), 16⟩),
 (122, ⟨(.struct #[⟨ "model", 3, 0, false, "", "vitrine/space", 0⟩, ⟨ "alternate", 4, 1, false, "", "vitrine/space", 8⟩, ⟨ "size", 120, 2, false, "", "vitrine/space", 16⟩, ⟨ "cells", 72, 4, false, "", "vitrine/space", 32⟩, ⟨ "cursor", 3, 5, false, "", "vitrine/space", 56⟩, ⟨ "attrs", 3, 6, false, "", "vitrine/space", 64⟩]), 7, (.agg #[(.int .i64 0), (.bool false), (.int .i64 0), (.int .i64 0), (.slice none 0 0), (.int .i64 0), (.int .i64 0)]), 72⟩),
 (133, ⟨(.struct #[⟨ "Do", 5, 0, false, "", "", 0⟩, ⟨ "Rows", 3, 1, false, "", "", 8⟩, ⟨ "Cols", 3, 2, false, "", "", 16⟩]), 3, (.agg #[(.int .u8 0), (.int .i64 0), (.int .i64 0)]), 24⟩),
 (149, ⟨(.int .u16), 1, (.int .u16 0), 2⟩),
 (151, ⟨(.struct #[⟨ "code", 5, 0, false, "", "vitrine/page", 0⟩, ⟨ "sign", 149, 1, false, "", "vitrine/page", 2⟩]), 2, (.agg #[(.int .u8 0), (.int .u16 0)]), 4⟩),
 (153, ⟨(.struct #[⟨ "Protected", 4, 0, false, "", "", 0⟩, ⟨ "Numeric", 4, 1, false, "", "", 1⟩, ⟨ "Display", 3, 2, false, "", "", 8⟩, ⟨ "Modified", 4, 3, false, "", "", 16⟩]), 4, (.agg #[(.bool false), (.bool false), (.int .i64 0), (.bool false)]), 24⟩),
 (182, ⟨(.slice 71), 1, (.slice none 0 0), 24⟩),
 (192, ⟨(.func #[118] #[] false), 1, .nilFunc, 8⟩),
 (206, ⟨(.func #[3, 153] #[4] false), 1, .nilFunc, 8⟩),
 (212, ⟨(.pointer 107), 1, (.pointer none), 8⟩),
 (213, ⟨(.array 16 149), 16, (.agg #[(.int .u16 0), (.int .u16 0), (.int .u16 0), (.int .u16 0), (.int .u16 0), (.int .u16 0), (.int .u16 0), (.int .u16 0), (.int .u16 0), (.int .u16 0), (.int .u16 0), (.int .u16 0), (.int .u16 0), (.int .u16 0), (.int .u16 0), (.int .u16 0)]), 32⟩),
 (216, ⟨(.pointer 101), 1, (.pointer none), 8⟩),
 (219, ⟨(.pointer 105), 1, (.pointer none), 8⟩),
 (222, ⟨(.pointer 103), 1, (.pointer none), 8⟩),
 (226, ⟨.unsafePointer, 1, (.pointer none), 8⟩)]
theorem ttOk : tik Tryz.prog tt := ⟨⟨by kernel_rfl, by kernel_rfl⟩, ⟨by kernel_rfl, by kernel_rfl⟩, ⟨by kernel_rfl, by kernel_rfl⟩, ⟨by kernel_rfl, by kernel_rfl⟩, ⟨by kernel_rfl, by kernel_rfl⟩, ⟨by kernel_rfl, by kernel_rfl⟩, ⟨by kernel_rfl, by kernel_rfl⟩, ⟨by kernel_rfl, by kernel_rfl⟩, ⟨by kernel_rfl, by kernel_rfl⟩, ⟨by kernel_rfl, by kernel_rfl⟩, ⟨by kernel_rfl, by kernel_rfl⟩, ⟨by kernel_rfl, by kernel_rfl⟩, ⟨by kernel_rfl, by kernel_rfl⟩, ⟨by kernel_rfl, by kernel_rfl⟩, ⟨by kernel_rfl, by kernel_rfl⟩, ⟨by kernel_rfl, by kernel_rfl⟩, ⟨by kernel_rfl, by kernel_rfl⟩, ⟨by kernel_rfl, by kernel_rfl⟩, ⟨by kernel_rfl, by kernel_rfl⟩, ⟨by kernel_rfl, by kernel_rfl⟩, ⟨by kernel_rfl, by kernel_rfl⟩, ⟨by kernel_rfl, by kernel_rfl⟩, ⟨by kernel_rfl, by kernel_rfl⟩, ⟨by kernel_rfl, by kernel_rfl⟩, ⟨by kernel_rfl, by kernel_rfl⟩, ⟨by kernel_rfl, by kernel_rfl⟩, ⟨by kernel_rfl, by kernel_rfl⟩, ⟨by kernel_rfl, by kernel_rfl⟩, ⟨by kernel_rfl, by kernel_rfl⟩, ⟨by kernel_rfl, by kernel_rfl⟩, ⟨by kernel_rfl, by kernel_rfl⟩, ⟨by kernel_rfl, by kernel_rfl⟩, ⟨by kernel_rfl, by kernel_rfl⟩, ⟨by kernel_rfl, by kernel_rfl⟩, ⟨by kernel_rfl, by kernel_rfl⟩, ⟨by kernel_rfl, by kernel_rfl⟩, ⟨by kernel_rfl, by kernel_rfl⟩, ⟨by kernel_rfl, by kernel_rfl⟩, ⟨by kernel_rfl, by kernel_rfl⟩, ⟨by kernel_rfl, by kernel_rfl⟩, ⟨by kernel_rfl, by kernel_rfl⟩, ⟨by kernel_rfl, by kernel_rfl⟩, ⟨by kernel_rfl, by kernel_rfl⟩, ⟨by kernel_rfl, by kernel_rfl⟩, ⟨by kernel_rfl, by kernel_rfl⟩, ⟨by kernel_rfl, by kernel_rfl⟩, ⟨by kernel_rfl, by kernel_rfl⟩, ⟨by kernel_rfl, by kernel_rfl⟩, ⟨by kernel_rfl, by kernel_rfl⟩, ⟨by kernel_rfl, by kernel_rfl⟩, ⟨by kernel_rfl, by kernel_rfl⟩, ⟨by kernel_rfl, by kernel_rfl⟩, ⟨by kernel_rfl, by kernel_rfl⟩, trivial⟩
noncomputable def env : Env := ⟨Tryz.prog, tt, tik_ok ttOk⟩
theorem stood : Stood env.P env.tt := stood_of (show stk Tryz.prog tt from ⟨by kernel_rfl, by kernel_rfl, by kernel_rfl, by kernel_rfl, by kernel_rfl, by kernel_rfl, by kernel_rfl, by kernel_rfl, by kernel_rfl, by kernel_rfl, by kernel_rfl, by kernel_rfl, by kernel_rfl, by kernel_rfl, by kernel_rfl, by kernel_rfl, by kernel_rfl, by kernel_rfl, by kernel_rfl, by kernel_rfl, by kernel_rfl, by kernel_rfl, by kernel_rfl, by kernel_rfl, by kernel_rfl, by kernel_rfl, by kernel_rfl, by kernel_rfl, by kernel_rfl, by kernel_rfl, by kernel_rfl, by kernel_rfl, by kernel_rfl, by kernel_rfl, by kernel_rfl, by kernel_rfl, by kernel_rfl, by kernel_rfl, by kernel_rfl, by kernel_rfl, by kernel_rfl, by kernel_rfl, by kernel_rfl, by kernel_rfl, by kernel_rfl, by kernel_rfl, by kernel_rfl, by kernel_rfl, by kernel_rfl, by kernel_rfl, by kernel_rfl, by kernel_rfl, by kernel_rfl, trivial⟩)
def en_Vpage_other : En Vpage_other := ⟨2, fun y => [(.int .u8 y.code), (.int .u16 y.sign)], fun _ => rfl, by decide, fun _ => rfl⟩
def en_Vvitrineref18_Key : En Vvitrineref18_Key := ⟨3, fun y => [(.int .i64 y.Kind), (.int .i32 y.Sign), (.int .i64 y.N)], fun _ => rfl, by decide, fun _ => rfl⟩
def en_Vvitrineref12_Act : En (Vvitrineref12_Act × SV) := ⟨11, fun y => [(.int .u8 y.1.Do), (.int .i64 y.1.N), (.bool y.1.On), (.int .u8 y.1.Code), (.int .u8 y.1.C.Char), (.bool y.1.C.Attr), (.int .u8 y.1.C.FA), (.int .u8 y.1.C.High), (.int .u8 y.1.C.Color), (.int .u8 y.1.C.f_Set), (SV.val y.2)], fun _ => rfl, by decide, fun _ => rfl⟩
abbrev D_Vvitrineref12_Act (X : HP) (y : Vvitrineref12_Act × SV) : Prop := Rd X y.2 5 (enI .u8) y.1.Text
theorem D_Vvitrineref12_Act.ext {X X' : HP} (a : Ext X X') (y : Vvitrineref12_Act × SV) (h : D_Vvitrineref12_Act X y) : D_Vvitrineref12_Act X' y := Rd.ext h a
def en_Vapi_Cell : En Vapi_Cell := ⟨6, fun y => [(.int .u8 y.Char), (.bool y.Attr), (.int .u8 y.FA), (.int .u8 y.High), (.int .u8 y.Color), (.int .u8 y.f_Set)], fun _ => rfl, by decide, fun _ => rfl⟩
def en_Vvitrineref04_Size : En Vvitrineref04_Size := ⟨2, fun y => [(.int .i64 y.Rows), (.int .i64 y.Cols)], fun _ => rfl, by decide, fun _ => rfl⟩
theorem has9 : HasBody env.P 9 := ⟨_, Tryz.func9, rfl, rfl⟩
theorem has10 : HasBody env.P 10 := ⟨_, Tryz.func10, rfl, rfl⟩
theorem has11 : HasBody env.P 11 := ⟨_, Tryz.func11, rfl, rfl⟩
theorem has12 : HasBody env.P 12 := ⟨_, Tryz.func12, rfl, rfl⟩
theorem has13 : HasBody env.P 13 := ⟨_, Tryz.func13, rfl, rfl⟩
theorem has14 : HasBody env.P 14 := ⟨_, Tryz.func14, rfl, rfl⟩
theorem has15 : HasBody env.P 15 := ⟨_, Tryz.func15, rfl, rfl⟩
theorem has16 : HasBody env.P 16 := ⟨_, Tryz.func16, rfl, rfl⟩
theorem has17 : HasBody env.P 17 := ⟨_, Tryz.func17, rfl, rfl⟩
theorem has18 : HasBody env.P 18 := ⟨_, Tryz.func18, rfl, rfl⟩
theorem has19 : HasBody env.P 19 := ⟨_, Tryz.func19, rfl, rfl⟩
theorem has20 : HasBody env.P 20 := ⟨_, Tryz.func20, rfl, rfl⟩
theorem has24 : HasBody env.P 24 := ⟨_, Tryz.func24, rfl, rfl⟩
theorem has25 : HasBody env.P 25 := ⟨_, Tryz.func25, rfl, rfl⟩
theorem has26 : HasBody env.P 26 := ⟨_, Tryz.func26, rfl, rfl⟩
theorem has29 : HasBody env.P 29 := ⟨_, Tryz.func29, rfl, rfl⟩
theorem has34 : HasBody env.P 34 := ⟨_, Tryz.func34, rfl, rfl⟩
theorem has38 : HasBody env.P 38 := ⟨_, Tryz.func38, rfl, rfl⟩
theorem has39 : HasBody env.P 39 := ⟨_, Tryz.func39, rfl, rfl⟩
theorem has40 : HasBody env.P 40 := ⟨_, Tryz.func40, rfl, rfl⟩
theorem has41 : HasBody env.P 41 := ⟨_, Tryz.func41, rfl, rfl⟩
theorem has42 : HasBody env.P 42 := ⟨_, Tryz.func42, rfl, rfl⟩
theorem has43 : HasBody env.P 43 := ⟨_, Tryz.func43, rfl, rfl⟩
theorem has44 : HasBody env.P 44 := ⟨_, Tryz.func44, rfl, rfl⟩
theorem has45 : HasBody env.P 45 := ⟨_, Tryz.func45, rfl, rfl⟩
theorem has46 : HasBody env.P 46 := ⟨_, Tryz.func46, rfl, rfl⟩
theorem has47 : HasBody env.P 47 := ⟨_, Tryz.func47, rfl, rfl⟩
theorem has48 : HasBody env.P 48 := ⟨_, Tryz.func48, rfl, rfl⟩
theorem has49 : HasBody env.P 49 := ⟨_, Tryz.func49, rfl, rfl⟩
theorem has50 : HasBody env.P 50 := ⟨_, Tryz.func50, rfl, rfl⟩
theorem has51 : HasBody env.P 51 := ⟨_, Tryz.func51, rfl, rfl⟩
theorem has52 : HasBody env.P 52 := ⟨_, Tryz.func52, rfl, rfl⟩
theorem has53 : HasBody env.P 53 := ⟨_, Tryz.func53, rfl, rfl⟩
theorem has54 : HasBody env.P 54 := ⟨_, Tryz.func54, rfl, rfl⟩
theorem has55 : HasBody env.P 55 := ⟨_, Tryz.func55, rfl, rfl⟩
theorem has56 : HasBody env.P 56 := ⟨_, Tryz.func56, rfl, rfl⟩
theorem has57 : HasBody env.P 57 := ⟨_, Tryz.func57, rfl, rfl⟩
theorem has58 : HasBody env.P 58 := ⟨_, Tryz.func58, rfl, rfl⟩
theorem has69 : HasBody env.P 69 := ⟨_, Tryz.func69, rfl, rfl⟩
theorem has70 : HasBody env.P 70 := ⟨_, Tryz.func70, rfl, rfl⟩
theorem has72 : HasBody env.P 72 := ⟨_, Tryz.func72, rfl, rfl⟩
theorem has74 : HasBody env.P 74 := ⟨_, Tryz.func74, rfl, rfl⟩
theorem has75 : HasBody env.P 75 := ⟨_, Tryz.func75, rfl, rfl⟩
theorem has76 : HasBody env.P 76 := ⟨_, Tryz.func76, rfl, rfl⟩
theorem has77 : HasBody env.P 77 := ⟨_, Tryz.func77, rfl, rfl⟩
theorem has78 : HasBody env.P 78 := ⟨_, Tryz.func78, rfl, rfl⟩
theorem has79 : HasBody env.P 79 := ⟨_, Tryz.func79, rfl, rfl⟩
theorem has80 : HasBody env.P 80 := ⟨_, Tryz.func80, rfl, rfl⟩
theorem has81 : HasBody env.P 81 := ⟨_, Tryz.func81, rfl, rfl⟩
theorem has82 : HasBody env.P 82 := ⟨_, Tryz.func82, rfl, rfl⟩
theorem has83 : HasBody env.P 83 := ⟨_, Tryz.func83, rfl, rfl⟩
theorem has84 : HasBody env.P 84 := ⟨_, Tryz.func84, rfl, rfl⟩
theorem has85 : HasBody env.P 85 := ⟨_, Tryz.func85, rfl, rfl⟩
theorem has86 : HasBody env.P 86 := ⟨_, Tryz.func86, rfl, rfl⟩
theorem has87 : HasBody env.P 87 := ⟨_, Tryz.func87, rfl, rfl⟩
theorem has88 : HasBody env.P 88 := ⟨_, Tryz.func88, rfl, rfl⟩
theorem has89 : HasBody env.P 89 := ⟨_, Tryz.func89, rfl, rfl⟩
theorem has90 : HasBody env.P 90 := ⟨_, Tryz.func90, rfl, rfl⟩
theorem has91 : HasBody env.P 91 := ⟨_, Tryz.func91, rfl, rfl⟩
theorem has92 : HasBody env.P 92 := ⟨_, Tryz.func92, rfl, rfl⟩
theorem has93 : HasBody env.P 93 := ⟨_, Tryz.func93, rfl, rfl⟩
theorem has94 : HasBody env.P 94 := ⟨_, Tryz.func94, rfl, rfl⟩
theorem has95 : HasBody env.P 95 := ⟨_, Tryz.func95, rfl, rfl⟩
theorem has96 : HasBody env.P 96 := ⟨_, Tryz.func96, rfl, rfl⟩
theorem has97 : HasBody env.P 97 := ⟨_, Tryz.func97, rfl, rfl⟩
theorem has98 : HasBody env.P 98 := ⟨_, Tryz.func98, rfl, rfl⟩
theorem has99 : HasBody env.P 99 := ⟨_, Tryz.func99, rfl, rfl⟩
theorem has100 : HasBody env.P 100 := ⟨_, Tryz.func100, rfl, rfl⟩
theorem has101 : HasBody env.P 101 := ⟨_, Tryz.func101, rfl, rfl⟩
theorem has118 : HasBody env.P 118 := ⟨_, Tryz.func118, rfl, rfl⟩
theorem has119 : HasBody env.P 119 := ⟨_, Tryz.func119, rfl, rfl⟩
theorem has120 : HasBody env.P 120 := ⟨_, Tryz.func120, rfl, rfl⟩
theorem has121 : HasBody env.P 121 := ⟨_, Tryz.func121, rfl, rfl⟩
theorem has122 : HasBody env.P 122 := ⟨_, Tryz.func122, rfl, rfl⟩
theorem has123 : HasBody env.P 123 := ⟨_, Tryz.func123, rfl, rfl⟩
theorem has124 : HasBody env.P 124 := ⟨_, Tryz.func124, rfl, rfl⟩
theorem has125 : HasBody env.P 125 := ⟨_, Tryz.func125, rfl, rfl⟩
theorem has126 : HasBody env.P 126 := ⟨_, Tryz.func126, rfl, rfl⟩
theorem has127 : HasBody env.P 127 := ⟨_, Tryz.func127, rfl, rfl⟩
theorem has128 : HasBody env.P 128 := ⟨_, Tryz.func128, rfl, rfl⟩
theorem has129 : HasBody env.P 129 := ⟨_, Tryz.func129, rfl, rfl⟩
theorem has130 : HasBody env.P 130 := ⟨_, Tryz.func130, rfl, rfl⟩
theorem has131 : HasBody env.P 131 := ⟨_, Tryz.func131, rfl, rfl⟩
theorem has132 : HasBody env.P 132 := ⟨_, Tryz.func132, rfl, rfl⟩
theorem has133 : HasBody env.P 133 := ⟨_, Tryz.func133, rfl, rfl⟩
theorem has134 : HasBody env.P 134 := ⟨_, Tryz.func134, rfl, rfl⟩
theorem has135 : HasBody env.P 135 := ⟨_, Tryz.func135, rfl, rfl⟩
theorem has136 : HasBody env.P 136 := ⟨_, Tryz.func136, rfl, rfl⟩
theorem has137 : HasBody env.P 137 := ⟨_, Tryz.func137, rfl, rfl⟩
theorem has139 : HasBody env.P 139 := ⟨_, Tryz.func139, rfl, rfl⟩
theorem has141 : HasBody env.P 141 := ⟨_, Tryz.func141, rfl, rfl⟩
theorem has144 : HasBody env.P 144 := ⟨_, Tryz.func144, rfl, rfl⟩
theorem has145 : HasBody env.P 145 := ⟨_, Tryz.func145, rfl, rfl⟩
theorem has146 : HasBody env.P 146 := ⟨_, Tryz.func146, rfl, rfl⟩
theorem has147 : HasBody env.P 147 := ⟨_, Tryz.func147, rfl, rfl⟩
theorem has148 : HasBody env.P 148 := ⟨_, Tryz.func148, rfl, rfl⟩
theorem has149 : HasBody env.P 149 := ⟨_, Tryz.func149, rfl, rfl⟩
theorem has150 : HasBody env.P 150 := ⟨_, Tryz.func150, rfl, rfl⟩
theorem has151 : HasBody env.P 151 := ⟨_, Tryz.func151, rfl, rfl⟩
theorem has152 : HasBody env.P 152 := ⟨_, Tryz.func152, rfl, rfl⟩
theorem has153 : HasBody env.P 153 := ⟨_, Tryz.func153, rfl, rfl⟩
theorem has154 : HasBody env.P 154 := ⟨_, Tryz.func154, rfl, rfl⟩
theorem has155 : HasBody env.P 155 := ⟨_, Tryz.func155, rfl, rfl⟩
theorem has156 : HasBody env.P 156 := ⟨_, Tryz.func156, rfl, rfl⟩
theorem has157 : HasBody env.P 157 := ⟨_, Tryz.func157, rfl, rfl⟩
theorem has158 : HasBody env.P 158 := ⟨_, Tryz.func158, rfl, rfl⟩
theorem has161 : HasBody env.P 161 := ⟨_, Tryz.func161, rfl, rfl⟩
theorem has162 : HasBody env.P 162 := ⟨_, Tryz.func162, rfl, rfl⟩
theorem has163 : HasBody env.P 163 := ⟨_, Tryz.func163, rfl, rfl⟩
theorem has164 : HasBody env.P 164 := ⟨_, Tryz.func164, rfl, rfl⟩
theorem has165 : HasBody env.P 165 := ⟨_, Tryz.func165, rfl, rfl⟩
theorem has169 : HasBody env.P 169 := ⟨_, Tryz.func169, rfl, rfl⟩

theorem c_page_row {g : Gw} (X : HP) (p0 : Int) (r : (Int × Int × Int × Int × Int × Int × Int × Int × Int × Int × Int × Int × Int × Int × Int × Int)) (h : m_page_row p0 = some r) : Tri env g 168 (A [(I p0)]) [X] (fun K R => K (.agg (A [(.int .u16 r.1), (.int .u16 r.2.1), (.int .u16 r.2.2.1), (.int .u16 r.2.2.2.1), (.int .u16 r.2.2.2.2.1), (.int .u16 r.2.2.2.2.2.1), (.int .u16 r.2.2.2.2.2.2.1), (.int .u16 r.2.2.2.2.2.2.2.1), (.int .u16 r.2.2.2.2.2.2.2.2.1), (.int .u16 r.2.2.2.2.2.2.2.2.2.1), (.int .u16 r.2.2.2.2.2.2.2.2.2.2.1), (.int .u16 r.2.2.2.2.2.2.2.2.2.2.2.1), (.int .u16 r.2.2.2.2.2.2.2.2.2.2.2.2.1), (.int .u16 r.2.2.2.2.2.2.2.2.2.2.2.2.2.1), (.int .u16 r.2.2.2.2.2.2.2.2.2.2.2.2.2.2.1), (.int .u16 r.2.2.2.2.2.2.2.2.2.2.2.2.2.2.2)])) (X :: R)) := by
 refine tri_of (fn := Tryz.f168) (N := 53) Tryz.func168 J J J ?_
 intro R K hk
 unfold m_page_row at h
 change GC _ none _ [] [(0, (I p0))] (X :: R) g _ _
 refine cr ?_
 refine o1 J (o_alloc (cs := [(.int .u16 0), (.int .u16 0), (.int .u16 0), (.int .u16 0), (.int .u16 0), (.int .u16 0), (.int .u16 0), (.int .u16 0), (.int .u16 0), (.int .u16 0), (.int .u16 0), (.int .u16 0), (.int .u16 0), (.int .u16 0), (.int .u16 0), (.int .u16 0)]) J J (fun b1 => ?_))
 refine oe (c_seq (cr (op J J ?_)))
 refine oe (c_block (cr ?_))
 refine o1 J (o_p (v := (O (p0 == 0))) J ?_)
 refine op J J (oe ?_)
 refine c_cond (b := (p0 == 0)) J (fun hb3 => ?_) (fun hb3 => ?_)
 ·replace h := cond_t hb3 h
  refine cr ?_
  refine o1 J (o_buildA (cs := [(.int .u16 0), (.int .u16 1), (.int .u16 2), (.int .u16 3), (.int .u16 156), (.int .u16 9), (.int .u16 134), (.int .u16 127), (.int .u16 151), (.int .u16 141), (.int .u16 142), (.int .u16 11), (.int .u16 12), (.int .u16 13), (.int .u16 14), (.int .u16 15)]) J J J J J ?_)
  refine o0 (o_st (b := b1) (off := 0) (vs := [(.int .u16 0), (.int .u16 1), (.int .u16 2), (.int .u16 3), (.int .u16 156), (.int .u16 9), (.int .u16 134), (.int .u16 127), (.int .u16 151), (.int .u16 141), (.int .u16 142), (.int .u16 11), (.int .u16 12), (.int .u16 13), (.int .u16 14), (.int .u16 15)]) (cs' := [(.int .u16 0), (.int .u16 1), (.int .u16 2), (.int .u16 3), (.int .u16 156), (.int .u16 9), (.int .u16 134), (.int .u16 127), (.int .u16 151), (.int .u16 141), (.int .u16 142), (.int .u16 11), (.int .u16 12), (.int .u16 13), (.int .u16 14), (.int .u16 15)]) J J rp0 J J J J J J ?_)
  refine oe (c_ret (e_blk_ret (e_then_ret (e_ret ?_))))
  refine r_endc (B := [[(.int .u16 0), (.int .u16 1), (.int .u16 2), (.int .u16 3), (.int .u16 156), (.int .u16 9), (.int .u16 134), (.int .u16 127), (.int .u16 151), (.int .u16 141), (.int .u16 142), (.int .u16 11), (.int .u16 12), (.int .u16 13), (.int .u16 14), (.int .u16 15)]]) J ⟨⟨_, _, _, _, J, rm0⟩, trivial⟩ J (kc rm1 (kd kr)) ?_
  obtain rfl := si h
  exact hk
 ·replace h := cond_f hb3 h
  refine cr ?_
  refine o1 J (o_p (v := (O (p0 == 1))) J ?_)
  refine op J J (oe ?_)
  refine c_cond (b := (p0 == 1)) J (fun hb4 => ?_) (fun hb4 => ?_)
  ·replace h := cond_t hb4 h
   refine cr ?_
   refine o1 J (o_buildA (cs := [(.int .u16 16), (.int .u16 17), (.int .u16 18), (.int .u16 19), (.int .u16 157), (.int .u16 133), (.int .u16 8), (.int .u16 135), (.int .u16 24), (.int .u16 25), (.int .u16 146), (.int .u16 143), (.int .u16 28), (.int .u16 29), (.int .u16 30), (.int .u16 31)]) J J J J J ?_)
   refine o0 (o_st (b := b1) (off := 0) (vs := [(.int .u16 16), (.int .u16 17), (.int .u16 18), (.int .u16 19), (.int .u16 157), (.int .u16 133), (.int .u16 8), (.int .u16 135), (.int .u16 24), (.int .u16 25), (.int .u16 146), (.int .u16 143), (.int .u16 28), (.int .u16 29), (.int .u16 30), (.int .u16 31)]) (cs' := [(.int .u16 16), (.int .u16 17), (.int .u16 18), (.int .u16 19), (.int .u16 157), (.int .u16 133), (.int .u16 8), (.int .u16 135), (.int .u16 24), (.int .u16 25), (.int .u16 146), (.int .u16 143), (.int .u16 28), (.int .u16 29), (.int .u16 30), (.int .u16 31)]) J J rp0 J J J J J J ?_)
   refine oe (c_ret (e_blk_ret (e_then_ret (e_ret ?_))))
   refine r_endc (B := [[(.int .u16 16), (.int .u16 17), (.int .u16 18), (.int .u16 19), (.int .u16 157), (.int .u16 133), (.int .u16 8), (.int .u16 135), (.int .u16 24), (.int .u16 25), (.int .u16 146), (.int .u16 143), (.int .u16 28), (.int .u16 29), (.int .u16 30), (.int .u16 31)]]) J ⟨⟨_, _, _, _, J, rm0⟩, trivial⟩ J (kc rm1 (kd kr)) ?_
   obtain rfl := si h
   exact hk
  ·replace h := cond_f hb4 h
   refine cr ?_
   refine o1 J (o_p (v := (O (p0 == 2))) J ?_)
   refine op J J (oe ?_)
   refine c_cond (b := (p0 == 2)) J (fun hb5 => ?_) (fun hb5 => ?_)
   ·replace h := cond_t hb5 h
    refine cr ?_
    refine o1 J (o_buildA (cs := [(.int .u16 128), (.int .u16 129), (.int .u16 130), (.int .u16 131), (.int .u16 132), (.int .u16 10), (.int .u16 23), (.int .u16 27), (.int .u16 136), (.int .u16 137), (.int .u16 138), (.int .u16 139), (.int .u16 140), (.int .u16 5), (.int .u16 6), (.int .u16 7)]) J J J J J ?_)
    refine o0 (o_st (b := b1) (off := 0) (vs := [(.int .u16 128), (.int .u16 129), (.int .u16 130), (.int .u16 131), (.int .u16 132), (.int .u16 10), (.int .u16 23), (.int .u16 27), (.int .u16 136), (.int .u16 137), (.int .u16 138), (.int .u16 139), (.int .u16 140), (.int .u16 5), (.int .u16 6), (.int .u16 7)]) (cs' := [(.int .u16 128), (.int .u16 129), (.int .u16 130), (.int .u16 131), (.int .u16 132), (.int .u16 10), (.int .u16 23), (.int .u16 27), (.int .u16 136), (.int .u16 137), (.int .u16 138), (.int .u16 139), (.int .u16 140), (.int .u16 5), (.int .u16 6), (.int .u16 7)]) J J rp0 J J J J J J ?_)
    refine oe (c_ret (e_blk_ret (e_then_ret (e_ret ?_))))
    refine r_endc (B := [[(.int .u16 128), (.int .u16 129), (.int .u16 130), (.int .u16 131), (.int .u16 132), (.int .u16 10), (.int .u16 23), (.int .u16 27), (.int .u16 136), (.int .u16 137), (.int .u16 138), (.int .u16 139), (.int .u16 140), (.int .u16 5), (.int .u16 6), (.int .u16 7)]]) J ⟨⟨_, _, _, _, J, rm0⟩, trivial⟩ J (kc rm1 (kd kr)) ?_
    obtain rfl := si h
    exact hk
   ·replace h := cond_f hb5 h
    refine cr ?_
    refine o1 J (o_p (v := (O (p0 == 3))) J ?_)
    refine op J J (oe ?_)
    refine c_cond (b := (p0 == 3)) J (fun hb6 => ?_) (fun hb6 => ?_)
    ·replace h := cond_t hb6 h
     refine cr ?_
     refine o1 J (o_buildA (cs := [(.int .u16 144), (.int .u16 145), (.int .u16 22), (.int .u16 147), (.int .u16 148), (.int .u16 149), (.int .u16 150), (.int .u16 4), (.int .u16 152), (.int .u16 153), (.int .u16 154), (.int .u16 155), (.int .u16 20), (.int .u16 21), (.int .u16 158), (.int .u16 26)]) J J J J J ?_)
     refine o0 (o_st (b := b1) (off := 0) (vs := [(.int .u16 144), (.int .u16 145), (.int .u16 22), (.int .u16 147), (.int .u16 148), (.int .u16 149), (.int .u16 150), (.int .u16 4), (.int .u16 152), (.int .u16 153), (.int .u16 154), (.int .u16 155), (.int .u16 20), (.int .u16 21), (.int .u16 158), (.int .u16 26)]) (cs' := [(.int .u16 144), (.int .u16 145), (.int .u16 22), (.int .u16 147), (.int .u16 148), (.int .u16 149), (.int .u16 150), (.int .u16 4), (.int .u16 152), (.int .u16 153), (.int .u16 154), (.int .u16 155), (.int .u16 20), (.int .u16 21), (.int .u16 158), (.int .u16 26)]) J J rp0 J J J J J J ?_)
     refine oe (c_ret (e_blk_ret (e_then_ret (e_ret ?_))))
     refine r_endc (B := [[(.int .u16 144), (.int .u16 145), (.int .u16 22), (.int .u16 147), (.int .u16 148), (.int .u16 149), (.int .u16 150), (.int .u16 4), (.int .u16 152), (.int .u16 153), (.int .u16 154), (.int .u16 155), (.int .u16 20), (.int .u16 21), (.int .u16 158), (.int .u16 26)]]) J ⟨⟨_, _, _, _, J, rm0⟩, trivial⟩ J (kc rm1 (kd kr)) ?_
     obtain rfl := si h
     exact hk
    ·replace h := cond_f hb6 h
     refine cr ?_
     refine o1 J (o_p (v := (O (p0 == 4))) J ?_)
     refine op J J (oe ?_)
     refine c_cond (b := (p0 == 4)) J (fun hb7 => ?_) (fun hb7 => ?_)
     ·replace h := cond_t hb7 h
      refine cr ?_
      refine o1 J (o_buildA (cs := [(.int .u16 32), (.int .u16 160), (.int .u16 226), (.int .u16 228), (.int .u16 224), (.int .u16 225), (.int .u16 227), (.int .u16 229), (.int .u16 231), (.int .u16 241), (.int .u16 162), (.int .u16 46), (.int .u16 60), (.int .u16 40), (.int .u16 43), (.int .u16 124)]) J J J J J ?_)
      refine o0 (o_st (b := b1) (off := 0) (vs := [(.int .u16 32), (.int .u16 160), (.int .u16 226), (.int .u16 228), (.int .u16 224), (.int .u16 225), (.int .u16 227), (.int .u16 229), (.int .u16 231), (.int .u16 241), (.int .u16 162), (.int .u16 46), (.int .u16 60), (.int .u16 40), (.int .u16 43), (.int .u16 124)]) (cs' := [(.int .u16 32), (.int .u16 160), (.int .u16 226), (.int .u16 228), (.int .u16 224), (.int .u16 225), (.int .u16 227), (.int .u16 229), (.int .u16 231), (.int .u16 241), (.int .u16 162), (.int .u16 46), (.int .u16 60), (.int .u16 40), (.int .u16 43), (.int .u16 124)]) J J rp0 J J J J J J ?_)
      refine oe (c_ret (e_blk_ret (e_then_ret (e_ret ?_))))
      refine r_endc (B := [[(.int .u16 32), (.int .u16 160), (.int .u16 226), (.int .u16 228), (.int .u16 224), (.int .u16 225), (.int .u16 227), (.int .u16 229), (.int .u16 231), (.int .u16 241), (.int .u16 162), (.int .u16 46), (.int .u16 60), (.int .u16 40), (.int .u16 43), (.int .u16 124)]]) J ⟨⟨_, _, _, _, J, rm0⟩, trivial⟩ J (kc rm1 (kd kr)) ?_
      obtain rfl := si h
      exact hk
     ·replace h := cond_f hb7 h
      refine cr ?_
      refine o1 J (o_p (v := (O (p0 == 5))) J ?_)
      refine op J J (oe ?_)
      refine c_cond (b := (p0 == 5)) J (fun hb8 => ?_) (fun hb8 => ?_)
      ·replace h := cond_t hb8 h
       refine cr ?_
       refine o1 J (o_buildA (cs := [(.int .u16 38), (.int .u16 233), (.int .u16 234), (.int .u16 235), (.int .u16 232), (.int .u16 237), (.int .u16 238), (.int .u16 239), (.int .u16 236), (.int .u16 223), (.int .u16 33), (.int .u16 36), (.int .u16 42), (.int .u16 41), (.int .u16 59), (.int .u16 172)]) J J J J J ?_)
       refine o0 (o_st (b := b1) (off := 0) (vs := [(.int .u16 38), (.int .u16 233), (.int .u16 234), (.int .u16 235), (.int .u16 232), (.int .u16 237), (.int .u16 238), (.int .u16 239), (.int .u16 236), (.int .u16 223), (.int .u16 33), (.int .u16 36), (.int .u16 42), (.int .u16 41), (.int .u16 59), (.int .u16 172)]) (cs' := [(.int .u16 38), (.int .u16 233), (.int .u16 234), (.int .u16 235), (.int .u16 232), (.int .u16 237), (.int .u16 238), (.int .u16 239), (.int .u16 236), (.int .u16 223), (.int .u16 33), (.int .u16 36), (.int .u16 42), (.int .u16 41), (.int .u16 59), (.int .u16 172)]) J J rp0 J J J J J J ?_)
       refine oe (c_ret (e_blk_ret (e_then_ret (e_ret ?_))))
       refine r_endc (B := [[(.int .u16 38), (.int .u16 233), (.int .u16 234), (.int .u16 235), (.int .u16 232), (.int .u16 237), (.int .u16 238), (.int .u16 239), (.int .u16 236), (.int .u16 223), (.int .u16 33), (.int .u16 36), (.int .u16 42), (.int .u16 41), (.int .u16 59), (.int .u16 172)]]) J ⟨⟨_, _, _, _, J, rm0⟩, trivial⟩ J (kc rm1 (kd kr)) ?_
       obtain rfl := si h
       exact hk
      ·replace h := cond_f hb8 h
       refine cr ?_
       refine o1 J (o_p (v := (O (p0 == 6))) J ?_)
       refine op J J (oe ?_)
       refine c_cond (b := (p0 == 6)) J (fun hb9 => ?_) (fun hb9 => ?_)
       ·replace h := cond_t hb9 h
        refine cr ?_
        refine o1 J (o_buildA (cs := [(.int .u16 45), (.int .u16 47), (.int .u16 194), (.int .u16 196), (.int .u16 192), (.int .u16 193), (.int .u16 195), (.int .u16 197), (.int .u16 199), (.int .u16 209), (.int .u16 166), (.int .u16 44), (.int .u16 37), (.int .u16 95), (.int .u16 62), (.int .u16 63)]) J J J J J ?_)
        refine o0 (o_st (b := b1) (off := 0) (vs := [(.int .u16 45), (.int .u16 47), (.int .u16 194), (.int .u16 196), (.int .u16 192), (.int .u16 193), (.int .u16 195), (.int .u16 197), (.int .u16 199), (.int .u16 209), (.int .u16 166), (.int .u16 44), (.int .u16 37), (.int .u16 95), (.int .u16 62), (.int .u16 63)]) (cs' := [(.int .u16 45), (.int .u16 47), (.int .u16 194), (.int .u16 196), (.int .u16 192), (.int .u16 193), (.int .u16 195), (.int .u16 197), (.int .u16 199), (.int .u16 209), (.int .u16 166), (.int .u16 44), (.int .u16 37), (.int .u16 95), (.int .u16 62), (.int .u16 63)]) J J rp0 J J J J J J ?_)
        refine oe (c_ret (e_blk_ret (e_then_ret (e_ret ?_))))
        refine r_endc (B := [[(.int .u16 45), (.int .u16 47), (.int .u16 194), (.int .u16 196), (.int .u16 192), (.int .u16 193), (.int .u16 195), (.int .u16 197), (.int .u16 199), (.int .u16 209), (.int .u16 166), (.int .u16 44), (.int .u16 37), (.int .u16 95), (.int .u16 62), (.int .u16 63)]]) J ⟨⟨_, _, _, _, J, rm0⟩, trivial⟩ J (kc rm1 (kd kr)) ?_
        obtain rfl := si h
        exact hk
       ·replace h := cond_f hb9 h
        refine cr ?_
        refine o1 J (o_p (v := (O (p0 == 7))) J ?_)
        refine op J J (oe ?_)
        refine c_cond (b := (p0 == 7)) J (fun hb10 => ?_) (fun hb10 => ?_)
        ·replace h := cond_t hb10 h
         refine cr ?_
         refine o1 J (o_buildA (cs := [(.int .u16 248), (.int .u16 201), (.int .u16 202), (.int .u16 203), (.int .u16 200), (.int .u16 205), (.int .u16 206), (.int .u16 207), (.int .u16 204), (.int .u16 96), (.int .u16 58), (.int .u16 35), (.int .u16 64), (.int .u16 39), (.int .u16 61), (.int .u16 34)]) J J J J J ?_)
         refine o0 (o_st (b := b1) (off := 0) (vs := [(.int .u16 248), (.int .u16 201), (.int .u16 202), (.int .u16 203), (.int .u16 200), (.int .u16 205), (.int .u16 206), (.int .u16 207), (.int .u16 204), (.int .u16 96), (.int .u16 58), (.int .u16 35), (.int .u16 64), (.int .u16 39), (.int .u16 61), (.int .u16 34)]) (cs' := [(.int .u16 248), (.int .u16 201), (.int .u16 202), (.int .u16 203), (.int .u16 200), (.int .u16 205), (.int .u16 206), (.int .u16 207), (.int .u16 204), (.int .u16 96), (.int .u16 58), (.int .u16 35), (.int .u16 64), (.int .u16 39), (.int .u16 61), (.int .u16 34)]) J J rp0 J J J J J J ?_)
         refine oe (c_ret (e_blk_ret (e_then_ret (e_ret ?_))))
         refine r_endc (B := [[(.int .u16 248), (.int .u16 201), (.int .u16 202), (.int .u16 203), (.int .u16 200), (.int .u16 205), (.int .u16 206), (.int .u16 207), (.int .u16 204), (.int .u16 96), (.int .u16 58), (.int .u16 35), (.int .u16 64), (.int .u16 39), (.int .u16 61), (.int .u16 34)]]) J ⟨⟨_, _, _, _, J, rm0⟩, trivial⟩ J (kc rm1 (kd kr)) ?_
         obtain rfl := si h
         exact hk
        ·replace h := cond_f hb10 h
         refine cr ?_
         refine o1 J (o_p (v := (O (p0 == 8))) J ?_)
         refine op J J (oe ?_)
         refine c_cond (b := (p0 == 8)) J (fun hb11 => ?_) (fun hb11 => ?_)
         ·replace h := cond_t hb11 h
          refine cr ?_
          refine o1 J (o_buildA (cs := [(.int .u16 216), (.int .u16 97), (.int .u16 98), (.int .u16 99), (.int .u16 100), (.int .u16 101), (.int .u16 102), (.int .u16 103), (.int .u16 104), (.int .u16 105), (.int .u16 171), (.int .u16 187), (.int .u16 240), (.int .u16 253), (.int .u16 254), (.int .u16 177)]) J J J J J ?_)
          refine o0 (o_st (b := b1) (off := 0) (vs := [(.int .u16 216), (.int .u16 97), (.int .u16 98), (.int .u16 99), (.int .u16 100), (.int .u16 101), (.int .u16 102), (.int .u16 103), (.int .u16 104), (.int .u16 105), (.int .u16 171), (.int .u16 187), (.int .u16 240), (.int .u16 253), (.int .u16 254), (.int .u16 177)]) (cs' := [(.int .u16 216), (.int .u16 97), (.int .u16 98), (.int .u16 99), (.int .u16 100), (.int .u16 101), (.int .u16 102), (.int .u16 103), (.int .u16 104), (.int .u16 105), (.int .u16 171), (.int .u16 187), (.int .u16 240), (.int .u16 253), (.int .u16 254), (.int .u16 177)]) J J rp0 J J J J J J ?_)
          refine oe (c_ret (e_blk_ret (e_then_ret (e_ret ?_))))
          refine r_endc (B := [[(.int .u16 216), (.int .u16 97), (.int .u16 98), (.int .u16 99), (.int .u16 100), (.int .u16 101), (.int .u16 102), (.int .u16 103), (.int .u16 104), (.int .u16 105), (.int .u16 171), (.int .u16 187), (.int .u16 240), (.int .u16 253), (.int .u16 254), (.int .u16 177)]]) J ⟨⟨_, _, _, _, J, rm0⟩, trivial⟩ J (kc rm1 (kd kr)) ?_
          obtain rfl := si h
          exact hk
         ·replace h := cond_f hb11 h
          refine cr ?_
          refine o1 J (o_p (v := (O (p0 == 9))) J ?_)
          refine op J J (oe ?_)
          refine c_cond (b := (p0 == 9)) J (fun hb12 => ?_) (fun hb12 => ?_)
          ·replace h := cond_t hb12 h
           refine cr ?_
           refine o1 J (o_buildA (cs := [(.int .u16 176), (.int .u16 106), (.int .u16 107), (.int .u16 108), (.int .u16 109), (.int .u16 110), (.int .u16 111), (.int .u16 112), (.int .u16 113), (.int .u16 114), (.int .u16 170), (.int .u16 186), (.int .u16 230), (.int .u16 184), (.int .u16 198), (.int .u16 164)]) J J J J J ?_)
           refine o0 (o_st (b := b1) (off := 0) (vs := [(.int .u16 176), (.int .u16 106), (.int .u16 107), (.int .u16 108), (.int .u16 109), (.int .u16 110), (.int .u16 111), (.int .u16 112), (.int .u16 113), (.int .u16 114), (.int .u16 170), (.int .u16 186), (.int .u16 230), (.int .u16 184), (.int .u16 198), (.int .u16 164)]) (cs' := [(.int .u16 176), (.int .u16 106), (.int .u16 107), (.int .u16 108), (.int .u16 109), (.int .u16 110), (.int .u16 111), (.int .u16 112), (.int .u16 113), (.int .u16 114), (.int .u16 170), (.int .u16 186), (.int .u16 230), (.int .u16 184), (.int .u16 198), (.int .u16 164)]) J J rp0 J J J J J J ?_)
           refine oe (c_ret (e_blk_ret (e_then_ret (e_ret ?_))))
           refine r_endc (B := [[(.int .u16 176), (.int .u16 106), (.int .u16 107), (.int .u16 108), (.int .u16 109), (.int .u16 110), (.int .u16 111), (.int .u16 112), (.int .u16 113), (.int .u16 114), (.int .u16 170), (.int .u16 186), (.int .u16 230), (.int .u16 184), (.int .u16 198), (.int .u16 164)]]) J ⟨⟨_, _, _, _, J, rm0⟩, trivial⟩ J (kc rm1 (kd kr)) ?_
           obtain rfl := si h
           exact hk
          ·replace h := cond_f hb12 h
           refine cr ?_
           refine o1 J (o_p (v := (O (p0 == 10))) J ?_)
           refine op J J (oe ?_)
           refine c_cond (b := (p0 == 10)) J (fun hb13 => ?_) (fun hb13 => ?_)
           ·replace h := cond_t hb13 h
            refine cr ?_
            refine o1 J (o_buildA (cs := [(.int .u16 181), (.int .u16 126), (.int .u16 115), (.int .u16 116), (.int .u16 117), (.int .u16 118), (.int .u16 119), (.int .u16 120), (.int .u16 121), (.int .u16 122), (.int .u16 161), (.int .u16 191), (.int .u16 208), (.int .u16 221), (.int .u16 222), (.int .u16 174)]) J J J J J ?_)
            refine o0 (o_st (b := b1) (off := 0) (vs := [(.int .u16 181), (.int .u16 126), (.int .u16 115), (.int .u16 116), (.int .u16 117), (.int .u16 118), (.int .u16 119), (.int .u16 120), (.int .u16 121), (.int .u16 122), (.int .u16 161), (.int .u16 191), (.int .u16 208), (.int .u16 221), (.int .u16 222), (.int .u16 174)]) (cs' := [(.int .u16 181), (.int .u16 126), (.int .u16 115), (.int .u16 116), (.int .u16 117), (.int .u16 118), (.int .u16 119), (.int .u16 120), (.int .u16 121), (.int .u16 122), (.int .u16 161), (.int .u16 191), (.int .u16 208), (.int .u16 221), (.int .u16 222), (.int .u16 174)]) J J rp0 J J J J J J ?_)
            refine oe (c_ret (e_blk_ret (e_then_ret (e_ret ?_))))
            refine r_endc (B := [[(.int .u16 181), (.int .u16 126), (.int .u16 115), (.int .u16 116), (.int .u16 117), (.int .u16 118), (.int .u16 119), (.int .u16 120), (.int .u16 121), (.int .u16 122), (.int .u16 161), (.int .u16 191), (.int .u16 208), (.int .u16 221), (.int .u16 222), (.int .u16 174)]]) J ⟨⟨_, _, _, _, J, rm0⟩, trivial⟩ J (kc rm1 (kd kr)) ?_
            obtain rfl := si h
            exact hk
           ·replace h := cond_f hb13 h
            refine cr ?_
            refine o1 J (o_p (v := (O (p0 == 11))) J ?_)
            refine op J J (oe ?_)
            refine c_cond (b := (p0 == 11)) J (fun hb14 => ?_) (fun hb14 => ?_)
            ·replace h := cond_t hb14 h
             refine cr ?_
             refine o1 J (o_buildA (cs := [(.int .u16 94), (.int .u16 163), (.int .u16 165), (.int .u16 183), (.int .u16 169), (.int .u16 167), (.int .u16 182), (.int .u16 188), (.int .u16 189), (.int .u16 190), (.int .u16 91), (.int .u16 93), (.int .u16 175), (.int .u16 168), (.int .u16 180), (.int .u16 215)]) J J J J J ?_)
             refine o0 (o_st (b := b1) (off := 0) (vs := [(.int .u16 94), (.int .u16 163), (.int .u16 165), (.int .u16 183), (.int .u16 169), (.int .u16 167), (.int .u16 182), (.int .u16 188), (.int .u16 189), (.int .u16 190), (.int .u16 91), (.int .u16 93), (.int .u16 175), (.int .u16 168), (.int .u16 180), (.int .u16 215)]) (cs' := [(.int .u16 94), (.int .u16 163), (.int .u16 165), (.int .u16 183), (.int .u16 169), (.int .u16 167), (.int .u16 182), (.int .u16 188), (.int .u16 189), (.int .u16 190), (.int .u16 91), (.int .u16 93), (.int .u16 175), (.int .u16 168), (.int .u16 180), (.int .u16 215)]) J J rp0 J J J J J J ?_)
             refine oe (c_ret (e_blk_ret (e_then_ret (e_ret ?_))))
             refine r_endc (B := [[(.int .u16 94), (.int .u16 163), (.int .u16 165), (.int .u16 183), (.int .u16 169), (.int .u16 167), (.int .u16 182), (.int .u16 188), (.int .u16 189), (.int .u16 190), (.int .u16 91), (.int .u16 93), (.int .u16 175), (.int .u16 168), (.int .u16 180), (.int .u16 215)]]) J ⟨⟨_, _, _, _, J, rm0⟩, trivial⟩ J (kc rm1 (kd kr)) ?_
             obtain rfl := si h
             exact hk
            ·replace h := cond_f hb14 h
             refine cr ?_
             refine o1 J (o_p (v := (O (p0 == 12))) J ?_)
             refine op J J (oe ?_)
             refine c_cond (b := (p0 == 12)) J (fun hb15 => ?_) (fun hb15 => ?_)
             ·replace h := cond_t hb15 h
              refine cr ?_
              refine o1 J (o_buildA (cs := [(.int .u16 123), (.int .u16 65), (.int .u16 66), (.int .u16 67), (.int .u16 68), (.int .u16 69), (.int .u16 70), (.int .u16 71), (.int .u16 72), (.int .u16 73), (.int .u16 173), (.int .u16 244), (.int .u16 246), (.int .u16 242), (.int .u16 243), (.int .u16 245)]) J J J J J ?_)
              refine o0 (o_st (b := b1) (off := 0) (vs := [(.int .u16 123), (.int .u16 65), (.int .u16 66), (.int .u16 67), (.int .u16 68), (.int .u16 69), (.int .u16 70), (.int .u16 71), (.int .u16 72), (.int .u16 73), (.int .u16 173), (.int .u16 244), (.int .u16 246), (.int .u16 242), (.int .u16 243), (.int .u16 245)]) (cs' := [(.int .u16 123), (.int .u16 65), (.int .u16 66), (.int .u16 67), (.int .u16 68), (.int .u16 69), (.int .u16 70), (.int .u16 71), (.int .u16 72), (.int .u16 73), (.int .u16 173), (.int .u16 244), (.int .u16 246), (.int .u16 242), (.int .u16 243), (.int .u16 245)]) J J rp0 J J J J J J ?_)
              refine oe (c_ret (e_blk_ret (e_then_ret (e_ret ?_))))
              refine r_endc (B := [[(.int .u16 123), (.int .u16 65), (.int .u16 66), (.int .u16 67), (.int .u16 68), (.int .u16 69), (.int .u16 70), (.int .u16 71), (.int .u16 72), (.int .u16 73), (.int .u16 173), (.int .u16 244), (.int .u16 246), (.int .u16 242), (.int .u16 243), (.int .u16 245)]]) J ⟨⟨_, _, _, _, J, rm0⟩, trivial⟩ J (kc rm1 (kd kr)) ?_
              obtain rfl := si h
              exact hk
             ·replace h := cond_f hb15 h
              refine cr ?_
              refine o1 J (o_p (v := (O (p0 == 13))) J ?_)
              refine op J J (oe ?_)
              refine c_cond (b := (p0 == 13)) J (fun hb16 => ?_) (fun hb16 => ?_)
              ·replace h := cond_t hb16 h
               refine cr ?_
               refine o1 J (o_buildA (cs := [(.int .u16 125), (.int .u16 74), (.int .u16 75), (.int .u16 76), (.int .u16 77), (.int .u16 78), (.int .u16 79), (.int .u16 80), (.int .u16 81), (.int .u16 82), (.int .u16 185), (.int .u16 251), (.int .u16 252), (.int .u16 249), (.int .u16 250), (.int .u16 255)]) J J J J J ?_)
               refine o0 (o_st (b := b1) (off := 0) (vs := [(.int .u16 125), (.int .u16 74), (.int .u16 75), (.int .u16 76), (.int .u16 77), (.int .u16 78), (.int .u16 79), (.int .u16 80), (.int .u16 81), (.int .u16 82), (.int .u16 185), (.int .u16 251), (.int .u16 252), (.int .u16 249), (.int .u16 250), (.int .u16 255)]) (cs' := [(.int .u16 125), (.int .u16 74), (.int .u16 75), (.int .u16 76), (.int .u16 77), (.int .u16 78), (.int .u16 79), (.int .u16 80), (.int .u16 81), (.int .u16 82), (.int .u16 185), (.int .u16 251), (.int .u16 252), (.int .u16 249), (.int .u16 250), (.int .u16 255)]) J J rp0 J J J J J J ?_)
               refine oe (c_ret (e_blk_ret (e_then_ret (e_ret ?_))))
               refine r_endc (B := [[(.int .u16 125), (.int .u16 74), (.int .u16 75), (.int .u16 76), (.int .u16 77), (.int .u16 78), (.int .u16 79), (.int .u16 80), (.int .u16 81), (.int .u16 82), (.int .u16 185), (.int .u16 251), (.int .u16 252), (.int .u16 249), (.int .u16 250), (.int .u16 255)]]) J ⟨⟨_, _, _, _, J, rm0⟩, trivial⟩ J (kc rm1 (kd kr)) ?_
               obtain rfl := si h
               exact hk
              ·replace h := cond_f hb16 h
               refine cr ?_
               refine o1 J (o_p (v := (O (p0 == 14))) J ?_)
               refine op J J (oe ?_)
               refine c_cond (b := (p0 == 14)) J (fun hb17 => ?_) (fun hb17 => ?_)
               ·replace h := cond_t hb17 h
                refine cr ?_
                refine o1 J (o_buildA (cs := [(.int .u16 92), (.int .u16 247), (.int .u16 83), (.int .u16 84), (.int .u16 85), (.int .u16 86), (.int .u16 87), (.int .u16 88), (.int .u16 89), (.int .u16 90), (.int .u16 178), (.int .u16 212), (.int .u16 214), (.int .u16 210), (.int .u16 211), (.int .u16 213)]) J J J J J ?_)
                refine o0 (o_st (b := b1) (off := 0) (vs := [(.int .u16 92), (.int .u16 247), (.int .u16 83), (.int .u16 84), (.int .u16 85), (.int .u16 86), (.int .u16 87), (.int .u16 88), (.int .u16 89), (.int .u16 90), (.int .u16 178), (.int .u16 212), (.int .u16 214), (.int .u16 210), (.int .u16 211), (.int .u16 213)]) (cs' := [(.int .u16 92), (.int .u16 247), (.int .u16 83), (.int .u16 84), (.int .u16 85), (.int .u16 86), (.int .u16 87), (.int .u16 88), (.int .u16 89), (.int .u16 90), (.int .u16 178), (.int .u16 212), (.int .u16 214), (.int .u16 210), (.int .u16 211), (.int .u16 213)]) J J rp0 J J J J J J ?_)
                refine oe (c_ret (e_blk_ret (e_then_ret (e_ret ?_))))
                refine r_endc (B := [[(.int .u16 92), (.int .u16 247), (.int .u16 83), (.int .u16 84), (.int .u16 85), (.int .u16 86), (.int .u16 87), (.int .u16 88), (.int .u16 89), (.int .u16 90), (.int .u16 178), (.int .u16 212), (.int .u16 214), (.int .u16 210), (.int .u16 211), (.int .u16 213)]]) J ⟨⟨_, _, _, _, J, rm0⟩, trivial⟩ J (kc rm1 (kd kr)) ?_
                obtain rfl := si h
                exact hk
               ·replace h := cond_f hb17 h
                refine cr ?_
                refine o1 J (o_p (v := (O (p0 == 15))) J ?_)
                refine op J J (oe ?_)
                refine c_cond (b := (p0 == 15)) J (fun hb18 => ?_) (fun hb18 => ?_)
                ·replace h := cond_t hb18 h
                 refine cr ?_
                 refine o1 J (o_buildA (cs := [(.int .u16 48), (.int .u16 49), (.int .u16 50), (.int .u16 51), (.int .u16 52), (.int .u16 53), (.int .u16 54), (.int .u16 55), (.int .u16 56), (.int .u16 57), (.int .u16 179), (.int .u16 219), (.int .u16 220), (.int .u16 217), (.int .u16 218), (.int .u16 159)]) J J J J J ?_)
                 refine o0 (o_st (b := b1) (off := 0) (vs := [(.int .u16 48), (.int .u16 49), (.int .u16 50), (.int .u16 51), (.int .u16 52), (.int .u16 53), (.int .u16 54), (.int .u16 55), (.int .u16 56), (.int .u16 57), (.int .u16 179), (.int .u16 219), (.int .u16 220), (.int .u16 217), (.int .u16 218), (.int .u16 159)]) (cs' := [(.int .u16 48), (.int .u16 49), (.int .u16 50), (.int .u16 51), (.int .u16 52), (.int .u16 53), (.int .u16 54), (.int .u16 55), (.int .u16 56), (.int .u16 57), (.int .u16 179), (.int .u16 219), (.int .u16 220), (.int .u16 217), (.int .u16 218), (.int .u16 159)]) J J rp0 J J J J J J ?_)
                 refine oe (c_ret (e_blk_ret (e_then_ret (e_ret ?_))))
                 refine r_endc (B := [[(.int .u16 48), (.int .u16 49), (.int .u16 50), (.int .u16 51), (.int .u16 52), (.int .u16 53), (.int .u16 54), (.int .u16 55), (.int .u16 56), (.int .u16 57), (.int .u16 179), (.int .u16 219), (.int .u16 220), (.int .u16 217), (.int .u16 218), (.int .u16 159)]]) J ⟨⟨_, _, _, _, J, rm0⟩, trivial⟩ J (kc rm1 (kd kr)) ?_
                 obtain rfl := si h
                 exact hk
                ·replace h := cond_f hb18 h
                 refine c_skip (e_blk (e_seq (cr ?_)))
                 refine o1 J (o_buildA (cs := [(.int .u16 0), (.int .u16 0), (.int .u16 0), (.int .u16 0), (.int .u16 0), (.int .u16 0), (.int .u16 0), (.int .u16 0), (.int .u16 0), (.int .u16 0), (.int .u16 0), (.int .u16 0), (.int .u16 0), (.int .u16 0), (.int .u16 0), (.int .u16 0)]) J J J J J ?_)
                 refine o0 (o_st (b := b1) (off := 0) (vs := [(.int .u16 0), (.int .u16 0), (.int .u16 0), (.int .u16 0), (.int .u16 0), (.int .u16 0), (.int .u16 0), (.int .u16 0), (.int .u16 0), (.int .u16 0), (.int .u16 0), (.int .u16 0), (.int .u16 0), (.int .u16 0), (.int .u16 0), (.int .u16 0)]) (cs' := [(.int .u16 0), (.int .u16 0), (.int .u16 0), (.int .u16 0), (.int .u16 0), (.int .u16 0), (.int .u16 0), (.int .u16 0), (.int .u16 0), (.int .u16 0), (.int .u16 0), (.int .u16 0), (.int .u16 0), (.int .u16 0), (.int .u16 0), (.int .u16 0)]) J J rp0 J J J J J J ?_)
                 refine oe (c_ret (e_ret ?_))
                 refine r_endc (B := [[(.int .u16 0), (.int .u16 0), (.int .u16 0), (.int .u16 0), (.int .u16 0), (.int .u16 0), (.int .u16 0), (.int .u16 0), (.int .u16 0), (.int .u16 0), (.int .u16 0), (.int .u16 0), (.int .u16 0), (.int .u16 0), (.int .u16 0), (.int .u16 0)]]) J ⟨⟨_, _, _, _, J, rm0⟩, trivial⟩ J (kc rm1 (kd kr)) ?_
                 obtain rfl := si h
                 exact hk

theorem c_page_others {g : Gw} (X : HP) (p0 : Int) (r : (List Vpage_other) × Bool) (h : m_page_others p0 = some r) : Tri env g 46 (A [(I p0)]) [X] (fun K R => ∀ (i0 : SV), K (.tuple (A [(V i0), (O r.2)])) (X :: slO i0 151 en_Vpage_other r.1 :: R)) := by
 refine tri_of (fn := Tryz.f46) (N := 82) Tryz.func46 J J J ?_
 intro R K hk
 unfold m_page_others at h
 change GC _ none _ [] [(0, (I p0))] (X :: R) g _ _
 refine cr (op J J (op J J (oe ?_)))
 refine c_seq (cr (op J J (oe ?_)))
 refine c_block (cr ?_)
 refine o1 J (o_p (v := (O (p0 == 37))) J ?_)
 refine op J J (oe ?_)
 refine c_cond (b := (p0 == 37)) J (fun hb19 => ?_) (fun hb19 => ?_)
 ·replace h := cond_t hb19 h
  refine cr (op J J (op J J (oe ?_)))
  refine c_ret (e_blk_ret (e_then_ret (e_ret ?_)))
  refine r_add (slO SV.nil 151 en_Vpage_other []) (slO_nil _ _ _) ?_
  refine r_endt J J (kc rm1 (kc rm0 kr)) ?_
  obtain rfl := si h
  exact hk SV.nil
 ·replace h := cond_f hb19 h
  refine cr ?_
  refine o1 J (o_p (v := (O (p0 == 273))) J ?_)
  refine op J J (oe ?_)
  refine c_cond (b := (p0 == 273)) J (fun hb20 => ?_) (fun hb20 => ?_)
  ·replace h := cond_t hb20 h
   refine cr ?_
   refine o1 J (o_build (fs := f_0) (ps := [(0, 1), (1, 1)]) (cs := [(U 67), (.int .u16 123)]) J J J J J ?_)
   refine o1 J (o_build (fs := f_0) (ps := [(0, 1), (1, 1)]) (cs := [(U 74), (.int .u16 196)]) J J J J J ?_)
   refine o1 J (o_build (fs := f_0) (ps := [(0, 1), (1, 1)]) (cs := [(U 79), (.int .u16 33)]) J J J J J ?_)
   refine o1 J (o_build (fs := f_0) (ps := [(0, 1), (1, 1)]) (cs := [(U 89), (.int .u16 126)]) J J J J J ?_)
   refine o1 J (o_build (fs := f_0) (ps := [(0, 1), (1, 1)]) (cs := [(U 90), (.int .u16 220)]) J J J J J ?_)
   refine o1 J (o_build (fs := f_0) (ps := [(0, 1), (1, 1)]) (cs := [(U 95), (.int .u16 94)]) J J J J J ?_)
   refine o1 J (o_build (fs := f_0) (ps := [(0, 1), (1, 1)]) (cs := [(U 99), (.int .u16 91)]) J J J J J ?_)
   refine o1 J (o_build (fs := f_0) (ps := [(0, 1), (1, 1)]) (cs := [(U 106), (.int .u16 246)]) J J J J J ?_)
   refine o1 J (o_build (fs := f_0) (ps := [(0, 1), (1, 1)]) (cs := [(U 124), (.int .u16 167)]) J J J J J ?_)
   refine o1 J (o_build (fs := f_0) (ps := [(0, 1), (1, 1)]) (cs := [(U 161), (.int .u16 223)]) J J J J J ?_)
   refine o1 J (o_build (fs := f_0) (ps := [(0, 1), (1, 1)]) (cs := [(U 176), (.int .u16 162)]) J J J J J ?_)
   refine o1 J (o_build (fs := f_0) (ps := [(0, 1), (1, 1)]) (cs := [(U 181), (.int .u16 64)]) J J J J J ?_)
   refine o1 J (o_build (fs := f_0) (ps := [(0, 1), (1, 1)]) (cs := [(U 186), (.int .u16 172)]) J J J J J ?_)
   refine o1 J (o_build (fs := f_0) (ps := [(0, 1), (1, 1)]) (cs := [(U 187), (.int .u16 124)]) J J J J J ?_)
   refine o1 J (o_build (fs := f_0) (ps := [(0, 1), (1, 1)]) (cs := [(U 192), (.int .u16 228)]) J J J J J ?_)
   refine o1 J (o_build (fs := f_0) (ps := [(0, 1), (1, 1)]) (cs := [(U 204), (.int .u16 166)]) J J J J J ?_)
   refine o1 J (o_build (fs := f_0) (ps := [(0, 1), (1, 1)]) (cs := [(U 208), (.int .u16 252)]) J J J J J ?_)
   refine o1 J (o_build (fs := f_0) (ps := [(0, 1), (1, 1)]) (cs := [(U 220), (.int .u16 125)]) J J J J J ?_)
   refine o1 J (o_build (fs := f_0) (ps := [(0, 1), (1, 1)]) (cs := [(U 224), (.int .u16 214)]) J J J J J ?_)
   refine o1 J (o_build (fs := f_0) (ps := [(0, 1), (1, 1)]) (cs := [(U 236), (.int .u16 92)]) J J J J J ?_)
   refine o1 J (o_build (fs := f_0) (ps := [(0, 1), (1, 1)]) (cs := [(U 252), (.int .u16 93)]) J J J J J ?_)
   refine o1 rfl (o_bs (e := en_Vpage_other) (l := [(⟨67, 123⟩ : Vpage_other), (⟨74, 196⟩ : Vpage_other), (⟨79, 33⟩ : Vpage_other), (⟨89, 126⟩ : Vpage_other), (⟨90, 220⟩ : Vpage_other), (⟨95, 94⟩ : Vpage_other), (⟨99, 91⟩ : Vpage_other), (⟨106, 246⟩ : Vpage_other), (⟨124, 167⟩ : Vpage_other), (⟨161, 223⟩ : Vpage_other), (⟨176, 162⟩ : Vpage_other), (⟨181, 64⟩ : Vpage_other), (⟨186, 172⟩ : Vpage_other), (⟨187, 124⟩ : Vpage_other), (⟨192, 228⟩ : Vpage_other), (⟨204, 166⟩ : Vpage_other), (⟨208, 252⟩ : Vpage_other), (⟨220, 125⟩ : Vpage_other), (⟨224, 214⟩ : Vpage_other), (⟨236, 92⟩ : Vpage_other), (⟨252, 93⟩ : Vpage_other)]) (zs := [(U 0), (.int .u16 0)]) rfl rfl rfl rfl rfl rfl rfl rfl rfl (by kernel_rfl) (fun s21 => ?_))
   refine op J J (op J J (oe (c_ret (e_blk_ret ?_))))
   refine e_then_ret (e_ret ?_)
   refine r_endt J J (kc rm1 (kc rm0 kr)) ?_
   obtain rfl := si h
   exact hk s21
  ·replace h := cond_f hb20 h
   refine cr ?_
   refine o1 J (o_p (v := (O (p0 == 297))) J ?_)
   refine op J J (oe ?_)
   refine c_cond (b := (p0 == 297)) J (fun hb23 => ?_) (fun hb23 => ?_)
   ·replace h := cond_t hb23 h
    refine cr ?_
    refine o1 J (o_build (fs := f_0) (ps := [(0, 1), (1, 1)]) (cs := [(U 68), (.int .u16 64)]) J J J J J ?_)
    refine o1 J (o_build (fs := f_0) (ps := [(0, 1), (1, 1)]) (cs := [(U 72), (.int .u16 92)]) J J J J J ?_)
    refine o1 J (o_build (fs := f_0) (ps := [(0, 1), (1, 1)]) (cs := [(U 74), (.int .u16 176)]) J J J J J ?_)
    refine o1 J (o_build (fs := f_0) (ps := [(0, 1), (1, 1)]) (cs := [(U 79), (.int .u16 33)]) J J J J J ?_)
    refine o1 J (o_build (fs := f_0) (ps := [(0, 1), (1, 1)]) (cs := [(U 81), (.int .u16 123)]) J J J J J ?_)
    refine o1 J (o_build (fs := f_0) (ps := [(0, 1), (1, 1)]) (cs := [(U 84), (.int .u16 125)]) J J J J J ?_)
    refine o1 J (o_build (fs := f_0) (ps := [(0, 1), (1, 1)]) (cs := [(U 90), (.int .u16 167)]) J J J J J ?_)
    refine o1 J (o_build (fs := f_0) (ps := [(0, 1), (1, 1)]) (cs := [(U 95), (.int .u16 94)]) J J J J J ?_)
    refine o1 J (o_build (fs := f_0) (ps := [(0, 1), (1, 1)]) (cs := [(U 106), (.int .u16 249)]) J J J J J ?_)
    refine o1 J (o_build (fs := f_0) (ps := [(0, 1), (1, 1)]) (cs := [(U 121), (.int .u16 181)]) J J J J J ?_)
    refine o1 J (o_build (fs := f_0) (ps := [(0, 1), (1, 1)]) (cs := [(U 123), (.int .u16 163)]) J J J J J ?_)
    refine o1 J (o_build (fs := f_0) (ps := [(0, 1), (1, 1)]) (cs := [(U 124), (.int .u16 224)]) J J J J J ?_)
    refine o1 J (o_build (fs := f_0) (ps := [(0, 1), (1, 1)]) (cs := [(U 144), (.int .u16 91)]) J J J J J ?_)
    refine o1 J (o_build (fs := f_0) (ps := [(0, 1), (1, 1)]) (cs := [(U 160), (.int .u16 96)]) J J J J J ?_)
    refine o1 J (o_build (fs := f_0) (ps := [(0, 1), (1, 1)]) (cs := [(U 161), (.int .u16 168)]) J J J J J ?_)
    refine o1 J (o_build (fs := f_0) (ps := [(0, 1), (1, 1)]) (cs := [(U 176), (.int .u16 162)]) J J J J J ?_)
    refine o1 J (o_build (fs := f_0) (ps := [(0, 1), (1, 1)]) (cs := [(U 177), (.int .u16 35)]) J J J J J ?_)
    refine o1 J (o_build (fs := f_0) (ps := [(0, 1), (1, 1)]) (cs := [(U 181), (.int .u16 93)]) J J J J J ?_)
    refine o1 J (o_build (fs := f_0) (ps := [(0, 1), (1, 1)]) (cs := [(U 186), (.int .u16 172)]) J J J J J ?_)
    refine o1 J (o_build (fs := f_0) (ps := [(0, 1), (1, 1)]) (cs := [(U 187), (.int .u16 124)]) J J J J J ?_)
    refine o1 J (o_build (fs := f_0) (ps := [(0, 1), (1, 1)]) (cs := [(U 189), (.int .u16 126)]) J J J J J ?_)
    refine o1 J (o_build (fs := f_0) (ps := [(0, 1), (1, 1)]) (cs := [(U 192), (.int .u16 233)]) J J J J J ?_)
    refine o1 J (o_build (fs := f_0) (ps := [(0, 1), (1, 1)]) (cs := [(U 208), (.int .u16 232)]) J J J J J ?_)
    refine o1 J (o_build (fs := f_0) (ps := [(0, 1), (1, 1)]) (cs := [(U 221), (.int .u16 166)]) J J J J J ?_)
    refine o1 J (o_build (fs := f_0) (ps := [(0, 1), (1, 1)]) (cs := [(U 224), (.int .u16 231)]) J J J J J ?_)
    refine o1 rfl (o_bs (e := en_Vpage_other) (l := [(⟨68, 64⟩ : Vpage_other), (⟨72, 92⟩ : Vpage_other), (⟨74, 176⟩ : Vpage_other), (⟨79, 33⟩ : Vpage_other), (⟨81, 123⟩ : Vpage_other), (⟨84, 125⟩ : Vpage_other), (⟨90, 167⟩ : Vpage_other), (⟨95, 94⟩ : Vpage_other), (⟨106, 249⟩ : Vpage_other), (⟨121, 181⟩ : Vpage_other), (⟨123, 163⟩ : Vpage_other), (⟨124, 224⟩ : Vpage_other), (⟨144, 91⟩ : Vpage_other), (⟨160, 96⟩ : Vpage_other), (⟨161, 168⟩ : Vpage_other), (⟨176, 162⟩ : Vpage_other), (⟨177, 35⟩ : Vpage_other), (⟨181, 93⟩ : Vpage_other), (⟨186, 172⟩ : Vpage_other), (⟨187, 124⟩ : Vpage_other), (⟨189, 126⟩ : Vpage_other), (⟨192, 233⟩ : Vpage_other), (⟨208, 232⟩ : Vpage_other), (⟨221, 166⟩ : Vpage_other), (⟨224, 231⟩ : Vpage_other)]) (zs := [(U 0), (.int .u16 0)]) rfl rfl rfl rfl rfl rfl rfl rfl rfl (by kernel_rfl) (fun s24 => ?_))
    refine op J J (op J J (oe (c_ret (e_blk_ret ?_))))
    refine e_then_ret (e_ret ?_)
    refine r_endt J J (kc rm1 (kc rm0 kr)) ?_
    obtain rfl := si h
    exact hk s24
   ·replace h := cond_f hb23 h
    refine cr ?_
    refine o1 J (o_p (v := (O (p0 == 500))) J ?_)
    refine op J J (oe ?_)
    refine c_cond (b := (p0 == 500)) J (fun hb26 => ?_) (fun hb26 => ?_)
    ·replace h := cond_t hb26 h
     refine cr ?_
     refine o1 J (o_build (fs := f_0) (ps := [(0, 1), (1, 1)]) (cs := [(U 74), (.int .u16 91)]) J J J J J ?_)
     refine o1 J (o_build (fs := f_0) (ps := [(0, 1), (1, 1)]) (cs := [(U 79), (.int .u16 33)]) J J J J J ?_)
     refine o1 J (o_build (fs := f_0) (ps := [(0, 1), (1, 1)]) (cs := [(U 90), (.int .u16 93)]) J J J J J ?_)
     refine o1 J (o_build (fs := f_0) (ps := [(0, 1), (1, 1)]) (cs := [(U 95), (.int .u16 94)]) J J J J J ?_)
     refine o1 J (o_build (fs := f_0) (ps := [(0, 1), (1, 1)]) (cs := [(U 176), (.int .u16 162)]) J J J J J ?_)
     refine o1 J (o_build (fs := f_0) (ps := [(0, 1), (1, 1)]) (cs := [(U 186), (.int .u16 172)]) J J J J J ?_)
     refine o1 J (o_build (fs := f_0) (ps := [(0, 1), (1, 1)]) (cs := [(U 187), (.int .u16 124)]) J J J J J ?_)
     refine o1 rfl (o_bs (e := en_Vpage_other) (l := [(⟨74, 91⟩ : Vpage_other), (⟨79, 33⟩ : Vpage_other), (⟨90, 93⟩ : Vpage_other), (⟨95, 94⟩ : Vpage_other), (⟨176, 162⟩ : Vpage_other), (⟨186, 172⟩ : Vpage_other), (⟨187, 124⟩ : Vpage_other)]) (zs := [(U 0), (.int .u16 0)]) rfl rfl rfl rfl rfl rfl rfl rfl rfl (by kernel_rfl) (fun s27 => ?_))
     refine op J J (op J J (oe (c_ret (e_blk_ret ?_))))
     refine e_then_ret (e_ret ?_)
     refine r_endt J J (kc rm1 (kc rm0 kr)) ?_
     obtain rfl := si h
     exact hk s27
    ·replace h := cond_f hb26 h
     refine cr ?_
     refine o1 J (o_p (v := (O (p0 == 1047))) J ?_)
     refine op J J (oe ?_)
     refine c_cond (b := (p0 == 1047)) J (fun hb29 => ?_) (fun hb29 => ?_)
     ·replace h := cond_t hb29 h
      refine cr ?_
      refine o1 J (o_build (fs := f_0) (ps := [(0, 1), (1, 1)]) (cs := [(U 95), (.int .u16 94)]) J J J J J ?_)
      refine o1 J (o_build (fs := f_0) (ps := [(0, 1), (1, 1)]) (cs := [(U 173), (.int .u16 91)]) J J J J J ?_)
      refine o1 J (o_build (fs := f_0) (ps := [(0, 1), (1, 1)]) (cs := [(U 176), (.int .u16 172)]) J J J J J ?_)
      refine o1 J (o_build (fs := f_0) (ps := [(0, 1), (1, 1)]) (cs := [(U 186), (.int .u16 221)]) J J J J J ?_)
      refine o1 J (o_build (fs := f_0) (ps := [(0, 1), (1, 1)]) (cs := [(U 187), (.int .u16 168)]) J J J J J ?_)
      refine o1 J (o_build (fs := f_0) (ps := [(0, 1), (1, 1)]) (cs := [(U 189), (.int .u16 93)]) J J J J J ?_)
      refine o1 rfl (o_bs (e := en_Vpage_other) (l := [(⟨95, 94⟩ : Vpage_other), (⟨173, 91⟩ : Vpage_other), (⟨176, 172⟩ : Vpage_other), (⟨186, 221⟩ : Vpage_other), (⟨187, 168⟩ : Vpage_other), (⟨189, 93⟩ : Vpage_other)]) (zs := [(U 0), (.int .u16 0)]) rfl rfl rfl rfl rfl rfl rfl rfl rfl (by kernel_rfl) (fun s30 => ?_))
      refine op J J (op J J (oe (c_ret (e_blk_ret ?_))))
      refine e_then_ret (e_ret ?_)
      refine r_endt J J (kc rm1 (kc rm0 kr)) ?_
      obtain rfl := si h
      exact hk s30
     ·replace h := cond_f hb29 h
      refine cr ?_
      refine o1 J (o_p (v := (O (p0 == 1140))) J ?_)
      refine op J J (oe ?_)
      refine c_cond (b := (p0 == 1140)) J (fun hb32 => ?_) (fun hb32 => ?_)
      ·replace h := cond_t hb32 h
       refine cr ?_
       refine o1 J (o_build (fs := f_0) (ps := [(0, 1), (1, 1)]) (cs := [(U 159), (.int .u16 8364)]) J J J J J ?_)
       refine o1 J (o_bs (e := en_Vpage_other) (l := [(⟨159, 8364⟩ : Vpage_other)]) (zs := [(U 0), (.int .u16 0)]) J J J J J J J J J J (fun s33 => ?_))
       refine op J J (op J J (oe (c_ret (e_blk_ret ?_))))
       refine e_then_ret (e_ret ?_)
       refine r_endt J J (kc rm1 (kc rm0 kr)) ?_
       obtain rfl := si h
       exact hk s33
      ·replace h := cond_f hb32 h
       refine c_skip (e_blk (e_seq (cr (op J J ?_))))
       refine op J J (oe (c_ret (e_ret ?_)))
       refine r_add (slO SV.nil 151 en_Vpage_other []) (slO_nil _ _ _) ?_
       refine r_endt J J (kc rm1 (kc rm0 kr)) ?_
       obtain rfl := si h
       exact hk SV.nil

theorem hasRow : HasBody env.P 168 := ⟨_, Tryz.func168, rfl, rfl⟩
theorem hasOth : HasBody env.P 46 := ⟨_, Tryz.func46, rfl, rfl⟩

def P (b off : Nat) : Value := .pointer (some ⟨b, off, none⟩)
theorem hasB : HasBody env.P 177 := ⟨_, Tryz.func177, rfl, rfl⟩
theorem hasL : HasBody env.P 166 := ⟨_, Tryz.func166, rfl, rfl⟩
theorem hasS : HasBody env.P 173 := ⟨_, Tryz.func173, rfl, rfl⟩
theorem hasIL : HasBody env.P 174 := ⟨_, Tryz.func174, rfl, rfl⟩
theorem hasIU : HasBody env.P 175 := ⟨_, Tryz.func175, rfl, rfl⟩
theorem hasML : HasBody env.P 171 := ⟨_, Tryz.func171, rfl, rfl⟩
theorem hasMU : HasBody env.P 172 := ⟨_, Tryz.func172, rfl, rfl⟩
theorem hasSl : HasBody env.P 167 := ⟨_, Tryz.func167, rfl, rfl⟩
theorem hasDo : HasBody env.P 159 := ⟨_, Tryz.func159, rfl, rfl⟩
theorem hasBd : HasBody env.P 160 := ⟨_, Tryz.func160, rfl, rfl⟩
theorem pk_all : ∀ R : List HP, Pick R R []
 | [] => pn
 | _ :: R => pc (.head _) (pk_all R)
/-! ### the atomic bool -/
theorem c_load {g : Gw} {b off : Nat} {cs : List Value} {e : TypeId} {n : Int} (hc : cs[off]? = some (.int .u32 n)) : Tri env g 166 (A [.pointer (some ⟨b, off, none⟩)]) [blk b (.cells cs.toArray e (0, 0))] (fun K R => K (O (n != 0)) (blk b (.cells cs.toArray e (0, 0)) :: R)) := by
 refine tri_of (fn := Tryz.f166) (N := 8) Tryz.func166 J J J ?_
 intro R K hk
 change GC _ none _ [] [(0, .pointer (some ⟨b, off, none⟩))] (blk b (.cells cs.toArray e (0, 0)) :: R) g _ _
 refine cr (op J J (oe ?_))
 refine cr (op J J (op J J ?_))
 refine o1 J (o_fa (fd := ⟨ "v", 99, 0, false, "", "sync/atomic", 0⟩) J J J J J ?_)
 refine o1 rfl (o_xload (fn := Tryz.f170) (b := b) (off := off) (k := .u32) (n := n) rfl (.head _) hc Tryz.func170 (by kernel_rfl) (by kernel_rfl) (by kernel_rfl) (by kernel_rfl) ?_)
 refine o1 J (o_p (v := .bool (n != 0)) J ?_)
 refine op J J ?_
 refine oe (c_ret (e_ret (r_endt J J (kc (.head _) kr) ?_)))
 exact hk
theorem c_b32 {g : Gw} : Tri env g 177 (A [.bool true]) [] (fun K R => K (.int .u32 1) R) := by
 refine tri_of (fn := Tryz.f177) (N := 4) Tryz.func177 J J J ?_
 intro R K hk
 change GC _ none _ [] [(0, .bool true)] R g _ _
 refine cr (op J J (oe ?_))
 refine c_seq (cr (op J J (oe ?_)))
 refine c_cond_t J J ?_
 refine cr (op J J (oe ?_))
 refine c_ret (e_then_ret (e_ret (r_endt J J kr ?_)))
 exact hk
theorem d_store {g : Gw} {b off : Nat} {cs cs' : List Value} {e : TypeId} {u : Value} (hc : cs[off]? = some u) (hs : cs.set off (.int .u32 1) = cs') : TriD env g 173 (List.toArray [.pointer (some ⟨b, off, none⟩), .bool true]) [blk b (.cells cs.toArray e (0, 0))] (fun R => blk b (.cells cs'.toArray e (0, 0)) :: R) := by
 refine triD_of (fn := Tryz.f173) (N := 10) Tryz.func173 J J J J ?_
 intro R
 change GC _ none _ [] [(0, .pointer (some ⟨b, off, none⟩)), (1, .bool true)] (blk b (.cells cs.toArray e (0, 0)) :: R) g _ _
 refine c_draw (n := 2) (q := [(0, 4, .pointer (some ⟨b, off, none⟩)), (1, 5, .pointer (some ⟨b, off, none⟩)), (2, 6, .pointer (some ⟨b, off, none⟩)), (3, 7, .bool true)]) (pend := [0, 1, 2, 3]) J J J ?_
 refine ⟨⟨fun _ => ⟨J, J, J, .inl ⟨J, (o_p J ⟨J, J⟩)⟩⟩, fun _ => ⟨J, J, J, .inl ⟨J, (o_p J ⟨J, J⟩)⟩⟩, fun _ => ⟨J, J, J, .inl ⟨J, (o_fa (fd := ⟨ "v", 99, 0, false, "", "sync/atomic", 0⟩) J J J J J ⟨J, J⟩)⟩⟩, fun _ => ⟨J, J, J, .inl ⟨J, (o_p J ⟨J, J⟩)⟩⟩, trivial⟩, J, .inr ⟨[4], J, J, ⟨J, .inl J, ?_⟩, trivial⟩⟩
 refine (o_call hasB J c_b32 pn ?_)
 refine ⟨[], [0, 1, 2], J, J, J, J, ?_⟩
 refine ⟨⟨fun _ => ⟨J, J, J, .inl ⟨J, (o_p J ⟨J, J⟩)⟩⟩, fun _ => ⟨J, J, J, .inl ⟨J, (o_p J ⟨J, J⟩)⟩⟩, fun _ => ⟨J, J, J, .inl ⟨J, (o_fa (fd := ⟨ "v", 99, 0, false, "", "sync/atomic", 0⟩) J J J J J ⟨J, J⟩)⟩⟩, (fun h => nomatch h), trivial⟩, J, .inr ⟨[5], J, J, ⟨J, .inl J, ?_⟩, trivial⟩⟩
 refine (o_xstore (fn := Tryz.f176) (b := b) (off := off) (k := .u32) (n := 1) rfl rfl (.head _) hc hs Tryz.func176 (by kernel_rfl) (by kernel_rfl) (by kernel_rfl) (by kernel_rfl) ?_)
 refine ⟨[], [], J, J, J, J, ?_⟩
 refine ⟨⟨(fun h => nomatch h), (fun h => nomatch h), (fun h => nomatch h), (fun h => nomatch h), trivial⟩, J, J, J, ?_⟩
 exact e_fallD J (pc (.head _) (pk_all _))
theorem ldv_c {i : TI} {cs : List Value} {off : Nat} {v : Value} (hi : isA i = false) (hc : cs[off]? = some v) : ldv i cs off = some v := by
 unfold ldv; rw [hi]; exact hc
/-! ### the inner mutex -/
theorem c_ilock {g : Gw} {b off : Nat} {cs cs' : List Value} {e : TypeId} (hc : cs[off]? = some (.int .i32 0)) (hs : cs.set off (.int .i32 1) = cs') : Tri env g 174 (A [P b off]) [blk b (.cells cs.toArray e (0, 0))] (fun K R => K (.tuple #[]) (blk b (.cells cs'.toArray e (0, 0)) :: R)) := by
 have hc' : cs'[off]? = some (.int .i32 1) := by rw [← hs, List.getElem?_set_self (List.getElem?_eq_some_iff.1 hc).1]
 refine tri_of (fn := Tryz.f174) (N := 13) Tryz.func174 J J J ?_
 intro R K hk
 change GC _ none _ [] [(0, P b off)] (blk b (.cells cs.toArray e (0, 0)) :: R) g _ _
 refine cr (o1 rfl (o_xmark0 (fn := Tryz.f178) .disable Tryz.func178 (by kernel_rfl) (by kernel_rfl) (by kernel_rfl) (by kernel_rfl) ?_))
 refine oe ?_
 refine c_seq (cr (op J J (op J J ?_)))
 refine o1 J (o_fa (b := b) (off := off) (fd := ⟨ "state", 21, 0, false, "", "internal/sync", 0⟩) J J J J J ?_)
 refine o1 rfl (o_xcas (fn := Tryz.f179) (b := b) (off := off) (k := .i32) (n := 0) (n' := 1) rfl rfl rfl (.head _) hc hs Tryz.func179 (by kernel_rfl) (by kernel_rfl) (by kernel_rfl) (by kernel_rfl) ?_)
 refine oe (c_cond_t J J (c_seq (c_cond_t J J (c_seq ?_))))
 refine c_region (o1 rfl (o_xmark0 (fn := Tryz.f180) .enable Tryz.func180 (by kernel_rfl) (by kernel_rfl) (by kernel_rfl) (by kernel_rfl) ?_))
 refine oe (c_region (op J J ?_))
 refine o1 J (o_unsafe (b := b) (off := off) (v := .int .i32 1) J J J J J J J (.head _) hc' ?_)
 refine o1 rfl (o_xmark1 (fn := Tryz.f181) (a := ⟨b, off, none⟩) .acquire rfl Tryz.func181 (by kernel_rfl) (by kernel_rfl) (by kernel_rfl) (by kernel_rfl) ?_)
 refine oe (c_ret (e_then_ret (e_ret (r_end (rs := []) (vs := []) J J ?_))))
 exact hk
theorem c_mlock {g : Gw} {b off : Nat} {cs cs' : List Value} {e : TypeId} (hc : cs[off]? = some (.int .i32 0)) (hs : cs.set off (.int .i32 1) = cs') : Tri env g 171 (A [P b off]) [blk b (.cells cs.toArray e (0, 0))] (fun K R => K (.tuple #[]) (blk b (.cells cs'.toArray e (0, 0)) :: R)) := by
 refine tri_of (fn := Tryz.f171) (N := 6) Tryz.func171 J J J ?_
 intro R K hk
 change GC _ none _ [] [(0, P b off)] (blk b (.cells cs.toArray e (0, 0)) :: R) g _ _
 refine c_region (op J J (op J J ?_))
 refine o1 J (o_fa (b := b) (off := off) (fd := ⟨ "mu", 103, 0, false, "", "sync", 0⟩) J J J J J ?_)
 refine o1 J (o_call (vs := [P b off]) hasIL J (c_ilock hc hs) (pc (.head _) pn) ?_)
 exact o_end (e_fall (r_end (rs := []) (vs := []) J J hk))
theorem c_iunl {g : Gw} {b off : Nat} {cs cs' : List Value} {e : TypeId} (hc : cs[off]? = some (.int .i32 1)) (hs : cs.set off (.int .i32 0) = cs') : Tri env g 175 (A [P b off]) [blk b (.cells cs.toArray e (0, 0))] (fun K R => K (.tuple #[]) (blk b (.cells cs'.toArray e (0, 0)) :: R)) := by
 refine tri_of (fn := Tryz.f175) (N := 21) Tryz.func175 J J J ?_
 intro R K hk
 change GC _ none _ [] [(0, P b off)] (blk b (.cells cs.toArray e (0, 0)) :: R) g _ _
 refine c_seq (c_cond_t J J (cr (op J J (op J J ?_))))
 refine o1 J (o_fa (b := b) (off := off) (fd := ⟨ "state", 21, 0, false, "", "internal/sync", 0⟩) J J J J J ?_)
 refine o1 J (o_ld (b := b) (off := off) (v := .int .i32 1) J (.head _) J (ldv_c J hc) ?_)
 refine oe (cr (op J J ?_))
 refine o1 J (o_unsafe (b := b) (off := off) (v := .int .i32 1) J J J J J J J (.head _) hc ?_)
 refine o1 rfl (o_xmark1 (fn := Tryz.f183) (a := ⟨b, off, none⟩) .releaseMerge rfl Tryz.func183 (by kernel_rfl) (by kernel_rfl) (by kernel_rfl) (by kernel_rfl) ?_)
 refine oe (c_region (o1 rfl (o_xmark0 (fn := Tryz.f178) .disable Tryz.func178 (by kernel_rfl) (by kernel_rfl) (by kernel_rfl) (by kernel_rfl) ?_)))
 refine oe (cr (op J J (op J J ?_)))
 refine o1 J (o_fa (b := b) (off := off) (fd := ⟨ "state", 21, 0, false, "", "internal/sync", 0⟩) J J J J J ?_)
 refine o1 rfl (o_xadd (fn := Tryz.f184) (b := b) (off := off) (k := .i32) (n := 1) (n' := -1) (q := 0) rfl rfl (.head _) hc hs Tryz.func184 (by kernel_rfl) (by kernel_rfl) (by kernel_rfl) (by kernel_rfl) (fun _ => rfl) ?_)
 refine op J J ?_
 refine oe (c_seq (cr (op J J (o1 J (o_p (v := .bool false) J ?_)))))
 refine oe (c_cond_f J J (c_skip (e_seq ?_)))
 refine c_region (o1 rfl (o_xmark0 (fn := Tryz.f180) .enable Tryz.func180 (by kernel_rfl) (by kernel_rfl) (by kernel_rfl) (by kernel_rfl) ?_))
 refine o_end (e_fall (r_end (rs := []) (vs := []) J J ?_))
 exact hk
theorem d_munl {g : Gw} {b off : Nat} {cs cs' : List Value} {e : TypeId} (hc : cs[off]? = some (.int .i32 1)) (hs : cs.set off (.int .i32 0) = cs') : TriD env g 172 (List.toArray [P b off]) [blk b (.cells cs.toArray e (0, 0))] (fun R => blk b (.cells cs'.toArray e (0, 0)) :: R) := by
 refine triD_of (fn := Tryz.f172) (N := 6) Tryz.func172 J J J J ?_
 intro R
 change GC _ none _ [] [(0, P b off)] (blk b (.cells cs.toArray e (0, 0)) :: R) g _ _
 refine c_region (op J J (op J J ?_))
 refine o1 J (o_fa (b := b) (off := off) (fd := ⟨ "mu", 103, 0, false, "", "sync", 0⟩) J J J J J ?_)
 refine o1 J (o_call (vs := [P b off]) hasIU J (c_iunl hc hs) (pc (.head _) pn) ?_)
 exact o_end (e_fallD J (pc (.head _) (pk_all _)))
/-! ### a Once's first run -/
theorem c_slow {g : Gw} {b off f : Nat} {e : TypeId} {cap : List Value} {cs cs1 : List Value} {F D U : Nat → List Value} {L : Nat → List HP} {v : Value} (hf : HasBody env.P f) (hd : cs[off]? = some (.int .u32 0)) (hm : cs[off + 1]? = some (.int .i32 0)) (h1 : cs.set (off + 1) (.int .i32 1) = cs1) (h1d : cs1[off]? = some (.int .u32 0))
  (c : Tri env g f cap.toArray [blk b (.cells cs1.toArray e (0, 0))] (fun K R => ∀ m, K v (blk b (.cells (F m).toArray e (0, 0)) :: (L m ++ R)))) (hF : ∀ m, ∃ u, (F m)[off]? = some u) (hD : ∀ m, (F m).set off (.int .u32 1) = D m) (hDs : ∀ m, (D m)[off + 1]? = some (.int .i32 1)) (hU : ∀ m, (D m).set (off + 1) (.int .i32 0) = U m) :
  Tri env g 167 (List.toArray [P b off, .func (.func f) cap.toArray #[]]) [blk b (.cells cs.toArray e (0, 0))] (fun K R => ∀ m, K (.tuple #[]) (blk b (.cells (U m).toArray e (0, 0)) :: (L m ++ R))) := by
 refine tri_of (fn := Tryz.f167) (N := 21) Tryz.func167 J J J ?_
 intro R K hk
 change GC _ none _ [] [(0, P b off), (1, .func (.func f) cap.toArray #[])] (blk b (.cells cs.toArray e (0, 0)) :: R) g _ _
 refine cr (op J J (op J J ?_))
 refine o1 J (o_fa (b := b) (off := off) (fd := ⟨ "m", 105, 1, false, "", "sync", 4⟩) J J J J J ?_)
 refine o1 J (o_call (vs := [P b (off + 1)]) hasML J (c_mlock hm h1) (pc (.head _) pn) ?_)
 refine oe (cr (op J J (op J J ?_)))
 refine o1 J (o_fa (b := b) (off := off) (fd := ⟨ "m", 105, 1, false, "", "sync", 4⟩) J J J J J ?_)
 refine o_defer (vs := [P b (off + 1)]) J ?_
 refine oe (cr (op J J (op J J ?_)))
 refine o1 J (o_fa (b := b) (off := off) (fd := ⟨ "done", 101, 0, false, "", "sync", 0⟩) J J J J J ?_)
 refine o1 J (o_call (vs := [P b off]) hasL J (c_load h1d) (pc (.head _) pn) ?_)
 refine o1 J (o_p (v := .bool true) J ?_)
 refine oe (c_cond_t J J (cr (op J J (op J J ?_))))
 refine o1 J (o_fa (b := b) (off := off) (fd := ⟨ "done", 101, 0, false, "", "sync", 0⟩) J J J J J ?_)
 refine o_defer (vs := [P b off, .bool true]) J ?_
 refine oe (c_region (op J J ?_))
 refine o1 rfl (o_callm (vs := []) (cap := cap) hf rfl rfl (by rw [List.append_nil]; exact c) (pc (.head _) pn) ?_)
 intro m
 obtain ⟨u, hu⟩ := hF m
 refine o_end (e_fall (r_defer hasS (d_store hu (hD m)) (pc (.head _) pn) (r_defer hasMU (d_munl (hDs m) (hU m)) (pc (.head _) pn) (r_end (rs := []) (vs := []) J J ?_))))
 exact hk m
theorem c_do {g : Gw} {b off f : Nat} {e : TypeId} {cap : List Value} {cs cs1 : List Value} {F D U : Nat → List Value} {L : Nat → List HP} {v : Value} (hf : HasBody env.P f) (hd : cs[off]? = some (.int .u32 0)) (hm : cs[off + 1]? = some (.int .i32 0)) (h1 : cs.set (off + 1) (.int .i32 1) = cs1) (h1d : cs1[off]? = some (.int .u32 0))
  (c : Tri env g f cap.toArray [blk b (.cells cs1.toArray e (0, 0))] (fun K R => ∀ m, K v (blk b (.cells (F m).toArray e (0, 0)) :: (L m ++ R)))) (hF : ∀ m, ∃ u, (F m)[off]? = some u) (hD : ∀ m, (F m).set off (.int .u32 1) = D m) (hDs : ∀ m, (D m)[off + 1]? = some (.int .i32 1)) (hU : ∀ m, (D m).set (off + 1) (.int .i32 0) = U m) :
  Tri env g 159 (List.toArray [P b off, .func (.func f) cap.toArray #[]]) [blk b (.cells cs.toArray e (0, 0))] (fun K R => ∀ m, K (.tuple #[]) (blk b (.cells (U m).toArray e (0, 0)) :: (L m ++ R))) := by
 refine tri_of (fn := Tryz.f159) (N := 12) Tryz.func159 J J J ?_
 intro R K hk
 change GC _ none _ [] [(0, P b off), (1, .func (.func f) cap.toArray #[])] (blk b (.cells cs.toArray e (0, 0)) :: R) g _ _
 refine cr (op J J (op J J ?_))
 refine o1 J (o_fa (b := b) (off := off) (fd := ⟨ "done", 101, 0, false, "", "sync", 0⟩) J J J J J ?_)
 refine o1 J (o_call (vs := [P b off]) hasL J (c_load hd) (pc (.head _) pn) ?_)
 refine o1 J (o_p (v := .bool true) J ?_)
 refine oe (c_cond_t J J (c_region (op J J (op J J ?_))))
 refine o1 J (o_call (vs := [P b off, .func (.func f) cap.toArray #[]]) hasSl J (c_slow hf hd hm h1 h1d c hF hD hDs hU) (pc (.head _) pn) ?_)
 intro m
 exact o_end (e_fall (r_end (rs := []) (vs := []) J J (hk m)))
/-- a Once that has run -/
theorem c_done {g : Gw} {b off : Nat} {e : TypeId} {fv : Value} {cs : List Value} (hd : cs[off]? = some (.int .u32 1)) :
  Tri env g 159 (List.toArray [P b off, fv]) [blk b (.cells cs.toArray e (0, 0))] (fun K R => K (.tuple #[]) (blk b (.cells cs.toArray e (0, 0)) :: R)) := by
 refine tri_of (fn := Tryz.f159) (N := 12) Tryz.func159 J J J ?_
 intro R K hk
 change GC _ none _ [] [(0, P b off), (1, fv)] (blk b (.cells cs.toArray e (0, 0)) :: R) g _ _
 refine cr (op J J (op J J ?_))
 refine o1 J (o_fa (b := b) (off := off) (fd := ⟨ "done", 101, 0, false, "", "sync", 0⟩) J J J J J ?_)
 refine o1 J (o_call (vs := [P b off]) hasL J (c_load hd) (pc (.head _) pn) ?_)
 refine o1 J (o_p (v := .bool false) J ?_)
 refine oe (c_cond_f J J (c_skip ?_))
 exact e_fall (r_end (rs := []) (vs := []) J J hk)
/-! ### the tables -/
theorem row_some : ∀ d : Nat, d < 16 → ∃ r, m_page_row (d : Int) = some r := fun d h => by
 have : ∀ d : Nat, d < 16 → (m_page_row ((d : Nat) : Int)).isSome = true := by decide
 exact Option.isSome_iff_exists.1 (this d h)
abbrev pgc (n d st se : Int) (l : List Int) (mv : Value) : List Value := [.int .i64 n, .int .u32 d, .int .i32 st, .int .u32 se] ++ l.map (Value.int .i32) ++ [mv]
theorem set_last {n d st se : Int} {l : List Int} {x y : Value} (hl : l.length = 256) : putSeg (pgc n d st se l x) 260 [y] = pgc n d st se l y := by
 simp only [putSeg]
 rw [List.set_append_right _ _ (by simp [hl])]
 simp [hl]
theorem get_last {n d st se : Int} {l : List Int} {x : Value} (hl : l.length = 256) : (pgc n d st se l x)[260]? = some x := by
 rw [List.getElem?_append_right (by simp [hl])]
 simp [hl]
theorem c_build {g : Gw} {b : Nat} {n d0 st se : Int} {os : List Vpage_other} {ok : Bool} (ho : m_page_others n = some (os, ok)) (hos : ∀ o ∈ os, 0 ≤ o.code ∧ o.code < 256) (hlo : os.length < 1000) :
  Tri env g 160 (List.toArray [P b 0]) [blk b (.cells (pgc n d0 st se zeros (.map none)).toArray 111 (0, 0))] (fun K R => ∀ m, K (.tuple #[]) (blk b (.cells (pgc n d0 st se (sgn os) (.map (some m))).toArray 111 (0, 0)) :: ([mpo .i32 m (mp 0 (sgn os) [])] ++ R))) := by
 refine tri_of (fn := Tryz.f160) (N := 76) Tryz.func160 J J J ?_
 intro R K hk
 change GC _ none _ [] [(0, P b 0)] (blk b (.cells (pgc n d0 st se zeros (.map none)).toArray 111 (0, 0)) :: R) g _ _
 refine c_seq (cr (op J J ?_))
 refine oe (c_block (c_loop ?_))
 refine l_sub (T' := [(0, P b 0), (11, .int .i64 ((0 : Nat) : Int))]) (sc J (sc J sn)) ?_
 refine l_up (X := List Int) 16 (fun d l => l.length = 256 ∧ rowsFrom (16 - d) d l = sgn0) (fun d _ => [(0, P b 0), (11, .int .i64 (d : Int))]) (fun _ l => blk b (.cells (pgc n d0 st se l (.map none)).toArray 111 (0, 0)) :: R) ?_ ?_ 0 zeros (by omega) ⟨rfl, rfl⟩
 ·intro l hl
  obtain ⟨hl, hl2⟩ := hl
  refine l_round (cr (op J J ?_))
  refine oe (c_seq (c_cond_f rfl (by decide) (c_exit (e_then_exit (e_then_exit (e_blk_exit (e_seq ?_)))))))
  obtain rfl : l = sgn0 := hl2
  refine cr (op J J (op J J ?_))
  refine o1 J (o_fa (b := b) (off := 0) (fd := ⟨ "number", 3, 0, false, "", "vitrine/page", 0⟩) J J J J J ?_)
  refine o1 J (o_ld (b := b) (off := 0) (v := .int .i64 n) J (.head _) J J ?_)
  refine o1 J (o_call (vs := [.int .i64 n]) hasOth J (c_page_others _ n (os, ok) ho) (pc (.head _) pn) ?_)
  intro sv
  refine op J J (op J J (op J J (op J J (op J J ?_))))
  refine oe (c_seq (cr (op J J ?_)))
  refine o1 J (o_len (s := sv) (l := os) (e := en_Vpage_other) J J J rm1 (rd_own _ _ _ _) ?_)
  refine op J J ?_
  refine oe (c_block (c_loop ?_))
  refine l_sub (T' := [(0, P b 0), (40, sv.val), (41, .int .i64 os.length), (42, .int .i64 ((0 : Nat) : Int))]) (sc J (sc J (sc J (sc J sn)))) ?_
  refine l_up (X := List Int) os.length (fun i l => l.length = 256 ∧ othS l (os.drop i) = sgn os) (fun i _ => [(0, P b 0), (40, sv.val), (41, .int .i64 os.length), (42, .int .i64 (i : Int))]) (fun _ l => blk b (.cells (pgc n d0 st se l (.map none)).toArray 111 (0, 0)) :: slO sv 151 en_Vpage_other os :: R) ?_ ?_ 0 sgn0 (by omega) ⟨hl, rfl⟩
  ·intro l hl
   obtain ⟨hl, hl2⟩ := hl
   rw [List.drop_length] at hl2
   obtain rfl : l = sgn os := hl2
   refine l_round (cr (op J J ?_))
   refine oe (c_seq (c_cond_f rfl (decide_eq_false (by omega)) (c_exit (e_then_exit (e_then_exit (e_blk_exit (e_seq ?_)))))))
   refine c_keep (kc rm0 (kd kr)) ?_
   refine cr (op J J ?_)
   refine o1 J (o_mkmap (n := 0) (kk := .i32) J J J (fun m => ?_))
   refine op J J ?_
   refine o1 J (o_fa (b := b) (off := 0) (fd := ⟨ "codes", 109, 260, false, "", "vitrine/page", 1048⟩) J J J J J ?_)
   refine o0 (o_st (b := b) (off := 260) (vs := [.map (some m)]) (cs' := pgc n d0 st se (sgn os) (.map (some m))) rfl rfl rp1 rfl rfl rfl (Nat.ble_eq_true_of_le (by simp [hl])) rfl (set_last hl) ?_)
   refine oe (cr (op J J (op J J ?_)))
   refine o1 J (o_fa (b := b) (off := 0) (fd := ⟨ "signs", 108, 4, false, "", "vitrine/page", 20⟩) J J J J J ?_)
   refine o1 rfl (o_ld (b := b) (off := 4) (v := .agg ((sgn os).map (Value.int .i32)).toArray) rfl rm1 rfl (ldv_Arr (c1 := [.int .i64 n, .int .u32 d0, .int .i32 st, .int .u32 se]) (c2 := [.map (some m)]) rfl (seg_A _ (by simp [hl]))) ?_)
   refine op J J ?_
   refine oe (c_block (c_loop ?_))
   refine l_sub (T' := [(0, P b 0), (63, .agg ((sgn os).map (Value.int .i32)).toArray), (64, .int .i64 ((0 : Nat) : Int))]) (sc J (sc J (sc J sn))) ?_
   refine l_pickr (p := [blk b (.cells (pgc n d0 st se (sgn os) (.map (some m))).toArray 111 (0, 0)), mpo .i32 m []]) (pc rm1 (pc rm0 pn)) ?_
   refine l_up (X := List (Int × Value)) 256 (fun c m' => mp c ((sgn os).drop c) m' = mp 0 (sgn os) []) (fun c _ => [(0, P b 0), (63, .agg ((sgn os).map (Value.int .i32)).toArray), (64, .int .i64 (c : Int))]) (fun _ m' => blk b (.cells (pgc n d0 st se (sgn os) (.map (some m))).toArray 111 (0, 0)) :: mpo .i32 m m' :: R) ?_ ?_ 0 [] (by omega) rfl
   ·intro m' hm
    rw [List.drop_eq_nil_of_le (by omega), mp] at hm
    subst hm
    refine l_round (cr (op J J ?_))
    refine oe (c_seq (c_cond_f rfl (by decide) (c_exit (e_then_exit (e_then_exit (e_blk_exit (e_fall (r_end (rs := []) (vs := []) rfl rfl ?_))))))))
    exact hk m
   ·intro c m' hc hm ih
    have hc' : c < (sgn os).length := by omega
    rw [List.drop_eq_getElem_cons hc', mp] at hm
    refine l_round (cr (op J J ?_))
    refine oe (c_seq (c_cond_t rfl (decide_eq_true (by omega)) (c_skip (e_seq ?_))))
    refine c_seq (c_block (cr (op J J ?_)))
    refine o1 J (o_ixI (l := sgn os) (kk := .i32) (n := c) J J J J hl.symm J J J hc' ?_)
    refine op J J (op J J ?_)
    refine oe (c_region (op J J (op J J ?_)))
    refine o1 J (o_fa (b := b) (off := 0) (fd := ⟨ "codes", 109, 260, false, "", "vitrine/page", 1048⟩) J J J J J ?_)
    refine o1 J (o_ld (b := b) (off := 260) (v := .map (some m)) J rm0 J (ldv_c J (get_last hl)) ?_)
    refine op J J (op J J (op J J ?_))
    refine o0 (o_mapup (b := m) (k := (sgn os)[c]) (l := m') J J J J J J J rp1 ?_)
    refine o_end (e_blk (e_seq ?_))
    refine c_region (o1 rfl (o_p (v := .int .i64 ((c : Int) + 1)) (congrArg (fun z => some (Value.int .i64 z)) (wrap_i64 (n := (c : Int) + 1) (by omega) (by omega))) (o1 rfl (o_p rfl ?_))))
    exact o_end (e_loop (l_sub (T' := [(0, P b 0), (63, .agg ((sgn os).map (Value.int .i32)).toArray), (64, .int .i64 ((c + 1 : Nat) : Int))]) (sc J (sc J (sc J sn))) (ih _ hm)))
  ·intro i l hi hl' ih
   obtain ⟨h1, h2⟩ := hl'
   obtain ⟨k, si, hrd, hk2⟩ : ∃ (k : Nat) (si : Int), os[i] = (⟨(k : Int), si⟩ : Vpage_other) ∧ k < 256 := by
    have := hos os[i] (List.getElem_mem hi)
    exact ⟨os[i].code.toNat, os[i].sign, by rw [Int.toNat_of_nonneg this.1], by omega⟩
   have hrd' : rd os (i : Int) = (⟨(k : Int), si⟩ : Vpage_other) := by
    have := rd_eq (l := os) (i := (i : Int)) ⟨by omega, by omega⟩
    rw [Int.toNat_natCast, List.getElem?_eq_getElem hi] at this
    rw [← hrd]; exact (Option.some.inj this).symm
   rw [List.drop_eq_getElem_cons hi, othS, hrd] at h2
   refine l_round (cr (op J J ?_))
   refine oe (c_seq (c_cond_t rfl (decide_eq_true (by omega)) (c_skip (e_seq ?_))))
   refine c_seq (c_block (cr ?_))
   refine o1 rfl (o_ix (s := sv) (n := (i : Int)) (e := en_Vpage_other) rfl rfl rfl rfl rfl rfl rm1 (rd_own _ _ _ _) ⟨by omega, by omega⟩ ?_)
   refine o1 rfl (o_ldE (s := sv) (e := en_Vpage_other) (n := (i : Int)) (f := 0) (v := .agg (A [.int .u8 (k : Int), .int .u16 si])) rfl rm1 (rd_own _ _ _ _) ⟨by omega, by omega⟩ rfl (by rw [hrd']; rfl) ?_)
   refine o1 J (o_alloc (cs := [.int .u8 0, .int .u16 0]) J J (fun b1 => ?_))
   refine o0 (o_st (b := b1) (off := 0) (vs := [.int .u8 (k : Int), .int .u16 si]) (cs' := [.int .u8 (k : Int), .int .u16 si]) J J rp0 J J J J J J ?_)
   refine oe ?_
   refine c_draw (n := 1) (q := [(0, 46, P b 0), (1, 47, P b1 0), (2, 48, .int .u8 (k : Int)), (3, 49, P b1 1), (4, 50, .int .u16 si), (5, 51, .int .i32 (IntKind.wrap .i32 si)), (6, 52, P b 0), (7, 53, P b 4), (8, 54, P b (4 + k))]) (pend := [0, 1, 2, 3, 4, 5, 6, 7, 8]) J J J ?_
   refine ⟨⟨fun _ => ⟨rfl, rfl, rfl, .inl ⟨rfl, (o_p rfl ⟨rfl, rfl⟩)⟩⟩, fun _ => ⟨rfl, rfl, rfl, .inl ⟨rfl, (o_fa (b := b1) (off := 0) (fd := ⟨ "code", 5, 0, false, "", "vitrine/page", 0⟩) rfl rfl rfl rfl rfl ⟨rfl, rfl⟩)⟩⟩, fun _ => ⟨rfl, rfl, rfl, .inl ⟨rfl, (o_ld (b := b1) (off := 0) (v := .int .u8 (k : Int)) rfl rm0 rfl rfl ⟨rfl, rfl⟩)⟩⟩, fun _ => ⟨rfl, rfl, rfl, .inl ⟨rfl, (o_fa (b := b1) (off := 0) (fd := ⟨ "sign", 149, 1, false, "", "vitrine/page", 2⟩) rfl rfl rfl rfl rfl ⟨rfl, rfl⟩)⟩⟩, fun _ => ⟨rfl, rfl, rfl, .inl ⟨rfl, (o_ld (b := b1) (off := 1) (v := .int .u16 si) rfl rm0 rfl rfl ⟨rfl, rfl⟩)⟩⟩, fun _ => ⟨rfl, rfl, rfl, .inl ⟨rfl, (o_p rfl ⟨rfl, rfl⟩)⟩⟩, fun _ => ⟨rfl, rfl, rfl, .inl ⟨rfl, (o_p rfl ⟨rfl, rfl⟩)⟩⟩, fun _ => ⟨rfl, rfl, rfl, .inl ⟨rfl, (o_fa (b := b) (off := 0) (fd := ⟨ "signs", 108, 4, false, "", "vitrine/page", 20⟩) rfl rfl rfl rfl rfl ⟨rfl, rfl⟩)⟩⟩, fun _ => ⟨rfl, rfl, rfl, .inl ⟨rfl, (o_ixP (b := b) (off := 4) (n := k) rfl rfl rfl rfl rfl rfl (by omega) ⟨rfl, rfl⟩)⟩⟩, trivial⟩, rfl, .inr ⟨[9], rfl, rfl, ⟨rfl, .inl rfl, ?_⟩, trivial⟩⟩
   refine (o_stA1 (b := b) (off := 4) (n := k) (l := l) (kk := .i32) (m := IntKind.wrap .i32 si) rfl rfl rfl (by omega) rp1 rfl rfl ?_)
   refine ⟨[], [], J, J, ?_⟩
   refine ⟨⟨(fun h => nomatch h), (fun h => nomatch h), (fun h => nomatch h), (fun h => nomatch h), (fun h => nomatch h), (fun h => nomatch h), (fun h => nomatch h), (fun h => nomatch h), (fun h => nomatch h), trivial⟩, J, J, J, ?_⟩
   refine e_blk (e_seq ?_)
   refine c_region (o1 rfl (o_p (v := .int .i64 ((i : Int) + 1)) (congrArg (fun z => some (Value.int .i64 z)) (wrap_i64 (n := (i : Int) + 1) (by omega) (by omega))) (o1 rfl (o_p rfl ?_))))
   exact o_end (e_loop (l_sub (T' := [(0, P b 0), (40, sv.val), (41, .int .i64 os.length), (42, .int .i64 ((i + 1 : Nat) : Int))]) (sc rfl (sc rfl (sc rfl (sc rfl sn)))) (l_keep (kd kr) (ih _ ⟨by rw [List.length_set]; exact h1, h2⟩))))
 ·intro d l hd hl ih
  obtain ⟨hl, hl2⟩ := hl
  refine l_round (cr (op J J ?_))
  refine oe (c_seq (c_cond_t rfl (decide_eq_true (by omega)) (c_skip (e_seq ?_))))
  refine c_seq (c_block (cr (op J J (op J J ?_))))
  refine oe (cr (op J J ?_))
  obtain ⟨r, hr⟩ := row_some d hd
  have hL : rowL d = [r.1, r.2.1, r.2.2.1, r.2.2.2.1, r.2.2.2.2.1, r.2.2.2.2.2.1, r.2.2.2.2.2.2.1, r.2.2.2.2.2.2.2.1, r.2.2.2.2.2.2.2.2.1, r.2.2.2.2.2.2.2.2.2.1, r.2.2.2.2.2.2.2.2.2.2.1, r.2.2.2.2.2.2.2.2.2.2.2.1, r.2.2.2.2.2.2.2.2.2.2.2.2.1, r.2.2.2.2.2.2.2.2.2.2.2.2.2.1, r.2.2.2.2.2.2.2.2.2.2.2.2.2.2.1, r.2.2.2.2.2.2.2.2.2.2.2.2.2.2.2] := by unfold rowL; rw [hr]
  have hlen : (rowL d).length = 16 := by rw [hL]; rfl
  refine o1 J (o_call (vs := [.int .i64 (d : Int)]) hasRow J (c_page_row _ (d : Int) r hr) (pc (.head _) pn) ?_)
  refine op J J ?_
  refine oe (c_block (c_loop ?_))
  refine l_sub (T' := [(0, P b 0), (2, .int .i64 (d : Int)), (11, .int .i64 (d : Int)), (15, .agg ((rowL d).map (Value.int .u16)).toArray), (16, .int .i64 ((0 : Nat) : Int))]) (sc rfl (sc rfl (sc rfl (sc (by rw [hL]; rfl) (sc rfl sn))))) ?_
  refine l_up (X := List Int) 16 (fun i l' => l'.length = 256 ∧ wr l' (16 * d + i) ((rowL d).drop i) = wr l (16 * d) (rowL d)) (fun i _ => [(0, P b 0), (2, .int .i64 (d : Int)), (11, .int .i64 (d : Int)), (15, .agg ((rowL d).map (Value.int .u16)).toArray), (16, .int .i64 (i : Int))]) (fun _ l' => blk b (.cells (pgc n d0 st se l' (.map none)).toArray 111 (0, 0)) :: R) ?_ ?_ 0 l (by omega) ⟨hl, rfl⟩
  ·intro l' hl'
   obtain ⟨h1, h2⟩ := hl'
   rw [List.drop_eq_nil_of_le (by omega), wr] at h2
   refine l_round (cr (op J J ?_))
   refine oe (c_seq (c_cond_f rfl (by decide) (c_exit (e_then_exit (e_then_exit (e_blk_exit (e_blk (e_seq ?_))))))))
   refine c_region (o1 rfl (o_p (v := .int .i64 ((d : Int) + 1)) (congrArg (fun z => some (Value.int .i64 z)) (wrap_i64 (n := (d : Int) + 1) (by omega) (by omega))) (o1 rfl (o_p rfl ?_))))
   refine o_end (e_loop (l_sub (T' := [(0, P b 0), (11, .int .i64 ((d + 1 : Nat) : Int))]) (sc J (sc J sn)) (ih l' ⟨h1, ?_⟩)))
   rw [show 16 - d = (16 - (d + 1)) + 1 by omega, rowsFrom, ← h2] at hl2
   exact hl2
  ·intro i l' hi hl' ih2
   obtain ⟨h1, h2⟩ := hl'
   have hi' : i < (rowL d).length := by omega
   rw [List.drop_eq_getElem_cons hi', wr] at h2
   refine l_round (cr (op J J ?_))
   refine oe (c_seq (c_cond_t rfl (decide_eq_true (by omega)) (c_skip (e_seq ?_))))
   refine c_seq (c_block (cr (op J J ?_)))
   refine o1 J (o_ixI (l := rowL d) (kk := .u16) (n := i) J J J J hlen.symm J J J hi' ?_)
   refine op J J (op J J ?_)
   refine oe (c_region (op J J (op J J ?_)))
   refine o1 rfl (o_p (v := .int .i64 (16 * (d : Int))) (congrArg (fun z => some (Value.int .i64 z)) (wrap_i64 (n := 16 * (d : Int)) (by omega) (by omega))) ?_)
   refine op J J ?_
   refine o1 rfl (o_p (v := .int .i64 ((16 * d + i : Nat) : Int)) (congrArg (fun z => some (Value.int .i64 z)) ((wrap_i64 (n := 16 * (d : Int) + (i : Int)) (by omega) (by omega)).trans (by omega))) ?_)
   refine op J J (op J J (op J J ?_))
   refine o1 J (o_fa (b := b) (off := 0) (fd := ⟨ "signs", 108, 4, false, "", "vitrine/page", 20⟩) J J J J J ?_)
   refine o1 rfl (o_ixP (b := b) (off := 4) (n := 16 * d + i) rfl rfl rfl rfl rfl rfl (by omega) ?_)
   refine o0 (o_stA1 (b := b) (off := 4) (n := 16 * d + i) (l := l') (kk := .i32) (m := IntKind.wrap .i32 (rowL d)[i]) rfl rfl rfl (by omega) rp0 rfl rfl ?_)
   refine o_end (e_blk (e_seq ?_))
   refine c_region (o1 rfl (o_p (v := .int .i64 ((i : Int) + 1)) (congrArg (fun z => some (Value.int .i64 z)) (wrap_i64 (n := (i : Int) + 1) (by omega) (by omega))) (o1 rfl (o_p rfl ?_))))
   refine o_end (e_loop (l_sub (T' := [(0, P b 0), (2, .int .i64 (d : Int)), (11, .int .i64 (d : Int)), (15, .agg ((rowL d).map (Value.int .u16)).toArray), (16, .int .i64 ((i + 1 : Nat) : Int))]) (sc J (sc J (sc J (sc J (sc J sn))))) (ih2 _ ⟨?_, h2⟩)))
   rw [List.length_set]; exact h1
/-! ### built -/
theorem c_built0 {g : Gw} {b : Nat} {n : Int} {os : List Vpage_other} {ok : Bool} (ho : m_page_others n = some (os, ok)) (hos : ∀ o ∈ os, 0 ≤ o.code ∧ o.code < 256) (hlo : os.length < 1000) :
  Tri env g 138 (List.toArray [P b 0]) [blk b (.cells (pgc n 0 0 0 zeros (.map none)).toArray 111 (0, 0))] (fun K R => ∀ m, K (P b 0) (blk b (.cells (pgc n 1 0 0 (sgn os) (.map (some m))).toArray 111 (0, 0)) :: ([mpo .i32 m (mp 0 (sgn os) [])] ++ R))) := by
 refine tri_of (fn := Tryz.f138) (N := 10) Tryz.func138 J J J ?_
 intro R K hk
 change GC _ none _ [] [(0, P b 0)] (blk b (.cells (pgc n 0 0 0 zeros (.map none)).toArray 111 (0, 0)) :: R) g _ _
 refine cr (op J J (oe ?_))
 refine cr (op J J (op J J ?_))
 refine o1 J (o_fa (b := b) (off := 0) (fd := ⟨ "once", 107, 1, false, "", "vitrine/page", 8⟩) J J J J J ?_)
 refine op J J (op J J ?_)
 refine o1 J (o_call (vs := [P b 1, .func (.func 160) #[P b 0] #[]]) hasDo J (c_do (off := 1) (cap := [P b 0]) (cs1 := pgc n 0 1 0 zeros (.map none)) (F := fun m => pgc n 0 1 0 (sgn os) (.map (some m))) (D := fun m => pgc n 1 1 0 (sgn os) (.map (some m))) (U := fun m => pgc n 1 0 0 (sgn os) (.map (some m))) (L := fun m => [mpo .i32 m (mp 0 (sgn os) [])]) hasBd J J J J (c_build ho hos hlo) (fun _ => ⟨_, J⟩) (fun _ => J) (fun _ => J) (fun _ => J)) (pc (.head _) pn) ?_)
 intro m
 refine oe (cr (op J J (op J J ?_)))
 exact oe (c_ret (e_ret (r_endt J J (Keep.refl _) (hk m))))
theorem c_built1 {g : Gw} {b : Nat} {n : Int} {l : List Int} {mv : Value} :
  Tri env g 138 (List.toArray [P b 0]) [blk b (.cells (pgc n 1 0 0 l mv).toArray 111 (0, 0))] (fun K R => K (P b 0) (blk b (.cells (pgc n 1 0 0 l mv).toArray 111 (0, 0)) :: R)) := by
 refine tri_of (fn := Tryz.f138) (N := 10) Tryz.func138 J J J ?_
 intro R K hk
 change GC _ none _ [] [(0, P b 0)] (blk b (.cells (pgc n 1 0 0 l mv).toArray 111 (0, 0)) :: R) g _ _
 refine cr (op J J (oe ?_))
 refine cr (op J J (op J J ?_))
 refine o1 J (o_fa (b := b) (off := 0) (fd := ⟨ "once", 107, 1, false, "", "vitrine/page", 8⟩) J J J J J ?_)
 refine op J J (op J J ?_)
 refine o1 J (o_call (vs := [P b 1, .func (.func 160) #[P b 0] #[]]) hasDo J (c_done (off := 1) J) (pc (.head _) pn) ?_)
 refine oe (cr (op J J (op J J ?_)))
 exact oe (c_ret (e_ret (r_endt J J (Keep.refl _) hk)))
/-! ### a sign -/
theorem pk_app : ∀ (p R : List HP), Pick (p ++ R) p R
 | [], R => pn
 | _ :: p, R => pc (.head _) (pk_app p R)
theorem hasBt : HasBody env.P 138 := ⟨_, Tryz.func138, rfl, rfl⟩
theorem c_sign {g : Gw} {b k : Nat} {n : Int} {S : List Int} {X : Type} {Pre : List HP} {mv : X → Value} {L : X → List HP} (hS : S.length = 256) (hk : k < 256)
  (hB : Tri env g 138 (List.toArray [P b 0]) Pre (fun K R => ∀ x, K (P b 0) (blk b (.cells (pgc n 1 0 0 S (mv x)).toArray 111 (0, 0)) :: (L x ++ R)))) :
  Tri env g 98 (List.toArray [P b 0, .int .u8 (k : Int)]) Pre (fun K R => ∀ x, K (.int .i32 (S[k]'(by omega))) (blk b (.cells (pgc n 1 0 0 S (mv x)).toArray 111 (0, 0)) :: (L x ++ R))) := by
 refine tri_of (fn := Tryz.f98) (N := 14) Tryz.func98 J J J ?_
 intro R K hk'
 change GC _ none _ [] [(0, P b 0), (1, .int .u8 (k : Int))] (Pre ++ R) g _ _
 refine cr (op J J (oe ?_))
 refine c_seq (cr (op J J (o1 J (o_p (v := .bool false) J ?_))))
 refine oe (c_cond_f J J (c_skip (e_seq ?_)))
 refine cr (op J J ?_)
 refine o1 J (o_call (vs := [P b 0]) hasBt J hB (pk_app _ _) ?_)
 intro x
 refine op J J (op J J ?_)
 refine o1 J (o_fa (b := b) (off := 0) (fd := ⟨ "signs", 108, 4, false, "", "vitrine/page", 20⟩) J J J J J ?_)
 refine o1 J (o_ixP (b := b) (off := 4) (n := k) J J J J J J hk ?_)
 refine o1 rfl (o_ldA1 (b := b) (off := 4) (n := k) (l := S) (kk := .i32) rfl rfl (by omega) (.head _) rfl rfl ?_)
 refine op J J ?_
 exact oe (c_ret (e_ret (r_endt J J (Keep.refl _) (hk' x))))
/-! ### a code -/
theorem c_code {g : Gw} {b : Nat} {n z : Int} {S : List Int} {X : Type} {Pre : List HP} {mb : X → Nat} {M : List (Int × Value)} (hS : S.length = 256) {c : Int} (hc : (alGet M z).getD (U 0) = .int .u8 c) (h0 : (alGet M z).isSome = false → c = 0)
  (hB : Tri env g 138 (List.toArray [P b 0]) Pre (fun K R => ∀ x, K (P b 0) (blk b (.cells (pgc n 1 0 0 S (.map (some (mb x)))).toArray 111 (0, 0)) :: mpo .i32 (mb x) M :: R))) :
  Tri env g 123 (List.toArray [P b 0, .int .i32 z]) Pre (fun K R => ∀ x, K (.tuple (List.toArray [.int .u8 c, .bool (alGet M z).isSome])) (blk b (.cells (pgc n 1 0 0 S (.map (some (mb x)))).toArray 111 (0, 0)) :: mpo .i32 (mb x) M :: R)) := by
 refine tri_of (fn := Tryz.f123) (N := 23) Tryz.func123 J J J ?_
 intro R K hk
 change GC _ none _ [] [(0, P b 0), (1, .int .i32 z)] (Pre ++ R) g _ _
 refine cr (op J J (op J J (oe ?_)))
 refine c_seq (cr (op J J (o1 J (o_p (v := .bool false) J ?_))))
 refine oe (c_cond_f J J (c_skip (e_seq ?_)))
 refine cr (op J J ?_)
 refine o1 J (o_call (vs := [P b 0]) hasBt J hB (pk_app _ _) ?_)
 intro x
 refine op J J ?_
 refine o1 J (o_fa (b := b) (off := 0) (fd := ⟨ "codes", 109, 260, false, "", "vitrine/page", 1048⟩) J J J J J ?_)
 refine o1 J (o_ld (b := b) (off := 260) (v := .map (some (mb x))) J rm0 J (ldv_c J (get_last hS)) ?_)
 refine op J J ?_
 refine o1 J (o_lookup (b := mb x) (kk := .i32) (k := z) (l := M) (z := .int .u8 0) J J J J J J J J rm1 ?_)
 refine op J J (op J J (op J J (op J J (op J J ?_))))
 refine oe (c_seq (cr (op J J (op J J ?_))))
 refine oe (c_cond J (fun hq => ?_) (fun hq => ?_))
 ·have hn : (alGet M z).isSome = false := by simpa using hq
  refine cr (op J J (op J J (oe ?_)))
  refine c_ret (e_then_ret (e_ret (r_endt J J (Keep.refl _) ?_)))
  have := hk x
  rw [hn, h0 hn] at this
  exact this
 ·have hn : (alGet M z).isSome = true := by simpa using hq
  refine c_skip (e_seq (cr (op J J (op J J (op J J ?_)))))
  refine oe (c_ret (e_ret (r_endt J J (Keep.refl _) ?_)))
  have := hk x
  rw [hn, ← hc] at this
  exact this
/-! ### the others' bounds -/
theorem oth_ok {n : Int} {os : List Vpage_other} {ok : Bool} (h : m_page_others n = some (os, ok)) : (∀ o ∈ os, 0 ≤ o.code ∧ o.code < 256) ∧ os.length < 1000 := by
 unfold m_page_others at h
 simp only [Bool.cond_eq_ite] at h
 repeat' split at h
 all_goals first
  | (cases h; exact ⟨by decide, by decide⟩)
  | cases h
/-! ### a page, built or not -/
abbrev pgV (n : Int) : Value := .agg (pgc n 0 0 0 zeros (.map none)).toArray
abbrev pgU (b : Nat) (n : Int) : HP := blk b (.cells (pgc n 0 0 0 zeros (.map none)).toArray 111 (0, 0))
abbrev pgB (b : Nat) (n : Int) (os : List Vpage_other) (m : Nat) : HP := blk b (.cells (pgc n 1 0 0 (sgn os) (.map (some m))).toArray 111 (0, 0))
abbrev pgM (os : List Vpage_other) (m : Nat) : HP := mpo .i32 m (mp 0 (sgn os) [])
def pgO (b : Nat) (n : Int) : HP := fun h g => ∃ os, m_page_others n = some (os, true) ∧ (pgU b n h g ∨ ∃ m, star (pgB b n os m) (pgM os m) h g)
theorem pg_open {b : Nat} {n : Int} {R : List HP} {g : Gw} {w : World} (s : HS (pgO b n :: R) g w) : ∃ os, m_page_others n = some (os, true) ∧ (HS (pgU b n :: R) g w ∨ ∃ m, HS (pgB b n os m :: pgM os m :: R) g w) := by
 obtain ⟨os, s⟩ := HS.exi s
 obtain ⟨ho, s⟩ := HS.pure_ s
 refine ⟨os, ho, (HS.or_ s).imp id fun s => ?_⟩
 obtain ⟨m, s⟩ := HS.exi s
 exact ⟨m, HS.split s⟩
theorem pg_close0 {b : Nat} {n : Int} {os : List Vpage_other} {R : List HP} {g : Gw} {w : World} (ho : m_page_others n = some (os, true)) (s : HS (pgU b n :: R) g w) : HS (pgO b n :: R) g w := s.imp fun h p => ⟨os, ho, .inl p⟩
theorem pg_close1 {b m : Nat} {n : Int} {os : List Vpage_other} {R : List HP} {g : Gw} {w : World} (ho : m_page_others n = some (os, true)) (s : HS (pgB b n os m :: pgM os m :: R) g w) : HS (pgO b n :: R) g w := s.glue.imp fun h p => ⟨os, ho, .inr ⟨m, p⟩⟩
theorem o_boxPg {E : Env} {ro : Option Nat} {N : Nat} {ds : List Deferred} {T : List (Nat × Value)} {H : List HP} {g : Gw} {K : Value → List HP → Prop} {d : Option Tmp} {ty : TypeId} {pos : String} {af : Array Edge} {gd : Option (Nat × Bool)} {x : Operand} {n : Int} (hx : ev T x = some (pgV n)) (ho : ∃ os, m_page_others n = some (os, true))
  (k : ∀ b, K (.pointer (some ⟨b, 0, none⟩)) (pgO b n :: H)) : OPW E ro N ds T H g ⟨d, .box 111 x, ty, pos, af, gd⟩ K := fun a w t s next Q hn => by
 obtain ⟨os, ho⟩ := ho
 refine o_box (K := fun v H' => ∃ b, v = .pointer (some ⟨b, 0, none⟩) ∧ H' = pgU b n :: H) (cs := pgc n 0 0 0 zeros (.map none)) hx J (fun b => ⟨b, J, J⟩) a w t s next Q ?_
 rintro v H' w' ⟨b, rfl, rfl⟩ s'
 exact hn _ _ _ (k b) (pg_close0 ho s')
theorem oth_some {n : Int} {r : (List Vpage_other) × Bool} (h : m_page_others n = some r) (hb : (!r.2) = false) : ∃ os, m_page_others n = some (os, true) := by
 obtain ⟨os, ok⟩ := r
 cases ok
 ·cases hb
 ·exact ⟨os, h⟩
theorem othS_len : ∀ (os : List Vpage_other) (l : List Int), (othS l os).length = l.length
 | [], l => rfl
 | o :: os, l => by rw [othS, othS_len os]; simp
theorem rowsFrom_len : ∀ (n d : Nat) (l : List Int), (rowsFrom n d l).length = l.length
 | 0, _, l => rfl
 | n + 1, d, l => by rw [rowsFrom, rowsFrom_len n, wr_len]
theorem sgn_len (os : List Vpage_other) : (sgn os).length = 256 := by unfold sgn sgn0 zeros; rw [othS_len, rowsFrom_len]; simp
theorem t_sign {g : Gw} {X : HP} {p0 : Vpage_Page} {b0 : Nat} {p1 r : Int} (h : pgSign p0.number p1 = some r) : Tri env g 98 (List.toArray [(.pointer (some ⟨b0, 0, none⟩)), (.int .u8 p1)]) [X, pgO b0 p0.number] (fun K R => K (.int .i32 r) (X :: pgO b0 p0.number :: R)) := by
 intro R K w hk s
 have s1 : HS (pgO b0 p0.number :: (X :: R)) g w := s.perm (.swap _ _ _)
 obtain ⟨os, ho, s2⟩ := pg_open s1
 unfold pgSign at h
 rw [ho] at h
 obtain ⟨hp, h⟩ := gsome h
 obtain ⟨hb1, hb2⟩ := oth_ok ho
 obtain ⟨k, rfl⟩ : ∃ k : Nat, p1 = k := ⟨p1.toNat, by omega⟩
 have hk2 : k < 256 := by omega
 have hS : (sgn os).length = 256 := sgn_len os
 have hr : (sgn os)[k]'(by omega) = r := by
  rw [Int.toNat_natCast, List.getElem?_eq_getElem (by omega)] at h
  exact Option.some.inj h
 rcases s2 with s2 | ⟨m, s2⟩
 ·refine (c_sign (X := Nat) (Pre := [pgU b0 p0.number]) (mv := fun m => .map (some m)) (L := fun m => [pgM os m]) hS hk2 (c_built0 ho hb1 hb2) (X :: R) (fun v H => v = .int .i32 r ∧ ∃ m, H = pgB b0 p0.number os m :: pgM os m :: X :: R) w (fun m => ⟨congrArg _ hr, m, J⟩) s2).mono ?_
  rintro e w' ⟨v, H, ⟨rfl, m, rfl⟩, he, hs⟩
  exact ⟨_, _, hk, he, (pg_close1 ho hs).perm (.swap _ _ _)⟩
 ·refine (c_sign (X := Unit) (Pre := [pgB b0 p0.number os m, pgM os m]) (mv := fun _ => .map (some m)) (L := fun _ => [pgM os m]) hS hk2 (fun R K w hk s => c_built1 (pgM os m :: R) K w (hk ()) s) (X :: R) (fun v H => v = .int .i32 r ∧ H = pgB b0 p0.number os m :: pgM os m :: X :: R) w (fun _ => ⟨congrArg _ hr, J⟩) s2).mono ?_
  rintro e w' ⟨v, H, ⟨rfl, rfl⟩, he, hs⟩
  exact ⟨_, _, hk, he, (pg_close1 ho hs).perm (.swap _ _ _)⟩
theorem alGet_set : ∀ (l : List (Int × Value)) (k : Int) (v : Value) (z : Int), alGet (alSet l k v) z = if k = z then some v else alGet l z
 | [], k, v, z => rfl
 | p :: r, k, v, z => by
  simp only [alSet]
  by_cases h : p.1 = k
  ·rw [if_pos h]; simp only [alGet]
   by_cases h2 : k = z
   ·rw [if_pos h2, if_pos h2]
   ·rw [if_neg h2, if_neg h2, if_neg (by rw [h]; exact h2)]
  ·rw [if_neg h]; simp only [alGet]
   by_cases h2 : p.1 = z
   ·rw [if_pos h2, if_pos h2, if_neg (fun e => h (h2.trans e.symm))]
   ·rw [if_neg h2, if_neg h2]; exact alGet_set r k v z
theorem mp_u8 : ∀ (ss : List Int) (c : Nat) (m : List (Int × Value)), (∀ z v, alGet m z = some v → ∃ k, v = .int .u8 k) → ∀ z v, alGet (mp c ss m) z = some v → ∃ k, v = .int .u8 k
 | [], _, m, h, z, v, e => h z v e
 | s :: ss, c, m, h, z, v, e => mp_u8 ss (c + 1) _ (fun z v e => by
   rw [alGet_set] at e
   split at e
   ·exact ⟨_, (Option.some.inj e).symm⟩
   ·exact h z v e) z v e
theorem t_code {g : Gw} {X : HP} {p0 : Vpage_Page} {b0 : Nat} {p1 : Int} {r : Int × Bool} (h : pgCode p0.number p1 = some r) : Tri env g 123 (List.toArray [(.pointer (some ⟨b0, 0, none⟩)), (.int .i32 p1)]) [X, pgO b0 p0.number] (fun K R => K (.tuple (List.toArray [(.int .u8 r.1), (.bool r.2)])) (X :: pgO b0 p0.number :: R)) := by
 intro R K w hk s
 have s1 : HS (pgO b0 p0.number :: (X :: R)) g w := s.perm (.swap _ _ _)
 obtain ⟨os, ho, s2⟩ := pg_open s1
 unfold pgCode at h
 rw [ho] at h
 have h := Option.some.inj h
 obtain ⟨hb1, hb2⟩ := oth_ok ho
 have hS : (sgn os).length = 256 := sgn_len os
 have key : (alGet (mp 0 (sgn os) []) p1).getD (.int .u8 0) = .int .u8 r.1 ∧ ((alGet (mp 0 (sgn os) []) p1).isSome = false → r.1 = 0) ∧ (alGet (mp 0 (sgn os) []) p1).isSome = r.2 := by
  cases e : alGet (mp 0 (sgn os) []) p1 with
  | none => rw [e] at h; subst h; exact ⟨rfl, fun _ => rfl, rfl⟩
  | some v =>
   obtain ⟨k, rfl⟩ := mp_u8 (sgn os) 0 [] (fun z v e => by cases e) _ _ e
   rw [e] at h; subst h; exact ⟨rfl, fun h => (by cases h), rfl⟩
 obtain ⟨hc, h0, h2⟩ := key
 rcases s2 with s2 | ⟨m, s2⟩
 ·refine (c_code (X := Nat) (Pre := [pgU b0 p0.number]) (mb := fun m => m) (M := mp 0 (sgn os) []) hS hc h0 (c_built0 ho hb1 hb2) (X :: R) (fun v H => v = .tuple (A [.int .u8 r.1, .bool r.2]) ∧ ∃ m, H = pgB b0 p0.number os m :: pgM os m :: X :: R) w (fun m => ⟨by rw [h2], m, rfl⟩) s2).mono ?_
  rintro e w' ⟨v, H, ⟨rfl, m, rfl⟩, he, hs⟩
  exact ⟨_, _, hk, he, (pg_close1 ho hs).perm (.swap _ _ _)⟩
 ·refine (c_code (X := Unit) (Pre := [pgB b0 p0.number os m, pgM os m]) (mb := fun _ => m) (M := mp 0 (sgn os) []) hS hc h0 (fun R K w hk s => c_built1 (pgM os m :: R) K w (hk ()) s) (X :: R) (fun v H => v = .tuple (A [.int .u8 r.1, .bool r.2]) ∧ H = pgB b0 p0.number os m :: pgM os m :: X :: R) w (fun _ => ⟨by rw [h2], rfl⟩) s2).mono ?_
  rintro e w' ⟨v, H, ⟨rfl, rfl⟩, he, hs⟩
  exact ⟨_, _, hk, he, (pg_close1 ho hs).perm (.swap _ _ _)⟩

theorem c_vitrinelaw18_pages {g : Gw} (X : HP) (r : (List Int)) (h : m_vitrinelaw18_pages = some r) : Tri env g 38 (A []) [X] (fun K R => ∀ (i0 : SV), K (V i0) (X :: slO i0 3 (enI .i64) r :: R)) := by
 refine tri_of (fn := Tryz.f38) (N := 2) Tryz.func38 J J J ?_
 intro R K hk
 unfold m_vitrinelaw18_pages at h
 change GC _ none _ [] [] (X :: R) g _ _
 refine cr (op J J (oe (c_seq ?_)))
 refine c_region ?_
 refine o1 J (o_bs (e := (enI .i64)) (l := [37, 273, 297, 500, 1047, 1140]) (zs := [(I 0)]) J J J J J J J J J J (fun s43 => ?_))
 refine op J J (oe (c_ret (e_ret ?_)))
 refine r_endt J J (kc rm1 (kc rm0 kr)) ?_
 obtain rfl := si h
 exact hk s43

theorem c_addr_Model {g : Gw} (X : HP) (p0 : Int) (r : Vaddr_Size × Int) (h : m_addr_Model p0 = some r) : Tri env g 74 (A [(I p0)]) [X] (fun K R => K (.tuple (A [(.agg (A [(I r.1.Rows), (I r.1.Cols)])), (I r.2)])) (X :: R)) := by
 refine tri_of (fn := Tryz.f74) (N := 18) Tryz.func74 J J J ?_
 intro R K hk
 unfold m_addr_Model at h
 change GC _ none _ [] [(0, (I p0))] (X :: R) g _ _
 refine cr ?_
 refine o1 J (o_alloc (cs := [(I 0), (I 0)]) J J (fun b48 => ?_))
 refine op J J (oe (c_seq (cr ?_)))
 refine op J J (oe (c_block (cr ?_)))
 refine o1 J (o_p (v := (O (p0 == 2))) J ?_)
 refine op J J (oe ?_)
 refine c_cond (b := (p0 == 2)) J (fun hb50 => ?_) (fun hb50 => ?_)
 ·replace h := cond_t hb50 h
  refine cr ?_
  refine o1 J (o_build (fs := f_1) (ps := [(0, 1), (1, 1)]) (cs := [(I 24), (I 80)]) J J J J J ?_)
  refine o0 (o_st (b := b48) (off := 0) (vs := [(I 24), (I 80)]) (cs' := [(I 24), (I 80)]) J J rp0 J J J J J J ?_)
  refine op J J (oe (c_ret (e_blk_ret (e_then_ret ?_))))
  refine e_ret ?_
  refine r_endc (B := [[(I 24), (I 80)]]) J ⟨⟨_, _, _, _, J, rm0⟩, trivial⟩ J (kc rm1 (kd kr)) ?_
  obtain rfl := si h
  exact hk
 ·replace h := cond_f hb50 h
  refine cr ?_
  refine o1 J (o_p (v := (O (p0 == 3))) J ?_)
  refine op J J (oe ?_)
  refine c_cond (b := (p0 == 3)) J (fun hb51 => ?_) (fun hb51 => ?_)
  ·replace h := cond_t hb51 h
   refine cr ?_
   refine o1 J (o_build (fs := f_1) (ps := [(0, 1), (1, 1)]) (cs := [(I 32), (I 80)]) J J J J J ?_)
   refine o0 (o_st (b := b48) (off := 0) (vs := [(I 32), (I 80)]) (cs' := [(I 32), (I 80)]) J J rp0 J J J J J J ?_)
   refine op J J (oe (c_ret (e_blk_ret (e_then_ret ?_))))
   refine e_ret ?_
   refine r_endc (B := [[(I 32), (I 80)]]) J ⟨⟨_, _, _, _, J, rm0⟩, trivial⟩ J (kc rm1 (kd kr)) ?_
   obtain rfl := si h
   exact hk
  ·replace h := cond_f hb51 h
   refine cr ?_
   refine o1 J (o_p (v := (O (p0 == 4))) J ?_)
   refine op J J (oe ?_)
   refine c_cond (b := (p0 == 4)) J (fun hb52 => ?_) (fun hb52 => ?_)
   ·replace h := cond_t hb52 h
    refine cr ?_
    refine o1 J (o_build (fs := f_1) (ps := [(0, 1), (1, 1)]) (cs := [(I 43), (I 80)]) J J J J J ?_)
    refine o0 (o_st (b := b48) (off := 0) (vs := [(I 43), (I 80)]) (cs' := [(I 43), (I 80)]) J J rp0 J J J J J J ?_)
    refine op J J (oe (c_ret (e_blk_ret (e_then_ret ?_))))
    refine e_ret ?_
    refine r_endc (B := [[(I 43), (I 80)]]) J ⟨⟨_, _, _, _, J, rm0⟩, trivial⟩ J (kc rm1 (kd kr)) ?_
    obtain rfl := si h
    exact hk
   ·replace h := cond_f hb52 h
    refine cr ?_
    refine o1 J (o_p (v := (O (p0 == 5))) J ?_)
    refine op J J (oe ?_)
    refine c_cond (b := (p0 == 5)) J (fun hb53 => ?_) (fun hb53 => ?_)
    ·replace h := cond_t hb53 h
     refine cr ?_
     refine o1 J (o_build (fs := f_1) (ps := [(0, 1), (1, 1)]) (cs := [(I 27), (I 132)]) J J J J J ?_)
     refine o0 (o_st (b := b48) (off := 0) (vs := [(I 27), (I 132)]) (cs' := [(I 27), (I 132)]) J J rp0 J J J J J J ?_)
     refine op J J (oe (c_ret (e_blk_ret (e_then_ret ?_))))
     refine e_ret ?_
     refine r_endc (B := [[(I 27), (I 132)]]) J ⟨⟨_, _, _, _, J, rm0⟩, trivial⟩ J (kc rm1 (kd kr)) ?_
     obtain rfl := si h
     exact hk
    ·replace h := cond_f hb53 h
     refine c_skip (e_blk (e_seq (cr ?_)))
     refine o1 J (o_build (fs := f_1) (ps := [(0, 1), (1, 1)]) (cs := [(I 0), (I 0)]) J J J J J ?_)
     refine o0 (o_st (b := b48) (off := 0) (vs := [(I 0), (I 0)]) (cs' := [(I 0), (I 0)]) J J rp0 J J J J J J ?_)
     refine op J J (oe (c_ret (e_ret ?_)))
     refine r_endc (B := [[(I 0), (I 0)]]) J ⟨⟨_, _, _, _, J, rm0⟩, trivial⟩ J (kc rm1 (kd kr)) ?_
     obtain rfl := si h
     exact hk

theorem c_addr_Size_Valid {g : Gw} (X : HP) (p0 : Vaddr_Size) (r : Bool) (h : m_addr_Size_Valid p0 = some r) : Tri env g 96 (A [(.agg (A [(I p0.Rows), (I p0.Cols)]))]) [X] (fun K R => K (O r) (X :: R)) := by
 refine tri_of (fn := Tryz.f96) (N := 29) Tryz.func96 J J J ?_
 intro R K hk
 unfold m_addr_Size_Valid at h
 change GC _ none _ [] [(0, (.agg (A [(I p0.Rows), (I p0.Cols)])))] (X :: R) g _ _
 refine cr ?_
 refine o1 J (o_box (cs := [(I p0.Rows), (I p0.Cols)]) J J (fun b62 => ?_))
 refine op J J (oe (c_seq ?_))
 replace h := bsome h
 obtain ⟨d1, h, hk1⟩ := h
 refine cj (D := Unit) (ι := Unit) (fun _ i1 => True) (fun _ i1 => [(2, (O d1))]) (fun _ i1 => X :: R) ?_ ?_
 ·refine c_region ?_
  refine o1 J (o_fa (fd := ⟨ "Rows", 3, 0, false, "", "", 0⟩) J J J J J ?_)
  refine o1 J (o_ld (b := b62) (off := 0) (v := (I p0.Rows)) J rm0 J J ?_)
  refine o1 J (o_p (v := (O (decide (p0.Rows ≥ 1)))) J ?_)
  refine op J J ?_
  rcases bool_or ((decide (p0.Rows ≥ 1))) with hb64 | hb64
  ·replace h := cond_t hb64 h
   refine oy J J J hb64 (o_fa (fd := ⟨ "Rows", 3, 0, false, "", "", 0⟩) J J J J J ?_)
   refine oy J J J hb64 (o_ld (b := b62) (off := 0) (v := (I p0.Rows)) J rm0 J J ?_)
   refine oy J J J hb64 (o_p (v := (O (decide (p0.Rows ≤ 43)))) J ?_)
   refine o1 J (o_pick_t J hb64 J ?_)
   refine op J J ?_
   rcases bool_or ((decide (p0.Rows ≤ 43))) with hb65 | hb65
   ·replace h := cond_t hb65 h
    refine oy J J J hb65 (o_fa (fd := ⟨ "Cols", 3, 1, false, "", "", 8⟩) J J J J J ?_)
    refine oy J J J hb65 (o_ld (b := b62) (off := 1) (v := (I p0.Cols)) J rm0 J J ?_)
    refine oy J J J hb65 (o_p (v := (O (decide (p0.Cols ≥ 1)))) J ?_)
    refine o1 J (o_pick_t J hb65 J ?_)
    refine op J J ?_
    rcases bool_or ((decide (p0.Cols ≥ 1))) with hb66 | hb66
    ·replace h := cond_t hb66 h
     refine oy J J J hb66 (o_fa (fd := ⟨ "Cols", 3, 1, false, "", "", 8⟩) J J J J J ?_)
     refine oy J J J hb66 (o_ld (b := b62) (off := 1) (v := (I p0.Cols)) J rm0 J J ?_)
     refine oy J J J hb66 (o_p (v := (O (decide (p0.Cols ≤ 132)))) J ?_)
     refine o1 J (o_pick_t J hb66 J ?_)
     refine op J J ?_
     rcases bool_or ((decide (p0.Cols ≤ 132))) with hb67 | hb67
     ·replace h := cond_t hb67 h
      refine oy J J J hb67 (o_fa (fd := ⟨ "Rows", 3, 0, false, "", "", 0⟩) J J J J J ?_)
      refine oy J J J hb67 (o_ld (b := b62) (off := 0) (v := (I p0.Rows)) J rm0 J J ?_)
      refine oy J J J hb67 (o_fa (fd := ⟨ "Cols", 3, 1, false, "", "", 8⟩) J J J J J ?_)
      refine oy J J J hb67 (o_ld (b := b62) (off := 1) (v := (I p0.Cols)) J rm0 J J ?_)
      refine oy J J J hb67 (o_p (v := (I (w64 (p0.Rows * p0.Cols)))) J ?_)
      refine oy J J J hb67 (o_p (v := (O (decide ((w64 (p0.Rows * p0.Cols)) ≤ 3564)))) J ?_)
      refine o1 J (o_pick_t J hb67 J ?_)
      refine op J J (o_end ?_)
      obtain rfl := si h
      exact ej () () trivial (sc J sn) (kc rm1 (kd kr))
     ·replace h := cond_f hb67 h
      refine on J J J hb67 ?_
      refine on J J J hb67 ?_
      refine on J J J hb67 ?_
      refine on J J J hb67 ?_
      refine on J J J hb67 ?_
      refine on J J J hb67 ?_
      refine o1 J (o_pick_f J hb67 J ?_)
      refine op J J (o_end ?_)
      obtain rfl := si h
      exact ej () () trivial (sc J sn) (kc rm1 (kd kr))
    ·replace h := cond_f hb66 h
     refine on J J J hb66 ?_
     refine on J J J hb66 ?_
     refine on J J J hb66 ?_
     refine o1 J (o_pick_f J hb66 J ?_)
     refine op J J ?_
     refine on J J J J ?_
     refine on J J J J ?_
     refine on J J J J ?_
     refine on J J J J ?_
     refine on J J J J ?_
     refine on J J J J ?_
     refine o1 J (o_pick_f J J J ?_)
     refine op J J (o_end ?_)
     obtain rfl := si h
     exact ej () () trivial (sc J sn) (kc rm1 (kd kr))
   ·replace h := cond_f hb65 h
    refine on J J J hb65 ?_
    refine on J J J hb65 ?_
    refine on J J J hb65 ?_
    refine o1 J (o_pick_f J hb65 J ?_)
    refine op J J ?_
    refine on J J J J ?_
    refine on J J J J ?_
    refine on J J J J ?_
    refine o1 J (o_pick_f J J J ?_)
    refine op J J ?_
    refine on J J J J ?_
    refine on J J J J ?_
    refine on J J J J ?_
    refine on J J J J ?_
    refine on J J J J ?_
    refine on J J J J ?_
    refine o1 J (o_pick_f J J J ?_)
    refine op J J (o_end ?_)
    obtain rfl := si h
    exact ej () () trivial (sc J sn) (kc rm1 (kd kr))
  ·replace h := cond_f hb64 h
   refine on J J J hb64 ?_
   refine on J J J hb64 ?_
   refine on J J J hb64 ?_
   refine o1 J (o_pick_f J hb64 J ?_)
   refine op J J ?_
   refine on J J J J ?_
   refine on J J J J ?_
   refine on J J J J ?_
   refine o1 J (o_pick_f J J J ?_)
   refine op J J ?_
   refine on J J J J ?_
   refine on J J J J ?_
   refine on J J J J ?_
   refine o1 J (o_pick_f J J J ?_)
   refine op J J ?_
   refine on J J J J ?_
   refine on J J J J ?_
   refine on J J J J ?_
   refine on J J J J ?_
   refine on J J J J ?_
   refine on J J J J ?_
   refine o1 J (o_pick_f J J J ?_)
   refine op J J (o_end ?_)
   obtain rfl := si h
   exact ej () () trivial (sc J sn) (kc rm1 (kd kr))
 ·rintro _ i1 _
  replace h := hk1
  clear hk1
  refine e_seq (c_ret (e_ret ?_))
  refine r_endt J J (kc rm0 kr) ?_
  obtain rfl := si h
  exact hk

theorem c_addr_Size_Cells {g : Gw} (X : HP) (p0 : Vaddr_Size) (r : Int) (h : m_addr_Size_Cells p0 = some r) : Tri env g 76 (A [(.agg (A [(I p0.Rows), (I p0.Cols)]))]) [X] (fun K R => K (I r) (X :: R)) := by
 refine tri_of (fn := Tryz.f76) (N := 11) Tryz.func76 J J J ?_
 intro R K hk
 unfold m_addr_Size_Cells at h
 change GC _ none _ [] [(0, (.agg (A [(I p0.Rows), (I p0.Cols)])))] (X :: R) g _ _
 refine cr ?_
 refine o1 J (o_box (cs := [(I p0.Rows), (I p0.Cols)]) J J (fun b60 => ?_))
 refine op J J (oe (c_seq (cr ?_)))
 refine o1 J (o_ld (b := b60) (off := 0) (v := (.agg (A [(I p0.Rows), (I p0.Cols)]))) J rm0 J J ?_)
 replace h := bsome h
 obtain ⟨d1, h1, h⟩ := h
 refine o1 J (o_call has96 J (c_addr_Size_Valid X p0 _ h1) (pc rm1 pn) ?_)
 refine o1 J (o_p (v := (O (!d1))) J ?_)
 refine oe ?_
 refine c_cond (b := (!d1)) J (fun hb68 => ?_) (fun hb68 => ?_)
 ·replace h := cond_t hb68 h
  refine cr (op J J (oe (c_ret ?_)))
  refine e_then_ret (e_ret ?_)
  refine r_endt J J (kc rm0 (kd kr)) ?_
  obtain rfl := si h
  exact hk
 ·replace h := cond_f hb68 h
  refine c_skip (e_seq (cr ?_))
  refine o1 J (o_fa (fd := ⟨ "Rows", 3, 0, false, "", "", 0⟩) J J J J J ?_)
  refine o1 J (o_ld (b := b60) (off := 0) (v := (I p0.Rows)) J rm1 J J ?_)
  refine o1 J (o_fa (fd := ⟨ "Cols", 3, 1, false, "", "", 8⟩) J J J J J ?_)
  refine o1 J (o_ld (b := b60) (off := 1) (v := (I p0.Cols)) J rm1 J J ?_)
  refine o1 J (o_p (v := (I (w64 (p0.Rows * p0.Cols)))) J ?_)
  refine op J J (oe (c_ret (e_ret ?_)))
  refine r_endt J J (kc rm0 (kd kr)) ?_
  obtain rfl := si h
  exact hk

theorem c_space_Space_Clear {g : Gw} (X : HP) (p0 : Vspace_Space) (b0 : Nat) (s0 : SV) (q0 : Rd X s0 26 en_Vapi_Cell p0.cells) (p1 : Bool) (r : Vspace_Space) (h : m_space_Space_Clear p0 p1 = some r) : Tri env g 41 (A [(F b0 0), (O p1)]) [X, blk b0 (.cells (A [(I p0.model), (O p0.alternate), (I p0.size.Rows), (I p0.size.Cols), (V s0), (I p0.cursor), (I p0.attrs)]) 122 (0, 0))] (fun K R => ∀ (i0 : SV), K (.tuple (A [])) (X :: blk b0 (.cells (A [(I r.model), (O r.alternate), (I r.size.Rows), (I r.size.Cols), (V i0), (I r.cursor), (I r.attrs)]) 122 (0, 0)) :: slO i0 26 en_Vapi_Cell r.cells :: R)) := by
 refine tri_of (fn := Tryz.f41) (N := 39) Tryz.func41 J J J ?_
 intro R K hk
 unfold m_space_Space_Clear at h
 change GC _ none _ [] [(0, (F b0 0)), (1, (O p1))] (X :: blk b0 (.cells (A [(I p0.model), (O p0.alternate), (I p0.size.Rows), (I p0.size.Cols), (V s0), (I p0.cursor), (I p0.attrs)]) 122 (0, 0)) :: R) g _ _
 refine c_seq (cr (op J J ?_))
 refine o1 J (o_p (v := (O false)) J ?_)
 refine oe ?_
 refine c_cond_f J J ?_
 refine c_skip (e_seq (cr (op J J (o_end ?_))))
 refine e_seq (c_seq (cr (op J J (o_end ?_))))
 refine e_seq ?_
 replace h := bsome h
 obtain ⟨d1, h, hk1⟩ := h
 refine cj (D := Unit) (ι := Unit) (fun _ i1 => True) (fun _ i1 => [(4, (I d1)), (0, (F b0 0)), (1, (O p1))]) (fun _ i1 => X :: blk b0 (.cells (A [(I p0.model), (O p0.alternate), (I p0.size.Rows), (I p0.size.Cols), (V s0), (I p0.cursor), (I p0.attrs)]) 122 (0, 0)) :: R) ?_ ?_
 ·refine c_cond (b := p1) J (fun hb59 => ?_) (fun hb59 => ?_)
  ·replace h := cond_t hb59 h
   refine c_region (op J J (op J J ?_))
   refine o1 J (o_fa (fd := ⟨ "model", 3, 0, false, "", "vitrine/space", 0⟩) J J J J J ?_)
   refine o1 J (o_ld (b := b0) (off := 0) (v := (I p0.model)) J rm1 J J ?_)
   refine op J J (o_end ?_)
   obtain rfl := si h
   exact ej () () trivial (sc J (sc J (sc J sn))) (kc rm0 (kc rm0 kr))
  ·replace h := cond_f hb59 h
   refine c_skip ?_
   obtain rfl := si h
   exact ej () () trivial (sc J (sc J (sc J sn))) (kc rm0 (kc rm0 kr))
 ·rintro _ i1 _
  replace h := hk1
  clear hk1
  refine e_seq (cr (op J J (op J J (op J J ?_))))
  refine o1 J (o_fa (fd := ⟨ "alternate", 4, 1, false, "", "vitrine/space", 8⟩) J J J J J ?_)
  refine o0 (o_st (b := b0) (off := 1) (vs := [(O p1)]) (cs' := [(I p0.model), (O p1), (I p0.size.Rows), (I p0.size.Cols), (V s0), (I p0.cursor), (I p0.attrs)]) J J rp1 J J J J J J ?_)
  refine oe (cr (op J J (op J J ?_)))
  replace h := bsome h
  obtain ⟨d2, h2, h⟩ := h
  refine o1 J (o_call has74 J (c_addr_Model X d1 _ h2) (pc rm0 pn) ?_)
  refine op J J (op J J (op J J (op J J ?_)))
  refine o1 J (o_fa (fd := ⟨ "size", 120, 2, false, "", "vitrine/space", 16⟩) J J J J J ?_)
  refine o0 (o_st (b := b0) (off := 2) (vs := [(I d2.1.Rows), (I d2.1.Cols)]) (cs' := [(I p0.model), (O p1), (I d2.1.Rows), (I d2.1.Cols), (V s0), (I p0.cursor), (I p0.attrs)]) J J rp1 J J J J J J ?_)
  refine oe (cr (op J J (op J J ?_)))
  refine op J J ?_
  refine o1 J (o_fa (fd := ⟨ "size", 120, 2, false, "", "vitrine/space", 16⟩) J J J J J ?_)
  refine o1 J (o_ld (b := b0) (off := 2) (v := (.agg (A [(I d2.1.Rows), (I d2.1.Cols)]))) J rm1 J J ?_)
  replace h := bsome h
  obtain ⟨d3, h3, h⟩ := h
  refine o1 J (o_call has76 J (c_addr_Size_Cells X d2.1 _ h3) (pc rm0 pn) ?_)
  replace h := gsome h
  obtain ⟨hg69, h⟩ := h
  refine o1 J (o_mk (e := en_Vapi_Cell) (z := (⟨0, false, 0, 0, 0, 0⟩ : Vapi_Cell)) (zs := [(U 0), (O false), (U 0), (U 0), (U 0), (U 0)]) J J J J J J J J J hg69 (fun s70 => ?_))
  refine op J J ?_
  refine o1 J (o_fa (fd := ⟨ "cells", 72, 4, false, "", "vitrine/space", 32⟩) J J J J J ?_)
  refine o0 (o_st (b := b0) (off := 4) (vs := [(V s70)]) (cs' := [(I p0.model), (O p1), (I d2.1.Rows), (I d2.1.Cols), (V s70), (I p0.cursor), (I p0.attrs)]) J J rp2 J J J J J J ?_)
  refine oe (c_region (op J J (op J J (op J J ?_))))
  refine o1 J (o_fa (fd := ⟨ "cursor", 3, 5, false, "", "vitrine/space", 56⟩) J J J J J ?_)
  refine o0 (o_st (b := b0) (off := 5) (vs := [(I 0)]) (cs' := [(I p0.model), (O p1), (I d2.1.Rows), (I d2.1.Cols), (V s70), (I 0), (I p0.attrs)]) J J rp2 J J J J J J ?_)
  refine op J J ?_
  refine o1 J (o_fa (fd := ⟨ "attrs", 3, 6, false, "", "vitrine/space", 64⟩) J J J J J ?_)
  refine o0 (o_st (b := b0) (off := 6) (vs := [(I 0)]) (cs' := [(I p0.model), (O p1), (I d2.1.Rows), (I d2.1.Cols), (V s70), (I 0), (I 0)]) J J rp2 J J J J J J ?_)
  refine o_end (e_fall ?_)
  refine r_endt J J (kc rm1 (kc rm1 (kc rm0 kr))) ?_
  obtain rfl := si h
  exact hk s70

theorem c_space_New {g : Gw} (X : HP) (p0 : Int) (r : (Int) ⊕ (Vspace_Space × Int)) (h : m_space_New p0 = some r) : Tri env g 39 (A [(I p0)]) [X] (fun K R => match r with | .inl r => K (.tuple (A [(.pointer none), (I r)])) (X :: R) | .inr r => ∀ (i0 : Nat × SV), K (.tuple (A [(F i0.1 0), (I r.2)])) (X :: blk i0.1 (.cells (A [(I r.1.model), (O r.1.alternate), (I r.1.size.Rows), (I r.1.size.Cols), (V i0.2), (I r.1.cursor), (I r.1.attrs)]) 122 (0, 0)) :: slO i0.2 26 en_Vapi_Cell r.1.cells :: R)) := by
 refine tri_of (fn := Tryz.f39) (N := 21) Tryz.func39 J J J ?_
 intro R K hk
 unfold m_space_New at h
 change GC _ none _ [] [(0, (I p0))] (X :: R) g _ _
 refine cr (op J J (op J J (oe ?_)))
 refine c_seq (cr (op J J ?_))
 replace h := bsome h
 obtain ⟨d1, h1, h⟩ := h
 refine o1 J (o_call has74 J (c_addr_Model X p0 _ h1) (pc rm0 pn) ?_)
 refine op J J (op J J (op J J ?_))
 refine o1 J (o_alloc (cs := [(I 0), (I 0)]) J J (fun b54 => ?_))
 refine o0 (o_st (b := b54) (off := 0) (vs := [(I d1.1.Rows), (I d1.1.Cols)]) (cs' := [(I d1.1.Rows), (I d1.1.Cols)]) J J rp0 J J J J J J ?_)
 refine op J J (oe (cr (op J J ?_)))
 refine o1 J (o_p (v := (O (d1.2 != 0))) J ?_)
 refine oe ?_
 refine c_cond (b := (d1.2 != 0)) J (fun hb56 => ?_) (fun hb56 => ?_)
 ·replace h := cond_t hb56 h
  refine cr (op J J (op J J (op J J (o_end ?_))))
  refine e_seq (c_ret (e_then_ret (e_ret ?_)))
  refine r_endt J J (kc rm1 (kd kr)) ?_
  obtain rfl := si h
  exact hk
 ·replace h := cond_f hb56 h
  refine c_skip (e_seq (cr (op J J ?_)))
  refine o1 J (o_build (fs := [⟨ "model", 3, 0, false, "", "vitrine/space", 0⟩, ⟨ "alternate", 4, 1, false, "", "vitrine/space", 8⟩, ⟨ "size", 120, 2, false, "", "vitrine/space", 16⟩, ⟨ "cells", 72, 4, false, "", "vitrine/space", 32⟩, ⟨ "cursor", 3, 5, false, "", "vitrine/space", 56⟩, ⟨ "attrs", 3, 6, false, "", "vitrine/space", 64⟩]) (ps := [(0, 1), (1, 1), (2, 2), (4, 1), (5, 1), (6, 1)]) (cs := [(I p0), (O false), (I 0), (I 0), (V SV.nil), (I 0), (I 0)]) J J J J J ?_)
  refine o1 J (o_box (cs := [(I p0), (O false), (I 0), (I 0), (V SV.nil), (I 0), (I 0)]) J J (fun b57 => ?_))
  refine op J J (oe (cr (op J J ?_)))
  replace h := bsome h
  obtain ⟨d3, h3, h⟩ := h
  refine o1 J (o_call has41 J (c_space_Space_Clear X (⟨p0, false, (⟨0, 0⟩ : Vaddr_Size), ([] : List Vapi_Cell), 0, 0⟩ : Vspace_Space) b57 SV.nil (rd_nil _ _ _) false _ h3) (pc rm2 (pc rm0 pn)) (fun i3 => ?_))
  refine oe (cr (op J J (op J J ?_)))
  refine op J J (oe (c_ret (e_ret ?_)))
  refine r_endt J J (kc rm0 (kc rm0 (kc rm0 (kd kr)))) ?_
  obtain rfl := si h
  exact hk (b57, i3)

theorem c_page_New {g : Gw} (X : HP) (p0 : Int) (r : (Int) ⊕ (Vpage_Page × Int)) (h : m_page_New p0 = some r) : Tri env g 11 (A [(I p0)]) [X] (fun K R => match r with | .inl r => K (.tuple (A [(.pointer none), (I r)])) (X :: R) | .inr r => ∀ (i0 : Nat), K (.tuple (A [(F i0 0), (I r.2)])) (X :: pgO i0 r.1.number :: R)) := by
 refine tri_of (fn := Tryz.f11) (N := 16) Tryz.func11 J J J ?_
 intro R K hk
 unfold m_page_New at h
 change GC _ none _ [] [(0, (I p0))] (X :: R) g _ _
 refine cr (op J J (op J J (oe ?_)))
 refine c_seq (cr (op J J ?_))
 replace h := bsome h
 obtain ⟨d1, h1, h⟩ := h
 refine o1 J (o_call has46 J (c_page_others X p0 _ h1) (pc rm0 pn) (fun i1 => ?_))
 refine op J J (op J J (op J J (op J J (op J J (o_end ?_)))))
 refine e_seq (cr (op J J ?_))
 refine o1 J (o_p (v := (O (!d1.2))) J ?_)
 refine oe ?_
 refine c_cond (b := (!d1.2)) J (fun hb79 => ?_) (fun hb79 => ?_)
 ·replace h := cond_t hb79 h
  refine cr (op J J (op J J (oe ?_)))
  refine c_ret (e_then_ret (e_ret ?_))
  refine r_endt J J (kc rm0 (kd kr)) ?_
  obtain rfl := si h
  exact hk
 ·replace h := cond_f hb79 h
  refine c_skip (e_seq (cr (op J J ?_)))
  refine o1 J (o_build (fs := [⟨ "number", 3, 0, false, "", "vitrine/page", 0⟩, ⟨ "once", 107, 1, false, "", "vitrine/page", 8⟩, ⟨ "signs", 108, 4, false, "", "vitrine/page", 20⟩, ⟨ "codes", 109, 260, false, "", "vitrine/page", 1048⟩]) (ps := [(0, 1), (1, 3), (4, 256), (260, 1)]) (cs := pgc p0 0 0 0 zeros (.map none)) J J J J J ?_)
  refine o1 J (o_boxPg (n := p0) J (oth_some h1 hb79) (fun b80 => ?_))
  refine op J J (op J J (oe (c_ret (e_ret ?_))))
  refine r_endt J J (kc rm1 (kc rm0 (kd kr))) ?_
  obtain rfl := si h
  exact hk b80

theorem c_vitrineref04_Model {g : Gw} (X : HP) (p0 : Int) (r : Vvitrineref04_Size × Bool) (h : m_vitrineref04_Model p0 = some r) : Tri env g 69 (A [(I p0)]) [X] (fun K R => K (.tuple (A [(.agg (A [(I r.1.Rows), (I r.1.Cols)])), (O r.2)])) (X :: R)) := by
 refine tri_of (fn := Tryz.f69) (N := 20) Tryz.func69 J J J ?_
 intro R K hk
 unfold m_vitrineref04_Model at h
 change GC _ none _ [] [(0, (I p0))] (X :: R) g _ _
 refine cr ?_
 refine o1 J (o_alloc (cs := [(I 0), (I 0)]) J J (fun b84 => ?_))
 refine op J J (oe (c_seq (c_seq ?_)))
 replace h := bsome h
 obtain ⟨d1, h, hk1⟩ := h
 refine cj (D := Unit) (ι := Unit) (fun _ i1 => True) (fun _ i1 => [(9, (O d1)), (2, (F b84 0)), (0, (I p0))]) (fun _ i1 => X :: blk b84 (.cells (A [(I 0), (I 0)]) 71 (0, 0)) :: R) ?_ ?_
 ·refine c_region (op J J ?_)
  refine o1 J (o_p (v := (O (decide (p0 < 2)))) J ?_)
  refine op J J ?_
  rcases bool_or ((decide (p0 < 2))) with hb86 | hb86
  ·replace h := cond_t hb86 h
   refine on J J J hb86 ?_
   refine on J J J hb86 ?_
   refine o1 J (o_pick_t J hb86 J ?_)
   refine o_end ?_
   obtain rfl := si h
   exact ej () () trivial (sc J (sc J (sc J sn))) (kc rm1 (kc rm0 kr))
  ·replace h := cond_f hb86 h
   refine oy J J J hb86 (o_p J ?_)
   refine oy J J J hb86 (o_p (v := (O (decide (p0 > 5)))) J ?_)
   refine o1 J (o_pick_f J hb86 J ?_)
   refine o_end ?_
   obtain rfl := si h
   exact ej () () trivial (sc J (sc J (sc J sn))) (kc rm1 (kc rm0 kr))
 ·rintro _ i1 _
  replace h := hk1
  clear hk1
  refine e_seq ?_
  refine c_cond (b := d1) J (fun hb87 => ?_) (fun hb87 => ?_)
  ·replace h := cond_t hb87 h
   refine cr ?_
   refine o1 J (o_build (fs := f_1) (ps := [(0, 1), (1, 1)]) (cs := [(I 0), (I 0)]) J J J J J ?_)
   refine o0 (o_st (b := b84) (off := 0) (vs := [(I 0), (I 0)]) (cs' := [(I 0), (I 0)]) J J rp1 J J J J J J ?_)
   refine op J J (oe (c_ret (e_then_ret (e_ret ?_))))
   refine r_endc (B := [[(I 0), (I 0)]]) J ⟨⟨_, _, _, _, J, rm1⟩, trivial⟩ J (kc rm0 (kd kr)) ?_
   obtain rfl := si h
   exact hk
  ·replace h := cond_f hb87 h
   refine c_skip (e_seq (cr ?_))
   refine o1 J (o_build (fs := f_1) (ps := [(0, 1), (1, 1)]) (cs := [(I 24), (I 80)]) J J J J J ?_)
   refine o1 J (o_build (fs := f_1) (ps := [(0, 1), (1, 1)]) (cs := [(I 32), (I 80)]) J J J J J ?_)
   refine o1 J (o_build (fs := f_1) (ps := [(0, 1), (1, 1)]) (cs := [(I 43), (I 80)]) J J J J J ?_)
   refine o1 J (o_build (fs := f_1) (ps := [(0, 1), (1, 1)]) (cs := [(I 27), (I 132)]) J J J J J ?_)
   refine o1 rfl (o_bs (e := en_Vvitrineref04_Size) (l := [(⟨24, 80⟩ : Vvitrineref04_Size), (⟨32, 80⟩ : Vvitrineref04_Size), (⟨43, 80⟩ : Vvitrineref04_Size), (⟨27, 132⟩ : Vvitrineref04_Size)]) (zs := [(I 0), (I 0)]) rfl rfl rfl rfl rfl rfl rfl rfl rfl (by kernel_rfl) (fun s88 => ?_))
   refine op J J ?_
   refine o1 J (o_p (v := (I (w64 (p0 - 2)))) J ?_)
   replace h := gsome h
   obtain ⟨hg90, h⟩ := h
   refine o1 J (o_ix (s := s88) (n := w64 (p0 - 2)) (e := en_Vvitrineref04_Size) J J J J J J rm0 (rd_own _ _ _ _) hg90 ?_)
   refine o1 J (o_ldE (s := s88) (e := en_Vvitrineref04_Size) (n := w64 (p0 - 2)) (f := 0) (v := (.agg (A [(I ((rd [(⟨24, 80⟩ : Vvitrineref04_Size), (⟨32, 80⟩ : Vvitrineref04_Size), (⟨43, 80⟩ : Vvitrineref04_Size), (⟨27, 132⟩ : Vvitrineref04_Size)] (w64 (p0 - 2))).Rows)), (I ((rd [(⟨24, 80⟩ : Vvitrineref04_Size), (⟨32, 80⟩ : Vvitrineref04_Size), (⟨43, 80⟩ : Vvitrineref04_Size), (⟨27, 132⟩ : Vvitrineref04_Size)] (w64 (p0 - 2))).Cols))]))) J rm0 (rd_own _ _ _ _) hg90 J J ?_)
   refine o0 (o_st (b := b84) (off := 0) (vs := [(I ((rd [(⟨24, 80⟩ : Vvitrineref04_Size), (⟨32, 80⟩ : Vvitrineref04_Size), (⟨43, 80⟩ : Vvitrineref04_Size), (⟨27, 132⟩ : Vvitrineref04_Size)] (w64 (p0 - 2))).Rows)), (I ((rd [(⟨24, 80⟩ : Vvitrineref04_Size), (⟨32, 80⟩ : Vvitrineref04_Size), (⟨43, 80⟩ : Vvitrineref04_Size), (⟨27, 132⟩ : Vvitrineref04_Size)] (w64 (p0 - 2))).Cols))]) (cs' := [(I ((rd [(⟨24, 80⟩ : Vvitrineref04_Size), (⟨32, 80⟩ : Vvitrineref04_Size), (⟨43, 80⟩ : Vvitrineref04_Size), (⟨27, 132⟩ : Vvitrineref04_Size)] (w64 (p0 - 2))).Rows)), (I ((rd [(⟨24, 80⟩ : Vvitrineref04_Size), (⟨32, 80⟩ : Vvitrineref04_Size), (⟨43, 80⟩ : Vvitrineref04_Size), (⟨27, 132⟩ : Vvitrineref04_Size)] (w64 (p0 - 2))).Cols))]) J J rp2 J J J J J J ?_)
   refine op J J (oe (c_ret (e_ret ?_)))
   refine r_endc (B := [[(I ((rd [(⟨24, 80⟩ : Vvitrineref04_Size), (⟨32, 80⟩ : Vvitrineref04_Size), (⟨43, 80⟩ : Vvitrineref04_Size), (⟨27, 132⟩ : Vvitrineref04_Size)] (w64 (p0 - 2))).Rows)), (I ((rd [(⟨24, 80⟩ : Vvitrineref04_Size), (⟨32, 80⟩ : Vvitrineref04_Size), (⟨43, 80⟩ : Vvitrineref04_Size), (⟨27, 132⟩ : Vvitrineref04_Size)] (w64 (p0 - 2))).Cols))]]) J ⟨⟨_, _, _, _, J, rm2⟩, trivial⟩ J (kc rm1 (kd (kd kr))) ?_
   obtain rfl := si h
   exact hk

theorem c_vitrineref04_Valid {g : Gw} (X : HP) (p0 : Vvitrineref04_Size) (r : Bool) (h : m_vitrineref04_Valid p0 = some r) : Tri env g 118 (A [(.agg (A [(I p0.Rows), (I p0.Cols)]))]) [X] (fun K R => K (O r) (X :: R)) := by
 refine tri_of (fn := Tryz.f118) (N := 29) Tryz.func118 J J J ?_
 intro R K hk
 unfold m_vitrineref04_Valid at h
 change GC _ none _ [] [(0, (.agg (A [(I p0.Rows), (I p0.Cols)])))] (X :: R) g _ _
 refine cr ?_
 refine o1 J (o_box (cs := [(I p0.Rows), (I p0.Cols)]) J J (fun b99 => ?_))
 refine op J J (oe (c_seq ?_))
 replace h := bsome h
 obtain ⟨d1, h, hk1⟩ := h
 refine cj (D := Unit) (ι := Unit) (fun _ i1 => True) (fun _ i1 => [(2, (O d1))]) (fun _ i1 => X :: R) ?_ ?_
 ·refine c_region ?_
  refine o1 J (o_fa (fd := ⟨ "Rows", 3, 0, false, "", "", 0⟩) J J J J J ?_)
  refine o1 J (o_ld (b := b99) (off := 0) (v := (I p0.Rows)) J rm0 J J ?_)
  refine o1 J (o_p (v := (O (decide (p0.Rows ≥ 1)))) J ?_)
  refine op J J ?_
  rcases bool_or ((decide (p0.Rows ≥ 1))) with hb101 | hb101
  ·replace h := cond_t hb101 h
   refine oy J J J hb101 (o_fa (fd := ⟨ "Rows", 3, 0, false, "", "", 0⟩) J J J J J ?_)
   refine oy J J J hb101 (o_ld (b := b99) (off := 0) (v := (I p0.Rows)) J rm0 J J ?_)
   refine oy J J J hb101 (o_p (v := (O (decide (p0.Rows ≤ 43)))) J ?_)
   refine o1 J (o_pick_t J hb101 J ?_)
   refine op J J ?_
   rcases bool_or ((decide (p0.Rows ≤ 43))) with hb102 | hb102
   ·replace h := cond_t hb102 h
    refine oy J J J hb102 (o_fa (fd := ⟨ "Cols", 3, 1, false, "", "", 8⟩) J J J J J ?_)
    refine oy J J J hb102 (o_ld (b := b99) (off := 1) (v := (I p0.Cols)) J rm0 J J ?_)
    refine oy J J J hb102 (o_p (v := (O (decide (p0.Cols ≥ 1)))) J ?_)
    refine o1 J (o_pick_t J hb102 J ?_)
    refine op J J ?_
    rcases bool_or ((decide (p0.Cols ≥ 1))) with hb103 | hb103
    ·replace h := cond_t hb103 h
     refine oy J J J hb103 (o_fa (fd := ⟨ "Cols", 3, 1, false, "", "", 8⟩) J J J J J ?_)
     refine oy J J J hb103 (o_ld (b := b99) (off := 1) (v := (I p0.Cols)) J rm0 J J ?_)
     refine oy J J J hb103 (o_p (v := (O (decide (p0.Cols ≤ 132)))) J ?_)
     refine o1 J (o_pick_t J hb103 J ?_)
     refine op J J ?_
     rcases bool_or ((decide (p0.Cols ≤ 132))) with hb104 | hb104
     ·replace h := cond_t hb104 h
      refine oy J J J hb104 (o_fa (fd := ⟨ "Rows", 3, 0, false, "", "", 0⟩) J J J J J ?_)
      refine oy J J J hb104 (o_ld (b := b99) (off := 0) (v := (I p0.Rows)) J rm0 J J ?_)
      refine oy J J J hb104 (o_fa (fd := ⟨ "Cols", 3, 1, false, "", "", 8⟩) J J J J J ?_)
      refine oy J J J hb104 (o_ld (b := b99) (off := 1) (v := (I p0.Cols)) J rm0 J J ?_)
      refine oy J J J hb104 (o_p (v := (I (w64 (p0.Rows * p0.Cols)))) J ?_)
      refine oy J J J hb104 (o_p (v := (O (decide ((w64 (p0.Rows * p0.Cols)) ≤ 3564)))) J ?_)
      refine o1 J (o_pick_t J hb104 J ?_)
      refine op J J (o_end ?_)
      obtain rfl := si h
      exact ej () () trivial (sc J sn) (kc rm1 (kd kr))
     ·replace h := cond_f hb104 h
      refine on J J J hb104 ?_
      refine on J J J hb104 ?_
      refine on J J J hb104 ?_
      refine on J J J hb104 ?_
      refine on J J J hb104 ?_
      refine on J J J hb104 ?_
      refine o1 J (o_pick_f J hb104 J ?_)
      refine op J J (o_end ?_)
      obtain rfl := si h
      exact ej () () trivial (sc J sn) (kc rm1 (kd kr))
    ·replace h := cond_f hb103 h
     refine on J J J hb103 ?_
     refine on J J J hb103 ?_
     refine on J J J hb103 ?_
     refine o1 J (o_pick_f J hb103 J ?_)
     refine op J J ?_
     refine on J J J J ?_
     refine on J J J J ?_
     refine on J J J J ?_
     refine on J J J J ?_
     refine on J J J J ?_
     refine on J J J J ?_
     refine o1 J (o_pick_f J J J ?_)
     refine op J J (o_end ?_)
     obtain rfl := si h
     exact ej () () trivial (sc J sn) (kc rm1 (kd kr))
   ·replace h := cond_f hb102 h
    refine on J J J hb102 ?_
    refine on J J J hb102 ?_
    refine on J J J hb102 ?_
    refine o1 J (o_pick_f J hb102 J ?_)
    refine op J J ?_
    refine on J J J J ?_
    refine on J J J J ?_
    refine on J J J J ?_
    refine o1 J (o_pick_f J J J ?_)
    refine op J J ?_
    refine on J J J J ?_
    refine on J J J J ?_
    refine on J J J J ?_
    refine on J J J J ?_
    refine on J J J J ?_
    refine on J J J J ?_
    refine o1 J (o_pick_f J J J ?_)
    refine op J J (o_end ?_)
    obtain rfl := si h
    exact ej () () trivial (sc J sn) (kc rm1 (kd kr))
  ·replace h := cond_f hb101 h
   refine on J J J hb101 ?_
   refine on J J J hb101 ?_
   refine on J J J hb101 ?_
   refine o1 J (o_pick_f J hb101 J ?_)
   refine op J J ?_
   refine on J J J J ?_
   refine on J J J J ?_
   refine on J J J J ?_
   refine o1 J (o_pick_f J J J ?_)
   refine op J J ?_
   refine on J J J J ?_
   refine on J J J J ?_
   refine on J J J J ?_
   refine o1 J (o_pick_f J J J ?_)
   refine op J J ?_
   refine on J J J J ?_
   refine on J J J J ?_
   refine on J J J J ?_
   refine on J J J J ?_
   refine on J J J J ?_
   refine on J J J J ?_
   refine o1 J (o_pick_f J J J ?_)
   refine op J J (o_end ?_)
   obtain rfl := si h
   exact ej () () trivial (sc J sn) (kc rm1 (kd kr))
 ·rintro _ i1 _
  replace h := hk1
  clear hk1
  refine e_seq (c_ret (e_ret ?_))
  refine r_endt J J (kc rm0 kr) ?_
  obtain rfl := si h
  exact hk

theorem c_vitrineref04_Cells {g : Gw} (X : HP) (p0 : Vvitrineref04_Size) (r : Int) (h : m_vitrineref04_Cells p0 = some r) : Tri env g 70 (A [(.agg (A [(I p0.Rows), (I p0.Cols)]))]) [X] (fun K R => K (I r) (X :: R)) := by
 refine tri_of (fn := Tryz.f70) (N := 11) Tryz.func70 J J J ?_
 intro R K hk
 unfold m_vitrineref04_Cells at h
 change GC _ none _ [] [(0, (.agg (A [(I p0.Rows), (I p0.Cols)])))] (X :: R) g _ _
 refine cr ?_
 refine o1 J (o_box (cs := [(I p0.Rows), (I p0.Cols)]) J J (fun b97 => ?_))
 refine op J J (oe (c_seq (cr ?_)))
 refine o1 J (o_ld (b := b97) (off := 0) (v := (.agg (A [(I p0.Rows), (I p0.Cols)]))) J rm0 J J ?_)
 replace h := bsome h
 obtain ⟨d1, h1, h⟩ := h
 refine o1 J (o_call has118 J (c_vitrineref04_Valid X p0 _ h1) (pc rm1 pn) ?_)
 refine o1 J (o_p (v := (O (!d1))) J ?_)
 refine oe ?_
 refine c_cond (b := (!d1)) J (fun hb105 => ?_) (fun hb105 => ?_)
 ·replace h := cond_t hb105 h
  refine cr (op J J (oe (c_ret ?_)))
  refine e_then_ret (e_ret ?_)
  refine r_endt J J (kc rm0 (kd kr)) ?_
  obtain rfl := si h
  exact hk
 ·replace h := cond_f hb105 h
  refine c_skip (e_seq (cr ?_))
  refine o1 J (o_fa (fd := ⟨ "Rows", 3, 0, false, "", "", 0⟩) J J J J J ?_)
  refine o1 J (o_ld (b := b97) (off := 0) (v := (I p0.Rows)) J rm1 J J ?_)
  refine o1 J (o_fa (fd := ⟨ "Cols", 3, 1, false, "", "", 8⟩) J J J J J ?_)
  refine o1 J (o_ld (b := b97) (off := 1) (v := (I p0.Cols)) J rm1 J J ?_)
  refine o1 J (o_p (v := (I (w64 (p0.Rows * p0.Cols)))) J ?_)
  refine op J J (oe (c_ret (e_ret ?_)))
  refine r_endt J J (kc rm0 (kd kr)) ?_
  obtain rfl := si h
  exact hk

theorem c_vitrineref12_Clear {g : Gw} (X : HP) (p0 : Vvitrineref12_Space) (b0 : Nat) (s0 : SV) (q0 : Rd X s0 26 en_Vapi_Cell p0.L) (p1 : Bool) (r : Vvitrineref12_Space) (h : m_vitrineref12_Clear p0 p1 = some r) : Tri env g 29 (A [(F b0 0), (O p1)]) [X, blk b0 (.cells (A [(I p0.Model), (O p0.Alt), (I p0.Size.Rows), (I p0.Size.Cols), (V s0), (I p0.Cursor)]) 74 (0, 0))] (fun K R => ∀ (i0 : SV), K (.tuple (A [])) (X :: blk b0 (.cells (A [(I r.Model), (O r.Alt), (I r.Size.Rows), (I r.Size.Cols), (V i0), (I r.Cursor)]) 74 (0, 0)) :: slO i0 26 en_Vapi_Cell r.L :: R)) := by
 refine tri_of (fn := Tryz.f29) (N := 39) Tryz.func29 J J J ?_
 intro R K hk
 unfold m_vitrineref12_Clear at h
 change GC _ none _ [] [(0, (F b0 0)), (1, (O p1))] (X :: blk b0 (.cells (A [(I p0.Model), (O p0.Alt), (I p0.Size.Rows), (I p0.Size.Cols), (V s0), (I p0.Cursor)]) 74 (0, 0)) :: R) g _ _
 refine cr (op J J (op J J (op J J ?_)))
 refine o1 J (o_fa (fd := ⟨ "Alt", 4, 1, false, "", "", 8⟩) J J J J J ?_)
 refine o0 (o_st (b := b0) (off := 1) (vs := [(O p1)]) (cs' := [(I p0.Model), (O p1), (I p0.Size.Rows), (I p0.Size.Cols), (V s0), (I p0.Cursor)]) J J rp1 J J J J J J ?_)
 refine oe (cr (op J J ?_))
 replace h := bsome h
 obtain ⟨d1, h1, h⟩ := h
 refine o1 J (o_call has69 J (c_vitrineref04_Model X 2 _ h1) (pc rm0 pn) ?_)
 refine op J J (op J J (op J J (op J J ?_)))
 refine o1 J (o_fa (fd := ⟨ "Size", 71, 2, false, "", "", 16⟩) J J J J J ?_)
 refine o0 (o_st (b := b0) (off := 2) (vs := [(I d1.1.Rows), (I d1.1.Cols)]) (cs' := [(I p0.Model), (O p1), (I d1.1.Rows), (I d1.1.Cols), (V s0), (I p0.Cursor)]) J J rp1 J J J J J J ?_)
 refine oe (c_seq (cr (op J J ?_)))
 refine oe ?_
 replace h := bsome h
 obtain ⟨d2, h, hk2⟩ := h
 refine cj (D := Unit) (ι := Unit) (fun _ i2 => True) (fun _ i2 => [(0, (F b0 0))]) (fun _ i2 => X :: blk b0 (.cells (A [(I p0.Model), (O p1), (I d2.1), (I d2.2), (V s0), (I p0.Cursor)]) 74 (0, 0)) :: R) ?_ ?_
 ·refine c_cond (b := p1) J (fun hb96 => ?_) (fun hb96 => ?_)
  ·replace h := cond_t hb96 h
   refine c_region (op J J (op J J (op J J ?_)))
   refine o1 J (o_fa (fd := ⟨ "Model", 3, 0, false, "", "", 0⟩) J J J J J ?_)
   refine o1 J (o_ld (b := b0) (off := 0) (v := (I p0.Model)) J rm1 J J ?_)
   replace h := bsome h
   obtain ⟨d3, h3, h⟩ := h
   refine o1 J (o_call has69 J (c_vitrineref04_Model X p0.Model _ h3) (pc rm0 pn) ?_)
   refine op J J (op J J (op J J (op J J ?_)))
   refine o1 J (o_fa (fd := ⟨ "Size", 71, 2, false, "", "", 16⟩) J J J J J ?_)
   refine o0 (o_st (b := b0) (off := 2) (vs := [(I d3.1.Rows), (I d3.1.Cols)]) (cs' := [(I p0.Model), (O p1), (I d3.1.Rows), (I d3.1.Cols), (V s0), (I p0.Cursor)]) J J rp1 J J J J J J ?_)
   refine o_end ?_
   obtain rfl := si h
   exact ej () () trivial (sc J sn) (kc rm0 (kc rm0 kr))
  ·replace h := cond_f hb96 h
   refine c_skip ?_
   obtain rfl := si h
   exact ej () () trivial (sc J sn) (kc rm0 (kc rm0 kr))
 ·rintro _ i2 _
  replace h := hk2
  clear hk2
  refine e_seq (cr (op J J (op J J (op J J ?_))))
  refine o1 J (o_fa (fd := ⟨ "Size", 71, 2, false, "", "", 16⟩) J J J J J ?_)
  refine o1 J (o_ld (b := b0) (off := 2) (v := (.agg (A [(I d2.1), (I d2.2)]))) J rm1 J J ?_)
  replace h := bsome h
  obtain ⟨d4, h4, h⟩ := h
  refine o1 J (o_call has70 J (c_vitrineref04_Cells X (⟨d2.1, d2.2⟩ : Vvitrineref04_Size) _ h4) (pc rm0 pn) ?_)
  replace h := gsome h
  obtain ⟨hg106, h⟩ := h
  refine o1 J (o_mk (e := en_Vapi_Cell) (z := (⟨0, false, 0, 0, 0, 0⟩ : Vapi_Cell)) (zs := [(U 0), (O false), (U 0), (U 0), (U 0), (U 0)]) J J J J J J J J J hg106 (fun s107 => ?_))
  refine op J J ?_
  refine o1 J (o_fa (fd := ⟨ "L", 72, 4, false, "", "", 32⟩) J J J J J ?_)
  refine o0 (o_st (b := b0) (off := 4) (vs := [(V s107)]) (cs' := [(I p0.Model), (O p1), (I d2.1), (I d2.2), (V s107), (I p0.Cursor)]) J J rp2 J J J J J J ?_)
  refine oe (c_region (op J J (op J J ?_)))
  refine o1 J (o_fa (fd := ⟨ "Cursor", 3, 5, false, "", "", 56⟩) J J J J J ?_)
  refine o0 (o_st (b := b0) (off := 5) (vs := [(I 0)]) (cs' := [(I p0.Model), (O p1), (I d2.1), (I d2.2), (V s107), (I 0)]) J J rp2 J J J J J J ?_)
  refine o_end (e_fall ?_)
  refine r_endt J J (kc rm1 (kc rm1 (kc rm0 kr))) ?_
  obtain rfl := si h
  exact hk s107

theorem c_vitrineref12_New {g : Gw} (X : HP) (p0 : Int) (r : (Unit) ⊕ (Vvitrineref12_Space)) (h : m_vitrineref12_New p0 = some r) : Tri env g 26 (A [(I p0)]) [X] (fun K R => match r with | .inl r => K (.pointer none) (X :: R) | .inr r => ∀ (i0 : Nat × SV), K (F i0.1 0) (X :: blk i0.1 (.cells (A [(I r.Model), (O r.Alt), (I r.Size.Rows), (I r.Size.Cols), (V i0.2), (I r.Cursor)]) 74 (0, 0)) :: slO i0.2 26 en_Vapi_Cell r.L :: R)) := by
 refine tri_of (fn := Tryz.f26) (N := 19) Tryz.func26 J J J ?_
 intro R K hk
 unfold m_vitrineref12_New at h
 change GC _ none _ [] [(0, (I p0))] (X :: R) g _ _
 refine cr (op J J (oe (c_seq ?_)))
 refine cr (op J J ?_)
 replace h := bsome h
 obtain ⟨d1, h1, h⟩ := h
 refine o1 J (o_call has69 J (c_vitrineref04_Model X p0 _ h1) (pc rm0 pn) ?_)
 refine op J J (op J J (op J J ?_))
 refine o1 J (o_alloc (cs := [(I 0), (I 0)]) J J (fun b91 => ?_))
 refine o0 (o_st (b := b91) (off := 0) (vs := [(I d1.1.Rows), (I d1.1.Cols)]) (cs' := [(I d1.1.Rows), (I d1.1.Cols)]) J J rp0 J J J J J J ?_)
 refine op J J (oe (cr (op J J ?_)))
 refine o1 J (o_p (v := (O (!d1.2))) J ?_)
 refine oe ?_
 refine c_cond (b := (!d1.2)) J (fun hb93 => ?_) (fun hb93 => ?_)
 ·replace h := cond_t hb93 h
  refine cr (op J J (oe (c_ret ?_)))
  refine e_then_ret (e_ret ?_)
  refine r_endt J J (kc rm1 (kd kr)) ?_
  obtain rfl := si h
  exact hk
 ·replace h := cond_f hb93 h
  refine c_skip (e_seq (cr (op J J ?_)))
  refine o1 J (o_build (fs := [⟨ "Model", 3, 0, false, "", "", 0⟩, ⟨ "Alt", 4, 1, false, "", "", 8⟩, ⟨ "Size", 71, 2, false, "", "", 16⟩, ⟨ "L", 72, 4, false, "", "", 32⟩, ⟨ "Cursor", 3, 5, false, "", "", 56⟩]) (ps := [(0, 1), (1, 1), (2, 2), (4, 1), (5, 1)]) (cs := [(I p0), (O false), (I 0), (I 0), (V SV.nil), (I 0)]) J J J J J ?_)
  refine o1 J (o_box (cs := [(I p0), (O false), (I 0), (I 0), (V SV.nil), (I 0)]) J J (fun b94 => ?_))
  refine op J J (oe (cr (op J J ?_)))
  replace h := bsome h
  obtain ⟨d3, h3, h⟩ := h
  refine o1 J (o_call has29 J (c_vitrineref12_Clear X (⟨p0, false, (⟨0, 0⟩ : Vvitrineref04_Size), ([] : List Vapi_Cell), 0⟩ : Vvitrineref12_Space) b94 SV.nil (rd_nil _ _ _) false _ h3) (pc rm2 (pc rm0 pn)) (fun i3 => ?_))
  refine oe (cr (op J J (op J J ?_)))
  refine oe (c_ret (e_ret ?_))
  refine r_endt J J (kc rm0 (kc rm0 (kc rm0 (kd kr)))) ?_
  obtain rfl := si h
  exact hk (b94, i3)

theorem c_vitrineref12_Clear_2 {g : Gw} (X : HP) (p0 : Vvitrineref12_Space) (b0 : Nat) (s0 : SV) (p1 : Bool) (r : Vvitrineref12_Space) (h : m_vitrineref12_Clear_2 p0 p1 = some r) : Tri env g 29 (A [(F b0 0), (O p1)]) [X, blk b0 (.cells (A [(I p0.Model), (O p0.Alt), (I p0.Size.Rows), (I p0.Size.Cols), (V s0), (I p0.Cursor)]) 74 (0, 0)), slO s0 26 en_Vapi_Cell p0.L] (fun K R => ∀ (i0 : SV), K (.tuple (A [])) (X :: blk b0 (.cells (A [(I r.Model), (O r.Alt), (I r.Size.Rows), (I r.Size.Cols), (V i0), (I r.Cursor)]) 74 (0, 0)) :: slO i0 26 en_Vapi_Cell r.L :: slO s0 26 en_Vapi_Cell p0.L :: R)) := by
 refine tri_of (fn := Tryz.f29) (N := 39) Tryz.func29 J J J ?_
 intro R K hk
 unfold m_vitrineref12_Clear_2 at h
 change GC _ none _ [] [(0, (F b0 0)), (1, (O p1))] (X :: blk b0 (.cells (A [(I p0.Model), (O p0.Alt), (I p0.Size.Rows), (I p0.Size.Cols), (V s0), (I p0.Cursor)]) 74 (0, 0)) :: slO s0 26 en_Vapi_Cell p0.L :: R) g _ _
 refine cr (op J J (op J J (op J J ?_)))
 refine o1 J (o_fa (fd := ⟨ "Alt", 4, 1, false, "", "", 8⟩) J J J J J ?_)
 refine o0 (o_st (b := b0) (off := 1) (vs := [(O p1)]) (cs' := [(I p0.Model), (O p1), (I p0.Size.Rows), (I p0.Size.Cols), (V s0), (I p0.Cursor)]) J J rp1 J J J J J J ?_)
 refine oe (cr (op J J ?_))
 replace h := bsome h
 obtain ⟨d1, h1, h⟩ := h
 refine o1 J (o_call has69 J (c_vitrineref04_Model X 2 _ h1) (pc rm0 pn) ?_)
 refine op J J (op J J (op J J (op J J ?_)))
 refine o1 J (o_fa (fd := ⟨ "Size", 71, 2, false, "", "", 16⟩) J J J J J ?_)
 refine o0 (o_st (b := b0) (off := 2) (vs := [(I d1.1.Rows), (I d1.1.Cols)]) (cs' := [(I p0.Model), (O p1), (I d1.1.Rows), (I d1.1.Cols), (V s0), (I p0.Cursor)]) J J rp1 J J J J J J ?_)
 refine oe (c_seq (cr (op J J ?_)))
 refine oe ?_
 replace h := bsome h
 obtain ⟨d2, h, hk2⟩ := h
 refine cj (D := Unit) (ι := Unit) (fun _ i2 => True) (fun _ i2 => [(0, (F b0 0))]) (fun _ i2 => X :: blk b0 (.cells (A [(I p0.Model), (O p1), (I d2.1), (I d2.2), (V s0), (I p0.Cursor)]) 74 (0, 0)) :: slO s0 26 en_Vapi_Cell p0.L :: R) ?_ ?_
 ·refine c_cond (b := p1) J (fun hb126 => ?_) (fun hb126 => ?_)
  ·replace h := cond_t hb126 h
   refine c_region (op J J (op J J (op J J ?_)))
   refine o1 J (o_fa (fd := ⟨ "Model", 3, 0, false, "", "", 0⟩) J J J J J ?_)
   refine o1 J (o_ld (b := b0) (off := 0) (v := (I p0.Model)) J rm1 J J ?_)
   replace h := bsome h
   obtain ⟨d3, h3, h⟩ := h
   refine o1 J (o_call has69 J (c_vitrineref04_Model X p0.Model _ h3) (pc rm0 pn) ?_)
   refine op J J (op J J (op J J (op J J ?_)))
   refine o1 J (o_fa (fd := ⟨ "Size", 71, 2, false, "", "", 16⟩) J J J J J ?_)
   refine o0 (o_st (b := b0) (off := 2) (vs := [(I d3.1.Rows), (I d3.1.Cols)]) (cs' := [(I p0.Model), (O p1), (I d3.1.Rows), (I d3.1.Cols), (V s0), (I p0.Cursor)]) J J rp1 J J J J J J ?_)
   refine o_end ?_
   obtain rfl := si h
   exact ej () () trivial (sc J sn) (kc rm0 (kc rm0 (kc rm0 kr)))
  ·replace h := cond_f hb126 h
   refine c_skip ?_
   obtain rfl := si h
   exact ej () () trivial (sc J sn) (kc rm0 (kc rm0 (kc rm0 kr)))
 ·rintro _ i2 _
  replace h := hk2
  clear hk2
  refine e_seq (cr (op J J (op J J (op J J ?_))))
  refine o1 J (o_fa (fd := ⟨ "Size", 71, 2, false, "", "", 16⟩) J J J J J ?_)
  refine o1 J (o_ld (b := b0) (off := 2) (v := (.agg (A [(I d2.1), (I d2.2)]))) J rm1 J J ?_)
  replace h := bsome h
  obtain ⟨d4, h4, h⟩ := h
  refine o1 J (o_call has70 J (c_vitrineref04_Cells X (⟨d2.1, d2.2⟩ : Vvitrineref04_Size) _ h4) (pc rm0 pn) ?_)
  replace h := gsome h
  obtain ⟨hg127, h⟩ := h
  refine o1 J (o_mk (e := en_Vapi_Cell) (z := (⟨0, false, 0, 0, 0, 0⟩ : Vapi_Cell)) (zs := [(U 0), (O false), (U 0), (U 0), (U 0), (U 0)]) J J J J J J J J J hg127 (fun s128 => ?_))
  refine op J J ?_
  refine o1 J (o_fa (fd := ⟨ "L", 72, 4, false, "", "", 32⟩) J J J J J ?_)
  refine o0 (o_st (b := b0) (off := 4) (vs := [(V s128)]) (cs' := [(I p0.Model), (O p1), (I d2.1), (I d2.2), (V s128), (I p0.Cursor)]) J J rp2 J J J J J J ?_)
  refine oe (c_region (op J J (op J J ?_)))
  refine o1 J (o_fa (fd := ⟨ "Cursor", 3, 5, false, "", "", 56⟩) J J J J J ?_)
  refine o0 (o_st (b := b0) (off := 5) (vs := [(I 0)]) (cs' := [(I p0.Model), (O p1), (I d2.1), (I d2.2), (V s128), (I 0)]) J J rp2 J J J J J J ?_)
  refine o_end (e_fall ?_)
  refine r_endt J J (kc rm1 (kc rm1 (kc rm0 (kc rm0 kr)))) ?_
  obtain rfl := si h
  exact hk s128

theorem c_vitrineref04_Mod {g : Gw} (X : HP) (p0 : Int) (p1 : Int) (r : Int) (h : m_vitrineref04_Mod p0 p1 = some r) : Tri env g 141 (A [(I p0), (I p1)]) [X] (fun K R => K (I r) (X :: R)) := by
 refine tri_of (fn := Tryz.f141) (N := 14) Tryz.func141 J J J ?_
 intro R K hk
 unfold m_vitrineref04_Mod at h
 change GC _ none _ [] [(0, (I p0)), (1, (I p1))] (X :: R) g _ _
 refine cr (op J J (oe (c_seq ?_)))
 refine cr (op J J ?_)
 refine o1 J (o_p (v := (O (decide (p1 < 1)))) J ?_)
 refine oe ?_
 refine c_cond (b := (decide (p1 < 1))) J (fun hb135 => ?_) (fun hb135 => ?_)
 ·replace h := cond_t hb135 h
  refine cr (op J J (oe (c_ret ?_)))
  refine e_then_ret (e_ret ?_)
  refine r_endt J J (kc rm0 kr) ?_
  obtain rfl := si h
  exact hk
 ·replace h := cond_f hb135 h
  refine c_skip (e_seq (cr (op J J (op J J ?_))))
  replace h := gsome h
  obtain ⟨hg136, h⟩ := h
  refine o1 J (o_rem (m := p0) (n := p1) J J hg136 ?_)
  refine op J J ?_
  refine o1 J (o_p (v := (I (w64 ((Int.tmod p0 p1) + p1)))) J ?_)
  refine op J J ?_
  replace h := gsome h
  obtain ⟨hg137, h⟩ := h
  refine o1 J (o_rem (m := w64 ((Int.tmod p0 p1) + p1)) (n := p1) J J hg137 ?_)
  refine op J J (oe (c_ret (e_ret ?_)))
  refine r_endt J J (kc rm0 kr) ?_
  obtain rfl := si h
  exact hk

theorem c_vitrineref04_Wrap {g : Gw} (X : HP) (p0 : Vvitrineref04_Size) (p1 : Int) (r : Int) (h : m_vitrineref04_Wrap p0 p1 = some r) : Tri env g 119 (A [(.agg (A [(I p0.Rows), (I p0.Cols)])), (I p1)]) [X] (fun K R => K (I r) (X :: R)) := by
 refine tri_of (fn := Tryz.f119) (N := 9) Tryz.func119 J J J ?_
 intro R K hk
 unfold m_vitrineref04_Wrap at h
 change GC _ none _ [] [(0, (.agg (A [(I p0.Rows), (I p0.Cols)]))), (1, (I p1))] (X :: R) g _ _
 refine cr ?_
 refine o1 J (o_box (cs := [(I p0.Rows), (I p0.Cols)]) J J (fun b133 => ?_))
 refine op J J (oe (cr (op J J ?_)))
 refine o1 J (o_ld (b := b133) (off := 0) (v := (.agg (A [(I p0.Rows), (I p0.Cols)]))) J rm0 J J ?_)
 replace h := bsome h
 obtain ⟨d1, h1, h⟩ := h
 refine o1 J (o_call has70 J (c_vitrineref04_Cells X p0 _ h1) (pc rm1 pn) ?_)
 replace h := bsome h
 obtain ⟨d2, h2, h⟩ := h
 refine o1 J (o_call has141 J (c_vitrineref04_Mod X p1 d1 _ h2) (pc rm0 pn) ?_)
 refine op J J (oe (c_ret (e_ret ?_)))
 refine r_endt J J (kc rm0 (kd kr)) ?_
 obtain rfl := si h
 exact hk

theorem c_vitrineref12_Wrap {g : Gw} (X : HP) (p0 : Vvitrineref12_Space) (b0 : Nat) (s0 : SV) (p1 : Int) (r : Int) (h : m_vitrineref12_Wrap p0 p1 = some r) : Tri env g 75 (A [(F b0 0), (I p1)]) [X, blk b0 (.cells (A [(I p0.Model), (O p0.Alt), (I p0.Size.Rows), (I p0.Size.Cols), (V s0), (I p0.Cursor)]) 74 (0, 0)), slO s0 26 en_Vapi_Cell p0.L] (fun K R => K (I r) (X :: blk b0 (.cells (A [(I p0.Model), (O p0.Alt), (I p0.Size.Rows), (I p0.Size.Cols), (V s0), (I p0.Cursor)]) 74 (0, 0)) :: slO s0 26 en_Vapi_Cell p0.L :: R)) := by
 refine tri_of (fn := Tryz.f75) (N := 11) Tryz.func75 J J J ?_
 intro R K hk
 unfold m_vitrineref12_Wrap at h
 change GC _ none _ [] [(0, (F b0 0)), (1, (I p1))] (X :: blk b0 (.cells (A [(I p0.Model), (O p0.Alt), (I p0.Size.Rows), (I p0.Size.Cols), (V s0), (I p0.Cursor)]) 74 (0, 0)) :: slO s0 26 en_Vapi_Cell p0.L :: R) g _ _
 refine cr (op J J (oe (c_seq ?_)))
 refine c_region (op J J (op J J ?_))
 refine o1 J (o_fa (fd := ⟨ "Size", 71, 2, false, "", "", 16⟩) J J J J J ?_)
 refine o1 J (o_ld (b := b0) (off := 2) (v := (.agg (A [(I p0.Size.Rows), (I p0.Size.Cols)]))) J rm1 J J ?_)
 refine op J J ?_
 replace h := bsome h
 obtain ⟨d1, h1, h⟩ := h
 refine o1 J (o_call has119 J (c_vitrineref04_Wrap X p0.Size p1 _ h1) (pc rm0 pn) ?_)
 refine op J J (oe (c_ret (e_ret ?_)))
 refine r_endt J J (kc rm0 (kc rm0 (kc rm0 kr))) ?_
 obtain rfl := si h
 exact hk

theorem c_vitrineref12_At {g : Gw} (X : HP) (p0 : Vvitrineref12_Space) (b0 : Nat) (s0 : SV) (p1 : Int) (r : Vapi_Cell) (h : m_vitrineref12_At p0 p1 = some r) : Tri env g 57 (A [(F b0 0), (I p1)]) [X, blk b0 (.cells (A [(I p0.Model), (O p0.Alt), (I p0.Size.Rows), (I p0.Size.Cols), (V s0), (I p0.Cursor)]) 74 (0, 0)), slO s0 26 en_Vapi_Cell p0.L] (fun K R => K (.agg (A [(U r.Char), (O r.Attr), (U r.FA), (U r.High), (U r.Color), (U r.f_Set)])) (X :: blk b0 (.cells (A [(I p0.Model), (O p0.Alt), (I p0.Size.Rows), (I p0.Size.Cols), (V s0), (I p0.Cursor)]) 74 (0, 0)) :: slO s0 26 en_Vapi_Cell p0.L :: R)) := by
 refine tri_of (fn := Tryz.f57) (N := 14) Tryz.func57 J J J ?_
 intro R K hk
 unfold m_vitrineref12_At at h
 change GC _ none _ [] [(0, (F b0 0)), (1, (I p1))] (X :: blk b0 (.cells (A [(I p0.Model), (O p0.Alt), (I p0.Size.Rows), (I p0.Size.Cols), (V s0), (I p0.Cursor)]) 74 (0, 0)) :: slO s0 26 en_Vapi_Cell p0.L :: R) g _ _
 refine cr ?_
 refine o1 J (o_alloc (cs := [(U 0), (O false), (U 0), (U 0), (U 0), (U 0)]) J J (fun b139 => ?_))
 refine oe (c_seq ?_)
 refine c_draw (n := 2) (q := [(0, 5, (F b0 0)), (1, 6, (F b0 0)), (2, 7, (F b0 4)), (3, 8, (V s0)), (4, 9, (F b0 0)), (5, 10, (I p1))]) (pend := [0, 1, 2, 3, 4, 5]) J J J ?_
 replace h := bsome h
 obtain ⟨d2, h2, h⟩ := h
 refine ⟨⟨fun _ => ⟨J, J, J, .inl ⟨J, (o_p J ⟨J, J⟩)⟩⟩, fun _ => ⟨J, J, J, .inl ⟨J, (o_p J ⟨J, J⟩)⟩⟩, fun _ => ⟨J, J, J, .inl ⟨J, (o_fa (fd := ⟨ "L", 72, 4, false, "", "", 32⟩) J J J J J ⟨J, J⟩)⟩⟩, fun _ => ⟨J, J, J, .inl ⟨J, (o_ld (b := b0) (off := 4) (v := (V s0)) J rm2 J J ⟨J, J⟩)⟩⟩, fun _ => ⟨J, J, J, .inl ⟨J, (o_p J ⟨J, J⟩)⟩⟩, fun _ => ⟨J, J, J, .inl ⟨J, (o_p J ⟨J, J⟩)⟩⟩, trivial⟩, J, .inr ⟨[6], J, J, ⟨J, .inl J, ?_⟩, trivial⟩⟩
 refine (o_call has75 J (c_vitrineref12_Wrap X p0 b0 s0 p1 _ h2) (pc rm1 (pc rm1 (pc rm1 pn))) ?_)
 replace h := gsome h
 obtain ⟨hg141, h⟩ := h
 refine ⟨[(7, 12, (F (SV.blk s0) (SV.off s0 + Int.toNat d2 * 6))), (8, 13, (.agg (A [(U ((rd p0.L d2).Char)), (O ((rd p0.L d2).Attr)), (U ((rd p0.L d2).FA)), (U ((rd p0.L d2).High)), (U ((rd p0.L d2).Color)), (U ((rd p0.L d2).f_Set))])))], [0, 1, 2, 3, 7, 8], J, J, J, J, ?_⟩
 refine ⟨⟨fun _ => ⟨J, J, J, .inl ⟨J, (o_ix (s := s0) (n := d2) (e := en_Vapi_Cell) J J J J J J rm2 (rd_own _ _ _ _) hg141 ⟨J, J⟩)⟩⟩, fun _ => ⟨J, J, J, .inl ⟨J, (o_ldE (s := s0) (e := en_Vapi_Cell) (n := d2) (f := 0) (v := (.agg (A [(U ((rd p0.L d2).Char)), (O ((rd p0.L d2).Attr)), (U ((rd p0.L d2).FA)), (U ((rd p0.L d2).High)), (U ((rd p0.L d2).Color)), (U ((rd p0.L d2).f_Set))]))) J rm2 (rd_own _ _ _ _) hg141 J J ⟨J, J⟩)⟩⟩, fun _ => ⟨J, J, J, .inl ⟨J, (o_p J ⟨J, J⟩)⟩⟩, fun _ => ⟨J, J, J, .inl ⟨J, (o_p J ⟨J, J⟩)⟩⟩, fun _ => ⟨J, J, J, .inl ⟨J, (o_fa (fd := ⟨ "L", 72, 4, false, "", "", 32⟩) J J J J J ⟨J, J⟩)⟩⟩, fun _ => ⟨J, J, J, .inl ⟨J, (o_ld (b := b0) (off := 4) (v := (V s0)) J rm1 J J ⟨J, J⟩)⟩⟩, (fun h => nomatch h), (fun h => nomatch h), trivial⟩, J, .inr ⟨[9], J, J, ⟨J, .inl J, ?_⟩, trivial⟩⟩
 refine (o_st (b := b139) (off := 0) (vs := [(U ((rd p0.L d2).Char)), (O ((rd p0.L d2).Attr)), (U ((rd p0.L d2).FA)), (U ((rd p0.L d2).High)), (U ((rd p0.L d2).Color)), (U ((rd p0.L d2).f_Set))]) (cs' := [(U ((rd p0.L d2).Char)), (O ((rd p0.L d2).Attr)), (U ((rd p0.L d2).FA)), (U ((rd p0.L d2).High)), (U ((rd p0.L d2).Color)), (U ((rd p0.L d2).f_Set))]) J J rp3 J J J J J J ?_)
 refine ⟨[], [], J, J, ?_⟩
 refine ⟨⟨(fun h => nomatch h), (fun h => nomatch h), (fun h => nomatch h), (fun h => nomatch h), (fun h => nomatch h), (fun h => nomatch h), (fun h => nomatch h), (fun h => nomatch h), trivial⟩, J, J, J, ?_⟩
 refine e_seq (c_ret (e_ret ?_))
 refine r_endc (B := [[(U ((rd p0.L d2).Char)), (O ((rd p0.L d2).Attr)), (U ((rd p0.L d2).FA)), (U ((rd p0.L d2).High)), (U ((rd p0.L d2).Color)), (U ((rd p0.L d2).f_Set))]]) J ⟨⟨_, _, _, _, J, rm3⟩, trivial⟩ J (kc rm0 (kc rm0 (kc rm0 (kd kr)))) ?_
 obtain rfl := si h
 exact hk

theorem c_vitrineref05_Of {g : Gw} (X : HP) (p0 : Int) (r : Vvitrineref05_Field) (h : m_vitrineref05_Of p0 = some r) : Tri env g 72 (A [(U p0)]) [X] (fun K R => K (.agg (A [(O r.Protected), (O r.Numeric), (I r.Display), (O r.Modified)])) (X :: R)) := by
 refine tri_of (fn := Tryz.f72) (N := 20) Tryz.func72 J J J ?_
 intro R K hk
 unfold m_vitrineref05_Of at h
 change GC _ none _ [] [(0, (U p0))] (X :: R) g _ _
 refine cr ?_
 refine o1 J (o_alloc (cs := [(O false), (O false), (I 0), (O false)]) J J (fun b152 => ?_))
 refine oe (cr (op J J ?_))
 refine o1 J (o_p (v := (I (w64 (p0)))) J ?_)
 refine o1 rfl (o_rem (m := w64 (p0)) (n := 64) rfl rfl (by decide) ?_)
 refine op J J (oe (cr (op J J ?_)))
 refine o1 J (o_p (v := (O (decide ((Int.tmod (w64 (p0)) 64) ≥ 32)))) J ?_)
 refine op J J ?_
 refine o1 rfl (o_quo (m := Int.tmod (w64 (p0)) 64) (n := 16) rfl rfl (by decide) ?_)
 refine o1 rfl (o_rem (m := w64 (Int.tdiv (Int.tmod (w64 (p0)) 64) 16)) (n := 2) rfl rfl (by decide) ?_)
 refine o1 J (o_p (v := (O ((Int.tmod (w64 (Int.tdiv (Int.tmod (w64 (p0)) 64) 16)) 2) == 1))) J ?_)
 refine op J J ?_
 refine o1 rfl (o_quo (m := Int.tmod (w64 (p0)) 64) (n := 4) rfl rfl (by decide) ?_)
 refine o1 rfl (o_rem (m := w64 (Int.tdiv (Int.tmod (w64 (p0)) 64) 4)) (n := 4) rfl rfl (by decide) ?_)
 refine op J J ?_
 refine o1 rfl (o_rem (m := Int.tmod (w64 (p0)) 64) (n := 2) rfl rfl (by decide) ?_)
 refine o1 J (o_p (v := (O ((Int.tmod (Int.tmod (w64 (p0)) 64) 2) == 1))) J ?_)
 refine o1 J (o_build (fs := f_3) (ps := [(0, 1), (1, 1), (2, 1), (3, 1)]) (cs := [(O (decide ((Int.tmod (w64 (p0)) 64) ≥ 32))), (O ((Int.tmod (w64 (Int.tdiv (Int.tmod (w64 (p0)) 64) 16)) 2) == 1)), (I (Int.tmod (w64 (Int.tdiv (Int.tmod (w64 (p0)) 64) 4)) 4)), (O ((Int.tmod (Int.tmod (w64 (p0)) 64) 2) == 1))]) J J J J J ?_)
 refine o0 (o_st (b := b152) (off := 0) (vs := [(O (decide ((Int.tmod (w64 (p0)) 64) ≥ 32))), (O ((Int.tmod (w64 (Int.tdiv (Int.tmod (w64 (p0)) 64) 16)) 2) == 1)), (I (Int.tmod (w64 (Int.tdiv (Int.tmod (w64 (p0)) 64) 4)) 4)), (O ((Int.tmod (Int.tmod (w64 (p0)) 64) 2) == 1))]) (cs' := [(O (decide ((Int.tmod (w64 (p0)) 64) ≥ 32))), (O ((Int.tmod (w64 (Int.tdiv (Int.tmod (w64 (p0)) 64) 16)) 2) == 1)), (I (Int.tmod (w64 (Int.tdiv (Int.tmod (w64 (p0)) 64) 4)) 4)), (O ((Int.tmod (Int.tmod (w64 (p0)) 64) 2) == 1))]) J J rp0 J J J J J J ?_)
 refine oe (c_ret (e_ret ?_))
 refine r_endc (B := [[(O (decide ((Int.tmod (w64 (p0)) 64) ≥ 32))), (O ((Int.tmod (w64 (Int.tdiv (Int.tmod (w64 (p0)) 64) 16)) 2) == 1)), (I (Int.tmod (w64 (Int.tdiv (Int.tmod (w64 (p0)) 64) 4)) 4)), (O ((Int.tmod (Int.tmod (w64 (p0)) 64) 2) == 1))]]) J ⟨⟨_, _, _, _, J, rm0⟩, trivial⟩ J (kc rm1 (kd kr)) ?_
 obtain rfl := si h
 exact hk

theorem c_vitrineref05_Bits {g : Gw} (X : HP) (p0 : Vvitrineref05_Field) (r : Int × Int) (h : m_vitrineref05_Bits p0 = some r) : Tri env g 18 (A [(.agg (A [(O p0.Protected), (O p0.Numeric), (I p0.Display), (O p0.Modified)]))]) [X] (fun K R => K (.tuple (A [(U r.1), (I r.2)])) (X :: R)) := by
 refine tri_of (fn := Tryz.f18) (N := 30) Tryz.func18 J J J ?_
 intro R K hk
 unfold m_vitrineref05_Bits at h
 change GC _ none _ [] [(0, (.agg (A [(O p0.Protected), (O p0.Numeric), (I p0.Display), (O p0.Modified)])))] (X :: R) g _ _
 refine cr ?_
 refine o1 J (o_box (cs := [(O p0.Protected), (O p0.Numeric), (I p0.Display), (O p0.Modified)]) J J (fun b154 => ?_))
 refine op J J (op J J (oe (c_seq (c_seq ?_))))
 replace h := bsome h
 obtain ⟨d1, h, hk1⟩ := h
 refine cj (D := Unit) (ι := Unit) (fun _ i1 => True) (fun _ i1 => [(12, (O d1)), (1, (F b154 0))]) (fun _ i1 => X :: blk b154 (.cells (A [(O p0.Protected), (O p0.Numeric), (I p0.Display), (O p0.Modified)]) 56 (0, 0)) :: R) ?_ ?_
 ·refine c_region ?_
  refine o1 J (o_fa (fd := ⟨ "Display", 3, 2, false, "", "", 8⟩) J J J J J ?_)
  refine o1 J (o_ld (b := b154) (off := 2) (v := (I p0.Display)) J rm0 J J ?_)
  refine o1 J (o_p (v := (O (decide (p0.Display < 0)))) J ?_)
  refine op J J ?_
  rcases bool_or ((decide (p0.Display < 0))) with hb156 | hb156
  ·replace h := cond_t hb156 h
   refine on J J J hb156 ?_
   refine on J J J hb156 ?_
   refine on J J J hb156 ?_
   refine o1 J (o_pick_t J hb156 J ?_)
   refine o_end ?_
   obtain rfl := si h
   exact ej () () trivial (sc J (sc J sn)) (kc rm1 (kc rm0 kr))
  ·replace h := cond_f hb156 h
   refine oy J J J hb156 (o_fa (fd := ⟨ "Display", 3, 2, false, "", "", 8⟩) J J J J J ?_)
   refine oy J J J hb156 (o_ld (b := b154) (off := 2) (v := (I p0.Display)) J rm0 J J ?_)
   refine oy J J J hb156 (o_p (v := (O (decide (p0.Display > 3)))) J ?_)
   refine o1 J (o_pick_f J hb156 J ?_)
   refine o_end ?_
   obtain rfl := si h
   exact ej () () trivial (sc J (sc J sn)) (kc rm1 (kc rm0 kr))
 ·rintro _ i1 _
  replace h := hk1
  clear hk1
  refine e_seq ?_
  refine c_cond (b := d1) J (fun hb157 => ?_) (fun hb157 => ?_)
  ·replace h := cond_t hb157 h
   refine cr (op J J (op J J (oe ?_)))
   refine c_ret (e_then_ret (e_ret ?_))
   refine r_endt J J (kc rm0 (kd kr)) ?_
   obtain rfl := si h
   exact hk
  ·replace h := cond_f hb157 h
   refine c_skip (e_seq (cr ?_))
   refine o1 J (o_fa (fd := ⟨ "Display", 3, 2, false, "", "", 8⟩) J J J J J ?_)
   refine o1 J (o_ld (b := b154) (off := 2) (v := (I p0.Display)) J rm1 J J ?_)
   refine o1 J (o_p (v := (I (w64 (4 * p0.Display)))) J ?_)
   refine op J J (oe (c_seq (cr ?_)))
   refine o1 J (o_fa (fd := ⟨ "Protected", 4, 0, false, "", "", 0⟩) J J J J J ?_)
   refine o1 J (o_ld (b := b154) (off := 0) (v := (O p0.Protected)) J rm1 J J ?_)
   refine oe ?_
   replace h := bsome h
   obtain ⟨d3, h, hk3⟩ := h
   refine cj (D := Unit) (ι := Unit) (fun _ i3 => True) (fun _ i3 => [(4, (I d3)), (1, (F b154 0))]) (fun _ i3 => X :: blk b154 (.cells (A [(O p0.Protected), (O p0.Numeric), (I p0.Display), (O p0.Modified)]) 56 (0, 0)) :: R) ?_ ?_
   ·refine c_cond (b := p0.Protected) J (fun hb158 => ?_) (fun hb158 => ?_)
    ·replace h := cond_t hb158 h
     refine c_region (op J J ?_)
     refine o1 J (o_p (v := (I (w64 ((w64 (4 * p0.Display)) + 32)))) J ?_)
     refine op J J (o_end ?_)
     obtain rfl := si h
     exact ej () () trivial (sc J (sc J sn)) (kc rm0 (kc rm0 kr))
    ·replace h := cond_f hb158 h
     refine c_skip ?_
     obtain rfl := si h
     exact ej () () trivial (sc J (sc J sn)) (kc rm0 (kc rm0 kr))
   ·rintro _ i3 _
    replace h := hk3
    clear hk3
    refine e_seq (c_seq (cr ?_))
    refine o1 J (o_fa (fd := ⟨ "Numeric", 4, 1, false, "", "", 1⟩) J J J J J ?_)
    refine o1 J (o_ld (b := b154) (off := 1) (v := (O p0.Numeric)) J rm1 J J ?_)
    refine oe ?_
    replace h := bsome h
    obtain ⟨d4, h, hk4⟩ := h
    refine cj (D := Unit) (ι := Unit) (fun _ i4 => True) (fun _ i4 => [(4, (I d4)), (1, (F b154 0))]) (fun _ i4 => X :: blk b154 (.cells (A [(O p0.Protected), (O p0.Numeric), (I p0.Display), (O p0.Modified)]) 56 (0, 0)) :: R) ?_ ?_
    ·refine c_cond (b := p0.Numeric) J (fun hb159 => ?_) (fun hb159 => ?_)
     ·replace h := cond_t hb159 h
      refine c_region (op J J ?_)
      refine o1 J (o_p (v := (I (w64 (d3 + 16)))) J ?_)
      refine op J J (o_end ?_)
      obtain rfl := si h
      exact ej () () trivial (sc J (sc J sn)) (kc rm0 (kc rm0 kr))
     ·replace h := cond_f hb159 h
      refine c_skip ?_
      obtain rfl := si h
      exact ej () () trivial (sc J (sc J sn)) (kc rm0 (kc rm0 kr))
    ·rintro _ i4 _
     replace h := hk4
     clear hk4
     refine e_seq (c_seq (cr ?_))
     refine o1 J (o_fa (fd := ⟨ "Modified", 4, 3, false, "", "", 16⟩) J J J J J ?_)
     refine o1 J (o_ld (b := b154) (off := 3) (v := (O p0.Modified)) J rm1 J J ?_)
     refine oe ?_
     replace h := bsome h
     obtain ⟨d5, h, hk5⟩ := h
     refine cj (D := Unit) (ι := Unit) (fun _ i5 => True) (fun _ i5 => [(4, (I d5))]) (fun _ i5 => X :: R) ?_ ?_
     ·refine c_cond (b := p0.Modified) J (fun hb160 => ?_) (fun hb160 => ?_)
      ·replace h := cond_t hb160 h
       refine c_region (op J J ?_)
       refine o1 J (o_p (v := (I (w64 (d4 + 1)))) J ?_)
       refine op J J (o_end ?_)
       obtain rfl := si h
       exact ej () () trivial (sc J sn) (kc rm0 (kd kr))
      ·replace h := cond_f hb160 h
       refine c_skip ?_
       obtain rfl := si h
       exact ej () () trivial (sc J sn) (kc rm0 (kd kr))
     ·rintro _ i5 _
      replace h := hk5
      clear hk5
      refine e_seq (cr (op J J ?_))
      refine o1 J (o_p (v := (U (IntKind.wrap .u8 (d5)))) J ?_)
      refine op J J (op J J (oe (c_ret (e_ret ?_))))
      refine r_endt J J (kc rm0 kr) ?_
      obtain rfl := si h
      exact hk

theorem c_vitrineref05_Six {g : Gw} (X : HP) (p0 : Int) (r : Int) (h : m_vitrineref05_Six p0 = some r) : Tri env g 139 (A [(U p0)]) [X] (fun K R => K (U r) (X :: R)) := by
 refine tri_of (fn := Tryz.f139) (N := 12) Tryz.func139 J J J ?_
 intro R K hk
 unfold m_vitrineref05_Six at h
 change GC _ none _ [] [(0, (U p0))] (X :: R) g _ _
 refine cr (op J J (oe (c_seq ?_)))
 refine c_region (op J J ?_)
 replace h := bsome h
 obtain ⟨d1, h1, h⟩ := h
 refine o1 J (o_call has72 J (c_vitrineref05_Of X p0 _ h1) (pc rm0 pn) ?_)
 replace h := bsome h
 obtain ⟨d2, h2, h⟩ := h
 refine o1 J (o_call has18 J (c_vitrineref05_Bits X d1 _ h2) (pc rm0 pn) ?_)
 refine op J J (op J J (op J J (op J J (op J J (o_end ?_)))))
 refine e_seq (cr (op J J (op J J (o_end ?_))))
 refine e_seq (c_ret (e_ret ?_))
 refine r_endt J J (kc rm0 kr) ?_
 obtain rfl := si h
 exact hk

theorem c_vitrineref12_Fit {g : Gw} (X : HP) (p0 : Vapi_Cell) (r : Vapi_Cell) (h : m_vitrineref12_Fit p0 = some r) : Tri env g 101 (A [(.agg (A [(U p0.Char), (O p0.Attr), (U p0.FA), (U p0.High), (U p0.Color), (U p0.f_Set)]))]) [X] (fun K R => K (.agg (A [(U r.Char), (O r.Attr), (U r.FA), (U r.High), (U r.Color), (U r.f_Set)])) (X :: R)) := by
 refine tri_of (fn := Tryz.f101) (N := 12) Tryz.func101 J J J ?_
 intro R K hk
 unfold m_vitrineref12_Fit at h
 change GC _ none _ [] [(0, (.agg (A [(U p0.Char), (O p0.Attr), (U p0.FA), (U p0.High), (U p0.Color), (U p0.f_Set)])))] (X :: R) g _ _
 refine cr ?_
 refine o1 J (o_box (cs := [(U p0.Char), (O p0.Attr), (U p0.FA), (U p0.High), (U p0.Color), (U p0.f_Set)]) J J (fun b147 => ?_))
 refine o1 J (o_alloc (cs := [(U 0), (O false), (U 0), (U 0), (U 0), (U 0)]) J J (fun b149 => ?_))
 refine oe (c_seq (cr ?_))
 refine o1 J (o_fa (fd := ⟨ "Attr", 4, 1, false, "", "", 1⟩) J J J J J ?_)
 refine o1 J (o_ld (b := b147) (off := 1) (v := (O p0.Attr)) J rm1 J J ?_)
 refine oe ?_
 replace h := bsome h
 obtain ⟨d1, h, hk1⟩ := h
 refine cj (D := Unit) (ι := Unit) (fun _ i1 => True) (fun _ i1 => [(2, (F b149 0)), (1, (F b147 0))]) (fun _ i1 => X :: blk b149 (.cells (A [(U 0), (O false), (U 0), (U 0), (U 0), (U 0)]) 26 (0, 0)) :: blk b147 (.cells (A [(U d1.1), (O p0.Attr), (U d1.2), (U p0.High), (U p0.Color), (U p0.f_Set)]) 26 (0, 0)) :: R) ?_ ?_
 ·refine c_cond (b := p0.Attr) J (fun hb151 => ?_) (fun hb151 => ?_)
  ·replace h := cond_t hb151 h
   refine c_region ?_
   refine o1 J (o_fa (fd := ⟨ "FA", 5, 2, false, "", "", 2⟩) J J J J J ?_)
   refine o1 J (o_ld (b := b147) (off := 2) (v := (U p0.FA)) J rm1 J J ?_)
   replace h := bsome h
   obtain ⟨d2, h2, h⟩ := h
   refine o1 J (o_call has139 J (c_vitrineref05_Six X p0.FA _ h2) (pc rm2 pn) ?_)
   refine o1 J (o_fa (fd := ⟨ "Char", 5, 0, false, "", "", 0⟩) J J J J J ?_)
   refine o0 (o_st (b := b147) (off := 0) (vs := [(U 0)]) (cs' := [(U 0), (O p0.Attr), (U p0.FA), (U p0.High), (U p0.Color), (U p0.f_Set)]) J J rp2 J J J J J J ?_)
   refine o1 J (o_fa (fd := ⟨ "FA", 5, 2, false, "", "", 2⟩) J J J J J ?_)
   refine o0 (o_st (b := b147) (off := 2) (vs := [(U d2)]) (cs' := [(U 0), (O p0.Attr), (U d2), (U p0.High), (U p0.Color), (U p0.f_Set)]) J J rp2 J J J J J J ?_)
   refine o_end ?_
   obtain rfl := si h
   exact ej () () trivial (sc J (sc J sn)) (kc rm0 (kc rm0 (kc rm0 kr)))
  ·replace h := cond_f hb151 h
   refine c_region ?_
   refine o1 J (o_fa (fd := ⟨ "FA", 5, 2, false, "", "", 2⟩) J J J J J ?_)
   refine o0 (o_st (b := b147) (off := 2) (vs := [(U 0)]) (cs' := [(U p0.Char), (O p0.Attr), (U 0), (U p0.High), (U p0.Color), (U p0.f_Set)]) J J rp1 J J J J J J ?_)
   refine o_end ?_
   obtain rfl := si h
   exact ej () () trivial (sc J (sc J sn)) (kc rm2 (kc rm0 (kc rm0 kr)))
 ·rintro _ i1 _
  replace h := hk1
  clear hk1
  refine e_seq (cr ?_)
  refine o1 J (o_ld (b := b147) (off := 0) (v := (.agg (A [(U d1.1), (O p0.Attr), (U d1.2), (U p0.High), (U p0.Color), (U p0.f_Set)]))) J rm2 J J ?_)
  refine o0 (o_st (b := b149) (off := 0) (vs := [(U d1.1), (O p0.Attr), (U d1.2), (U p0.High), (U p0.Color), (U p0.f_Set)]) (cs' := [(U d1.1), (O p0.Attr), (U d1.2), (U p0.High), (U p0.Color), (U p0.f_Set)]) J J rp1 J J J J J J ?_)
  refine oe (c_ret (e_ret ?_))
  refine r_endc (B := [[(U d1.1), (O p0.Attr), (U d1.2), (U p0.High), (U p0.Color), (U p0.f_Set)]]) J ⟨⟨_, _, _, _, J, rm1⟩, trivial⟩ J (kc rm0 (kd (kd kr))) ?_
  obtain rfl := si h
  exact hk

theorem c_vitrineref12_Set {g : Gw} (X : HP) (p0 : Vvitrineref12_Space) (b0 : Nat) (s0 : SV) (p1 : Int) (p2 : Vapi_Cell) (r : Vvitrineref12_Space) (h : m_vitrineref12_Set p0 p1 p2 = some r) : Tri env g 58 (A [(F b0 0), (I p1), (.agg (A [(U p2.Char), (O p2.Attr), (U p2.FA), (U p2.High), (U p2.Color), (U p2.f_Set)]))]) [X, blk b0 (.cells (A [(I p0.Model), (O p0.Alt), (I p0.Size.Rows), (I p0.Size.Cols), (V s0), (I p0.Cursor)]) 74 (0, 0)), slO s0 26 en_Vapi_Cell p0.L] (fun K R => K (.tuple (A [])) (X :: blk b0 (.cells (A [(I r.Model), (O r.Alt), (I r.Size.Rows), (I r.Size.Cols), (V s0), (I r.Cursor)]) 74 (0, 0)) :: slO s0 26 en_Vapi_Cell r.L :: R)) := by
 refine tri_of (fn := Tryz.f58) (N := 16) Tryz.func58 J J J ?_
 intro R K hk
 unfold m_vitrineref12_Set at h
 change GC _ none _ [] [(0, (F b0 0)), (1, (I p1)), (2, (.agg (A [(U p2.Char), (O p2.Attr), (U p2.FA), (U p2.High), (U p2.Color), (U p2.f_Set)])))] (X :: blk b0 (.cells (A [(I p0.Model), (O p0.Alt), (I p0.Size.Rows), (I p0.Size.Cols), (V s0), (I p0.Cursor)]) 74 (0, 0)) :: slO s0 26 en_Vapi_Cell p0.L :: R) g _ _
 refine cr ?_
 refine o1 J (o_box (cs := [(U p2.Char), (O p2.Attr), (U p2.FA), (U p2.High), (U p2.Color), (U p2.f_Set)]) J J (fun b145 => ?_))
 refine oe ?_
 refine c_draw (n := 3) (q := [(0, 6, (F b0 0)), (1, 7, (F b0 0)), (2, 8, (F b0 4)), (3, 9, (V s0)), (4, 10, (F b0 0)), (5, 11, (I p1)), (7, 13, (.agg (A [(U p2.Char), (O p2.Attr), (U p2.FA), (U p2.High), (U p2.Color), (U p2.f_Set)])))]) (pend := [0, 1, 2, 3, 4, 5, 7]) J J J ?_
 replace h := bsome h
 obtain ⟨d1, h1, h⟩ := h
 refine ⟨⟨fun _ => ⟨J, J, J, .inl ⟨J, (o_p J ⟨J, J⟩)⟩⟩, fun _ => ⟨J, J, J, .inl ⟨J, (o_p J ⟨J, J⟩)⟩⟩, fun _ => ⟨J, J, J, .inl ⟨J, (o_fa (fd := ⟨ "L", 72, 4, false, "", "", 32⟩) J J J J J ⟨J, J⟩)⟩⟩, fun _ => ⟨J, J, J, .inl ⟨J, (o_ld (b := b0) (off := 4) (v := (V s0)) J rm2 J J ⟨J, J⟩)⟩⟩, fun _ => ⟨J, J, J, .inl ⟨J, (o_p J ⟨J, J⟩)⟩⟩, fun _ => ⟨J, J, J, .inl ⟨J, (o_p J ⟨J, J⟩)⟩⟩, fun _ => ⟨J, J, J, .inl ⟨J, (o_ld (b := b145) (off := 0) (v := (.agg (A [(U p2.Char), (O p2.Attr), (U p2.FA), (U p2.High), (U p2.Color), (U p2.f_Set)]))) J rm0 J J ⟨J, J⟩)⟩⟩, trivial⟩, J, .inr ⟨[6], J, J, ⟨J, .inl J, ?_⟩, trivial⟩⟩
 refine (o_call has75 J (c_vitrineref12_Wrap X p0 b0 s0 p1 _ h1) (pc rm1 (pc rm1 (pc rm1 pn))) ?_)
 refine ⟨[], [0, 1, 2, 3, 7], J, J, J, J, ?_⟩
 replace h := bsome h
 obtain ⟨d2, h2, h⟩ := h
 refine ⟨⟨fun _ => ⟨J, J, J, .inl ⟨J, (o_p J ⟨J, J⟩)⟩⟩, fun _ => ⟨J, J, J, .inl ⟨J, (o_p J ⟨J, J⟩)⟩⟩, fun _ => ⟨J, J, J, .inl ⟨J, (o_fa (fd := ⟨ "L", 72, 4, false, "", "", 32⟩) J J J J J ⟨J, J⟩)⟩⟩, fun _ => ⟨J, J, J, .inl ⟨J, (o_ld (b := b0) (off := 4) (v := (V s0)) J rm1 J J ⟨J, J⟩)⟩⟩, (fun h => nomatch h), (fun h => nomatch h), fun _ => ⟨J, J, J, .inl ⟨J, (o_ld (b := b145) (off := 0) (v := (.agg (A [(U p2.Char), (O p2.Attr), (U p2.FA), (U p2.High), (U p2.Color), (U p2.f_Set)]))) J rm3 J J ⟨J, J⟩)⟩⟩, trivial⟩, J, .inr ⟨[8], J, J, ⟨J, .inl J, ?_⟩, trivial⟩⟩
 refine (o_call has101 J (c_vitrineref12_Fit X p2 _ h2) (pc rm0 pn) ?_)
 replace h := gsome h
 obtain ⟨hg161, h⟩ := h
 refine ⟨[(9, 15, (F (SV.blk s0) (SV.off s0 + Int.toNat d1 * 6)))], [0, 1, 2, 3, 9], J, J, J, J, ?_⟩
 refine ⟨⟨fun _ => ⟨J, J, J, .inl ⟨J, (o_ix (s := s0) (n := d1) (e := en_Vapi_Cell) J J J J J J rm2 (rd_own _ _ _ _) hg161 ⟨J, J⟩)⟩⟩, fun _ => ⟨J, J, J, .inl ⟨J, (o_p J ⟨J, J⟩)⟩⟩, fun _ => ⟨J, J, J, .inl ⟨J, (o_p J ⟨J, J⟩)⟩⟩, fun _ => ⟨J, J, J, .inl ⟨J, (o_fa (fd := ⟨ "L", 72, 4, false, "", "", 32⟩) J J J J J ⟨J, J⟩)⟩⟩, fun _ => ⟨J, J, J, .inl ⟨J, (o_ld (b := b0) (off := 4) (v := (V s0)) J rm1 J J ⟨J, J⟩)⟩⟩, (fun h => nomatch h), (fun h => nomatch h), (fun h => nomatch h), trivial⟩, J, .inr ⟨[10], J, J, ⟨J, .inl J, ?_⟩, trivial⟩⟩
 refine (o_stE (s := s0) (e := en_Vapi_Cell) (n := d1) (f := 0) (vs := [(U d2.Char), (O d2.Attr), (U d2.FA), (U d2.High), (U d2.Color), (U d2.f_Set)]) (u := d2) J J rp2 hg161 J J J J J J ?_)
 refine ⟨[], [], J, J, ?_⟩
 refine ⟨⟨(fun h => nomatch h), (fun h => nomatch h), (fun h => nomatch h), (fun h => nomatch h), (fun h => nomatch h), (fun h => nomatch h), (fun h => nomatch h), (fun h => nomatch h), trivial⟩, J, J, J, ?_⟩
 refine e_fall ?_
 refine r_endt J J (kc rm0 (kc rm0 (kc rm0 (kd kr)))) ?_
 obtain rfl := si h
 exact hk

theorem c_vitrineref12_Put {g : Gw} (X : HP) (p0 : Vvitrineref12_Space) (b0 : Nat) (s0 : SV) (p1 : Int) (p2 : Int) (r : Vvitrineref12_Space) (h : m_vitrineref12_Put p0 p1 p2 = some r) : Tri env g 20 (A [(F b0 0), (I p1), (U p2)]) [X, blk b0 (.cells (A [(I p0.Model), (O p0.Alt), (I p0.Size.Rows), (I p0.Size.Cols), (V s0), (I p0.Cursor)]) 74 (0, 0)), slO s0 26 en_Vapi_Cell p0.L] (fun K R => K (.tuple (A [])) (X :: blk b0 (.cells (A [(I r.Model), (O r.Alt), (I r.Size.Rows), (I r.Size.Cols), (V s0), (I r.Cursor)]) 74 (0, 0)) :: slO s0 26 en_Vapi_Cell r.L :: R)) := by
 refine tri_of (fn := Tryz.f20) (N := 19) Tryz.func20 J J J ?_
 intro R K hk
 unfold m_vitrineref12_Put at h
 change GC _ none _ [] [(0, (F b0 0)), (1, (I p1)), (2, (U p2))] (X :: blk b0 (.cells (A [(I p0.Model), (O p0.Alt), (I p0.Size.Rows), (I p0.Size.Cols), (V s0), (I p0.Cursor)]) 74 (0, 0)) :: slO s0 26 en_Vapi_Cell p0.L :: R) g _ _
 refine cr (op J J (op J J ?_))
 replace h := bsome h
 obtain ⟨d1, h1, h⟩ := h
 refine o1 J (o_call has57 J (c_vitrineref12_At X p0 b0 s0 p1 _ h1) (pc rm0 (pc rm0 (pc rm0 pn))) ?_)
 refine o1 J (o_alloc (cs := [(U 0), (O false), (U 0), (U 0), (U 0), (U 0)]) J J (fun b142 => ?_))
 refine o0 (o_st (b := b142) (off := 0) (vs := [(U d1.Char), (O d1.Attr), (U d1.FA), (U d1.High), (U d1.Color), (U d1.f_Set)]) (cs' := [(U d1.Char), (O d1.Attr), (U d1.FA), (U d1.High), (U d1.Color), (U d1.f_Set)]) J J rp0 J J J J J J ?_)
 refine oe (cr ?_)
 refine o1 J (o_fa (fd := ⟨ "Attr", 4, 1, false, "", "", 1⟩) J J J J J ?_)
 refine o1 J (o_ld (b := b142) (off := 1) (v := (O d1.Attr)) J rm0 J J ?_)
 refine o1 J (o_p (v := (O (!d1.Attr))) J ?_)
 refine oe ?_
 refine c_cond (b := (!d1.Attr)) J (fun hb144 => ?_) (fun hb144 => ?_)
 ·replace h := cond_t hb144 h
  refine cr (op J J ?_)
  refine o1 J (o_fa (fd := ⟨ "Char", 5, 0, false, "", "", 0⟩) J J J J J ?_)
  refine o0 (o_st (b := b142) (off := 0) (vs := [(U p2)]) (cs' := [(U p2), (O d1.Attr), (U d1.FA), (U d1.High), (U d1.Color), (U d1.f_Set)]) J J rp0 J J J J J J ?_)
  refine oe (c_region (op J J (op J J ?_)))
  refine o1 J (o_ld (b := b142) (off := 0) (v := (.agg (A [(U p2), (O d1.Attr), (U d1.FA), (U d1.High), (U d1.Color), (U d1.f_Set)]))) J rm0 J J ?_)
  replace h := bsome h
  obtain ⟨d2, h2, h⟩ := h
  refine o1 J (o_call has58 J (c_vitrineref12_Set X (⟨p0.Model, p0.Alt, p0.Size, p0.L, p0.Cursor⟩ : Vvitrineref12_Space) b0 s0 p1 (⟨p2, d1.Attr, d1.FA, d1.High, d1.Color, d1.f_Set⟩ : Vapi_Cell) _ h2) (pc rm1 (pc rm1 (pc rm1 pn))) ?_)
  refine o_end (e_fall ?_)
  refine r_endt J J (kc rm0 (kc rm0 (kc rm0 (kd kr)))) ?_
  obtain rfl := si h
  exact hk
 ·replace h := cond_f hb144 h
  refine c_skip (e_fall ?_)
  refine r_endt J J (kc rm1 (kc rm1 (kc rm1 (kd kr)))) ?_
  obtain rfl := si h
  exact hk

theorem c_vitrineref12_Do {g : Gw} (X : HP) (p0 : Vvitrineref12_Space) (b0 : Nat) (s0 : SV) (p1 : Vvitrineref12_Act) (s1 : SV) (q0 : Rd X s1 5 (enI .u8) p1.Text) (r : Vvitrineref12_Space) (h : m_vitrineref12_Do p0 p1 = some r) : Tri env g 40 (A [(F b0 0), (.agg (A [(U p1.Do), (I p1.N), (O p1.On), (U p1.Code), (U p1.C.Char), (O p1.C.Attr), (U p1.C.FA), (U p1.C.High), (U p1.C.Color), (U p1.C.f_Set), (V s1)]))]) [X, blk b0 (.cells (A [(I p0.Model), (O p0.Alt), (I p0.Size.Rows), (I p0.Size.Cols), (V s0), (I p0.Cursor)]) 74 (0, 0)), slO s0 26 en_Vapi_Cell p0.L] (fun K R => ∀ (i0 : SV), K (.tuple (A [])) (X :: blk b0 (.cells (A [(I r.Model), (O r.Alt), (I r.Size.Rows), (I r.Size.Cols), (V i0), (I r.Cursor)]) 74 (0, 0)) :: slO i0 26 en_Vapi_Cell r.L :: R)) := by
 refine tri_of (fn := Tryz.f40) (N := 69) Tryz.func40 J J J ?_
 intro R K hk
 unfold m_vitrineref12_Do at h
 change GC _ none _ [] [(0, (F b0 0)), (1, (.agg (A [(U p1.Do), (I p1.N), (O p1.On), (U p1.Code), (U p1.C.Char), (O p1.C.Attr), (U p1.C.FA), (U p1.C.High), (U p1.C.Color), (U p1.C.f_Set), (V s1)])))] (X :: blk b0 (.cells (A [(I p0.Model), (O p0.Alt), (I p0.Size.Rows), (I p0.Size.Cols), (V s0), (I p0.Cursor)]) 74 (0, 0)) :: slO s0 26 en_Vapi_Cell p0.L :: R) g _ _
 refine cr ?_
 refine o1 J (o_box (cs := [(U p1.Do), (I p1.N), (O p1.On), (U p1.Code), (U p1.C.Char), (O p1.C.Attr), (U p1.C.FA), (U p1.C.High), (U p1.C.Color), (U p1.C.f_Set), (V s1)]) J J (fun b123 => ?_))
 refine oe (cr ?_)
 refine o1 J (o_fa (fd := ⟨ "Do", 5, 0, false, "", "", 0⟩) J J J J J ?_)
 refine o1 J (o_ld (b := b123) (off := 0) (v := (U p1.Do)) J rm0 J J ?_)
 refine o1 rfl (o_rem (m := p1.Do) (n := 6) rfl rfl (by decide) ?_)
 refine oe ?_
 replace h := bsome h
 obtain ⟨d1, h, hk1⟩ := h
 refine cj (D := Unit) (ι := SV) (fun _ i1 => True) (fun _ i1 => []) (fun _ i1 => X :: blk b0 (.cells (A [(I d1.1), (O d1.2.1), (I d1.2.2.1), (I d1.2.2.2.1), (V i1), (I d1.2.2.2.2.2)]) 74 (0, 0)) :: slO i1 26 en_Vapi_Cell d1.2.2.2.2.1 :: R) ?_ ?_
 ·refine c_block (cr ?_)
  refine o1 J (o_p (v := (O ((Int.tmod p1.Do 6) == 0))) J ?_)
  refine op J J (oe ?_)
  replace h := bsome h
  obtain ⟨d2, h, hk2⟩ := h
  refine cj (D := Unit) (ι := SV) (fun _ i2 => True) (fun _ i2 => []) (fun _ i2 => X :: blk b0 (.cells (A [(I d2.1), (O d2.2.1), (I d2.2.2.1), (I d2.2.2.2.1), (V i2), (I d2.2.2.2.2.2)]) 74 (0, 0)) :: slO i2 26 en_Vapi_Cell d2.2.2.2.2.1 :: R) ?_ ?_
  ·refine c_cond (b := ((Int.tmod p1.Do 6) == 0)) J (fun hb125 => ?_) (fun hb125 => ?_)
   ·replace h := cond_t hb125 h
    refine c_region (op J J ?_)
    refine o1 J (o_fa (fd := ⟨ "On", 4, 2, false, "", "", 16⟩) J J J J J ?_)
    refine o1 J (o_ld (b := b123) (off := 2) (v := (O p1.On)) J rm0 J J ?_)
    replace h := bsome h
    obtain ⟨d3, h3, h⟩ := h
    refine o1 J (o_call has29 J (c_vitrineref12_Clear_2 X p0 b0 s0 p1.On _ h3) (pc rm1 (pc rm1 (pc rm1 pn))) (fun i3 => ?_))
    refine o_end ?_
    obtain rfl := si h
    exact ej () i3 trivial sn (kc rm0 (kc rm0 (kc rm0 (kd (kd kr)))))
   ·replace h := cond_f hb125 h
    refine cr ?_
    refine o1 J (o_p (v := (O ((Int.tmod p1.Do 6) == 1))) J ?_)
    refine op J J (oe ?_)
    refine c_cond (b := ((Int.tmod p1.Do 6) == 1)) J (fun hb132 => ?_) (fun hb132 => ?_)
    ·replace h := cond_t hb132 h
     refine c_region (op J J (op J J ?_))
     refine o1 J (o_fa (fd := ⟨ "N", 3, 1, false, "", "", 8⟩) J J J J J ?_)
     refine o1 J (o_ld (b := b123) (off := 1) (v := (I p1.N)) J rm0 J J ?_)
     replace h := bsome h
     obtain ⟨d4, h4, h⟩ := h
     refine o1 J (o_call has75 J (c_vitrineref12_Wrap X (⟨p0.Model, p0.Alt, p0.Size, p0.L, p0.Cursor⟩ : Vvitrineref12_Space) b0 s0 p1.N _ h4) (pc rm1 (pc rm1 (pc rm1 pn))) ?_)
     refine op J J ?_
     refine o1 J (o_fa (fd := ⟨ "Cursor", 3, 5, false, "", "", 56⟩) J J J J J ?_)
     refine o0 (o_st (b := b0) (off := 5) (vs := [(I d4)]) (cs' := [(I p0.Model), (O p0.Alt), (I p0.Size.Rows), (I p0.Size.Cols), (V s0), (I d4)]) J J rp1 J J J J J J ?_)
     refine o_end ?_
     obtain rfl := si h
     exact ej () s0 trivial sn (kc rm0 (kc rm0 (kc rm0 (kd kr))))
    ·replace h := cond_f hb132 h
     refine cr ?_
     refine o1 J (o_p (v := (O ((Int.tmod p1.Do 6) == 2))) J ?_)
     refine op J J (oe ?_)
     refine c_cond (b := ((Int.tmod p1.Do 6) == 2)) J (fun hb138 => ?_) (fun hb138 => ?_)
     ·replace h := cond_t hb138 h
      refine c_region (op J J ?_)
      refine o1 J (o_fa (fd := ⟨ "N", 3, 1, false, "", "", 8⟩) J J J J J ?_)
      refine o1 J (o_ld (b := b123) (off := 1) (v := (I p1.N)) J rm0 J J ?_)
      refine o1 J (o_fa (fd := ⟨ "Code", 5, 3, false, "", "", 17⟩) J J J J J ?_)
      refine o1 J (o_ld (b := b123) (off := 3) (v := (U p1.Code)) J rm0 J J ?_)
      replace h := bsome h
      obtain ⟨d5, h5, h⟩ := h
      refine o1 J (o_call has20 J (c_vitrineref12_Put X (⟨p0.Model, p0.Alt, p0.Size, p0.L, p0.Cursor⟩ : Vvitrineref12_Space) b0 s0 p1.N p1.Code _ h5) (pc rm1 (pc rm1 (pc rm1 pn))) ?_)
      refine o_end ?_
      obtain rfl := si h
      exact ej () s0 trivial sn (kc rm0 (kc rm0 (kc rm0 (kd kr))))
     ·replace h := cond_f hb138 h
      refine cr ?_
      refine o1 J (o_p (v := (O ((Int.tmod p1.Do 6) == 3))) J ?_)
      refine op J J (oe ?_)
      refine c_cond (b := ((Int.tmod p1.Do 6) == 3)) J (fun hb166 => ?_) (fun hb166 => ?_)
      ·replace h := cond_t hb166 h
       refine c_region (op J J ?_)
       refine o1 J (o_fa (fd := ⟨ "N", 3, 1, false, "", "", 8⟩) J J J J J ?_)
       refine o1 J (o_ld (b := b123) (off := 1) (v := (I p1.N)) J rm0 J J ?_)
       refine o1 J (o_fa (fd := ⟨ "Code", 5, 3, false, "", "", 17⟩) J J J J J ?_)
       refine o1 J (o_ld (b := b123) (off := 3) (v := (U p1.Code)) J rm0 J J ?_)
       refine o1 J (o_build (fs := f_5) (ps := [(0, 1), (1, 1), (2, 1), (3, 1), (4, 1), (5, 1)]) (cs := [(U 0), (O true), (U p1.Code), (U 0), (U 0), (U 0)]) J J J J J ?_)
       replace h := bsome h
       obtain ⟨d6, h6, h⟩ := h
       refine o1 J (o_call has58 J (c_vitrineref12_Set X (⟨p0.Model, p0.Alt, p0.Size, p0.L, p0.Cursor⟩ : Vvitrineref12_Space) b0 s0 p1.N (⟨0, true, p1.Code, 0, 0, 0⟩ : Vapi_Cell) _ h6) (pc rm1 (pc rm1 (pc rm1 pn))) ?_)
       refine o_end ?_
       obtain rfl := si h
       exact ej () s0 trivial sn (kc rm0 (kc rm0 (kc rm0 (kd kr))))
      ·replace h := cond_f hb166 h
       refine cr ?_
       refine o1 J (o_p (v := (O ((Int.tmod p1.Do 6) == 4))) J ?_)
       refine op J J (oe ?_)
       refine c_cond (b := ((Int.tmod p1.Do 6) == 4)) J (fun hb168 => ?_) (fun hb168 => ?_)
       ·replace h := cond_t hb168 h
        refine c_region (op J J ?_)
        refine o1 J (o_fa (fd := ⟨ "N", 3, 1, false, "", "", 8⟩) J J J J J ?_)
        refine o1 J (o_ld (b := b123) (off := 1) (v := (I p1.N)) J rm0 J J ?_)
        refine o1 J (o_fa (fd := ⟨ "C", 26, 4, false, "", "", 18⟩) J J J J J ?_)
        refine o1 J (o_ld (b := b123) (off := 4) (v := (.agg (A [(U p1.C.Char), (O p1.C.Attr), (U p1.C.FA), (U p1.C.High), (U p1.C.Color), (U p1.C.f_Set)]))) J rm0 J J ?_)
        replace h := bsome h
        obtain ⟨d7, h7, h⟩ := h
        refine o1 J (o_call has58 J (c_vitrineref12_Set X (⟨p0.Model, p0.Alt, p0.Size, p0.L, p0.Cursor⟩ : Vvitrineref12_Space) b0 s0 p1.N p1.C _ h7) (pc rm1 (pc rm1 (pc rm1 pn))) ?_)
        refine o_end ?_
        obtain rfl := si h
        exact ej () s0 trivial sn (kc rm0 (kc rm0 (kc rm0 (kd kr))))
       ·replace h := cond_f hb168 h
        refine cr ?_
        refine o1 J (o_fa (fd := ⟨ "Text", 22, 10, false, "", "", 24⟩) J J J J J ?_)
        refine o1 J (o_ld (b := b123) (off := 10) (v := (V s1)) J rm0 J J ?_)
        refine o1 J (o_len (s := s1) J J J rm1 q0 ?_)
        refine op J J (oe ?_)
        replace h := bsome h
        obtain ⟨d8, h, hk8⟩ := h
        refine cj (D := Unit) (ι := Unit) (fun _ i8 => True) (fun _ i8 => []) (fun _ i8 => X :: blk b0 (.cells (A [(I d8.1), (O d8.2.1), (I d8.2.2.1), (I d8.2.2.2.1), (V s0), (I d8.2.2.2.2.2)]) 74 (0, 0)) :: slO s0 26 en_Vapi_Cell d8.2.2.2.2.1 :: R) ?_ ?_
        ·refine c_block ?_
         refine c_loop (l_sub (sc J (sc J (sc J (sc J (sc J sn))))) (l_keep (kc rm1 (kc rm0 (kc rm0 (kc rm0 kr)))) (lf (X := Int × Int × Bool × Int × Int × (List Vapi_Cell) × Int) (ι := Unit) (fun k x => vitrineref12_Do_l9 p1 k x) _ (fun x9 i9 => True) (fun x9 i9 => [(12, (I x9.1)), (11, (I (p1.Text.length : Int))), (10, (V s1)), (3, (F b123 0)), (0, (F b0 0))]) (fun x9 i9 => X :: blk b123 (.cells (A [(U p1.Do), (I p1.N), (O p1.On), (U p1.Code), (U p1.C.Char), (O p1.C.Attr), (U p1.C.FA), (U p1.C.High), (U p1.C.Color), (U p1.C.f_Set), (V s1)]) 28 (0, 0)) :: blk b0 (.cells (A [(I x9.2.1), (O x9.2.2.1), (I x9.2.2.2.1), (I x9.2.2.2.2.1), (V s0), (I x9.2.2.2.2.2.2)]) 74 (0, 0)) :: slO s0 26 en_Vapi_Cell x9.2.2.2.2.2.1 :: R) (fun _ => J) ?_ fuel (0, p0.Model, p0.Alt, p0.Size.Rows, p0.Size.Cols, p0.L, p0.Cursor) () trivial h)))
         clear h
         rintro k9 ih9 x9 i9 _ h
         rw [vitrineref12_Do_l9.eq_2] at h
         refine l_round (cr ?_)
         refine o1 J (o_p (v := (O (decide (x9.1 < (p1.Text.length : Int))))) J ?_)
         refine oe (c_seq ?_)
         refine c_cond (b := (decide (x9.1 < (p1.Text.length : Int)))) J (fun hb180 => ?_) (fun hb180 => ?_)
         ·replace h := cond_t hb180 h
          refine c_skip (e_seq (c_seq (c_block (cr ?_))))
          refine op J J ?_
          replace h := gsome h
          obtain ⟨hg181, h⟩ := h
          refine o1 J (o_ix (s := s1) (n := x9.1) (e := (enI .u8)) J J J J J J rm0 q0 hg181 ?_)
          refine o1 J (o_ldE (s := s1) (e := (enI .u8)) (n := x9.1) (f := 0) (v := (U (rd p1.Text x9.1))) J rm0 q0 hg181 J J ?_)
          refine op J J (op J J (oe (cr ?_)))
          refine op J J ?_
          refine o1 J (o_p (v := (O (decide (x9.1 < 200)))) J ?_)
          refine oe ?_
          replace h := bsome h
          obtain ⟨d12, h, hk12⟩ := h
          refine cj (D := Unit) (ι := Unit) (fun _ i12 => True) (fun _ i12 => [(12, (I x9.1)), (11, (I (p1.Text.length : Int))), (10, (V s1)), (3, (F b123 0)), (0, (F b0 0))]) (fun _ i12 => X :: blk b123 (.cells (A [(U p1.Do), (I p1.N), (O p1.On), (U p1.Code), (U p1.C.Char), (O p1.C.Attr), (U p1.C.FA), (U p1.C.High), (U p1.C.Color), (U p1.C.f_Set), (V s1)]) 28 (0, 0)) :: blk b0 (.cells (A [(I d12.1), (O d12.2.1), (I d12.2.2.1), (I d12.2.2.2.1), (V s0), (I d12.2.2.2.2.2)]) 74 (0, 0)) :: slO s0 26 en_Vapi_Cell d12.2.2.2.2.1 :: R) ?_ ?_
          ·refine c_cond (b := (decide (x9.1 < 200))) J (fun hb182 => ?_) (fun hb182 => ?_)
           ·replace h := cond_t hb182 h
            refine c_region (op J J (op J J ?_))
            refine o1 J (o_fa (fd := ⟨ "N", 3, 1, false, "", "", 8⟩) J J J J J ?_)
            refine o1 J (o_ld (b := b123) (off := 1) (v := (I p1.N)) J rm1 J J ?_)
            replace h := bsome h
            obtain ⟨d13, h13, h⟩ := h
            refine o1 J (o_call has75 J (c_vitrineref12_Wrap X (⟨x9.2.1, x9.2.2.1, (⟨x9.2.2.2.1, x9.2.2.2.2.1⟩ : Vvitrineref04_Size), x9.2.2.2.2.2.1, x9.2.2.2.2.2.2⟩ : Vvitrineref12_Space) b0 s0 p1.N _ h13) (pc rm0 (pc rm1 (pc rm1 pn))) ?_)
            refine op J J ?_
            refine o1 J (o_p (v := (I (w64 (d13 + x9.1)))) J ?_)
            refine op J J ?_
            replace h := bsome h
            obtain ⟨d14, h14, h⟩ := h
            refine o1 J (o_call has20 J (c_vitrineref12_Put X (⟨x9.2.1, x9.2.2.1, (⟨x9.2.2.2.1, x9.2.2.2.2.1⟩ : Vvitrineref04_Size), x9.2.2.2.2.2.1, x9.2.2.2.2.2.2⟩ : Vvitrineref12_Space) b0 s0 (w64 (d13 + x9.1)) (rd p1.Text x9.1) _ h14) (pc rm0 (pc rm0 (pc rm0 pn))) ?_)
            refine o_end ?_
            obtain rfl := si h
            exact ej () () trivial (sc J (sc J (sc J (sc J (sc J sn))))) (kc rm0 (kc rm2 (kc rm0 (kc rm0 kr))))
           ·replace h := cond_f hb182 h
            refine c_skip ?_
            obtain rfl := si h
            exact ej () () trivial (sc J (sc J (sc J (sc J (sc J sn))))) (kc rm0 (kc rm0 (kc rm0 (kc rm0 kr))))
          ·rintro _ i12 _
           replace h := hk12
           clear hk12
           refine e_blk (e_seq (c_region ?_))
           refine o1 J (o_p (v := (I (w64 (x9.1 + 1)))) J ?_)
           refine op J J (o_end ?_)
           exact e_loop (l_sub (sc J (sc J (sc J (sc J (sc J sn))))) (l_keep (kc rm0 (kc rm0 (kc rm0 (kc rm0 kr)))) (ih9 (w64 (x9.1 + 1), d12.1, d12.2.1, d12.2.2.1, d12.2.2.2.1, d12.2.2.2.2.1, d12.2.2.2.2.2) () trivial h)))
         ·replace h := cond_f hb180 h
          refine c_exit (e_then_exit (e_then_exit (e_blk_exit ?_)))
          obtain rfl := si h
          exact ej () () trivial sn (kc rm0 (kc rm1 (kc rm1 (kd kr))))
        ·rintro _ i8 _
         replace h := hk8
         clear hk8
         obtain rfl := si h
         exact ej () s0 trivial sn (kc rm0 (kc rm0 (kc rm0 kr)))
  ·rintro _ i2 _
   replace h := hk2
   clear hk2
   refine e_blk ?_
   obtain rfl := si h
   exact ej () i2 trivial sn (kc rm0 (kc rm0 (kc rm0 kr)))
 ·rintro _ i1 _
  replace h := hk1
  clear hk1
  refine e_fall ?_
  refine r_endt J J (kc rm0 (kc rm0 (kc rm0 kr))) ?_
  obtain rfl := si h
  exact hk i1

theorem c_space_Space_Clear_2 {g : Gw} (X : HP) (p0 : Vspace_Space) (b0 : Nat) (s0 : SV) (p1 : Bool) (r : Vspace_Space) (h : m_space_Space_Clear_2 p0 p1 = some r) : Tri env g 41 (A [(F b0 0), (O p1)]) [X, blk b0 (.cells (A [(I p0.model), (O p0.alternate), (I p0.size.Rows), (I p0.size.Cols), (V s0), (I p0.cursor), (I p0.attrs)]) 122 (0, 0)), slO s0 26 en_Vapi_Cell p0.cells] (fun K R => ∀ (i0 : SV), K (.tuple (A [])) (X :: blk b0 (.cells (A [(I r.model), (O r.alternate), (I r.size.Rows), (I r.size.Cols), (V i0), (I r.cursor), (I r.attrs)]) 122 (0, 0)) :: slO i0 26 en_Vapi_Cell r.cells :: slO s0 26 en_Vapi_Cell p0.cells :: R)) := by
 refine tri_of (fn := Tryz.f41) (N := 39) Tryz.func41 J J J ?_
 intro R K hk
 unfold m_space_Space_Clear_2 at h
 change GC _ none _ [] [(0, (F b0 0)), (1, (O p1))] (X :: blk b0 (.cells (A [(I p0.model), (O p0.alternate), (I p0.size.Rows), (I p0.size.Cols), (V s0), (I p0.cursor), (I p0.attrs)]) 122 (0, 0)) :: slO s0 26 en_Vapi_Cell p0.cells :: R) g _ _
 refine c_seq (cr (op J J ?_))
 refine o1 J (o_p (v := (O false)) J ?_)
 refine oe ?_
 refine c_cond_f J J ?_
 refine c_skip (e_seq (cr (op J J (o_end ?_))))
 refine e_seq (c_seq (cr (op J J (o_end ?_))))
 refine e_seq ?_
 replace h := bsome h
 obtain ⟨d1, h, hk1⟩ := h
 refine cj (D := Unit) (ι := Unit) (fun _ i1 => True) (fun _ i1 => [(4, (I d1)), (0, (F b0 0)), (1, (O p1))]) (fun _ i1 => X :: blk b0 (.cells (A [(I p0.model), (O p0.alternate), (I p0.size.Rows), (I p0.size.Cols), (V s0), (I p0.cursor), (I p0.attrs)]) 122 (0, 0)) :: slO s0 26 en_Vapi_Cell p0.cells :: R) ?_ ?_
 ·refine c_cond (b := p1) J (fun hb218 => ?_) (fun hb218 => ?_)
  ·replace h := cond_t hb218 h
   refine c_region (op J J (op J J ?_))
   refine o1 J (o_fa (fd := ⟨ "model", 3, 0, false, "", "vitrine/space", 0⟩) J J J J J ?_)
   refine o1 J (o_ld (b := b0) (off := 0) (v := (I p0.model)) J rm1 J J ?_)
   refine op J J (o_end ?_)
   obtain rfl := si h
   exact ej () () trivial (sc J (sc J (sc J sn))) (kc rm0 (kc rm0 (kc rm0 kr)))
  ·replace h := cond_f hb218 h
   refine c_skip ?_
   obtain rfl := si h
   exact ej () () trivial (sc J (sc J (sc J sn))) (kc rm0 (kc rm0 (kc rm0 kr)))
 ·rintro _ i1 _
  replace h := hk1
  clear hk1
  refine e_seq (cr (op J J (op J J (op J J ?_))))
  refine o1 J (o_fa (fd := ⟨ "alternate", 4, 1, false, "", "vitrine/space", 8⟩) J J J J J ?_)
  refine o0 (o_st (b := b0) (off := 1) (vs := [(O p1)]) (cs' := [(I p0.model), (O p1), (I p0.size.Rows), (I p0.size.Cols), (V s0), (I p0.cursor), (I p0.attrs)]) J J rp1 J J J J J J ?_)
  refine oe (cr (op J J (op J J ?_)))
  replace h := bsome h
  obtain ⟨d2, h2, h⟩ := h
  refine o1 J (o_call has74 J (c_addr_Model X d1 _ h2) (pc rm0 pn) ?_)
  refine op J J (op J J (op J J (op J J ?_)))
  refine o1 J (o_fa (fd := ⟨ "size", 120, 2, false, "", "vitrine/space", 16⟩) J J J J J ?_)
  refine o0 (o_st (b := b0) (off := 2) (vs := [(I d2.1.Rows), (I d2.1.Cols)]) (cs' := [(I p0.model), (O p1), (I d2.1.Rows), (I d2.1.Cols), (V s0), (I p0.cursor), (I p0.attrs)]) J J rp1 J J J J J J ?_)
  refine oe (cr (op J J (op J J ?_)))
  refine op J J ?_
  refine o1 J (o_fa (fd := ⟨ "size", 120, 2, false, "", "vitrine/space", 16⟩) J J J J J ?_)
  refine o1 J (o_ld (b := b0) (off := 2) (v := (.agg (A [(I d2.1.Rows), (I d2.1.Cols)]))) J rm1 J J ?_)
  replace h := bsome h
  obtain ⟨d3, h3, h⟩ := h
  refine o1 J (o_call has76 J (c_addr_Size_Cells X (⟨d2.1.Rows, d2.1.Cols⟩ : Vaddr_Size) _ h3) (pc rm0 pn) ?_)
  replace h := gsome h
  obtain ⟨hg219, h⟩ := h
  refine o1 J (o_mk (e := en_Vapi_Cell) (z := (⟨0, false, 0, 0, 0, 0⟩ : Vapi_Cell)) (zs := [(U 0), (O false), (U 0), (U 0), (U 0), (U 0)]) J J J J J J J J J hg219 (fun s220 => ?_))
  refine op J J ?_
  refine o1 J (o_fa (fd := ⟨ "cells", 72, 4, false, "", "vitrine/space", 32⟩) J J J J J ?_)
  refine o0 (o_st (b := b0) (off := 4) (vs := [(V s220)]) (cs' := [(I p0.model), (O p1), (I d2.1.Rows), (I d2.1.Cols), (V s220), (I p0.cursor), (I p0.attrs)]) J J rp2 J J J J J J ?_)
  refine oe (c_region (op J J (op J J (op J J ?_))))
  refine o1 J (o_fa (fd := ⟨ "cursor", 3, 5, false, "", "vitrine/space", 56⟩) J J J J J ?_)
  refine o0 (o_st (b := b0) (off := 5) (vs := [(I 0)]) (cs' := [(I p0.model), (O p1), (I d2.1.Rows), (I d2.1.Cols), (V s220), (I 0), (I p0.attrs)]) J J rp2 J J J J J J ?_)
  refine op J J ?_
  refine o1 J (o_fa (fd := ⟨ "attrs", 3, 6, false, "", "vitrine/space", 64⟩) J J J J J ?_)
  refine o0 (o_st (b := b0) (off := 6) (vs := [(I 0)]) (cs' := [(I p0.model), (O p1), (I d2.1.Rows), (I d2.1.Cols), (V s220), (I 0), (I 0)]) J J rp2 J J J J J J ?_)
  refine o_end (e_fall ?_)
  refine r_endt J J (kc rm1 (kc rm1 (kc rm0 (kc rm0 kr)))) ?_
  obtain rfl := si h
  exact hk s220

theorem c_addr_rest {g : Gw} (X : HP) (p0 : Int) (p1 : Int) (r : Int) (h : m_addr_rest p0 p1 = some r) : Tri env g 97 (A [(I p0), (I p1)]) [X] (fun K R => K (I r) (X :: R)) := by
 refine tri_of (fn := Tryz.f97) (N := 14) Tryz.func97 J J J ?_
 intro R K hk
 unfold m_addr_rest at h
 change GC _ none _ [] [(0, (I p0)), (1, (I p1))] (X :: R) g _ _
 refine cr (op J J (oe (c_seq ?_)))
 refine c_region (op J J (op J J ?_))
 replace h := gsome h
 obtain ⟨hg236, h⟩ := h
 refine o1 J (o_rem (m := p0) (n := p1) J J hg236 ?_)
 refine op J J (oe (c_seq (cr ?_)))
 refine op J J ?_
 refine o1 J (o_p (v := (O (decide ((Int.tmod p0 p1) < 0)))) J ?_)
 refine oe ?_
 replace h := bsome h
 obtain ⟨d1, h, hk1⟩ := h
 refine cj (D := Unit) (ι := Unit) (fun _ i1 => True) (fun _ i1 => [(0, (I d1))]) (fun _ i1 => X :: R) ?_ ?_
 ·refine c_cond (b := (decide ((Int.tmod p0 p1) < 0))) J (fun hb237 => ?_) (fun hb237 => ?_)
  ·replace h := cond_t hb237 h
   refine c_region (op J J (op J J ?_))
   refine o1 J (o_p (v := (I (w64 ((Int.tmod p0 p1) + p1)))) J ?_)
   refine op J J (o_end ?_)
   obtain rfl := si h
   exact ej () () trivial (sc J sn) (kc rm0 kr)
  ·replace h := cond_f hb237 h
   refine c_skip ?_
   obtain rfl := si h
   exact ej () () trivial (sc J sn) (kc rm0 kr)
 ·rintro _ i1 _
  replace h := hk1
  clear hk1
  refine e_seq (cr (op J J (op J J (o_end ?_))))
  refine e_seq (c_ret (e_ret ?_))
  refine r_endt J J (kc rm0 kr) ?_
  obtain rfl := si h
  exact hk

theorem c_addr_Size_Wrap {g : Gw} (X : HP) (p0 : Vaddr_Size) (p1 : Int) (r : Int) (h : m_addr_Size_Wrap p0 p1 = some r) : Tri env g 53 (A [(.agg (A [(I p0.Rows), (I p0.Cols)])), (I p1)]) [X] (fun K R => K (I r) (X :: R)) := by
 refine tri_of (fn := Tryz.f53) (N := 12) Tryz.func53 J J J ?_
 intro R K hk
 unfold m_addr_Size_Wrap at h
 change GC _ none _ [] [(0, (.agg (A [(I p0.Rows), (I p0.Cols)]))), (1, (I p1))] (X :: R) g _ _
 refine cr ?_
 refine o1 J (o_box (cs := [(I p0.Rows), (I p0.Cols)]) J J (fun b233 => ?_))
 refine op J J (oe (c_seq (cr ?_)))
 refine o1 J (o_ld (b := b233) (off := 0) (v := (.agg (A [(I p0.Rows), (I p0.Cols)]))) J rm0 J J ?_)
 replace h := bsome h
 obtain ⟨d1, h1, h⟩ := h
 refine o1 J (o_call has96 J (c_addr_Size_Valid X p0 _ h1) (pc rm1 pn) ?_)
 refine o1 J (o_p (v := (O (!d1))) J ?_)
 refine oe ?_
 refine c_cond (b := (!d1)) J (fun hb235 => ?_) (fun hb235 => ?_)
 ·replace h := cond_t hb235 h
  refine cr (op J J (oe (c_ret ?_)))
  refine e_then_ret (e_ret ?_)
  refine r_endt J J (kc rm0 (kd kr)) ?_
  obtain rfl := si h
  exact hk
 ·replace h := cond_f hb235 h
  refine c_skip (e_seq (cr (op J J ?_)))
  refine o1 J (o_ld (b := b233) (off := 0) (v := (.agg (A [(I p0.Rows), (I p0.Cols)]))) J rm1 J J ?_)
  replace h := bsome h
  obtain ⟨d3, h3, h⟩ := h
  refine o1 J (o_call has76 J (c_addr_Size_Cells X p0 _ h3) (pc rm0 pn) ?_)
  replace h := bsome h
  obtain ⟨d4, h4, h⟩ := h
  refine o1 J (o_call has97 J (c_addr_rest X p1 d3 _ h4) (pc rm0 pn) ?_)
  refine op J J (oe (c_ret (e_ret ?_)))
  refine r_endt J J (kc rm0 (kd kr)) ?_
  obtain rfl := si h
  exact hk

theorem c_space_count {g : Gw} (X : HP) (p0 : Vapi_Cell) (r : Int) (h : m_space_count p0 = some r) : Tri env g 77 (A [(.agg (A [(U p0.Char), (O p0.Attr), (U p0.FA), (U p0.High), (U p0.Color), (U p0.f_Set)]))]) [X] (fun K R => K (I r) (X :: R)) := by
 refine tri_of (fn := Tryz.f77) (N := 5) Tryz.func77 J J J ?_
 intro R K hk
 unfold m_space_count at h
 change GC _ none _ [] [(0, (.agg (A [(U p0.Char), (O p0.Attr), (U p0.FA), (U p0.High), (U p0.Color), (U p0.f_Set)])))] (X :: R) g _ _
 refine cr ?_
 refine o1 J (o_box (cs := [(U p0.Char), (O p0.Attr), (U p0.FA), (U p0.High), (U p0.Color), (U p0.f_Set)]) J J (fun b239 => ?_))
 refine op J J (oe (c_seq (cr ?_)))
 refine o1 J (o_fa (fd := ⟨ "Attr", 4, 1, false, "", "", 1⟩) J J J J J ?_)
 refine o1 J (o_ld (b := b239) (off := 1) (v := (O p0.Attr)) J rm0 J J ?_)
 refine oe ?_
 refine c_cond (b := p0.Attr) J (fun hb241 => ?_) (fun hb241 => ?_)
 ·replace h := cond_t hb241 h
  refine cr (op J J (oe (c_ret ?_)))
  refine e_then_ret (e_ret ?_)
  refine r_endt J J (kc rm1 (kd kr)) ?_
  obtain rfl := si h
  exact hk
 ·replace h := cond_f hb241 h
  refine c_skip (e_seq (cr (op J J (o_end ?_))))
  refine e_seq (c_ret (e_ret ?_))
  refine r_endt J J (kc rm1 (kd kr)) ?_
  obtain rfl := si h
  exact hk

end Go.Vt
