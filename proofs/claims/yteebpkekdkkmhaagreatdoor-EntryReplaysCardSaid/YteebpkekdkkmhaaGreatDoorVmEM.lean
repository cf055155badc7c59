/- What the functions compute, in plain Lean. No conditions. -/
import Derived.Test.YteebpkekdkkmhaaGreatDoorVtR
set_option linter.unusedVariables false
namespace Go.Vt
structure Vapi_Cell where
  Char : Int
  Attr : Bool
  FA : Int
  High : Int
  Color : Int
  f_Set : Int
  deriving Inhabited, DecidableEq

structure Vvitrineref12_Act where
  Do : Int
  N : Int
  On : Bool
  Code : Int
  C : Vapi_Cell
  Text : (List Int)
  deriving Inhabited, DecidableEq

structure Ventry_Entry where
  Addr : Int
  Text : (List Int)
  deriving Inhabited, DecidableEq

structure Ventry_Report where
  AID : Int
  Short : Bool
  Cursor : Int
  Entries : (List Ventry_Entry)
  deriving Inhabited, DecidableEq

structure Vattr_Pair where
  f_Type : Int
  Value : Int
  deriving Inhabited, DecidableEq

structure Vorder_Op where
  Kind : Int
  Addr : Int
  Code : Int
  Graph : Bool
  FA : Int
  Pairs : (List Vattr_Pair)
  Text : (List Int)
  deriving Inhabited, DecidableEq

structure Vorder_scanner where
  p : (List Int)
  code : Int
  deriving Inhabited, DecidableEq

structure Vaddr_Size where
  Rows : Int
  Cols : Int
  deriving Inhabited, DecidableEq

structure Vspace_Space where
  model : Int
  alternate : Bool
  size : Vaddr_Size
  cells : (List Vapi_Cell)
  cursor : Int
  attrs : Int
  deriving Inhabited, DecidableEq

structure Vvitrineref04_Size where
  Rows : Int
  Cols : Int
  deriving Inhabited, DecidableEq

structure Vvitrineref12_Space where
  Model : Int
  Alt : Bool
  Size : Vvitrineref04_Size
  L : (List Vapi_Cell)
  Cursor : Int
  deriving Inhabited, DecidableEq

structure Vvitrineref05_Field where
  Protected : Bool
  Numeric : Bool
  Display : Int
  Modified : Bool
  deriving Inhabited, DecidableEq

structure Vread_sender where
  out : (List Int)
  last : Vapi_Cell
  mode : Int
  deriving Inhabited, DecidableEq

structure Vvitrineref05_Pair where
  f_Type : Int
  Value : Int
  deriving Inhabited, DecidableEq

structure Vvitrineref16_Op where
  Kind : Int
  Addr : Int
  Code : Int
  Graph : Bool
  FA : Int
  Pairs : (List Vvitrineref05_Pair)
  Text : (List Int)
  deriving Inhabited, DecidableEq

structure Vwrite_name where
  word : ByteArray
  one : Int
  other : Int
  deriving Inhabited, DecidableEq

structure Vwrite_Result where
  Command : Int
  Restore : Bool
  Alarm : Bool
  Reset : Bool
  Pieces : Int
  Fields : (List Int)
  deriving Inhabited, DecidableEq

structure Vwrite_pen where
  n : Int
  look : Vapi_Cell
  texts : Bool
  deriving Inhabited, DecidableEq

def m_addr_zone (p0 : Int) : Option (Int × Int × Int × Int) :=
  cond ((ishr .i64 p0 4) == 0) (
   some (64, 192, 1, 9)) (
   cond ((ishr .i64 p0 4) == 1) (
    some (80, 208, 1, 9)) (
    cond ((ishr .i64 p0 4) == 2) (
     some (96, 224, 2, 9)) (
     some (112, 240, 0, 9))))

def m_addr_Six (p0 : Int) : Option Int :=
  (m_addr_zone (iband .i64 p0 63)).bind fun (d1 : Int × Int × Int × Int) =>
  (
   cond (decide ((iband .i64 (iband .i64 p0 63) 15) ≥ d1.2.2.1)) (
    some (decide ((iband .i64 (iband .i64 p0 63) 15) ≤ d1.2.2.2))) (
    some false)).bind fun (d2 : Bool) =>
  cond d2 (
   some (ibor .u8 d1.2.1 (IntKind.wrap .u8 (iband .i64 (iband .i64 p0 63) 15)))) (
   some (ibor .u8 d1.1 (IntKind.wrap .u8 (iband .i64 (iband .i64 p0 63) 15))))

def addr_Unsix_l2 (p0 : Int) : Nat → Int → Option ((Unit) ⊕ Int)
  | 0, _ => none
  | k2 + 1, x2 =>
    cond (decide (x2 < 64)) (
     (m_addr_Six x2).bind fun (d5 : Int) =>
     cond (d5 == p0) (
      esc (
       some x2)) (
      addr_Unsix_l2 p0 k2 (w64 (x2 + 1)))) (
     some (.inl ()))

def m_addr_Unsix (p0 : Int) : Option Int :=
  jn (
   addr_Unsix_l2 p0 fuel 0) fun (d1 : Unit) =>
  some (w64 (iband .u8 p0 63))

def m_addr_Decode (p0 : Int) (p1 : List Int) : Option (Int × Int) :=
  (
   cond (p0 != 12) (
    cond (p0 != 14) (
     some (p0 != 16)) (
     some false)) (
    some false)).bind fun (d2 : Bool) =>
  cond d2 (
   some (0, 1)) (
   cond (decide ((p1.length : Int) < 2)) (
    some (0, 2)) (
    gd ((0 : Int) ≤ 0 ∧ 0 < (p1.length : Int)) <|
    gd ((0 : Int) ≤ 1 ∧ 1 < (p1.length : Int)) <|
    (
     cond (p0 == 16) (
      some true) (
      gd ((0 : Int) ≤ 0 ∧ 0 < (p1.length : Int)) <|
      some ((ishr .u8 (rd p1 0) 6) == 0))).bind fun (d6 : Bool) =>
    cond d6 (
     some (ibor .i64 (ishl .i64 (w64 ((rd p1 0))) 8) (w64 ((rd p1 1))), 0)) (
     gd ((0 : Int) ≤ 0 ∧ 0 < (p1.length : Int)) <|
     cond ((ishr .u8 (rd p1 0) 6) == 2) (
      some (0, 9)) (
      gd ((0 : Int) ≤ 0 ∧ 0 < (p1.length : Int)) <|
      gd ((0 : Int) ≤ 1 ∧ 1 < (p1.length : Int)) <|
      (m_addr_Unsix (rd p1 0)).bind fun (d9 : Int) =>
      (m_addr_Unsix (rd p1 1)).bind fun (d10 : Int) =>
      some (ibor .i64 (ishl .i64 d9 6) d10, 0)))))

def m_entry_begin (p0 : List Int) : Option (Ventry_Report × (List Int) × Int) :=
  (
   cond ((p0.length : Int) == 0) (
    some ((p0.length : Int) == 0)) (
    some ((p0.length : Int) == 2))).bind fun (d2 : Bool) =>
  cond d2 (
   some ((⟨0, false, 0, ([] : List Ventry_Entry)⟩ : Ventry_Report), ([] : List Int), 2)) (
   cond ((p0.length : Int) == 1) (
    gd ((0 : Int) ≤ 0 ∧ 0 < (p0.length : Int)) <|
    some ((⟨(rd p0 0), true, 0, ([] : List Ventry_Entry)⟩ : Ventry_Report), ([] : List Int), 0)) (
    gd ((0 : Int) ≤ 1 ∧ 1 ≤ (p0.length : Int) ∧ (p0.length : Int) ≤ (p0.length : Int)) <|
    (m_addr_Decode 12 (List.drop 1 p0)).bind fun (d4 : Int × Int) =>
    cond (d4.2 != 0) (
     some ((⟨0, false, 0, ([] : List Ventry_Entry)⟩ : Ventry_Report), ([] : List Int), d4.2)) (
     gd ((0 : Int) ≤ 0 ∧ 0 < (p0.length : Int)) <|
     gd ((0 : Int) ≤ 3 ∧ 3 ≤ (p0.length : Int) ∧ (p0.length : Int) ≤ (p0.length : Int)) <|
     some ((⟨(rd p0 0), false, d4.1, ([] : List Ventry_Entry)⟩ : Ventry_Report), (List.drop 3 p0), 0))))

def m_order_Name (p0 : Int) : Option ByteArray :=
  cond (p0 == 0) (
   some (ByteArray.mk (List.toArray [84, 101, 120, 116]))) (
   cond (p0 == 5) (
    some (ByteArray.mk (List.toArray [80, 84]))) (
    cond (p0 == 8) (
     some (ByteArray.mk (List.toArray [71, 69]))) (
     cond (p0 == 17) (
      some (ByteArray.mk (List.toArray [83, 66, 65]))) (
      cond (p0 == 18) (
       some (ByteArray.mk (List.toArray [69, 85, 65]))) (
       cond (p0 == 19) (
        some (ByteArray.mk (List.toArray [73, 67]))) (
        cond (p0 == 29) (
         some (ByteArray.mk (List.toArray [83, 70]))) (
         cond (p0 == 40) (
          some (ByteArray.mk (List.toArray [83, 65]))) (
          cond (p0 == 41) (
           some (ByteArray.mk (List.toArray [83, 70, 69]))) (
           cond (p0 == 44) (
            some (ByteArray.mk (List.toArray [77, 70]))) (
            cond (p0 == 60) (
             some (ByteArray.mk (List.toArray [82, 65]))) (
             some (ByteArray.mk (List.toArray [])))))))))))))

def m_order_Is (p0 : Int) : Option Bool :=
  (
   cond (p0 != 0) (
    (m_order_Name (w64 (p0))).bind fun (d2 : ByteArray) =>
    some (!(d2.data.toList == (ByteArray.mk (List.toArray [])).data.toList))) (
    some false)).bind fun (d1 : Bool) =>
  some d1

def m_order_scanner_fail (p0 : Vorder_scanner) (p1 : Int) : Option Vorder_scanner :=
  cond (p0.code == 0) (
   some (⟨p0.p, p1⟩ : Vorder_scanner)) (
   some p0)

def m_order_scanner_take (p0 : Vorder_scanner) (p1 : Int) : Option (Vorder_scanner × (List Int)) :=
  cond (decide ((p0.p.length : Int) < p1)) (
   (m_order_scanner_fail p0 2).bind fun (d2 : Vorder_scanner) =>
   gd ((0 : Int) ≤ p1 ∧ p1 ≤ 68719476736) <|
   some ((⟨([] : List Int), d2.code⟩ : Vorder_scanner), (List.replicate (Int.toNat p1) 0))) (
   gd ((0 : Int) ≤ 0 ∧ 0 ≤ p1 ∧ p1 ≤ (p0.p.length : Int)) <|
   gd (p1 ≤ p1 ∧ p1 ≤ (p0.p.length : Int)) <|
   gd ((0 : Int) ≤ p1 ∧ p1 ≤ (p0.p.length : Int) ∧ (p0.p.length : Int) ≤ (p0.p.length : Int)) <|
   some ((⟨(List.drop (Int.toNat p1) p0.p), p0.code⟩ : Vorder_scanner), (List.take (Int.toNat p1) p0.p)))

def m_bytes_Clone (p0 : List Int) : Option (List Int) :=
  gd (p0.length ≤ 68719476736) <|
  some p0

def order_scanner_text_l2 (p0 : Vorder_scanner) : Nat → Int → Option Int
  | 0, _ => none
  | k2 + 1, x2 =>
    (
     cond (decide (x2 < (p0.p.length : Int))) (
      gd ((0 : Int) ≤ x2 ∧ x2 < (p0.p.length : Int)) <|
      (m_order_Is (rd p0.p x2)).bind fun (d4 : Bool) =>
      some (!d4)) (
      some false)).bind fun (d3 : Bool) =>
    cond d3 (
     order_scanner_text_l2 p0 k2 (w64 (x2 + 1))) (
     some x2)

def m_order_scanner_text (p0 : Vorder_scanner) : Option (Vorder_scanner × (List Int)) :=
  (
   order_scanner_text_l2 p0 fuel 0).bind fun (d1 : Int) =>
  (m_order_scanner_take p0 d1).bind fun (d6 : Vorder_scanner × (List Int)) =>
  (m_bytes_Clone d6.2).bind fun (d7 : (List Int)) =>
  some (d6.1, d7)

def m_order_scanner_addr (p0 : Vorder_scanner) : Option (Vorder_scanner × Int) :=
  (m_order_scanner_take p0 2).bind fun (d1 : Vorder_scanner × (List Int)) =>
  cond (d1.1.code != 0) (
   some (d1.1, 0)) (
   (m_addr_Decode 12 d1.2).bind fun (d3 : Int × Int) =>
   (
    cond (d3.2 != 0) (
     (m_order_scanner_fail d1.1 d3.2).bind fun (d5 : Vorder_scanner) =>
     some (d5.p, d5.code)) (
     some (d1.1.p, d1.1.code))).bind fun (d4 : (List Int) × Int) =>
   some ((⟨d4.1, d4.2⟩ : Vorder_scanner), d3.1))

def m_order_scanner_character (p0 : Vorder_scanner) : Option (Vorder_scanner × Int) :=
  (m_order_scanner_take p0 1).bind fun (d1 : Vorder_scanner × (List Int)) =>
  gd ((0 : Int) ≤ 0 ∧ 0 < (d1.2.length : Int)) <|
  (m_order_Is (rd d1.2 0)).bind fun (d2 : Bool) =>
  (
   cond d2 (
    (m_order_scanner_fail d1.1 10).bind fun (d4 : Vorder_scanner) =>
    some (d4.p, d4.code)) (
    some (d1.1.p, d1.1.code))).bind fun (d3 : (List Int) × Int) =>
  some ((⟨d3.1, d3.2⟩ : Vorder_scanner), (rd d1.2 0))

def m_attr_Pair_Check (p0 : Vattr_Pair) : Option Int :=
  (
   cond (p0.f_Type == 0) (
    some (p0.Value == 0)) (
    cond (p0.f_Type == 192) (
     some true) (
     cond (p0.f_Type == 65) (
      cond (p0.Value == 0) (
       some true) (
       cond (p0.Value == 240) (
        some true) (
        cond (p0.Value == 241) (
         some true) (
         cond (p0.Value == 242) (
          some true) (
          cond (p0.Value == 244) (
           some true) (
           some (p0.Value == 248))))))) (
      cond (p0.f_Type == 66) (
       cond (p0.Value == 0) (
        some true) (
        cond (decide (p0.Value ≥ 241)) (
         some (decide (p0.Value ≤ 247))) (
         some false))) (
       cond (p0.f_Type == 67) (
        cond (p0.Value == 0) (
         some true) (
         some (p0.Value == 241))) (
        some false)))))).bind fun (d2 : Bool) =>
  cond (!d2) (
   some 10) (
   some 0)

def m_order_scanner_pair (p0 : Vorder_scanner) : Option (Vorder_scanner × (List Vattr_Pair)) :=
  (m_order_scanner_take p0 2).bind fun (d1 : Vorder_scanner × (List Int)) =>
  gd ((0 : Int) ≤ 0 ∧ 0 < (d1.2.length : Int)) <|
  gd ((0 : Int) ≤ 1 ∧ 1 < (d1.2.length : Int)) <|
  (m_attr_Pair_Check (⟨(rd d1.2 0), (rd d1.2 1)⟩ : Vattr_Pair)).bind fun (d3 : Int) =>
  (
   cond (d3 != 0) (
    (m_order_scanner_fail d1.1 d3).bind fun (d5 : Vorder_scanner) =>
    some (d5.p, d5.code)) (
    some (d1.1.p, d1.1.code))).bind fun (d4 : (List Int) × Int) =>
  some ((⟨d4.1, d4.2⟩ : Vorder_scanner), [(⟨(rd d1.2 0), (rd d1.2 1)⟩ : Vattr_Pair)])

def attr_Parse_l4 (p0 : List Int) : Nat → (Int × (List Vattr_Pair)) → Option (((List Vattr_Pair)) ⊕ ((List Vattr_Pair) × Int × Int))
  | 0, _ => none
  | k4 + 1, x4 =>
    cond (decide (x4.1 < (w64 (1 + (w64 (2 * (w64 ((rd p0 0))))))))) (
     gd ((0 : Int) ≤ x4.1 ∧ x4.1 < (p0.length : Int)) <|
     gd ((0 : Int) ≤ (w64 (x4.1 + 1)) ∧ (w64 (x4.1 + 1)) < (p0.length : Int)) <|
     (m_attr_Pair_Check (⟨(rd p0 x4.1), (rd p0 (w64 (x4.1 + 1)))⟩ : Vattr_Pair)).bind fun (d8 : Int) =>
     cond (d8 != 0) (
      esc (
       some (([] : List Vattr_Pair), 0, d8))) (
      gd (x4.2.length + [(⟨(rd p0 x4.1), (rd p0 (w64 (x4.1 + 1)))⟩ : Vattr_Pair)].length ≤ 68719476736) <|
      attr_Parse_l4 p0 k4 (w64 (x4.1 + 2), (x4.2 ++ [(⟨(rd p0 x4.1), (rd p0 (w64 (x4.1 + 1)))⟩ : Vattr_Pair)])))) (
     some (.inl x4.2))

def m_attr_Parse (p0 : List Int) : Option ((List Vattr_Pair) × Int × Int) :=
  (
   cond (decide ((p0.length : Int) < 1)) (
    some true) (
    gd ((0 : Int) ≤ 0 ∧ 0 < (p0.length : Int)) <|
    some (decide ((p0.length : Int) < (w64 (1 + (w64 (2 * (w64 ((rd p0 0))))))))))).bind fun (d1 : Bool) =>
  cond d1 (
   some (([] : List Vattr_Pair), 0, 2)) (
   gd ((0 : Int) ≤ 0 ∧ 0 < (p0.length : Int)) <|
   jn (
    attr_Parse_l4 p0 fuel (1, ([] : List Vattr_Pair))) fun (d3 : (List Vattr_Pair)) =>
   some (d3, w64 (1 + (w64 (2 * (w64 ((rd p0 0)))))), 0))

def m_order_scanner_pairs (p0 : Vorder_scanner) : Option (Vorder_scanner × (List Vattr_Pair)) :=
  (m_attr_Parse p0.p).bind fun (d1 : (List Vattr_Pair) × Int × Int) =>
  cond (d1.2.2 != 0) (
   (m_order_scanner_fail p0 d1.2.2).bind fun (d3 : Vorder_scanner) =>
   some (d3, ([] : List Vattr_Pair))) (
   (m_order_scanner_take p0 d1.2.1).bind fun (d4 : Vorder_scanner × (List Int)) =>
   some (d4.1, d1.1))

def m_order_scanner_op (p0 : Vorder_scanner) : Option (Vorder_scanner × Vorder_Op) :=
  gd ((0 : Int) ≤ 0 ∧ 0 < (p0.p.length : Int)) <|
  (m_order_Is (rd p0.p 0)).bind fun (d1 : Bool) =>
  cond (!d1) (
   (m_order_scanner_text p0).bind fun (d3 : Vorder_scanner × (List Int)) =>
   some (d3.1, (⟨0, 0, 0, false, 0, ([] : List Vattr_Pair), d3.2⟩ : Vorder_Op))) (
   (m_order_scanner_take p0 1).bind fun (d4 : Vorder_scanner × (List Int)) =>
   gd ((0 : Int) ≤ 0 ∧ 0 < (d4.2.length : Int)) <|
   (
    cond ((w64 ((rd d4.2 0))) == 17) (
     some ((w64 ((rd d4.2 0))) == 17)) (
     some ((w64 ((rd d4.2 0))) == 18))).bind fun (d6 : Bool) =>
   (
    cond d6 (
     (m_order_scanner_addr d4.1).bind fun (d8 : Vorder_scanner × Int) =>
     some (d8.2, 0, false, 0, ([] : List Vattr_Pair), d8.1.p, d8.1.code)) (
     cond ((w64 ((rd d4.2 0))) == 60) (
      (m_order_scanner_addr d4.1).bind fun (d9 : Vorder_scanner × Int) =>
      (
       cond (decide ((d9.1.p.length : Int) > 0)) (
        gd ((0 : Int) ≤ 0 ∧ 0 < (d9.1.p.length : Int)) <|
        some ((rd d9.1.p 0) == 8)) (
        some false)).bind fun (d10 : Bool) =>
      (
       cond d10 (
        (m_order_scanner_take d9.1 1).bind fun (d12 : Vorder_scanner × (List Int)) =>
        some (true, d12.1.p, d12.1.code)) (
        some (false, d9.1.p, d9.1.code))).bind fun (d11 : Bool × (List Int) × Int) =>
      (m_order_scanner_character (⟨d11.2.1, d11.2.2⟩ : Vorder_scanner)).bind fun (d13 : Vorder_scanner × Int) =>
      some (d9.2, d13.2, d11.1, 0, ([] : List Vattr_Pair), d13.1.p, d13.1.code)) (
      cond ((w64 ((rd d4.2 0))) == 29) (
       (m_order_scanner_take d4.1 1).bind fun (d14 : Vorder_scanner × (List Int)) =>
       gd ((0 : Int) ≤ 0 ∧ 0 < (d14.2.length : Int)) <|
       some (0, 0, false, (rd d14.2 0), ([] : List Vattr_Pair), d14.1.p, d14.1.code)) (
       cond ((w64 ((rd d4.2 0))) == 40) (
        (m_order_scanner_pair d4.1).bind fun (d15 : Vorder_scanner × (List Vattr_Pair)) =>
        some (0, 0, false, 0, d15.2, d15.1.p, d15.1.code)) (
        (
         cond ((w64 ((rd d4.2 0))) == 41) (
          some ((w64 ((rd d4.2 0))) == 41)) (
          some ((w64 ((rd d4.2 0))) == 44))).bind fun (d16 : Bool) =>
        cond d16 (
         (m_order_scanner_pairs d4.1).bind fun (d17 : Vorder_scanner × (List Vattr_Pair)) =>
         some (0, 0, false, 0, d17.2, d17.1.p, d17.1.code)) (
         cond ((w64 ((rd d4.2 0))) == 8) (
          (m_order_scanner_character d4.1).bind fun (d18 : Vorder_scanner × Int) =>
          some (0, d18.2, false, 0, ([] : List Vattr_Pair), d18.1.p, d18.1.code)) (
          some (0, 0, false, 0, ([] : List Vattr_Pair), d4.1.p, d4.1.code)))))))).bind fun (d7 : Int × Int × Bool × Int × (List Vattr_Pair) × (List Int) × Int) =>
   some ((⟨d7.2.2.2.2.2.1, d7.2.2.2.2.2.2⟩ : Vorder_scanner), (⟨w64 ((rd d4.2 0)), d7.1, d7.2.1, d7.2.2.1, d7.2.2.2.1, d7.2.2.2.2.1, ([] : List Int)⟩ : Vorder_Op)))

def order_All_l2 (p0 : List Int) : Nat → ((List Vorder_Op) × (List Int) × Int) → Option (((List Vorder_Op)) ⊕ ((List Vorder_Op) × Int × Int))
  | 0, _ => none
  | k2 + 1, x2 =>
    cond (decide ((x2.2.1.length : Int) > 0)) (
     (m_order_scanner_op (⟨x2.2.1, x2.2.2⟩ : Vorder_scanner)).bind fun (d4 : Vorder_scanner × Vorder_Op) =>
     cond (d4.1.code != 0) (
      esc (
       some (x2.1, w64 ((p0.length : Int) - (x2.2.1.length : Int)), d4.1.code))) (
      gd (x2.1.length + [d4.2].length ≤ 68719476736) <|
      order_All_l2 p0 k2 ((x2.1 ++ [d4.2]), d4.1.p, d4.1.code))) (
     some (.inl x2.1))

def m_order_All (p0 : List Int) : Option ((List Vorder_Op) × Int × Int) :=
  jn (
   order_All_l2 p0 fuel (([] : List Vorder_Op), p0, 0)) fun (d1 : (List Vorder_Op)) =>
  some (d1, (p0.length : Int), 0)

def m_entry_Report_add (p0 : Ventry_Report) (p1 : List Int) : Option Ventry_Report :=
  (
   cond ((p0.Entries.length : Int) == 0) (
    some [(⟨0, ([] : List Int)⟩ : Ventry_Entry)]) (
    some p0.Entries)).bind fun (d1 : (List Ventry_Entry)) =>
  gd ((0 : Int) ≤ (w64 ((d1.length : Int) - 1)) ∧ (w64 ((d1.length : Int) - 1)) < (d1.length : Int)) <|
  gd (((rd d1 (w64 ((d1.length : Int) - 1))).Text).length + p1.length ≤ 68719476736) <|
  some { p0 with Entries := (List.set d1 (Int.toNat (w64 ((d1.length : Int) - 1))) (⟨(rd d1 (w64 ((d1.length : Int) - 1))).Addr, ((rd d1 (w64 ((d1.length : Int) - 1))).Text ++ p1)⟩ : Ventry_Entry)) }

def entry_Parse_l6 (d3 : (List Vorder_Op) × Int × Int) : Nat → (Int × Int × Bool × Int × (List Ventry_Entry)) → Option ((Int × Bool × Int × (List Ventry_Entry)) ⊕ (Ventry_Report × Int))
  | 0, _ => none
  | k6 + 1, x6 =>
    cond (decide (x6.1 < (d3.1.length : Int))) (
     gd ((0 : Int) ≤ x6.1 ∧ x6.1 < (d3.1.length : Int)) <|
     jn (
      cond (((rd d3.1 x6.1).Kind) == 17) (
       gd (x6.2.2.2.2.length + [(⟨(rd d3.1 x6.1).Addr, ([] : List Int)⟩ : Ventry_Entry)].length ≤ 68719476736) <|
       some (.inl (x6.2.1, x6.2.2.1, x6.2.2.2.1, (x6.2.2.2.2 ++ [(⟨(rd d3.1 x6.1).Addr, ([] : List Int)⟩ : Ventry_Entry)])))) (
       cond (((rd d3.1 x6.1).Kind) == 0) (
        (m_entry_Report_add (⟨x6.2.1, x6.2.2.1, x6.2.2.2.1, x6.2.2.2.2⟩ : Ventry_Report) ((rd d3.1 x6.1).Text)).bind fun (d11 : Ventry_Report) =>
        some (.inl (d11.AID, d11.Short, d11.Cursor, d11.Entries))) (
        cond (((rd d3.1 x6.1).Kind) == 8) (
         (m_entry_Report_add (⟨x6.2.1, x6.2.2.1, x6.2.2.2.1, x6.2.2.2.2⟩ : Ventry_Report) [(rd d3.1 x6.1).Code]).bind fun (d12 : Ventry_Report) =>
         some (.inl (d12.AID, d12.Short, d12.Cursor, d12.Entries))) (
         cond (((rd d3.1 x6.1).Kind) == 40) (
          some (.inl (x6.2.1, x6.2.2.1, x6.2.2.2.1, x6.2.2.2.2))) (
          esc (
           esc (
            some ((⟨0, false, 0, ([] : List Ventry_Entry)⟩ : Ventry_Report), 4)))))))) fun (d10 : Int × Bool × Int × (List Ventry_Entry)) =>
     entry_Parse_l6 d3 k6 (w64 (x6.1 + 1), d10.1, d10.2.1, d10.2.2.1, d10.2.2.2)) (
     some (.inl (x6.2.1, x6.2.2.1, x6.2.2.2.1, x6.2.2.2.2)))

def m_entry_Parse (p0 : List Int) : Option (Ventry_Report × Int) :=
  (m_entry_begin p0).bind fun (d1 : Ventry_Report × (List Int) × Int) =>
  cond (d1.2.2 != 0) (
   some ((⟨0, false, 0, ([] : List Ventry_Entry)⟩ : Ventry_Report), d1.2.2)) (
   (m_order_All d1.2.1).bind fun (d3 : (List Vorder_Op) × Int × Int) =>
   cond (d3.2.2 != 0) (
    some ((⟨0, false, 0, ([] : List Ventry_Entry)⟩ : Ventry_Report), d3.2.2)) (
    jn (
     entry_Parse_l6 d3 fuel (0, d1.1.AID, d1.1.Short, d1.1.Cursor, ([] : List Ventry_Entry))) fun (d5 : Int × Bool × Int × (List Ventry_Entry)) =>
    some ((⟨d5.1, d5.2.1, d5.2.2.1, d5.2.2.2⟩ : Ventry_Report), 0)))

def m_vitrinelaw20_awake : Option Bool :=
  (m_entry_Parse [125, 64, 194, 17, 64, 193, 193, 194]).bind fun (d1 : Ventry_Report × Int) =>
  (
   cond (d1.2 == 0) (
    cond (d1.1.AID == 125) (
     cond (d1.1.Cursor == 2) (
      cond ((d1.1.Entries.length : Int) == 1) (
       gd ((0 : Int) ≤ 0 ∧ 0 < (d1.1.Entries.length : Int)) <|
       cond (((rd d1.1.Entries 0).Addr) == 1) (
        gd ((0 : Int) ≤ 0 ∧ 0 < (d1.1.Entries.length : Int)) <|
        some ((bstr ((rd d1.1.Entries 0).Text)).data.toList == (ByteArray.mk (List.toArray [193, 194])).data.toList)) (
        some false)) (
       some false)) (
      some false)) (
     some false)) (
    some false)).bind fun (d2 : Bool) =>
  some d2

def m_addr_Model (p0 : Int) : Option (Vaddr_Size × Int) :=
  cond (p0 == 2) (
   some ((⟨24, 80⟩ : Vaddr_Size), 0)) (
   cond (p0 == 3) (
    some ((⟨32, 80⟩ : Vaddr_Size), 0)) (
    cond (p0 == 4) (
     some ((⟨43, 80⟩ : Vaddr_Size), 0)) (
     cond (p0 == 5) (
      some ((⟨27, 132⟩ : Vaddr_Size), 0)) (
      some ((⟨0, 0⟩ : Vaddr_Size), 5)))))

def m_addr_Size_Valid (p0 : Vaddr_Size) : Option Bool :=
  (
   cond (decide (p0.Rows ≥ 1)) (
    cond (decide (p0.Rows ≤ 43)) (
     cond (decide (p0.Cols ≥ 1)) (
      cond (decide (p0.Cols ≤ 132)) (
       some (decide ((w64 (p0.Rows * p0.Cols)) ≤ 3564))) (
       some false)) (
      some false)) (
     some false)) (
    some false)).bind fun (d1 : Bool) =>
  some d1

def m_addr_Size_Cells (p0 : Vaddr_Size) : Option Int :=
  (m_addr_Size_Valid p0).bind fun (d1 : Bool) =>
  cond (!d1) (
   some 0) (
   some (w64 (p0.Rows * p0.Cols)))

def m_space_Space_Clear (p0 : Vspace_Space) (p1 : Bool) : Option Vspace_Space :=
  (
   cond p1 (
    some p0.model) (
    some 2)).bind fun (d1 : Int) =>
  (m_addr_Model d1).bind fun (d2 : Vaddr_Size × Int) =>
  (m_addr_Size_Cells d2.1).bind fun (d3 : Int) =>
  gd ((0 : Int) ≤ d3 ∧ d3 ≤ 68719476736) <|
  some (⟨p0.model, p1, d2.1, (List.replicate (Int.toNat d3) (⟨0, false, 0, 0, 0, 0⟩ : Vapi_Cell)), 0, 0⟩ : Vspace_Space)

def m_space_New (p0 : Int) : Option ((Int) ⊕ (Vspace_Space × Int)) :=
  (m_addr_Model p0).bind fun (d1 : Vaddr_Size × Int) =>
  cond (d1.2 != 0) (
   some (.inl d1.2)) (
   (m_space_Space_Clear (⟨p0, false, (⟨0, 0⟩ : Vaddr_Size), ([] : List Vapi_Cell), 0, 0⟩ : Vspace_Space) false).bind fun (d3 : Vspace_Space) =>
   some (.inr (d3, 0)))

def m_vitrineref04_Model (p0 : Int) : Option (Vvitrineref04_Size × Bool) :=
  (
   cond (decide (p0 < 2)) (
    some true) (
    some (decide (p0 > 5)))).bind fun (d1 : Bool) =>
  cond d1 (
   some ((⟨0, 0⟩ : Vvitrineref04_Size), false)) (
   gd ((0 : Int) ≤ (w64 (p0 - 2)) ∧ (w64 (p0 - 2)) < ([(⟨24, 80⟩ : Vvitrineref04_Size), (⟨32, 80⟩ : Vvitrineref04_Size), (⟨43, 80⟩ : Vvitrineref04_Size), (⟨27, 132⟩ : Vvitrineref04_Size)].length : Int)) <|
   some ((rd [(⟨24, 80⟩ : Vvitrineref04_Size), (⟨32, 80⟩ : Vvitrineref04_Size), (⟨43, 80⟩ : Vvitrineref04_Size), (⟨27, 132⟩ : Vvitrineref04_Size)] (w64 (p0 - 2))), true))

def m_vitrineref04_Valid (p0 : Vvitrineref04_Size) : Option Bool :=
  (
   cond (decide (p0.Rows ≥ 1)) (
    cond (decide (p0.Rows ≤ 43)) (
     cond (decide (p0.Cols ≥ 1)) (
      cond (decide (p0.Cols ≤ 132)) (
       some (decide ((w64 (p0.Rows * p0.Cols)) ≤ 3564))) (
       some false)) (
      some false)) (
     some false)) (
    some false)).bind fun (d1 : Bool) =>
  some d1

def m_vitrineref04_Cells (p0 : Vvitrineref04_Size) : Option Int :=
  (m_vitrineref04_Valid p0).bind fun (d1 : Bool) =>
  cond (!d1) (
   some 0) (
   some (w64 (p0.Rows * p0.Cols)))

def m_vitrineref12_Clear (p0 : Vvitrineref12_Space) (p1 : Bool) : Option Vvitrineref12_Space :=
  (m_vitrineref04_Model 2).bind fun (d1 : Vvitrineref04_Size × Bool) =>
  (
   cond p1 (
    (m_vitrineref04_Model p0.Model).bind fun (d3 : Vvitrineref04_Size × Bool) =>
    some (d3.1.Rows, d3.1.Cols)) (
    some (d1.1.Rows, d1.1.Cols))).bind fun (d2 : Int × Int) =>
  (m_vitrineref04_Cells (⟨d2.1, d2.2⟩ : Vvitrineref04_Size)).bind fun (d4 : Int) =>
  gd ((0 : Int) ≤ d4 ∧ d4 ≤ 68719476736) <|
  some (⟨p0.Model, p1, (⟨d2.1, d2.2⟩ : Vvitrineref04_Size), (List.replicate (Int.toNat d4) (⟨0, false, 0, 0, 0, 0⟩ : Vapi_Cell)), 0⟩ : Vvitrineref12_Space)

def m_vitrineref12_New (p0 : Int) : Option ((Unit) ⊕ (Vvitrineref12_Space)) :=
  (m_vitrineref04_Model p0).bind fun (d1 : Vvitrineref04_Size × Bool) =>
  cond (!d1.2) (
   some (.inl ())) (
   (m_vitrineref12_Clear (⟨p0, false, (⟨0, 0⟩ : Vvitrineref04_Size), ([] : List Vapi_Cell), 0⟩ : Vvitrineref12_Space) false).bind fun (d3 : Vvitrineref12_Space) =>
   some (.inr d3))

def m_vitrineref12_Clear_2 (p0 : Vvitrineref12_Space) (p1 : Bool) : Option Vvitrineref12_Space :=
  (m_vitrineref04_Model 2).bind fun (d1 : Vvitrineref04_Size × Bool) =>
  (
   cond p1 (
    (m_vitrineref04_Model p0.Model).bind fun (d3 : Vvitrineref04_Size × Bool) =>
    some (d3.1.Rows, d3.1.Cols)) (
    some (d1.1.Rows, d1.1.Cols))).bind fun (d2 : Int × Int) =>
  (m_vitrineref04_Cells (⟨d2.1, d2.2⟩ : Vvitrineref04_Size)).bind fun (d4 : Int) =>
  gd ((0 : Int) ≤ d4 ∧ d4 ≤ 68719476736) <|
  some (⟨p0.Model, p1, (⟨d2.1, d2.2⟩ : Vvitrineref04_Size), (List.replicate (Int.toNat d4) (⟨0, false, 0, 0, 0, 0⟩ : Vapi_Cell)), 0⟩ : Vvitrineref12_Space)

def m_vitrineref04_Mod (p0 : Int) (p1 : Int) : Option Int :=
  cond (decide (p1 < 1)) (
   some 0) (
   gd (p1 ≠ 0) <|
   gd (p1 ≠ 0) <|
   some (Int.tmod (w64 ((Int.tmod p0 p1) + p1)) p1))

def m_vitrineref04_Wrap (p0 : Vvitrineref04_Size) (p1 : Int) : Option Int :=
  (m_vitrineref04_Cells p0).bind fun (d1 : Int) =>
  (m_vitrineref04_Mod p1 d1).bind fun (d2 : Int) =>
  some d2

def m_vitrineref12_Wrap (p0 : Vvitrineref12_Space) (p1 : Int) : Option Int :=
  (m_vitrineref04_Wrap p0.Size p1).bind fun (d1 : Int) =>
  some d1

def m_vitrineref12_At (p0 : Vvitrineref12_Space) (p1 : Int) : Option Vapi_Cell :=
  (m_vitrineref12_Wrap p0 p1).bind fun (d2 : Int) =>
  gd ((0 : Int) ≤ d2 ∧ d2 < (p0.L.length : Int)) <|
  some (rd p0.L d2)

def m_vitrineref05_Of (p0 : Int) : Option Vvitrineref05_Field :=
  some (⟨(decide ((Int.tmod (w64 (p0)) 64) ≥ 32)), ((Int.tmod (w64 (Int.tdiv (Int.tmod (w64 (p0)) 64) 16)) 2) == 1), Int.tmod (w64 (Int.tdiv (Int.tmod (w64 (p0)) 64) 4)) 4, ((Int.tmod (Int.tmod (w64 (p0)) 64) 2) == 1)⟩ : Vvitrineref05_Field)

def m_vitrineref05_Bits (p0 : Vvitrineref05_Field) : Option (Int × Int) :=
  (
   cond (decide (p0.Display < 0)) (
    some true) (
    some (decide (p0.Display > 3)))).bind fun (d1 : Bool) =>
  cond d1 (
   some (0, 1)) (
   (
    cond p0.Protected (
     some (w64 ((w64 (4 * p0.Display)) + 32))) (
     some (w64 (4 * p0.Display)))).bind fun (d3 : Int) =>
   (
    cond p0.Numeric (
     some (w64 (d3 + 16))) (
     some d3)).bind fun (d4 : Int) =>
   (
    cond p0.Modified (
     some (w64 (d4 + 1))) (
     some d4)).bind fun (d5 : Int) =>
   some (IntKind.wrap .u8 (d5), 0))

def m_vitrineref05_Six (p0 : Int) : Option Int :=
  (m_vitrineref05_Of p0).bind fun (d1 : Vvitrineref05_Field) =>
  (m_vitrineref05_Bits d1).bind fun (d2 : Int × Int) =>
  some d2.1

def m_vitrineref12_Fit (p0 : Vapi_Cell) : Option Vapi_Cell :=
  (
   cond p0.Attr (
    (m_vitrineref05_Six p0.FA).bind fun (d2 : Int) =>
    some (0, d2)) (
    some (p0.Char, 0))).bind fun (d1 : Int × Int) =>
  some (⟨d1.1, p0.Attr, d1.2, p0.High, p0.Color, p0.f_Set⟩ : Vapi_Cell)

def m_vitrineref12_Set (p0 : Vvitrineref12_Space) (p1 : Int) (p2 : Vapi_Cell) : Option Vvitrineref12_Space :=
  (m_vitrineref12_Wrap p0 p1).bind fun (d1 : Int) =>
  (m_vitrineref12_Fit p2).bind fun (d2 : Vapi_Cell) =>
  gd ((0 : Int) ≤ d1 ∧ d1 < (p0.L.length : Int)) <|
  some (⟨p0.Model, p0.Alt, p0.Size, (List.set p0.L (Int.toNat d1) d2), p0.Cursor⟩ : Vvitrineref12_Space)

def m_vitrineref12_Put (p0 : Vvitrineref12_Space) (p1 : Int) (p2 : Int) : Option Vvitrineref12_Space :=
  (m_vitrineref12_At p0 p1).bind fun (d1 : Vapi_Cell) =>
  cond (!d1.Attr) (
   (m_vitrineref12_Set (⟨p0.Model, p0.Alt, p0.Size, p0.L, p0.Cursor⟩ : Vvitrineref12_Space) p1 (⟨p2, d1.Attr, d1.FA, d1.High, d1.Color, d1.f_Set⟩ : Vapi_Cell)).bind fun (d2 : Vvitrineref12_Space) =>
   some d2) (
   some (⟨p0.Model, p0.Alt, p0.Size, p0.L, p0.Cursor⟩ : Vvitrineref12_Space))

def vitrineref12_Do_l9 (p1 : Vvitrineref12_Act) : Nat → (Int × Int × Bool × Int × Int × (List Vapi_Cell) × Int) → Option (Int × Bool × Int × Int × (List Vapi_Cell) × Int)
  | 0, _ => none
  | k9 + 1, x9 =>
    cond (decide (x9.1 < (p1.Text.length : Int))) (
     gd ((0 : Int) ≤ x9.1 ∧ x9.1 < (p1.Text.length : Int)) <|
     (
      cond (decide (x9.1 < 200)) (
       (m_vitrineref12_Wrap (⟨x9.2.1, x9.2.2.1, (⟨x9.2.2.2.1, x9.2.2.2.2.1⟩ : Vvitrineref04_Size), x9.2.2.2.2.2.1, x9.2.2.2.2.2.2⟩ : Vvitrineref12_Space) p1.N).bind fun (d13 : Int) =>
       (m_vitrineref12_Put (⟨x9.2.1, x9.2.2.1, (⟨x9.2.2.2.1, x9.2.2.2.2.1⟩ : Vvitrineref04_Size), x9.2.2.2.2.2.1, x9.2.2.2.2.2.2⟩ : Vvitrineref12_Space) (w64 (d13 + x9.1)) (rd p1.Text x9.1)).bind fun (d14 : Vvitrineref12_Space) =>
       some (d14.Model, d14.Alt, d14.Size.Rows, d14.Size.Cols, d14.L, d14.Cursor)) (
       some (x9.2.1, x9.2.2.1, x9.2.2.2.1, x9.2.2.2.2.1, x9.2.2.2.2.2.1, x9.2.2.2.2.2.2))).bind fun (d12 : Int × Bool × Int × Int × (List Vapi_Cell) × Int) =>
     vitrineref12_Do_l9 p1 k9 (w64 (x9.1 + 1), d12.1, d12.2.1, d12.2.2.1, d12.2.2.2.1, d12.2.2.2.2.1, d12.2.2.2.2.2)) (
     some (x9.2.1, x9.2.2.1, x9.2.2.2.1, x9.2.2.2.2.1, x9.2.2.2.2.2.1, x9.2.2.2.2.2.2))

def m_vitrineref12_Do (p0 : Vvitrineref12_Space) (p1 : Vvitrineref12_Act) : Option Vvitrineref12_Space :=
  (
   (
    cond ((Int.tmod p1.Do 6) == 0) (
     (m_vitrineref12_Clear_2 p0 p1.On).bind fun (d3 : Vvitrineref12_Space) =>
     some (d3.Model, d3.Alt, d3.Size.Rows, d3.Size.Cols, d3.L, d3.Cursor)) (
     cond ((Int.tmod p1.Do 6) == 1) (
      (m_vitrineref12_Wrap (⟨p0.Model, p0.Alt, p0.Size, p0.L, p0.Cursor⟩ : Vvitrineref12_Space) p1.N).bind fun (d4 : Int) =>
      some (p0.Model, p0.Alt, p0.Size.Rows, p0.Size.Cols, p0.L, d4)) (
      cond ((Int.tmod p1.Do 6) == 2) (
       (m_vitrineref12_Put (⟨p0.Model, p0.Alt, p0.Size, p0.L, p0.Cursor⟩ : Vvitrineref12_Space) p1.N p1.Code).bind fun (d5 : Vvitrineref12_Space) =>
       some (d5.Model, d5.Alt, d5.Size.Rows, d5.Size.Cols, d5.L, d5.Cursor)) (
       cond ((Int.tmod p1.Do 6) == 3) (
        (m_vitrineref12_Set (⟨p0.Model, p0.Alt, p0.Size, p0.L, p0.Cursor⟩ : Vvitrineref12_Space) p1.N (⟨0, true, p1.Code, 0, 0, 0⟩ : Vapi_Cell)).bind fun (d6 : Vvitrineref12_Space) =>
        some (d6.Model, d6.Alt, d6.Size.Rows, d6.Size.Cols, d6.L, d6.Cursor)) (
        cond ((Int.tmod p1.Do 6) == 4) (
         (m_vitrineref12_Set (⟨p0.Model, p0.Alt, p0.Size, p0.L, p0.Cursor⟩ : Vvitrineref12_Space) p1.N p1.C).bind fun (d7 : Vvitrineref12_Space) =>
         some (d7.Model, d7.Alt, d7.Size.Rows, d7.Size.Cols, d7.L, d7.Cursor)) (
         (
          vitrineref12_Do_l9 p1 fuel (0, p0.Model, p0.Alt, p0.Size.Rows, p0.Size.Cols, p0.L, p0.Cursor)).bind fun (d8 : Int × Bool × Int × Int × (List Vapi_Cell) × Int) =>
         some (d8.1, d8.2.1, d8.2.2.1, d8.2.2.2.1, d8.2.2.2.2.1, d8.2.2.2.2.2))))))).bind fun (d2 : Int × Bool × Int × Int × (List Vapi_Cell) × Int) =>
   some (d2.1, d2.2.1, d2.2.2.1, d2.2.2.2.1, d2.2.2.2.2.1, d2.2.2.2.2.2)).bind fun (d1 : Int × Bool × Int × Int × (List Vapi_Cell) × Int) =>
  some (⟨d1.1, d1.2.1, (⟨d1.2.2.1, d1.2.2.2.1⟩ : Vvitrineref04_Size), d1.2.2.2.2.1, d1.2.2.2.2.2⟩ : Vvitrineref12_Space)

def m_space_Space_Clear_2 (p0 : Vspace_Space) (p1 : Bool) : Option Vspace_Space :=
  (
   cond p1 (
    some p0.model) (
    some 2)).bind fun (d1 : Int) =>
  (m_addr_Model d1).bind fun (d2 : Vaddr_Size × Int) =>
  (m_addr_Size_Cells (⟨d2.1.Rows, d2.1.Cols⟩ : Vaddr_Size)).bind fun (d3 : Int) =>
  gd ((0 : Int) ≤ d3 ∧ d3 ≤ 68719476736) <|
  some (⟨p0.model, p1, (⟨d2.1.Rows, d2.1.Cols⟩ : Vaddr_Size), (List.replicate (Int.toNat d3) (⟨0, false, 0, 0, 0, 0⟩ : Vapi_Cell)), 0, 0⟩ : Vspace_Space)

def m_addr_rest (p0 : Int) (p1 : Int) : Option Int :=
  gd (p1 ≠ 0) <|
  (
   cond (decide ((Int.tmod p0 p1) < 0)) (
    some (w64 ((Int.tmod p0 p1) + p1))) (
    some (Int.tmod p0 p1))).bind fun (d1 : Int) =>
  some d1

def m_addr_Size_Wrap (p0 : Vaddr_Size) (p1 : Int) : Option Int :=
  (m_addr_Size_Valid p0).bind fun (d1 : Bool) =>
  cond (!d1) (
   some 0) (
   (m_addr_Size_Cells p0).bind fun (d3 : Int) =>
   (m_addr_rest p1 d3).bind fun (d4 : Int) =>
   some d4)

def m_space_count (p0 : Vapi_Cell) : Option Int :=
  cond p0.Attr (
   some 1) (
   some 0)

def m_space_Space_Set (p0 : Vspace_Space) (p1 : Int) (p2 : Vapi_Cell) : Option Vspace_Space :=
  (
   cond p2.Attr (
    some (0, iband .u8 p2.FA 61)) (
    some (p2.Char, 0))).bind fun (d1 : Int × Int) =>
  (m_addr_Size_Wrap p0.size p1).bind fun (d2 : Int) =>
  gd ((0 : Int) ≤ d2 ∧ d2 < (p0.cells.length : Int)) <|
  (m_space_count { p2 with Char := d1.1, FA := d1.2 }).bind fun (d4 : Int) =>
  (m_space_count (rd p0.cells d2)).bind fun (d5 : Int) =>
  gd ((0 : Int) ≤ d2 ∧ d2 < (p0.cells.length : Int)) <|
  some (⟨p0.model, p0.alternate, p0.size, (List.set p0.cells (Int.toNat d2) { p2 with Char := d1.1, FA := d1.2 }), p0.cursor, w64 (p0.attrs + (w64 (d4 - d5)))⟩ : Vspace_Space)

def m_space_Space_Place (p0 : Vspace_Space) (p1 : Int) : Option Vspace_Space :=
  (m_addr_Size_Wrap p0.size p1).bind fun (d1 : Int) =>
  some { p0 with cursor := d1 }

def vitrinelaw20_lay_l6 (p1 : List Vvitrineref12_Act) : Nat → (Int × Int × Bool × Int × Int × (List Vapi_Cell) × Int × Int × Bool × Int × Int × (List Vapi_Cell) × Int × Int) → Option (Int × Bool × Int × Int × (List Vapi_Cell) × Int × Int × Bool × Int × Int × (List Vapi_Cell) × Int × Int)
  | 0, _ => none
  | k6 + 1, x6 =>
    cond (decide (x6.1 < (p1.length : Int))) (
     gd ((0 : Int) ≤ x6.1 ∧ x6.1 < (p1.length : Int)) <|
     (
      cond (decide (x6.1 < 30)) (
       (m_vitrineref12_Do (⟨x6.2.1, x6.2.2.1, (⟨x6.2.2.2.1, x6.2.2.2.2.1⟩ : Vvitrineref04_Size), x6.2.2.2.2.2.1, x6.2.2.2.2.2.2.1⟩ : Vvitrineref12_Space) { (rd p1 x6.1) with C := ((rd p1 x6.1).C) }).bind fun (d10 : Vvitrineref12_Space) =>
       some (d10.Model, d10.Alt, d10.Size.Rows, d10.Size.Cols, d10.L, d10.Cursor)) (
       some (x6.2.1, x6.2.2.1, x6.2.2.2.1, x6.2.2.2.2.1, x6.2.2.2.2.2.1, x6.2.2.2.2.2.2.1))).bind fun (d9 : Int × Bool × Int × Int × (List Vapi_Cell) × Int) =>
     vitrinelaw20_lay_l6 p1 k6 (w64 (x6.1 + 1), d9.1, d9.2.1, d9.2.2.1, d9.2.2.2.1, d9.2.2.2.2.1, d9.2.2.2.2.2, x6.2.2.2.2.2.2.2.1, x6.2.2.2.2.2.2.2.2.1, x6.2.2.2.2.2.2.2.2.2.1, x6.2.2.2.2.2.2.2.2.2.2.1, x6.2.2.2.2.2.2.2.2.2.2.2.1, x6.2.2.2.2.2.2.2.2.2.2.2.2.1, x6.2.2.2.2.2.2.2.2.2.2.2.2.2)) (
     some (x6.2.1, x6.2.2.1, x6.2.2.2.1, x6.2.2.2.2.1, x6.2.2.2.2.2.1, x6.2.2.2.2.2.2.1, x6.2.2.2.2.2.2.2.1, x6.2.2.2.2.2.2.2.2.1, x6.2.2.2.2.2.2.2.2.2.1, x6.2.2.2.2.2.2.2.2.2.2.1, x6.2.2.2.2.2.2.2.2.2.2.2.1, x6.2.2.2.2.2.2.2.2.2.2.2.2.1, x6.2.2.2.2.2.2.2.2.2.2.2.2.2))

def vitrinelaw20_lay_l14 (d5 : Int × Bool × Int × Int × (List Vapi_Cell) × Int × Int × Bool × Int × Int × (List Vapi_Cell) × Int × Int) : Nat → (Int × Int × Bool × Int × Int × (List Vapi_Cell) × Int × Int) → Option (Int × Bool × Int × Int × (List Vapi_Cell) × Int × Int)
  | 0, _ => none
  | k14 + 1, x14 =>
    cond (decide (x14.1 < (d5.2.2.2.2.1.length : Int))) (
     gd ((0 : Int) ≤ x14.1 ∧ x14.1 < (d5.2.2.2.2.1.length : Int)) <|
     (
      cond (!((((rd d5.2.2.2.2.1 x14.1).Char) == 0) && ((((rd d5.2.2.2.2.1 x14.1).Attr) == false) && ((((rd d5.2.2.2.2.1 x14.1).FA) == 0) && ((((rd d5.2.2.2.2.1 x14.1).High) == 0) && ((((rd d5.2.2.2.2.1 x14.1).Color) == 0) && ((((rd d5.2.2.2.2.1 x14.1).f_Set) == 0) && true))))))) (
       (m_space_Space_Set (⟨x14.2.1, x14.2.2.1, (⟨x14.2.2.2.1, x14.2.2.2.2.1⟩ : Vaddr_Size), x14.2.2.2.2.2.1, x14.2.2.2.2.2.2.1, x14.2.2.2.2.2.2.2⟩ : Vspace_Space) x14.1 (rd d5.2.2.2.2.1 x14.1)).bind fun (d18 : Vspace_Space) =>
       some (d18.model, d18.alternate, d18.size.Rows, d18.size.Cols, d18.cells, d18.cursor, d18.attrs)) (
       some (x14.2.1, x14.2.2.1, x14.2.2.2.1, x14.2.2.2.2.1, x14.2.2.2.2.2.1, x14.2.2.2.2.2.2.1, x14.2.2.2.2.2.2.2))).bind fun (d17 : Int × Bool × Int × Int × (List Vapi_Cell) × Int × Int) =>
     vitrinelaw20_lay_l14 d5 k14 (w64 (x14.1 + 1), d17.1, d17.2.1, d17.2.2.1, d17.2.2.2.1, d17.2.2.2.2.1, d17.2.2.2.2.2.1, d17.2.2.2.2.2.2)) (
     some (x14.2.1, x14.2.2.1, x14.2.2.2.1, x14.2.2.2.2.1, x14.2.2.2.2.2.1, x14.2.2.2.2.2.2.1, x14.2.2.2.2.2.2.2))

def m_vitrinelaw20_lay (p0 : Int) (p1 : List Vvitrineref12_Act) : Option (Vspace_Space × Vvitrineref12_Space) :=
  (m_space_New (w64 (2 + (w64 (Int.tmod p0 4))))).bind fun (d2 : (Int) ⊕ (Vspace_Space × Int)) => match d2 with
  | .inl d2 => (
   none)
  | .inr d2 => (
   (m_vitrineref12_New (w64 (2 + (w64 (Int.tmod p0 4))))).bind fun (d4 : (Unit) ⊕ (Vvitrineref12_Space)) => match d4 with
   | .inl d4 => (
    none)
   | .inr d4 => (
    (
     vitrinelaw20_lay_l6 p1 fuel (0, d4.Model, d4.Alt, d4.Size.Rows, d4.Size.Cols, d4.L, d4.Cursor, d2.1.model, d2.1.alternate, d2.1.size.Rows, d2.1.size.Cols, d2.1.cells, d2.1.cursor, d2.1.attrs)).bind fun (d5 : Int × Bool × Int × Int × (List Vapi_Cell) × Int × Int × Bool × Int × Int × (List Vapi_Cell) × Int × Int) =>
    (
     cond d5.2.1 (
      (m_space_Space_Clear_2 (⟨d5.2.2.2.2.2.2.1, d5.2.2.2.2.2.2.2.1, (⟨d5.2.2.2.2.2.2.2.2.1, d5.2.2.2.2.2.2.2.2.2.1⟩ : Vaddr_Size), d5.2.2.2.2.2.2.2.2.2.2.1, d5.2.2.2.2.2.2.2.2.2.2.2.1, d5.2.2.2.2.2.2.2.2.2.2.2.2⟩ : Vspace_Space) true).bind fun (d12 : Vspace_Space) =>
      some (d12.model, d12.alternate, d12.size.Rows, d12.size.Cols, d12.cells, d12.cursor, d12.attrs)) (
      some (d5.2.2.2.2.2.2.1, d5.2.2.2.2.2.2.2.1, d5.2.2.2.2.2.2.2.2.1, d5.2.2.2.2.2.2.2.2.2.1, d5.2.2.2.2.2.2.2.2.2.2.1, d5.2.2.2.2.2.2.2.2.2.2.2.1, d5.2.2.2.2.2.2.2.2.2.2.2.2))).bind fun (d11 : Int × Bool × Int × Int × (List Vapi_Cell) × Int × Int) =>
    (
     vitrinelaw20_lay_l14 d5 fuel (0, d11.1, d11.2.1, d11.2.2.1, d11.2.2.2.1, d11.2.2.2.2.1, d11.2.2.2.2.2.1, d11.2.2.2.2.2.2)).bind fun (d13 : Int × Bool × Int × Int × (List Vapi_Cell) × Int × Int) =>
    (m_space_Space_Place (⟨d13.1, d13.2.1, (⟨d13.2.2.1, d13.2.2.2.1⟩ : Vaddr_Size), d13.2.2.2.2.1, d13.2.2.2.2.2.1, d13.2.2.2.2.2.2⟩ : Vspace_Space) d5.2.2.2.2.2.1).bind fun (d19 : Vspace_Space) =>
    some (d19, (⟨d5.1, d5.2.1, (⟨d5.2.2.1, d5.2.2.2.1⟩ : Vvitrineref04_Size), d5.2.2.2.2.1, d5.2.2.2.2.2.1⟩ : Vvitrineref12_Space))))

def m_space_Space_Cursor (p0 : Vspace_Space) : Option Int :=
  some p0.cursor

def m_addr_Encode (p0 : Int) (p1 : Int) : Option ((List Int) × Int) :=
  (
   cond (p0 != 12) (
    cond (p0 != 14) (
     some (p0 != 16)) (
     some false)) (
    some false)).bind fun (d2 : Bool) =>
  cond d2 (
   some (([] : List Int), 1)) (
   (
    cond (decide (p1 < 0)) (
     some true) (
     gd ((0 : Int) ≤ p0) <|
     some (decide (p1 ≥ (ishl .i64 1 p0))))).bind fun (d4 : Bool) =>
   cond d4 (
    some (([] : List Int), 9)) (
    cond (p0 == 12) (
     (m_addr_Six (ishr .i64 p1 6)).bind fun (d5 : Int) =>
     (m_addr_Six p1).bind fun (d6 : Int) =>
     some ([d5, d6], 0)) (
     some ([IntKind.wrap .u8 (ishr .i64 p1 8), IntKind.wrap .u8 (p1)], 0))))

def m_read_sender_addr (p0 : Vread_sender) (p1 : Int) : Option Vread_sender :=
  (m_addr_Encode 12 p1).bind fun (d1 : (List Int) × Int) =>
  cond (d1.2 == 0) (
   gd (p0.out.length + d1.1.length ≤ 68719476736) <|
   some { p0 with out := (p0.out ++ d1.1) }) (
   some p0)

def m_read_begin (p0 : Vspace_Space) (p1 : Int) (p2 : Int) (p3 : Bool) : Option ((Int) ⊕ (Vread_sender × Int)) :=
  (
   cond (decide (p2 < 0)) (
    some true) (
    some (decide (p2 > 2)))).bind fun (d2 : Bool) =>
  cond d2 (
   some (.inl 1)) (
   (
    cond (!p3) (
     (m_space_Space_Cursor p0).bind fun (d5 : Int) =>
     (m_read_sender_addr (⟨[p1], (⟨0, false, 0, 0, 0, 0⟩ : Vapi_Cell), p2⟩ : Vread_sender) d5).bind fun (d6 : Vread_sender) =>
     some (d6.out, d6.last.Char, d6.last.Attr, d6.last.FA, d6.last.High, d6.last.Color, d6.last.f_Set, d6.mode)) (
     some ([p1], 0, false, 0, 0, 0, 0, p2))).bind fun (d4 : (List Int) × Int × Bool × Int × Int × Int × Int × Int) =>
   some (.inr ((⟨d4.1, (⟨d4.2.1, d4.2.2.1, d4.2.2.2.1, d4.2.2.2.2.1, d4.2.2.2.2.2.1, d4.2.2.2.2.2.2.1⟩ : Vapi_Cell), d4.2.2.2.2.2.2.2⟩ : Vread_sender), 0)))

def m_space_Space_All (p0 : Vspace_Space) : Option Unit :=
  some ()

def m_space_Space_Size (p0 : Vspace_Space) : Option Vaddr_Size :=
  some p0.size

def m_space_Space_At (p0 : Vspace_Space) (p1 : Int) : Option Vapi_Cell :=
  (m_addr_Size_Wrap p0.size p1).bind fun (d2 : Int) =>
  gd ((0 : Int) ≤ d2 ∧ d2 < (p0.cells.length : Int)) <|
  some (rd p0.cells d2)

def m_attr_looks (p0 : Vapi_Cell) : Option (Vattr_Pair × Vattr_Pair × Vattr_Pair) :=
  some ((⟨65, p0.High⟩ : Vattr_Pair), (⟨66, p0.Color⟩ : Vattr_Pair), (⟨67, p0.f_Set⟩ : Vattr_Pair))

def attr_Pairs_l5 (d3 : (Vattr_Pair × Vattr_Pair × Vattr_Pair)) : Nat → (Int × (List Vattr_Pair)) → Option (List Vattr_Pair)
  | 0, _ => none
  | k5 + 1, x5 =>
    cond (decide (x5.1 < 3)) (
     gd ((0 : Int) ≤ x5.1 ∧ x5.1 < (3 : Int)) <|
     (
      cond (((rd [d3.1, d3.2.1, d3.2.2] x5.1).Value) != 0) (
       gd (x5.2.length + [(rd [d3.1, d3.2.1, d3.2.2] x5.1)].length ≤ 68719476736) <|
       some (x5.2 ++ [(rd [d3.1, d3.2.1, d3.2.2] x5.1)])) (
       some x5.2)).bind fun (d8 : (List Vattr_Pair)) =>
     attr_Pairs_l5 d3 k5 (w64 (x5.1 + 1), d8)) (
     some x5.2)

def m_attr_Pairs (p0 : Vapi_Cell) : Option (List Vattr_Pair) :=
  (
   cond p0.Attr (
    (m_addr_Six (w64 (iband .u8 p0.FA 61))).bind fun (d2 : Int) =>
    gd (([] : List Vattr_Pair).length + [(⟨192, d2⟩ : Vattr_Pair)].length ≤ 68719476736) <|
    some (([] : List Vattr_Pair) ++ [(⟨192, d2⟩ : Vattr_Pair)])) (
    some ([] : List Vattr_Pair))).bind fun (d1 : (List Vattr_Pair)) =>
  (m_attr_looks p0).bind fun (d3 : (Vattr_Pair × Vattr_Pair × Vattr_Pair)) =>
  (
   attr_Pairs_l5 d3 fuel (0, d1)).bind fun (d4 : (List Vattr_Pair)) =>
  some d4

def attr_Bytes_l3 (p0 : List Vattr_Pair) : Nat → (Int × (List Int)) → Option (((List Int)) ⊕ ((List Int) × Int))
  | 0, _ => none
  | k3 + 1, x3 =>
    cond (decide (x3.1 < (p0.length : Int))) (
     gd ((0 : Int) ≤ x3.1 ∧ x3.1 < (p0.length : Int)) <|
     (m_attr_Pair_Check (rd p0 x3.1)).bind fun (d6 : Int) =>
     cond (d6 != 0) (
      esc (
       some (([] : List Int), d6))) (
      gd (x3.2.length + [(rd p0 x3.1).f_Type, (rd p0 x3.1).Value].length ≤ 68719476736) <|
      attr_Bytes_l3 p0 k3 (w64 (x3.1 + 1), (x3.2 ++ [(rd p0 x3.1).f_Type, (rd p0 x3.1).Value])))) (
     some (.inl x3.2))

def m_attr_Bytes (p0 : List Vattr_Pair) : Option ((List Int) × Int) :=
  cond (decide ((p0.length : Int) > 255)) (
   some (([] : List Int), 3)) (
   jn (
    attr_Bytes_l3 p0 fuel (0, [IntKind.wrap .u8 ((p0.length : Int))])) fun (d2 : (List Int)) =>
   some (d2, 0))

def m_read_sender_attribute (p0 : Vread_sender) (p1 : Vapi_Cell) : Option Vread_sender :=
  cond (p0.mode == 0) (
   (m_addr_Six (w64 (p1.FA))).bind fun (d3 : Int) =>
   gd (p0.out.length + [29, d3].length ≤ 68719476736) <|
   some (⟨(p0.out ++ [29, d3]), p0.last, p0.mode⟩ : Vread_sender)) (
   (m_attr_Pairs p1).bind fun (d4 : (List Vattr_Pair)) =>
   (m_attr_Bytes d4).bind fun (d5 : (List Int) × Int) =>
   cond (d5.2 == 0) (
    gd (p0.out.length + [41].length ≤ 68719476736) <|
    gd ((p0.out ++ [41]).length + d5.1.length ≤ 68719476736) <|
    some (⟨((p0.out ++ [41]) ++ d5.1), p0.last, p0.mode⟩ : Vread_sender)) (
    some (⟨p0.out, p0.last, p0.mode⟩ : Vread_sender)))

def attr_Diff_l6 (d1 : Int × Int × Int × Int × Int × Int × Int × Int × Int × Int × Int × Int) : Nat → (Int × (List Vattr_Pair)) → Option (List Vattr_Pair)
  | 0, _ => none
  | k6 + 1, x6 =>
    cond (decide (x6.1 < 3)) (
     gd ((0 : Int) ≤ x6.1 ∧ x6.1 < (3 : Int)) <|
     gd ((0 : Int) ≤ x6.1 ∧ x6.1 < (3 : Int)) <|
     (
      cond (!((((rd [(⟨d1.2.2.2.2.2.2.1, d1.2.2.2.2.2.2.2.1⟩ : Vattr_Pair), (⟨d1.2.2.2.2.2.2.2.2.1, d1.2.2.2.2.2.2.2.2.2.1⟩ : Vattr_Pair), (⟨d1.2.2.2.2.2.2.2.2.2.2.1, d1.2.2.2.2.2.2.2.2.2.2.2⟩ : Vattr_Pair)] x6.1).f_Type) == ((rd [(⟨d1.1, d1.2.1⟩ : Vattr_Pair), (⟨d1.2.2.1, d1.2.2.2.1⟩ : Vattr_Pair), (⟨d1.2.2.2.2.1, d1.2.2.2.2.2.1⟩ : Vattr_Pair)] x6.1).f_Type)) && ((((rd [(⟨d1.2.2.2.2.2.2.1, d1.2.2.2.2.2.2.2.1⟩ : Vattr_Pair), (⟨d1.2.2.2.2.2.2.2.2.1, d1.2.2.2.2.2.2.2.2.2.1⟩ : Vattr_Pair), (⟨d1.2.2.2.2.2.2.2.2.2.2.1, d1.2.2.2.2.2.2.2.2.2.2.2⟩ : Vattr_Pair)] x6.1).Value) == ((rd [(⟨d1.1, d1.2.1⟩ : Vattr_Pair), (⟨d1.2.2.1, d1.2.2.2.1⟩ : Vattr_Pair), (⟨d1.2.2.2.2.1, d1.2.2.2.2.2.1⟩ : Vattr_Pair)] x6.1).Value)) && true))) (
       gd (x6.2.length + [(rd [(⟨d1.1, d1.2.1⟩ : Vattr_Pair), (⟨d1.2.2.1, d1.2.2.2.1⟩ : Vattr_Pair), (⟨d1.2.2.2.2.1, d1.2.2.2.2.2.1⟩ : Vattr_Pair)] x6.1)].length ≤ 68719476736) <|
       some (x6.2 ++ [(rd [(⟨d1.1, d1.2.1⟩ : Vattr_Pair), (⟨d1.2.2.1, d1.2.2.2.1⟩ : Vattr_Pair), (⟨d1.2.2.2.2.1, d1.2.2.2.2.2.1⟩ : Vattr_Pair)] x6.1)])) (
       some x6.2)).bind fun (d10 : (List Vattr_Pair)) =>
     attr_Diff_l6 d1 k6 (w64 (x6.1 + 1), d10)) (
     some x6.2)

def m_attr_Diff (p0 : Vapi_Cell) (p1 : Vapi_Cell) : Option (List Vattr_Pair) :=
  (
   (m_attr_looks p0).bind fun (d2 : (Vattr_Pair × Vattr_Pair × Vattr_Pair)) =>
   (m_attr_looks p1).bind fun (d3 : (Vattr_Pair × Vattr_Pair × Vattr_Pair)) =>
   some (d3.1.f_Type, d3.1.Value, d3.2.1.f_Type, d3.2.1.Value, d3.2.2.f_Type, d3.2.2.Value, d2.1.f_Type, d2.1.Value, d2.2.1.f_Type, d2.2.1.Value, d2.2.2.f_Type, d2.2.2.Value)).bind fun (d1 : Int × Int × Int × Int × Int × Int × Int × Int × Int × Int × Int × Int) =>
  cond (((d1.2.2.2.2.2.2.1 == d1.1) && ((d1.2.2.2.2.2.2.2.1 == d1.2.1) && true)) && (((d1.2.2.2.2.2.2.2.2.1 == d1.2.2.1) && ((d1.2.2.2.2.2.2.2.2.2.1 == d1.2.2.2.1) && true)) && (((d1.2.2.2.2.2.2.2.2.2.2.1 == d1.2.2.2.2.1) && ((d1.2.2.2.2.2.2.2.2.2.2.2 == d1.2.2.2.2.2.1) && true)) && true))) (
   some ([] : List Vattr_Pair)) (
   (
    attr_Diff_l6 d1 fuel (0, ([] : List Vattr_Pair))).bind fun (d5 : (List Vattr_Pair)) =>
   some d5)

def read_sender_character_l6 (d4 : (List Vattr_Pair)) : Nat → (Int × (List Int)) → Option (List Int)
  | 0, _ => none
  | k6 + 1, x6 =>
    cond (decide (x6.1 < (d4.length : Int))) (
     gd ((0 : Int) ≤ x6.1 ∧ x6.1 < (d4.length : Int)) <|
     gd (x6.2.length + [40, (rd d4 x6.1).f_Type, (rd d4 x6.1).Value].length ≤ 68719476736) <|
     read_sender_character_l6 d4 k6 (w64 (x6.1 + 1), (x6.2 ++ [40, (rd d4 x6.1).f_Type, (rd d4 x6.1).Value]))) (
     some x6.2)

def m_read_sender_character (p0 : Vread_sender) (p1 : Vapi_Cell) : Option Vread_sender :=
  (
   (
    cond (p0.mode == 2) (
     (m_attr_Diff p0.last p1).bind fun (d4 : (List Vattr_Pair)) =>
     (
      read_sender_character_l6 d4 fuel (0, p0.out)).bind fun (d5 : (List Int)) =>
     some (d5, p1.Char, p1.Attr, p1.FA, p1.High, p1.Color, p1.f_Set)) (
     cond (p1.f_Set == 241) (
      gd (p0.out.length + [8].length ≤ 68719476736) <|
      some ((p0.out ++ [8]), p0.last.Char, p0.last.Attr, p0.last.FA, p0.last.High, p0.last.Color, p0.last.f_Set)) (
      some (p0.out, p0.last.Char, p0.last.Attr, p0.last.FA, p0.last.High, p0.last.Color, p0.last.f_Set)))).bind fun (d2 : (List Int) × Int × Bool × Int × Int × Int × Int) =>
   some (d2.1, d2.2.1, d2.2.2.1, d2.2.2.2.1, d2.2.2.2.2.1, d2.2.2.2.2.2.1, d2.2.2.2.2.2.2)).bind fun (d1 : (List Int) × Int × Bool × Int × Int × Int × Int) =>
  (m_order_Is p1.Char).bind fun (d10 : Bool) =>
  (
   cond d10 (
    some 63) (
    some p1.Char)).bind fun (d11 : Int) =>
  gd (d1.1.length + [d11].length ≤ 68719476736) <|
  some (⟨(d1.1 ++ [d11]), (⟨d1.2.1, d1.2.2.1, d1.2.2.2.1, d1.2.2.2.2.1, d1.2.2.2.2.2.1, d1.2.2.2.2.2.2⟩ : Vapi_Cell), p0.mode⟩ : Vread_sender)

def read_Buffer_l11 (p0 : Vspace_Space) (d9 : Int) : Nat → (Int × (List Int) × Int × Bool × Int × Int × Int × Int × Int) → Option ((List Int) × Int × Bool × Int × Int × Int × Int × Int)
  | 0, _ => none
  | k11 + 1, x11 =>
    cond (decide (x11.1 < d9)) (
     (m_space_Space_At (⟨p0.model, p0.alternate, p0.size, p0.cells, p0.cursor, p0.attrs⟩ : Vspace_Space) x11.1).bind fun (d14 : Vapi_Cell) =>
     (
      cond d14.Attr (
       (m_read_sender_attribute (⟨x11.2.1, (⟨x11.2.2.1, x11.2.2.2.1, x11.2.2.2.2.1, x11.2.2.2.2.2.1, x11.2.2.2.2.2.2.1, x11.2.2.2.2.2.2.2.1⟩ : Vapi_Cell), x11.2.2.2.2.2.2.2.2⟩ : Vread_sender) (⟨d14.Char, d14.Attr, d14.FA, d14.High, d14.Color, d14.f_Set⟩ : Vapi_Cell)).bind fun (d17 : Vread_sender) =>
       some (d17.out, d17.last.Char, d17.last.Attr, d17.last.FA, d17.last.High, d17.last.Color, d17.last.f_Set, d17.mode)) (
       (m_read_sender_character (⟨x11.2.1, (⟨x11.2.2.1, x11.2.2.2.1, x11.2.2.2.2.1, x11.2.2.2.2.2.1, x11.2.2.2.2.2.2.1, x11.2.2.2.2.2.2.2.1⟩ : Vapi_Cell), x11.2.2.2.2.2.2.2.2⟩ : Vread_sender) (⟨d14.Char, d14.Attr, d14.FA, d14.High, d14.Color, d14.f_Set⟩ : Vapi_Cell)).bind fun (d18 : Vread_sender) =>
       some (d18.out, d18.last.Char, d18.last.Attr, d18.last.FA, d18.last.High, d18.last.Color, d18.last.f_Set, d18.mode))).bind fun (d16 : (List Int) × Int × Bool × Int × Int × Int × Int × Int) =>
     read_Buffer_l11 p0 d9 k11 (w64 (x11.1 + 1), d16.1, d16.2.1, d16.2.2.1, d16.2.2.2.1, d16.2.2.2.2.1, d16.2.2.2.2.2.1, d16.2.2.2.2.2.2.1, d16.2.2.2.2.2.2.2)) (
     some (x11.2.1, x11.2.2.1, x11.2.2.2.1, x11.2.2.2.2.1, x11.2.2.2.2.2.1, x11.2.2.2.2.2.2.1, x11.2.2.2.2.2.2.2.1, x11.2.2.2.2.2.2.2.2))

def m_read_Buffer (p0 : Vspace_Space) (p1 : Int) (p2 : Int) : Option (Vspace_Space × (List Int) × Int) :=
  (m_read_begin (⟨p0.model, p0.alternate, p0.size, p0.cells, p0.cursor, p0.attrs⟩ : Vspace_Space) p1 p2 false).bind fun (d2 : (Int) ⊕ (Vread_sender × Int)) => match d2 with
  | .inl d2 => (
   none)
  | .inr d2 => (
   cond (d2.2 != 0) (
    some ((⟨p0.model, p0.alternate, p0.size, p0.cells, p0.cursor, p0.attrs⟩ : Vspace_Space), ([] : List Int), d2.2)) (
    (m_space_Space_All p0).bind fun (d4 : Unit) =>
    (
     (
      (m_space_Space_Size p0).bind fun (d8 : Vaddr_Size) =>
      (m_addr_Size_Cells d8).bind fun (d9 : Int) =>
      (
       read_Buffer_l11 p0 d9 fuel (0, d2.1.out, d2.1.last.Char, d2.1.last.Attr, d2.1.last.FA, d2.1.last.High, d2.1.last.Color, d2.1.last.f_Set, d2.1.mode)).bind fun (d10 : (List Int) × Int × Bool × Int × Int × Int × Int × Int) =>
      some (d10.1, d10.2.1, d10.2.2.1, d10.2.2.2.1, d10.2.2.2.2.1, d10.2.2.2.2.2.1, d10.2.2.2.2.2.2.1, d10.2.2.2.2.2.2.2)).bind fun (d6 : (List Int) × Int × Bool × Int × Int × Int × Int × Int) =>
     some (d6.1, d6.2.1, d6.2.2.1, d6.2.2.2.1, d6.2.2.2.2.1, d6.2.2.2.2.2.1, d6.2.2.2.2.2.2.1, d6.2.2.2.2.2.2.2)).bind fun (d5 : (List Int) × Int × Bool × Int × Int × Int × Int × Int) =>
    some ((⟨p0.model, p0.alternate, p0.size, p0.cells, p0.cursor, p0.attrs⟩ : Vspace_Space), d5.1, 0)))

def m_vitrineref05_Diff (p0 : Vapi_Cell) (p1 : Vapi_Cell) : Option (List Vvitrineref05_Pair) :=
  (
   cond (p0.High != p1.High) (
    gd (([] : List Vvitrineref05_Pair).length + [(⟨65, p1.High⟩ : Vvitrineref05_Pair)].length ≤ 68719476736) <|
    some (([] : List Vvitrineref05_Pair) ++ [(⟨65, p1.High⟩ : Vvitrineref05_Pair)])) (
    some ([] : List Vvitrineref05_Pair))).bind fun (d1 : (List Vvitrineref05_Pair)) =>
  (
   cond (p0.Color != p1.Color) (
    gd (d1.length + [(⟨66, p1.Color⟩ : Vvitrineref05_Pair)].length ≤ 68719476736) <|
    some (d1 ++ [(⟨66, p1.Color⟩ : Vvitrineref05_Pair)])) (
    some d1)).bind fun (d2 : (List Vvitrineref05_Pair)) =>
  (
   cond (p0.f_Set != p1.f_Set) (
    gd (d2.length + [(⟨67, p1.f_Set⟩ : Vvitrineref05_Pair)].length ≤ 68719476736) <|
    some (d2 ++ [(⟨67, p1.f_Set⟩ : Vvitrineref05_Pair)])) (
    some d2)).bind fun (d3 : (List Vvitrineref05_Pair)) =>
  some d3

def vitrineref05_Right_l4 (p0 : Vvitrineref05_Pair) (d2 : (List Int)) : Nat → Int → Option ((Unit) ⊕ Bool)
  | 0, _ => none
  | k4 + 1, x4 =>
    cond (decide (x4 < (d2.length : Int))) (
     gd ((0 : Int) ≤ x4 ∧ x4 < (d2.length : Int)) <|
     cond ((rd d2 x4) == p0.Value) (
      esc (
       some true)) (
      vitrineref05_Right_l4 p0 d2 k4 (w64 (x4 + 1)))) (
     some (.inl ()))

def m_vitrineref05_Right (p0 : Vvitrineref05_Pair) : Option Bool :=
  jn (
   cond (p0.f_Type == 0) (
    some (.inl [0])) (
    cond (p0.f_Type == 192) (
     esc (
      some true)) (
     cond (p0.f_Type == 65) (
      some (.inl [0, 240, 241, 242, 244, 248])) (
      cond (p0.f_Type == 66) (
       some (.inl [0, 241, 242, 243, 244, 245, 246, 247])) (
       cond (p0.f_Type == 67) (
        some (.inl [0, 241])) (
        some (.inl ([] : List Int)))))))) fun (d2 : (List Int)) =>
  jn (
   vitrineref05_Right_l4 p0 d2 fuel 0) fun (d3 : Unit) =>
  some false

def vitrinelaw20_looks_l7 (d5 : (List Vvitrineref05_Pair)) : Nat → Int → Option ((Unit) ⊕ ((Unit) ⊕ ((Unit) ⊕ Bool)))
  | 0, _ => none
  | k7 + 1, x7 =>
    cond (decide (x7 < (d5.length : Int))) (
     gd ((0 : Int) ≤ x7 ∧ x7 < (d5.length : Int)) <|
     (m_vitrineref05_Right (rd d5 x7)).bind fun (d10 : Bool) =>
     cond (!d10) (
      esc (
       esc (
        esc (
         some false)))) (
      vitrinelaw20_looks_l7 d5 k7 (w64 (x7 + 1)))) (
     some (.inl ()))

def vitrinelaw20_looks_l2 (p0 : Vvitrineref12_Space) : Nat → Int → Option ((Unit) ⊕ Bool)
  | 0, _ => none
  | k2 + 1, x2 =>
    cond (decide (x2 < (p0.L.length : Int))) (
     jn (
      gd ((0 : Int) ≤ x2 ∧ x2 < (p0.L.length : Int)) <|
      (m_vitrineref05_Diff (⟨0, false, 0, 0, 0, 0⟩ : Vapi_Cell) (rd p0.L x2)).bind fun (d5 : (List Vvitrineref05_Pair)) =>
      jn (
       vitrinelaw20_looks_l7 d5 fuel 0) fun (d6 : Unit) =>
      some (.inl ())) fun (d4 : Unit) =>
     vitrinelaw20_looks_l2 p0 k2 (w64 (x2 + 1))) (
     some (.inl ()))

def m_vitrinelaw20_looks (p0 : Vvitrineref12_Space) : Option Bool :=
  jn (
   vitrinelaw20_looks_l2 p0 fuel 0) fun (d1 : Unit) =>
  some true

def m_attr_Pair_Apply (p0 : Vattr_Pair) (p1 : Vapi_Cell) : Option (Vapi_Cell × Int) :=
  (m_attr_Pair_Check p0).bind fun (d1 : Int) =>
  cond (d1 != 0) (
   some ((⟨0, false, 0, 0, 0, 0⟩ : Vapi_Cell), d1)) (
   (
    cond (p0.f_Type == 0) (
     some (p1.FA, 0, 0, 0)) (
     cond (p0.f_Type == 192) (
      cond p1.Attr (
       some (iband .u8 p0.Value 61, p1.High, p1.Color, p1.f_Set)) (
       some (p1.FA, p1.High, p1.Color, p1.f_Set))) (
      cond (p0.f_Type == 65) (
       some (p1.FA, p0.Value, p1.Color, p1.f_Set)) (
       cond (p0.f_Type == 66) (
        some (p1.FA, p1.High, p0.Value, p1.f_Set)) (
        cond (p0.f_Type == 67) (
         some (p1.FA, p1.High, p1.Color, p0.Value)) (
         some (p1.FA, p1.High, p1.Color, p1.f_Set))))))).bind fun (d4 : Int × Int × Int × Int) =>
   some ((⟨p1.Char, p1.Attr, d4.1, d4.2.1, d4.2.2.1, d4.2.2.2⟩ : Vapi_Cell), 0))

def entry_look_l2 (p1 : List Vattr_Pair) : Nat → (Int × Int × Bool × Int × Int × Int × Int) → Option (Int × Bool × Int × Int × Int × Int)
  | 0, _ => none
  | k2 + 1, x2 =>
    cond (decide (x2.1 < (p1.length : Int))) (
     gd ((0 : Int) ≤ x2.1 ∧ x2.1 < (p1.length : Int)) <|
     (m_attr_Pair_Apply (rd p1 x2.1) (⟨x2.2.1, x2.2.2.1, x2.2.2.2.1, x2.2.2.2.2.1, x2.2.2.2.2.2.1, x2.2.2.2.2.2.2⟩ : Vapi_Cell)).bind fun (d5 : Vapi_Cell × Int) =>
     (
      cond (d5.2 == 0) (
       some (d5.1.Char, d5.1.Attr, d5.1.FA, d5.1.High, d5.1.Color, d5.1.f_Set)) (
       some (x2.2.1, x2.2.2.1, x2.2.2.2.1, x2.2.2.2.2.1, x2.2.2.2.2.2.1, x2.2.2.2.2.2.2))).bind fun (d6 : Int × Bool × Int × Int × Int × Int) =>
     entry_look_l2 p1 k2 (w64 (x2.1 + 1), d6.1, d6.2.1, d6.2.2.1, d6.2.2.2.1, d6.2.2.2.2.1, d6.2.2.2.2.2)) (
     some (x2.2.1, x2.2.2.1, x2.2.2.2.1, x2.2.2.2.2.1, x2.2.2.2.2.2.1, x2.2.2.2.2.2.2))

def m_entry_look (p0 : Vapi_Cell) (p1 : List Vattr_Pair) : Option Vapi_Cell :=
  (
   entry_look_l2 p1 fuel (0, p0.Char, p0.Attr, p0.FA, p0.High, p0.Color, p0.f_Set)).bind fun (d1 : Int × Bool × Int × Int × Int × Int) =>
  some (⟨d1.1, d1.2.1, d1.2.2.1, d1.2.2.2.1, d1.2.2.2.2.1, d1.2.2.2.2.2⟩ : Vapi_Cell)

def entry_Buffer_l16 (d4 : (List Vorder_Op) × Int × Int) (x7 : Int × (List Vapi_Cell) × Int × Bool × Int × Int × Int × Int) : Nat → (Int × (List Vapi_Cell) × Int) → Option (List Vapi_Cell)
  | 0, _ => none
  | k16 + 1, x16 =>
    cond (decide (x16.1 < (((rd d4.1 x7.1).Text).length : Int))) (
     gd ((0 : Int) ≤ x16.1 ∧ x16.1 < (((rd d4.1 x7.1).Text).length : Int)) <|
     gd (x16.2.1.length + [(⟨(rd ((rd d4.1 x7.1).Text) x16.1), x7.2.2.2.1, x7.2.2.2.2.1, x7.2.2.2.2.2.1, x7.2.2.2.2.2.2.1, x7.2.2.2.2.2.2.2⟩ : Vapi_Cell)].length ≤ 68719476736) <|
     entry_Buffer_l16 d4 x7 k16 (w64 (x16.1 + 1), (x16.2.1 ++ [(⟨(rd ((rd d4.1 x7.1).Text) x16.1), x7.2.2.2.1, x7.2.2.2.2.1, x7.2.2.2.2.2.1, x7.2.2.2.2.2.2.1, x7.2.2.2.2.2.2.2⟩ : Vapi_Cell)]), (rd ((rd d4.1 x7.1).Text) x16.1))) (
     some x16.2.1)

def entry_Buffer_l7 (d4 : (List Vorder_Op) × Int × Int) : Nat → (Int × (List Vapi_Cell) × Int × Bool × Int × Int × Int × Int) → Option (((List Vapi_Cell)) ⊕ ((List Vapi_Cell) × Int × Int))
  | 0, _ => none
  | k7 + 1, x7 =>
    cond (decide (x7.1 < (d4.1.length : Int))) (
     jn (
      gd ((0 : Int) ≤ x7.1 ∧ x7.1 < (d4.1.length : Int)) <|
      jn (
       jn (
        cond (((rd d4.1 x7.1).Kind) == 29) (
         (m_entry_look (⟨0, true, 0, 0, 0, 0⟩ : Vapi_Cell) [(⟨192, (rd d4.1 x7.1).FA⟩ : Vattr_Pair)]).bind fun (d12 : Vapi_Cell) =>
         some (.inl (d12.Char, d12.Attr, d12.FA, d12.High, d12.Color, d12.f_Set))) (
         cond (((rd d4.1 x7.1).Kind) == 41) (
          (m_entry_look (⟨0, true, 0, 0, 0, 0⟩ : Vapi_Cell) ((rd d4.1 x7.1).Pairs)).bind fun (d13 : Vapi_Cell) =>
          some (.inl (d13.Char, d13.Attr, d13.FA, d13.High, d13.Color, d13.f_Set))) (
          cond (((rd d4.1 x7.1).Kind) == 8) (
           some (.inl ((rd d4.1 x7.1).Code, x7.2.2.2.1, x7.2.2.2.2.1, x7.2.2.2.2.2.1, x7.2.2.2.2.2.2.1, 241))) (
           cond (((rd d4.1 x7.1).Kind) == 40) (
            (m_entry_look (⟨x7.2.2.1, x7.2.2.2.1, x7.2.2.2.2.1, x7.2.2.2.2.2.1, x7.2.2.2.2.2.2.1, x7.2.2.2.2.2.2.2⟩ : Vapi_Cell) ((rd d4.1 x7.1).Pairs)).bind fun (d14 : Vapi_Cell) =>
            esc (
             esc (
              some (.inl (x7.2.1, d14.Char, d14.Attr, d14.FA, d14.High, d14.Color, d14.f_Set))))) (
            cond (((rd d4.1 x7.1).Kind) == 0) (
             (
              entry_Buffer_l16 d4 x7 fuel (0, x7.2.1, x7.2.2.1)).bind fun (d15 : (List Vapi_Cell)) =>
             esc (
              esc (
               some (.inl (d15, x7.2.2.1, x7.2.2.2.1, x7.2.2.2.2.1, x7.2.2.2.2.2.1, x7.2.2.2.2.2.2.1, x7.2.2.2.2.2.2.2))))) (
             esc (
              esc (
               esc (
                esc (
                 some (([] : List Vapi_Cell), 0, 4))))))))))) fun (d11 : Int × Bool × Int × Int × Int × Int) =>
       some (.inl (d11.1, d11.2.1, d11.2.2.1, d11.2.2.2.1, d11.2.2.2.2.1, d11.2.2.2.2.2))) fun (d10 : Int × Bool × Int × Int × Int × Int) =>
      gd (x7.2.1.length + [(⟨d10.1, d10.2.1, d10.2.2.1, d10.2.2.2.1, d10.2.2.2.2.1, d10.2.2.2.2.2⟩ : Vapi_Cell)].length ≤ 68719476736) <|
      some (.inl ((x7.2.1 ++ [(⟨d10.1, d10.2.1, d10.2.2.1, d10.2.2.2.1, d10.2.2.2.2.1, d10.2.2.2.2.2⟩ : Vapi_Cell)]), x7.2.2.1, x7.2.2.2.1, x7.2.2.2.2.1, x7.2.2.2.2.2.1, x7.2.2.2.2.2.2.1, x7.2.2.2.2.2.2.2))) fun (d9 : (List Vapi_Cell) × Int × Bool × Int × Int × Int × Int) =>
     entry_Buffer_l7 d4 k7 (w64 (x7.1 + 1), d9.1, d9.2.1, d9.2.2.1, d9.2.2.2.1, d9.2.2.2.2.1, d9.2.2.2.2.2.1, d9.2.2.2.2.2.2)) (
     some (.inl x7.2.1))

def m_entry_Buffer (p0 : List Int) : Option ((List Vapi_Cell) × Int × Int) :=
  (m_entry_begin p0).bind fun (d1 : Ventry_Report × (List Int) × Int) =>
  cond (d1.2.2 != 0) (
   some (([] : List Vapi_Cell), 0, d1.2.2)) (
   cond d1.1.Short (
    some (([] : List Vapi_Cell), 0, 2)) (
    (m_order_All d1.2.1).bind fun (d4 : (List Vorder_Op) × Int × Int) =>
    cond (d4.2.2 != 0) (
     some (([] : List Vapi_Cell), 0, d4.2.2)) (
     jn (
      entry_Buffer_l7 d4 fuel (0, ([] : List Vapi_Cell), 0, false, 0, 0, 0, 0)) fun (d6 : (List Vapi_Cell)) =>
     some (d6, d1.1.Cursor, 0))))

def m_entry_Replay (p0 : List Int) (p1 : Bool) : Option ((List Int) × Int) :=
  (m_entry_Buffer p0).bind fun (d1 : (List Vapi_Cell) × Int × Int) =>
  cond (d1.2.2 != 0) (
   some (([] : List Int), d1.2.2)) (
   (
    cond p1 (
     some 126) (
     some 245)).bind fun (d3 : Int) =>
   (m_addr_Encode 12 d1.2.1).bind fun (d4 : (List Int) × Int) =>
   cond (d4.2 != 0) (
    some (([] : List Int), d4.2)) (
    gd ((0 : Int) ≤ 3 ∧ 3 ≤ (p0.length : Int) ∧ (p0.length : Int) ≤ (p0.length : Int)) <|
    (m_bytes_Clone (List.drop 3 p0)).bind fun (d6 : (List Int)) =>
    gd ([d3, 64].length + d6.length ≤ 68719476736) <|
    gd (([d3, 64] ++ d6).length + [17].length ≤ 68719476736) <|
    gd ((([d3, 64] ++ d6) ++ [17]).length + d4.1.length ≤ 68719476736) <|
    gd (((([d3, 64] ++ d6) ++ [17]) ++ d4.1).length + [19].length ≤ 68719476736) <|
    some ((((([d3, 64] ++ d6) ++ [17]) ++ d4.1) ++ [19]), 0)))

def vitrineref01_Num_l2 (p0 : ByteArray) : Nat → (Int × Int) → Option Int
  | 0, _ => none
  | k2 + 1, x2 =>
    cond (decide (x2.1 < (p0.size : Int))) (
     gd ((0 : Int) ≤ x2.1 ∧ x2.1 < (p0.size : Int)) <|
     gd ((0 : Int) ≤ x2.1 ∧ x2.1 < (p0.size : Int)) <|
     (
      cond (decide ((sbyte p0 x2.1) ≥ 97)) (
       gd ((0 : Int) ≤ x2.1 ∧ x2.1 < (p0.size : Int)) <|
       some (w64 ((w64 (IntKind.wrap .u8 ((sbyte p0 x2.1) - 97))) + 10))) (
       some (w64 (IntKind.wrap .u8 ((sbyte p0 x2.1) - 48))))).bind fun (d5 : Int) =>
     vitrineref01_Num_l2 p0 k2 (w64 (x2.1 + 1), w64 ((w64 (16 * x2.2)) + d5))) (
     some x2.2)

def m_vitrineref01_Num (p0 : ByteArray) : Option Int :=
  (
   vitrineref01_Num_l2 p0 fuel (0, 0)).bind fun (d1 : Int) =>
  some d1

def m_vitrineref04_Six (p0 : Int) : Option Int :=
  (m_vitrineref04_Mod p0 64).bind fun (d1 : Int) =>
  gd ((0 : Int) ≤ (w64 (2 * d1)) ∧ (w64 (2 * d1)) ≤ (w64 ((w64 (2 * d1)) + 2)) ∧ (w64 ((w64 (2 * d1)) + 2)) ≤ ((ByteArray.mk (List.toArray [52, 48, 99, 49, 99, 50, 99, 51, 99, 52, 99, 53, 99, 54, 99, 55, 99, 56, 99, 57, 52, 97, 52, 98, 52, 99, 52, 100, 52, 101, 52, 102, 53, 48, 100, 49, 100, 50, 100, 51, 100, 52, 100, 53, 100, 54, 100, 55, 100, 56, 100, 57, 53, 97, 53, 98, 53, 99, 53, 100, 53, 101, 53, 102, 54, 48, 54, 49, 101, 50, 101, 51, 101, 52, 101, 53, 101, 54, 101, 55, 101, 56, 101, 57, 54, 97, 54, 98, 54, 99, 54, 100, 54, 101, 54, 102, 102, 48, 102, 49, 102, 50, 102, 51, 102, 52, 102, 53, 102, 54, 102, 55, 102, 56, 102, 57, 55, 97, 55, 98, 55, 99, 55, 100, 55, 101, 55, 102])).size : Int)) <|
  (m_vitrineref01_Num (ByteArray.extract (ByteArray.mk (List.toArray [52, 48, 99, 49, 99, 50, 99, 51, 99, 52, 99, 53, 99, 54, 99, 55, 99, 56, 99, 57, 52, 97, 52, 98, 52, 99, 52, 100, 52, 101, 52, 102, 53, 48, 100, 49, 100, 50, 100, 51, 100, 52, 100, 53, 100, 54, 100, 55, 100, 56, 100, 57, 53, 97, 53, 98, 53, 99, 53, 100, 53, 101, 53, 102, 54, 48, 54, 49, 101, 50, 101, 51, 101, 52, 101, 53, 101, 54, 101, 55, 101, 56, 101, 57, 54, 97, 54, 98, 54, 99, 54, 100, 54, 101, 54, 102, 102, 48, 102, 49, 102, 50, 102, 51, 102, 52, 102, 53, 102, 54, 102, 55, 102, 56, 102, 57, 55, 97, 55, 98, 55, 99, 55, 100, 55, 101, 55, 102])) (Int.toNat (w64 (2 * d1))) (Int.toNat (w64 ((w64 (2 * d1)) + 2))))).bind fun (d2 : Int) =>
  some (IntKind.wrap .u8 (d2))

def vitrineref04_Unsix_l2 (p0 : Int) : Nat → Int → Option ((Unit) ⊕ Int)
  | 0, _ => none
  | k2 + 1, x2 =>
    cond (decide (x2 < 64)) (
     (m_vitrineref04_Six x2).bind fun (d5 : Int) =>
     cond (d5 == p0) (
      esc (
       some x2)) (
      vitrineref04_Unsix_l2 p0 k2 (w64 (x2 + 1)))) (
     some (.inl ()))

def m_vitrineref04_Unsix (p0 : Int) : Option Int :=
  jn (
   vitrineref04_Unsix_l2 p0 fuel 0) fun (d1 : Unit) =>
  some (Int.tmod (w64 (p0)) 64)

def m_vitrineref04_Decode (p0 : Int) (p1 : List Int) : Option (Int × Int) :=
  (
   cond (p0 != 12) (
    cond (p0 != 14) (
     some (p0 != 16)) (
     some false)) (
    some false)).bind fun (d1 : Bool) =>
  cond d1 (
   some (0, 1)) (
   cond (decide ((p1.length : Int) < 2)) (
    some (0, 2)) (
    gd ((0 : Int) ≤ 0 ∧ 0 < (p1.length : Int)) <|
    gd ((0 : Int) ≤ 1 ∧ 1 < (p1.length : Int)) <|
    (
     cond (p0 == 16) (
      some true) (
      gd ((0 : Int) ≤ 0 ∧ 0 < (p1.length : Int)) <|
      some (decide ((rd p1 0) < 64)))).bind fun (d5 : Bool) =>
    cond d5 (
     some (w64 ((w64 (256 * (w64 ((rd p1 0))))) + (w64 ((rd p1 1)))), 0)) (
     (
      gd ((0 : Int) ≤ 0 ∧ 0 < (p1.length : Int)) <|
      cond (decide ((rd p1 0) ≥ 128)) (
       gd ((0 : Int) ≤ 0 ∧ 0 < (p1.length : Int)) <|
       some (decide ((rd p1 0) < 192))) (
       some false)).bind fun (d7 : Bool) =>
     cond d7 (
      some (0, 9)) (
      gd ((0 : Int) ≤ 0 ∧ 0 < (p1.length : Int)) <|
      gd ((0 : Int) ≤ 1 ∧ 1 < (p1.length : Int)) <|
      (m_vitrineref04_Unsix (rd p1 0)).bind fun (d10 : Int) =>
      (m_vitrineref04_Unsix (rd p1 1)).bind fun (d11 : Int) =>
      some (w64 ((w64 (64 * d10)) + d11), 0)))))

def vitrineref16_Name_l2 (p0 : Int) : Nat → Int → Option ((Unit) ⊕ ByteArray)
  | 0, _ => none
  | k2 + 1, x2 =>
    cond (decide (x2 < ([0, 5, 8, 17, 18, 19, 29, 40, 41, 44, 60].length : Int))) (
     gd ((0 : Int) ≤ x2 ∧ x2 < ([0, 5, 8, 17, 18, 19, 29, 40, 41, 44, 60].length : Int)) <|
     cond ((rd [0, 5, 8, 17, 18, 19, 29, 40, 41, 44, 60] x2) == p0) (
      gd ((0 : Int) ≤ x2 ∧ x2 < ([(ByteArray.mk (List.toArray [84, 101, 120, 116])), (ByteArray.mk (List.toArray [80, 84])), (ByteArray.mk (List.toArray [71, 69])), (ByteArray.mk (List.toArray [83, 66, 65])), (ByteArray.mk (List.toArray [69, 85, 65])), (ByteArray.mk (List.toArray [73, 67])), (ByteArray.mk (List.toArray [83, 70])), (ByteArray.mk (List.toArray [83, 65])), (ByteArray.mk (List.toArray [83, 70, 69])), (ByteArray.mk (List.toArray [77, 70])), (ByteArray.mk (List.toArray [82, 65]))].length : Int)) <|
      esc (
       some (rd [(ByteArray.mk (List.toArray [84, 101, 120, 116])), (ByteArray.mk (List.toArray [80, 84])), (ByteArray.mk (List.toArray [71, 69])), (ByteArray.mk (List.toArray [83, 66, 65])), (ByteArray.mk (List.toArray [69, 85, 65])), (ByteArray.mk (List.toArray [73, 67])), (ByteArray.mk (List.toArray [83, 70])), (ByteArray.mk (List.toArray [83, 65])), (ByteArray.mk (List.toArray [83, 70, 69])), (ByteArray.mk (List.toArray [77, 70])), (ByteArray.mk (List.toArray [82, 65]))] x2))) (
      vitrineref16_Name_l2 p0 k2 (w64 (x2 + 1)))) (
     some (.inl ()))

def m_vitrineref16_Name (p0 : Int) : Option ByteArray :=
  jn (
   vitrineref16_Name_l2 p0 fuel 0) fun (d1 : Unit) =>
  some (ByteArray.mk (List.toArray []))

def m_vitrineref16_Is (p0 : Int) : Option Bool :=
  (
   cond (p0 != 0) (
    (m_vitrineref16_Name (w64 (p0))).bind fun (d2 : ByteArray) =>
    some (!(d2.data.toList == (ByteArray.mk (List.toArray [])).data.toList))) (
    some false)).bind fun (d1 : Bool) =>
  some d1

def m_vitrineref01_Copy (p0 : List Int) : Option (List Int) :=
  gd (([] : List Int).length + p0.length ≤ 68719476736) <|
  some (([] : List Int) ++ p0)

def vitrineref05_Parse_l4 (p0 : List Int) : Nat → (Int × (List Vvitrineref05_Pair)) → Option (((List Vvitrineref05_Pair)) ⊕ ((List Vvitrineref05_Pair) × Int × Int))
  | 0, _ => none
  | k4 + 1, x4 =>
    gd ((0 : Int) ≤ 0 ∧ 0 < (p0.length : Int)) <|
    cond (decide (x4.1 < (w64 ((rd p0 0))))) (
     gd ((0 : Int) ≤ (w64 (1 + (w64 (2 * x4.1)))) ∧ (w64 (1 + (w64 (2 * x4.1)))) < (p0.length : Int)) <|
     gd ((0 : Int) ≤ (w64 (2 + (w64 (2 * x4.1)))) ∧ (w64 (2 + (w64 (2 * x4.1)))) < (p0.length : Int)) <|
     (m_vitrineref05_Right (⟨(rd p0 (w64 (1 + (w64 (2 * x4.1))))), (rd p0 (w64 (2 + (w64 (2 * x4.1)))))⟩ : Vvitrineref05_Pair)).bind fun (d8 : Bool) =>
     cond (!d8) (
      esc (
       some (([] : List Vvitrineref05_Pair), 0, 10))) (
      gd (x4.2.length + [(⟨(rd p0 (w64 (1 + (w64 (2 * x4.1))))), (rd p0 (w64 (2 + (w64 (2 * x4.1)))))⟩ : Vvitrineref05_Pair)].length ≤ 68719476736) <|
      vitrineref05_Parse_l4 p0 k4 (w64 (x4.1 + 1), (x4.2 ++ [(⟨(rd p0 (w64 (1 + (w64 (2 * x4.1))))), (rd p0 (w64 (2 + (w64 (2 * x4.1)))))⟩ : Vvitrineref05_Pair)])))) (
     some (.inl x4.2))

def m_vitrineref05_Parse (p0 : List Int) : Option ((List Vvitrineref05_Pair) × Int × Int) :=
  (
   cond ((p0.length : Int) == 0) (
    some true) (
    gd ((0 : Int) ≤ 0 ∧ 0 < (p0.length : Int)) <|
    some (decide ((w64 ((p0.length : Int) - 1)) < (w64 (2 * (w64 ((rd p0 0))))))))).bind fun (d1 : Bool) =>
  cond d1 (
   some (([] : List Vvitrineref05_Pair), 0, 2)) (
   jn (
    vitrineref05_Parse_l4 p0 fuel (0, ([] : List Vvitrineref05_Pair))) fun (d3 : (List Vvitrineref05_Pair)) =>
   some (d3, w64 (1 + (w64 (2 * (d3.length : Int)))), 0))

def vitrineref16_next_l4 (p0 : List Int) : Nat → Int → Option Int
  | 0, _ => none
  | k4 + 1, x4 =>
    (
     cond (decide (x4 < (p0.length : Int))) (
      gd ((0 : Int) ≤ x4 ∧ x4 < (p0.length : Int)) <|
      (m_vitrineref16_Is (rd p0 x4)).bind fun (d6 : Bool) =>
      some (!d6)) (
      some false)).bind fun (d5 : Bool) =>
    cond d5 (
     vitrineref16_next_l4 p0 k4 (w64 (x4 + 1))) (
     some x4)

def m_vitrineref16_next (p0 : List Int) : Option (Vvitrineref16_Op × Int × Int) :=
  gd ((0 : Int) ≤ 0 ∧ 0 < (p0.length : Int)) <|
  gd ((0 : Int) ≤ 0 ∧ 0 < (p0.length : Int)) <|
  (m_vitrineref16_Is (rd p0 0)).bind fun (d1 : Bool) =>
  cond (!d1) (
   (
    vitrineref16_next_l4 p0 fuel 0).bind fun (d3 : Int) =>
   gd ((0 : Int) ≤ 0 ∧ 0 ≤ d3 ∧ d3 ≤ (p0.length : Int)) <|
   (m_vitrineref01_Copy (List.take (Int.toNat d3) p0)).bind fun (d8 : (List Int)) =>
   some ((⟨0, 0, 0, false, 0, ([] : List Vvitrineref05_Pair), d8⟩ : Vvitrineref16_Op), d3, 0)) (
   (
    cond ((w64 ((rd p0 0))) == 17) (
     some ((w64 ((rd p0 0))) == 17)) (
     cond ((w64 ((rd p0 0))) == 18) (
      some ((w64 ((rd p0 0))) == 18)) (
      some ((w64 ((rd p0 0))) == 40)))).bind fun (d10 : Bool) =>
   jn (
    cond d10 (
     some (.inl 3)) (
     cond ((w64 ((rd p0 0))) == 60) (
      some (.inl 4)) (
      (
       cond ((w64 ((rd p0 0))) == 29) (
        some ((w64 ((rd p0 0))) == 29)) (
        some ((w64 ((rd p0 0))) == 8))).bind fun (d12 : Bool) =>
      cond d12 (
       some (.inl 2)) (
       (
        cond ((w64 ((rd p0 0))) == 41) (
         some ((w64 ((rd p0 0))) == 41)) (
         some ((w64 ((rd p0 0))) == 44))).bind fun (d13 : Bool) =>
       cond d13 (
        gd ((0 : Int) ≤ 1 ∧ 1 ≤ (p0.length : Int) ∧ (p0.length : Int) ≤ (p0.length : Int)) <|
        (m_vitrineref05_Parse (List.drop 1 p0)).bind fun (d14 : (List Vvitrineref05_Pair) × Int × Int) =>
        esc (
         some ((⟨w64 ((rd p0 0)), 0, 0, false, 0, d14.1, ([] : List Int)⟩ : Vvitrineref16_Op), w64 (1 + d14.2.1), d14.2.2))) (
        some (.inl 1)))))) fun (d11 : Int) =>
   (
    cond ((w64 ((rd p0 0))) == 17) (
     some true) (
     cond ((w64 ((rd p0 0))) == 18) (
      some true) (
      some ((w64 ((rd p0 0))) == 60)))).bind fun (d15 : Bool) =>
   cond d15 (
    gd ((0 : Int) ≤ 1 ∧ 1 ≤ (p0.length : Int) ∧ (p0.length : Int) ≤ (p0.length : Int)) <|
    none) (
    cond (decide ((p0.length : Int) < d11)) (
     some ((⟨0, 0, 0, false, 0, ([] : List Vvitrineref05_Pair), ([] : List Int)⟩ : Vvitrineref16_Op), 0, 2)) (
     jn (
      cond ((w64 ((rd p0 0))) == 60) (
       gd ((0 : Int) ≤ 3 ∧ 3 < (p0.length : Int)) <|
       gd ((0 : Int) ≤ 3 ∧ 3 < (p0.length : Int)) <|
       jn (
        cond ((rd p0 3) == 8) (
         cond (decide ((p0.length : Int) < 5)) (
          esc (
           esc (
            some ((⟨0, 0, 0, false, 0, ([] : List Vvitrineref05_Pair), ([] : List Int)⟩ : Vvitrineref16_Op), 0, 2)))) (
          gd ((0 : Int) ≤ 4 ∧ 4 < (p0.length : Int)) <|
          some (.inl (5, (rd p0 4), true)))) (
         some (.inl (d11, (rd p0 3), false)))) fun (d20 : Int × Int × Bool) =>
       (m_vitrineref16_Is d20.2.1).bind fun (d22 : Bool) =>
       cond d22 (
        esc (
         some ((⟨0, 0, 0, false, 0, ([] : List Vvitrineref05_Pair), ([] : List Int)⟩ : Vvitrineref16_Op), 0, 10))) (
        some (.inl (d20.1, d20.2.1, d20.2.2, 0, ([] : List Vvitrineref05_Pair))))) (
       cond ((w64 ((rd p0 0))) == 29) (
        gd ((0 : Int) ≤ 1 ∧ 1 < (p0.length : Int)) <|
        some (.inl (d11, 0, false, (rd p0 1), ([] : List Vvitrineref05_Pair)))) (
        cond ((w64 ((rd p0 0))) == 8) (
         gd ((0 : Int) ≤ 1 ∧ 1 < (p0.length : Int)) <|
         (m_vitrineref16_Is (rd p0 1)).bind fun (d23 : Bool) =>
         cond d23 (
          esc (
           some ((⟨0, 0, 0, false, 0, ([] : List Vvitrineref05_Pair), ([] : List Int)⟩ : Vvitrineref16_Op), 0, 10))) (
          gd ((0 : Int) ≤ 1 ∧ 1 < (p0.length : Int)) <|
          some (.inl (d11, (rd p0 1), false, 0, ([] : List Vvitrineref05_Pair))))) (
         cond ((w64 ((rd p0 0))) == 40) (
          gd ((0 : Int) ≤ 1 ∧ 1 < (p0.length : Int)) <|
          gd ((0 : Int) ≤ 2 ∧ 2 < (p0.length : Int)) <|
          (m_vitrineref05_Right (⟨(rd p0 1), (rd p0 2)⟩ : Vvitrineref05_Pair)).bind fun (d26 : Bool) =>
          cond (!d26) (
           esc (
            some ((⟨0, 0, 0, false, 0, ([] : List Vvitrineref05_Pair), ([] : List Int)⟩ : Vvitrineref16_Op), 0, 10))) (
           some (.inl (d11, 0, false, 0, [(⟨(rd p0 1), (rd p0 2)⟩ : Vvitrineref05_Pair)])))) (
          some (.inl (d11, 0, false, 0, ([] : List Vvitrineref05_Pair)))))))) fun (d19 : Int × Int × Bool × Int × (List Vvitrineref05_Pair)) =>
     some ((⟨w64 ((rd p0 0)), 0, d19.2.1, d19.2.2.1, d19.2.2.2.1, d19.2.2.2.2, ([] : List Int)⟩ : Vvitrineref16_Op), d19.1, 0))))

def vitrineref16_All_l2 (p0 : List Int) : Nat → (Int × (List Vvitrineref16_Op)) → Option ((Int × (List Vvitrineref16_Op)) ⊕ ((List Vvitrineref16_Op) × Int × Int))
  | 0, _ => none
  | k2 + 1, x2 =>
    cond (decide (x2.1 < (p0.length : Int))) (
     gd ((0 : Int) ≤ x2.1 ∧ x2.1 ≤ (p0.length : Int) ∧ (p0.length : Int) ≤ (p0.length : Int)) <|
     (m_vitrineref16_next (List.drop (Int.toNat x2.1) p0)).bind fun (d4 : Vvitrineref16_Op × Int × Int) =>
     cond (d4.2.2 != 0) (
      esc (
       some (x2.2, x2.1, d4.2.2))) (
      gd (x2.2.length + [d4.1].length ≤ 68719476736) <|
      vitrineref16_All_l2 p0 k2 (w64 (x2.1 + d4.2.1), (x2.2 ++ [d4.1])))) (
     some (.inl (x2.1, x2.2)))

def m_vitrineref16_All (p0 : List Int) : Option ((List Vvitrineref16_Op) × Int × Int) :=
  jn (
   vitrineref16_All_l2 p0 fuel (0, ([] : List Vvitrineref16_Op))) fun (d1 : Int × (List Vvitrineref16_Op)) =>
  some (d1.2, d1.1, 0)

def m_vitrineref20_pieces (p0 : List Int) : Option (Int × (List Vvitrineref16_Op) × Int) :=
  cond (decide ((p0.length : Int) < 3)) (
   some (0, ([] : List Vvitrineref16_Op), 2)) (
   gd ((0 : Int) ≤ 1 ∧ (1 : Int) ≤ 3 ∧ 3 ≤ (p0.length : Int)) <|
   (m_vitrineref04_Decode 12 (List.drop 1 (List.take 3 p0))).bind fun (d2 : Int × Int) =>
   cond (d2.2 != 0) (
    some (0, ([] : List Vvitrineref16_Op), d2.2)) (
    gd ((0 : Int) ≤ 3 ∧ 3 ≤ (p0.length : Int) ∧ (p0.length : Int) ≤ (p0.length : Int)) <|
    (m_vitrineref16_All (List.drop 3 p0)).bind fun (d4 : (List Vvitrineref16_Op) × Int × Int) =>
    some (d2.1, d4.1, d4.2.2)))

def m_vitrineref05_Apply (p0 : Vvitrineref05_Pair) (p1 : Vapi_Cell) : Option (Vapi_Cell × Int) :=
  (m_vitrineref05_Right p0).bind fun (d1 : Bool) =>
  cond (!d1) (
   some ((⟨0, false, 0, 0, 0, 0⟩ : Vapi_Cell), 10)) (
   (
    cond (p0.f_Type == 192) (
     some p1.Attr) (
     some false)).bind fun (d3 : Bool) =>
   (
    cond d3 (
     (m_vitrineref05_Six p0.Value).bind fun (d5 : Int) =>
     some d5) (
     some p1.FA)).bind fun (d4 : Int) =>
   (
    cond (p0.f_Type == 65) (
     some true) (
     some (p0.f_Type == 0))).bind fun (d6 : Bool) =>
   (
    cond d6 (
     some p0.Value) (
     some p1.High)).bind fun (d7 : Int) =>
   (
    cond (p0.f_Type == 66) (
     some true) (
     some (p0.f_Type == 0))).bind fun (d8 : Bool) =>
   (
    cond d8 (
     some p0.Value) (
     some p1.Color)).bind fun (d9 : Int) =>
   (
    cond (p0.f_Type == 67) (
     some true) (
     some (p0.f_Type == 0))).bind fun (d10 : Bool) =>
   (
    cond d10 (
     some p0.Value) (
     some p1.f_Set)).bind fun (d11 : Int) =>
   some ((⟨p1.Char, p1.Attr, d4, d7, d9, d11⟩ : Vapi_Cell), 0))

def vitrineref20_applied_l2 (p1 : List Vvitrineref05_Pair) : Nat → (Int × Int × Bool × Int × Int × Int × Int) → Option (Int × Bool × Int × Int × Int × Int)
  | 0, _ => none
  | k2 + 1, x2 =>
    cond (decide (x2.1 < (p1.length : Int))) (
     gd ((0 : Int) ≤ x2.1 ∧ x2.1 < (p1.length : Int)) <|
     (m_vitrineref05_Apply (rd p1 x2.1) (⟨x2.2.1, x2.2.2.1, x2.2.2.2.1, x2.2.2.2.2.1, x2.2.2.2.2.2.1, x2.2.2.2.2.2.2⟩ : Vapi_Cell)).bind fun (d5 : Vapi_Cell × Int) =>
     vitrineref20_applied_l2 p1 k2 (w64 (x2.1 + 1), d5.1.Char, d5.1.Attr, d5.1.FA, d5.1.High, d5.1.Color, d5.1.f_Set)) (
     some (x2.2.1, x2.2.2.1, x2.2.2.2.1, x2.2.2.2.2.1, x2.2.2.2.2.2.1, x2.2.2.2.2.2.2))

def m_vitrineref20_applied (p0 : Vapi_Cell) (p1 : List Vvitrineref05_Pair) : Option Vapi_Cell :=
  (
   vitrineref20_applied_l2 p1 fuel (0, p0.Char, p0.Attr, p0.FA, p0.High, p0.Color, p0.f_Set)).bind fun (d1 : Int × Bool × Int × Int × Int × Int) =>
  some (⟨d1.1, d1.2.1, d1.2.2.1, d1.2.2.2.1, d1.2.2.2.2.1, d1.2.2.2.2.2⟩ : Vapi_Cell)

def vitrineref20_Buffer_l10 (d1 : Int × (List Vvitrineref16_Op) × Int) (x4 : Int × (List Vapi_Cell) × Int × Bool × Int × Int × Int × Int) : Nat → (Int × (List Vapi_Cell) × Int) → Option (List Vapi_Cell)
  | 0, _ => none
  | k10 + 1, x10 =>
    cond (decide (x10.1 < (((rd d1.2.1 x4.1).Text).length : Int))) (
     gd ((0 : Int) ≤ x10.1 ∧ x10.1 < (((rd d1.2.1 x4.1).Text).length : Int)) <|
     gd (x10.2.1.length + [(⟨(rd ((rd d1.2.1 x4.1).Text) x10.1), x4.2.2.2.1, x4.2.2.2.2.1, x4.2.2.2.2.2.1, x4.2.2.2.2.2.2.1, x4.2.2.2.2.2.2.2⟩ : Vapi_Cell)].length ≤ 68719476736) <|
     vitrineref20_Buffer_l10 d1 x4 k10 (w64 (x10.1 + 1), (x10.2.1 ++ [(⟨(rd ((rd d1.2.1 x4.1).Text) x10.1), x4.2.2.2.1, x4.2.2.2.2.1, x4.2.2.2.2.2.1, x4.2.2.2.2.2.2.1, x4.2.2.2.2.2.2.2⟩ : Vapi_Cell)]), (rd ((rd d1.2.1 x4.1).Text) x10.1))) (
     some x10.2.1)

def vitrineref20_Buffer_l4 (d1 : Int × (List Vvitrineref16_Op) × Int) : Nat → (Int × (List Vapi_Cell) × Int × Bool × Int × Int × Int × Int) → Option (((List Vapi_Cell)) ⊕ ((List Vapi_Cell) × Int × Int))
  | 0, _ => none
  | k4 + 1, x4 =>
    cond (decide (x4.1 < (d1.2.1.length : Int))) (
     jn (
      gd ((0 : Int) ≤ x4.1 ∧ x4.1 < (d1.2.1.length : Int)) <|
      jn (
       jn (
        cond (((rd d1.2.1 x4.1).Kind) == 0) (
         (
          vitrineref20_Buffer_l10 d1 x4 fuel (0, x4.2.1, x4.2.2.1)).bind fun (d9 : (List Vapi_Cell)) =>
         some (.inl (d9, x4.2.2.1, x4.2.2.2.1, x4.2.2.2.2.1, x4.2.2.2.2.2.1, x4.2.2.2.2.2.2.1, x4.2.2.2.2.2.2.2))) (
         cond (((rd d1.2.1 x4.1).Kind) == 8) (
          gd (x4.2.1.length + [(⟨(rd d1.2.1 x4.1).Code, x4.2.2.2.1, x4.2.2.2.2.1, x4.2.2.2.2.2.1, x4.2.2.2.2.2.2.1, 241⟩ : Vapi_Cell)].length ≤ 68719476736) <|
          some (.inl ((x4.2.1 ++ [(⟨(rd d1.2.1 x4.1).Code, x4.2.2.2.1, x4.2.2.2.2.1, x4.2.2.2.2.2.1, x4.2.2.2.2.2.2.1, 241⟩ : Vapi_Cell)]), x4.2.2.1, x4.2.2.2.1, x4.2.2.2.2.1, x4.2.2.2.2.2.1, x4.2.2.2.2.2.2.1, x4.2.2.2.2.2.2.2))) (
          cond (((rd d1.2.1 x4.1).Kind) == 29) (
           (m_vitrineref05_Six ((rd d1.2.1 x4.1).FA)).bind fun (d13 : Int) =>
           gd (x4.2.1.length + [(⟨0, true, d13, 0, 0, 0⟩ : Vapi_Cell)].length ≤ 68719476736) <|
           some (.inl ((x4.2.1 ++ [(⟨0, true, d13, 0, 0, 0⟩ : Vapi_Cell)]), x4.2.2.1, x4.2.2.2.1, x4.2.2.2.2.1, x4.2.2.2.2.2.1, x4.2.2.2.2.2.2.1, x4.2.2.2.2.2.2.2))) (
           cond (((rd d1.2.1 x4.1).Kind) == 41) (
            (m_vitrineref20_applied (⟨0, true, 0, 0, 0, 0⟩ : Vapi_Cell) ((rd d1.2.1 x4.1).Pairs)).bind fun (d14 : Vapi_Cell) =>
            gd (x4.2.1.length + [d14].length ≤ 68719476736) <|
            some (.inl ((x4.2.1 ++ [d14]), x4.2.2.1, x4.2.2.2.1, x4.2.2.2.2.1, x4.2.2.2.2.2.1, x4.2.2.2.2.2.2.1, x4.2.2.2.2.2.2.2))) (
            cond (((rd d1.2.1 x4.1).Kind) == 40) (
             (m_vitrineref20_applied (⟨x4.2.2.1, x4.2.2.2.1, x4.2.2.2.2.1, x4.2.2.2.2.2.1, x4.2.2.2.2.2.2.1, x4.2.2.2.2.2.2.2⟩ : Vapi_Cell) ((rd d1.2.1 x4.1).Pairs)).bind fun (d15 : Vapi_Cell) =>
             some (.inl (x4.2.1, d15.Char, d15.Attr, d15.FA, d15.High, d15.Color, d15.f_Set))) (
             esc (
              esc (
               esc (
                esc (
                 some (([] : List Vapi_Cell), 0, 4))))))))))) fun (d8 : (List Vapi_Cell) × Int × Bool × Int × Int × Int × Int) =>
       some (.inl (d8.1, d8.2.1, d8.2.2.1, d8.2.2.2.1, d8.2.2.2.2.1, d8.2.2.2.2.2.1, d8.2.2.2.2.2.2))) fun (d7 : (List Vapi_Cell) × Int × Bool × Int × Int × Int × Int) =>
      some (.inl (d7.1, d7.2.1, d7.2.2.1, d7.2.2.2.1, d7.2.2.2.2.1, d7.2.2.2.2.2.1, d7.2.2.2.2.2.2))) fun (d6 : (List Vapi_Cell) × Int × Bool × Int × Int × Int × Int) =>
     vitrineref20_Buffer_l4 d1 k4 (w64 (x4.1 + 1), d6.1, d6.2.1, d6.2.2.1, d6.2.2.2.1, d6.2.2.2.2.1, d6.2.2.2.2.2.1, d6.2.2.2.2.2.2)) (
     some (.inl x4.2.1))

def m_vitrineref20_Buffer (p0 : List Int) : Option ((List Vapi_Cell) × Int × Int) :=
  (m_vitrineref20_pieces p0).bind fun (d1 : Int × (List Vvitrineref16_Op) × Int) =>
  cond (d1.2.2 != 0) (
   some (([] : List Vapi_Cell), 0, d1.2.2)) (
   jn (
    vitrineref20_Buffer_l4 d1 fuel (0, ([] : List Vapi_Cell), 0, false, 0, 0, 0, 0)) fun (d3 : (List Vapi_Cell)) =>
   some (d3, d1.1, 0))

def m_vitrineref04_Encode (p0 : Int) (p1 : Int) : Option ((List Int) × Int) :=
  jn (
   cond (p0 == 12) (
    some (.inl 4095)) (
    cond (p0 == 14) (
     some (.inl 16383)) (
     cond (p0 == 16) (
      some (.inl 65535)) (
      esc (
       some (([] : List Int), 1)))))) fun (d2 : Int) =>
  (
   cond (decide (p1 < 0)) (
    some true) (
    some (decide (p1 > d2)))).bind fun (d3 : Bool) =>
  cond d3 (
   some (([] : List Int), 9)) (
   cond (p0 == 12) (
    (m_vitrineref04_Six (w64 (Int.tdiv p1 64))).bind fun (d6 : Int) =>
    (m_vitrineref04_Six (Int.tmod p1 64)).bind fun (d7 : Int) =>
    some ([d6, d7], 0)) (
    some ([IntKind.wrap .u8 (w64 (Int.tdiv p1 256)), IntKind.wrap .u8 (Int.tmod p1 256)], 0)))

def m_vitrineref20_Replay (p0 : List Int) (p1 : Bool) : Option ((List Int) × Int) :=
  (m_vitrineref20_Buffer p0).bind fun (d1 : (List Vapi_Cell) × Int × Int) =>
  cond (d1.2.2 != 0) (
   some (([] : List Int), d1.2.2)) (
   (m_vitrineref04_Encode 12 d1.2.1).bind fun (d3 : (List Int) × Int) =>
   cond (d3.2 != 0) (
    some (([] : List Int), d3.2)) (
    (
     cond p1 (
      gd ((0 : Int) ≤ 0 ∧ 0 < ([245, 64].length : Int)) <|
      some (List.set [245, 64] (Int.toNat 0) 126)) (
      some [245, 64])).bind fun (d5 : (List Int)) =>
    gd ((0 : Int) ≤ 3 ∧ 3 ≤ (p0.length : Int) ∧ (p0.length : Int) ≤ (p0.length : Int)) <|
    gd (d5.length + (List.drop 3 p0).length ≤ 68719476736) <|
    gd ((d5 ++ (List.drop 3 p0)).length + [17].length ≤ 68719476736) <|
    gd (((d5 ++ (List.drop 3 p0)) ++ [17]).length + d3.1.length ≤ 68719476736) <|
    gd ((((d5 ++ (List.drop 3 p0)) ++ [17]) ++ d3.1).length + [19].length ≤ 68719476736) <|
    some (((((d5 ++ (List.drop 3 p0)) ++ [17]) ++ d3.1) ++ [19]), 0)))

def write_Command_l2 (p0 : Int) : Nat → Int → Option ((Unit) ⊕ (Int × Bool))
  | 0, _ => none
  | k2 + 1, x2 =>
    cond (decide (x2 < 9)) (
     gd ((0 : Int) ≤ x2 ∧ x2 < (9 : Int)) <|
     (
      cond (((rd [(⟨(ByteArray.mk (List.toArray [78, 111, 116, 104, 105, 110, 103])), 3, 3⟩ : Vwrite_name), (⟨(ByteArray.mk (List.toArray [87, 114, 105, 116, 101])), 1, 241⟩ : Vwrite_name), (⟨(ByteArray.mk (List.toArray [69, 114, 97, 115, 101, 87, 114, 105, 116, 101])), 5, 245⟩ : Vwrite_name), (⟨(ByteArray.mk (List.toArray [69, 114, 97, 115, 101, 65, 108, 116, 101, 114, 110, 97, 116, 101])), 13, 126⟩ : Vwrite_name), (⟨(ByteArray.mk (List.toArray [69, 114, 97, 115, 101, 85, 110, 112, 114, 111, 116, 101, 99, 116, 101, 100])), 15, 111⟩ : Vwrite_name), (⟨(ByteArray.mk (List.toArray [82, 101, 97, 100, 66, 117, 102, 102, 101, 114])), 2, 242⟩ : Vwrite_name), (⟨(ByteArray.mk (List.toArray [82, 101, 97, 100, 77, 111, 100, 105, 102, 105, 101, 100])), 6, 246⟩ : Vwrite_name), (⟨(ByteArray.mk (List.toArray [82, 101, 97, 100, 65, 108, 108])), 14, 110⟩ : Vwrite_name), (⟨(ByteArray.mk (List.toArray [83, 116, 114, 117, 99, 116, 117, 114, 101, 100])), 17, 243⟩ : Vwrite_name)] x2).one) == p0) (
       some true) (
       some (((rd [(⟨(ByteArray.mk (List.toArray [78, 111, 116, 104, 105, 110, 103])), 3, 3⟩ : Vwrite_name), (⟨(ByteArray.mk (List.toArray [87, 114, 105, 116, 101])), 1, 241⟩ : Vwrite_name), (⟨(ByteArray.mk (List.toArray [69, 114, 97, 115, 101, 87, 114, 105, 116, 101])), 5, 245⟩ : Vwrite_name), (⟨(ByteArray.mk (List.toArray [69, 114, 97, 115, 101, 65, 108, 116, 101, 114, 110, 97, 116, 101])), 13, 126⟩ : Vwrite_name), (⟨(ByteArray.mk (List.toArray [69, 114, 97, 115, 101, 85, 110, 112, 114, 111, 116, 101, 99, 116, 101, 100])), 15, 111⟩ : Vwrite_name), (⟨(ByteArray.mk (List.toArray [82, 101, 97, 100, 66, 117, 102, 102, 101, 114])), 2, 242⟩ : Vwrite_name), (⟨(ByteArray.mk (List.toArray [82, 101, 97, 100, 77, 111, 100, 105, 102, 105, 101, 100])), 6, 246⟩ : Vwrite_name), (⟨(ByteArray.mk (List.toArray [82, 101, 97, 100, 65, 108, 108])), 14, 110⟩ : Vwrite_name), (⟨(ByteArray.mk (List.toArray [83, 116, 114, 117, 99, 116, 117, 114, 101, 100])), 17, 243⟩ : Vwrite_name)] x2).other) == p0))).bind fun (d5 : Bool) =>
     cond d5 (
      esc (
       some (x2, true))) (
      write_Command_l2 p0 k2 (w64 (x2 + 1)))) (
     some (.inl ()))

def m_write_Command (p0 : Int) : Option (Int × Bool) :=
  jn (
   write_Command_l2 p0 fuel 0) fun (d1 : Unit) =>
  some (0, false)

def m_order_Parse (p0 : List Int) : Option Unit :=
  some ()

def m_write_pen_cell (p0 : Vwrite_pen) (p1 : Vspace_Space) (p2 : Int) (p3 : Bool) : Option Vapi_Cell :=
  (
   cond p3 (
    some 241) (
    some p0.look.f_Set)).bind fun (d1 : Int) =>
  some { p0.look with Char := p2, f_Set := d1 }

def m_write_pen_next (p0 : Vwrite_pen) (p1 : Vspace_Space) : Option Vwrite_pen :=
  (m_space_Space_Size p1).bind fun (d1 : Vaddr_Size) =>
  (m_addr_Size_Wrap (⟨d1.Rows, d1.Cols⟩ : Vaddr_Size) (w64 (p0.n + 1))).bind fun (d2 : Int) =>
  some { p0 with n := d2 }

def m_write_pen_put (p0 : Vwrite_pen) (p1 : Vspace_Space) (p2 : Int) (p3 : Bool) : Option (Vspace_Space × Vwrite_pen) :=
  (m_write_pen_cell p0 p1 p2 p3).bind fun (d2 : Vapi_Cell) =>
  (m_space_Space_Set p1 p0.n d2).bind fun (d3 : Vspace_Space) =>
  (m_write_pen_next p0 (⟨d3.model, d3.alternate, d3.size, d3.cells, d3.cursor, d3.attrs⟩ : Vspace_Space)).bind fun (d4 : Vwrite_pen) =>
  some ((⟨d3.model, d3.alternate, d3.size, d3.cells, d3.cursor, d3.attrs⟩ : Vspace_Space), d4)

def m_write_pen_to (p0 : Vwrite_pen) (p1 : Vspace_Space) (p2 : Int) : Option (Vwrite_pen × Int) :=
  (m_space_Space_Size p1).bind fun (d1 : Vaddr_Size) =>
  (m_addr_Size_Cells (⟨d1.Rows, d1.Cols⟩ : Vaddr_Size)).bind fun (d2 : Int) =>
  cond (decide (p2 ≥ d2)) (
   some (p0, 9)) (
   some ({ p0 with n := p2 }, 0))

def write_applied_l2 (p1 : List Vattr_Pair) : Nat → (Int × Int × Bool × Int × Int × Int × Int) → Option ((Int × Bool × Int × Int × Int × Int) ⊕ (Vapi_Cell × Int))
  | 0, _ => none
  | k2 + 1, x2 =>
    cond (decide (x2.1 < (p1.length : Int))) (
     gd ((0 : Int) ≤ x2.1 ∧ x2.1 < (p1.length : Int)) <|
     (m_attr_Pair_Apply (rd p1 x2.1) (⟨x2.2.1, x2.2.2.1, x2.2.2.2.1, x2.2.2.2.2.1, x2.2.2.2.2.2.1, x2.2.2.2.2.2.2⟩ : Vapi_Cell)).bind fun (d5 : Vapi_Cell × Int) =>
     cond (d5.2 != 0) (
      esc (
       some ((⟨0, false, 0, 0, 0, 0⟩ : Vapi_Cell), d5.2))) (
      write_applied_l2 p1 k2 (w64 (x2.1 + 1), d5.1.Char, d5.1.Attr, d5.1.FA, d5.1.High, d5.1.Color, d5.1.f_Set))) (
     some (.inl (x2.2.1, x2.2.2.1, x2.2.2.2.1, x2.2.2.2.2.1, x2.2.2.2.2.2.1, x2.2.2.2.2.2.2)))

def m_write_applied (p0 : Vapi_Cell) (p1 : List Vattr_Pair) : Option (Vapi_Cell × Int) :=
  jn (
   write_applied_l2 p1 fuel (0, p0.Char, p0.Attr, p0.FA, p0.High, p0.Color, p0.f_Set)) fun (d1 : Int × Bool × Int × Int × Int × Int) =>
  some ((⟨d1.1, d1.2.1, d1.2.2.1, d1.2.2.2.1, d1.2.2.2.2.1, d1.2.2.2.2.2⟩ : Vapi_Cell), 0)

def m_write_pen_attribute (p0 : Vwrite_pen) (p1 : Vspace_Space) (p2 : Vapi_Cell) (p3 : List Vattr_Pair) : Option (Vspace_Space × Vwrite_pen × Int) :=
  (m_write_applied p2 p3).bind fun (d1 : Vapi_Cell × Int) =>
  cond (d1.2 != 0) (
   some (p1, (⟨p0.n, p0.look, p0.texts⟩ : Vwrite_pen), d1.2)) (
   (m_space_Space_Set p1 p0.n d1.1).bind fun (d4 : Vspace_Space) =>
   (m_write_pen_next (⟨p0.n, p0.look, p0.texts⟩ : Vwrite_pen) (⟨d4.model, d4.alternate, d4.size, d4.cells, d4.cursor, d4.attrs⟩ : Vspace_Space)).bind fun (d5 : Vwrite_pen) =>
   some ((⟨d4.model, d4.alternate, d4.size, d4.cells, d4.cursor, d4.attrs⟩ : Vspace_Space), d5, 0))

def write_pen_do_l4 (p2 : Vorder_Op) : Nat → (Int × Int × Int × Bool × Int × Int × Int × Int × Bool × Int × Bool × Int × Int × (List Vapi_Cell) × Int × Int) → Option (Int × Bool × Int × Int × (List Vapi_Cell) × Int × Int × Int × Int × Bool × Int × Int × Int × Int × Bool)
  | 0, _ => none
  | k4 + 1, x4 =>
    cond (decide (x4.1 < (p2.Text.length : Int))) (
     gd ((0 : Int) ≤ x4.1 ∧ x4.1 < (p2.Text.length : Int)) <|
     (m_write_pen_put (⟨x4.2.1, (⟨x4.2.2.1, x4.2.2.2.1, x4.2.2.2.2.1, x4.2.2.2.2.2.1, x4.2.2.2.2.2.2.1, x4.2.2.2.2.2.2.2.1⟩ : Vapi_Cell), x4.2.2.2.2.2.2.2.2.1⟩ : Vwrite_pen) (⟨x4.2.2.2.2.2.2.2.2.2.1, x4.2.2.2.2.2.2.2.2.2.2.1, (⟨x4.2.2.2.2.2.2.2.2.2.2.2.1, x4.2.2.2.2.2.2.2.2.2.2.2.2.1⟩ : Vaddr_Size), x4.2.2.2.2.2.2.2.2.2.2.2.2.2.1, x4.2.2.2.2.2.2.2.2.2.2.2.2.2.2.1, x4.2.2.2.2.2.2.2.2.2.2.2.2.2.2.2⟩ : Vspace_Space) (rd p2.Text x4.1) false).bind fun (d7 : Vspace_Space × Vwrite_pen) =>
     write_pen_do_l4 p2 k4 (w64 (x4.1 + 1), d7.2.n, d7.2.look.Char, d7.2.look.Attr, d7.2.look.FA, d7.2.look.High, d7.2.look.Color, d7.2.look.f_Set, d7.2.texts, d7.1.model, d7.1.alternate, d7.1.size.Rows, d7.1.size.Cols, d7.1.cells, d7.1.cursor, d7.1.attrs)) (
     some (x4.2.2.2.2.2.2.2.2.2.1, x4.2.2.2.2.2.2.2.2.2.2.1, x4.2.2.2.2.2.2.2.2.2.2.2.1, x4.2.2.2.2.2.2.2.2.2.2.2.2.1, x4.2.2.2.2.2.2.2.2.2.2.2.2.2.1, x4.2.2.2.2.2.2.2.2.2.2.2.2.2.2.1, x4.2.2.2.2.2.2.2.2.2.2.2.2.2.2.2, x4.2.1, x4.2.2.1, x4.2.2.2.1, x4.2.2.2.2.1, x4.2.2.2.2.2.1, x4.2.2.2.2.2.2.1, x4.2.2.2.2.2.2.2.1, x4.2.2.2.2.2.2.2.2.1))

def m_write_pen_do (p0 : Vwrite_pen) (p1 : Vspace_Space) (p2 : Vorder_Op) : Option (Vspace_Space × Vwrite_pen × Int) :=
  jn (
   jn (
    cond (p2.Kind == 0) (
     (
      write_pen_do_l4 p2 fuel (0, p0.n, p0.look.Char, p0.look.Attr, p0.look.FA, p0.look.High, p0.look.Color, p0.look.f_Set, p0.texts, p1.model, p1.alternate, p1.size.Rows, p1.size.Cols, p1.cells, p1.cursor, p1.attrs)).bind fun (d3 : Int × Bool × Int × Int × (List Vapi_Cell) × Int × Int × Int × Int × Bool × Int × Int × Int × Int × Bool) =>
     some (.inl (d3.1, d3.2.1, d3.2.2.1, d3.2.2.2.1, d3.2.2.2.2.1, d3.2.2.2.2.2.1, d3.2.2.2.2.2.2.1, d3.2.2.2.2.2.2.2.1, d3.2.2.2.2.2.2.2.2.1, d3.2.2.2.2.2.2.2.2.2.1, d3.2.2.2.2.2.2.2.2.2.2.1, d3.2.2.2.2.2.2.2.2.2.2.2.1, d3.2.2.2.2.2.2.2.2.2.2.2.2.1, d3.2.2.2.2.2.2.2.2.2.2.2.2.2.1, d3.2.2.2.2.2.2.2.2.2.2.2.2.2.2))) (
     cond (p2.Kind == 8) (
      (m_write_pen_put p0 p1 p2.Code true).bind fun (d8 : Vspace_Space × Vwrite_pen) =>
      some (.inl (d8.1.model, d8.1.alternate, d8.1.size.Rows, d8.1.size.Cols, d8.1.cells, d8.1.cursor, d8.1.attrs, d8.2.n, d8.2.look.Char, d8.2.look.Attr, d8.2.look.FA, d8.2.look.High, d8.2.look.Color, d8.2.look.f_Set, d8.2.texts))) (
      cond (p2.Kind == 17) (
       (m_write_pen_to p0 p1 p2.Addr).bind fun (d9 : Vwrite_pen × Int) =>
       esc (
        esc (
         some (p1, d9.1, d9.2)))) (
       (
        cond (p2.Kind == 18) (
         some (p2.Kind == 18)) (
         some (p2.Kind == 60))).bind fun (d10 : Bool) =>
       cond d10 (
        none) (
        cond (p2.Kind == 29) (
         (m_write_pen_attribute (⟨p0.n, p0.look, p0.texts⟩ : Vwrite_pen) p1 (⟨0, true, p2.FA, 0, 0, 0⟩ : Vapi_Cell) ([] : List Vattr_Pair)).bind fun (d11 : Vspace_Space × Vwrite_pen × Int) =>
         esc (
          esc (
           some (d11.1, d11.2.1, d11.2.2)))) (
         cond (p2.Kind == 41) (
          (m_write_pen_attribute (⟨p0.n, p0.look, p0.texts⟩ : Vwrite_pen) p1 (⟨0, true, 0, 0, 0, 0⟩ : Vapi_Cell) p2.Pairs).bind fun (d12 : Vspace_Space × Vwrite_pen × Int) =>
          esc (
           esc (
            some (d12.1, d12.2.1, d12.2.2)))) (
          cond (p2.Kind == 44) (
           (
            (m_space_Space_At p1 p0.n).bind fun (d14 : Vapi_Cell) =>
            some (d14.Char, d14.Attr, d14.FA, d14.High, d14.Color, d14.f_Set)).bind fun (d13 : Int × Bool × Int × Int × Int × Int) =>
           cond (!d13.2.1) (
            esc (
             esc (
              some (p1, (⟨p0.n, p0.look, p0.texts⟩ : Vwrite_pen), 10)))) (
            (m_write_pen_attribute (⟨p0.n, p0.look, p0.texts⟩ : Vwrite_pen) p1 (⟨d13.1, d13.2.1, d13.2.2.1, d13.2.2.2.1, d13.2.2.2.2.1, d13.2.2.2.2.2⟩ : Vapi_Cell) p2.Pairs).bind fun (d16 : Vspace_Space × Vwrite_pen × Int) =>
            esc (
             esc (
              some (d16.1, d16.2.1, d16.2.2))))) (
           cond (p2.Kind == 40) (
            (
             (m_write_applied p0.look p2.Pairs).bind fun (d18 : Vapi_Cell × Int) =>
             some (d18.2, d18.1.Char, d18.1.Attr, d18.1.FA, d18.1.High, d18.1.Color, d18.1.f_Set)).bind fun (d17 : Int × Int × Bool × Int × Int × Int × Int) =>
            (
             cond (d17.1 == 0) (
              some (d17.2.1, d17.2.2.1, d17.2.2.2.1, d17.2.2.2.2.1, d17.2.2.2.2.2.1, d17.2.2.2.2.2.2)) (
              some (p0.look.Char, p0.look.Attr, p0.look.FA, p0.look.High, p0.look.Color, p0.look.f_Set))).bind fun (d19 : Int × Bool × Int × Int × Int × Int) =>
            esc (
             esc (
              some (p1, (⟨p0.n, (⟨d19.1, d19.2.1, d19.2.2.1, d19.2.2.2.1, d19.2.2.2.2.1, d19.2.2.2.2.2⟩ : Vapi_Cell), p0.texts⟩ : Vwrite_pen), d17.1)))) (
            cond (p2.Kind == 19) (
             (m_space_Space_Place p1 p0.n).bind fun (d20 : Vspace_Space) =>
             some (.inl (d20.model, d20.alternate, d20.size.Rows, d20.size.Cols, d20.cells, d20.cursor, d20.attrs, p0.n, p0.look.Char, p0.look.Attr, p0.look.FA, p0.look.High, p0.look.Color, p0.look.f_Set, p0.texts))) (
             cond (p2.Kind == 5) (
              none) (
              some (.inl (p1.model, p1.alternate, p1.size.Rows, p1.size.Cols, p1.cells, p1.cursor, p1.attrs, p0.n, p0.look.Char, p0.look.Attr, p0.look.FA, p0.look.High, p0.look.Color, p0.look.f_Set, p0.texts))))))))))))) fun (d2 : Int × Bool × Int × Int × (List Vapi_Cell) × Int × Int × Int × Int × Bool × Int × Int × Int × Int × Bool) =>
   some (.inl (d2.1, d2.2.1, d2.2.2.1, d2.2.2.2.1, d2.2.2.2.2.1, d2.2.2.2.2.2.1, d2.2.2.2.2.2.2.1, d2.2.2.2.2.2.2.2.1, d2.2.2.2.2.2.2.2.2.1, d2.2.2.2.2.2.2.2.2.2.1, d2.2.2.2.2.2.2.2.2.2.2.1, d2.2.2.2.2.2.2.2.2.2.2.2.1, d2.2.2.2.2.2.2.2.2.2.2.2.2.1, d2.2.2.2.2.2.2.2.2.2.2.2.2.2.1, d2.2.2.2.2.2.2.2.2.2.2.2.2.2.2))) fun (d1 : Int × Bool × Int × Int × (List Vapi_Cell) × Int × Int × Int × Int × Bool × Int × Int × Int × Int × Bool) =>
  some ((⟨d1.1, d1.2.1, (⟨d1.2.2.1, d1.2.2.2.1⟩ : Vaddr_Size), d1.2.2.2.2.1, d1.2.2.2.2.2.1, d1.2.2.2.2.2.2.1⟩ : Vspace_Space), (⟨d1.2.2.2.2.2.2.2.1, (⟨d1.2.2.2.2.2.2.2.2.1, d1.2.2.2.2.2.2.2.2.2.1, d1.2.2.2.2.2.2.2.2.2.2.1, d1.2.2.2.2.2.2.2.2.2.2.2.1, d1.2.2.2.2.2.2.2.2.2.2.2.2.1, d1.2.2.2.2.2.2.2.2.2.2.2.2.2.1⟩ : Vapi_Cell), d1.2.2.2.2.2.2.2.2.2.2.2.2.2.2⟩ : Vwrite_pen), 0)

def write_Orders_l8 : Nat → ((List Int) × Int × Int × Bool × Int × Int × (List Vapi_Cell) × Int × Int × Int × Int × Int × Bool × Int × Int × Int × Int × Bool) → Option ((Int × Bool × Int × Int × (List Vapi_Cell) × Int × Int × Int × Int × Int × Bool × Int × Int × Int × Int × Bool) ⊕ ((Int × Int × Bool × Int × Int × (List Vapi_Cell) × Int × Int × Int × Int × Bool × Int × Int × Int × Int × Bool) ⊕ ((Int × Int × Bool × Int × Int × (List Vapi_Cell) × Int × Int × Int × Int × Bool × Int × Int × Int × Int × Bool) ⊕ (Vspace_Space × Int × Int × Int))))
  | 0, _ => none
  | k8 + 1, x8 =>
    cond (decide ((x8.1.length : Int) > 0)) (
     (m_order_scanner_op (⟨x8.1, x8.2.1⟩ : Vorder_scanner)).bind fun (d10 : Vorder_scanner × Vorder_Op) =>
     cond (d10.1.code != 0) (
      (
       cond (d10.1.code == 0) (
        (m_write_pen_do (⟨x8.2.2.2.2.2.2.2.2.2.2.1, (⟨x8.2.2.2.2.2.2.2.2.2.2.2.1, x8.2.2.2.2.2.2.2.2.2.2.2.2.1, x8.2.2.2.2.2.2.2.2.2.2.2.2.2.1, x8.2.2.2.2.2.2.2.2.2.2.2.2.2.2.1, x8.2.2.2.2.2.2.2.2.2.2.2.2.2.2.2.1, x8.2.2.2.2.2.2.2.2.2.2.2.2.2.2.2.2.1⟩ : Vapi_Cell), x8.2.2.2.2.2.2.2.2.2.2.2.2.2.2.2.2.2⟩ : Vwrite_pen) (⟨x8.2.2.1, x8.2.2.2.1, (⟨x8.2.2.2.2.1, x8.2.2.2.2.2.1⟩ : Vaddr_Size), x8.2.2.2.2.2.2.1, x8.2.2.2.2.2.2.2.1, x8.2.2.2.2.2.2.2.2.1⟩ : Vspace_Space) (⟨0, 0, 0, false, 0, ([] : List Vattr_Pair), ([] : List Int)⟩ : Vorder_Op)).bind fun (d14 : Vspace_Space × Vwrite_pen × Int) =>
        some (d14.2.2, d14.1.model, d14.1.alternate, d14.1.size.Rows, d14.1.size.Cols, d14.1.cells, d14.1.cursor, d14.1.attrs, d14.2.1.n, d14.2.1.look.Char, d14.2.1.look.Attr, d14.2.1.look.FA, d14.2.1.look.High, d14.2.1.look.Color, d14.2.1.look.f_Set, d14.2.1.texts)) (
        some (d10.1.code, x8.2.2.1, x8.2.2.2.1, x8.2.2.2.2.1, x8.2.2.2.2.2.1, x8.2.2.2.2.2.2.1, x8.2.2.2.2.2.2.2.1, x8.2.2.2.2.2.2.2.2.1, x8.2.2.2.2.2.2.2.2.2.2.1, x8.2.2.2.2.2.2.2.2.2.2.2.1, x8.2.2.2.2.2.2.2.2.2.2.2.2.1, x8.2.2.2.2.2.2.2.2.2.2.2.2.2.1, x8.2.2.2.2.2.2.2.2.2.2.2.2.2.2.1, x8.2.2.2.2.2.2.2.2.2.2.2.2.2.2.2.1, x8.2.2.2.2.2.2.2.2.2.2.2.2.2.2.2.2.1, x8.2.2.2.2.2.2.2.2.2.2.2.2.2.2.2.2.2))).bind fun (d13 : Int × Int × Bool × Int × Int × (List Vapi_Cell) × Int × Int × Int × Int × Bool × Int × Int × Int × Int × Bool) =>
      cond (d13.1 != 0) (
       esc (
        esc (
         esc (
          some ((⟨d13.2.1, d13.2.2.1, (⟨d13.2.2.2.1, d13.2.2.2.2.1⟩ : Vaddr_Size), d13.2.2.2.2.2.1, d13.2.2.2.2.2.2.1, d13.2.2.2.2.2.2.2.1⟩ : Vspace_Space), d13.2.2.2.2.2.2.2.2.1, x8.2.2.2.2.2.2.2.2.2.1, d13.1))))) (
       esc (
        some (.inl (w64 (x8.2.2.2.2.2.2.2.2.2.1 + 1), d13.2.1, d13.2.2.1, d13.2.2.2.1, d13.2.2.2.2.1, d13.2.2.2.2.2.1, d13.2.2.2.2.2.2.1, d13.2.2.2.2.2.2.2.1, d13.2.2.2.2.2.2.2.2.1, d13.2.2.2.2.2.2.2.2.2.1, d13.2.2.2.2.2.2.2.2.2.2.1, d13.2.2.2.2.2.2.2.2.2.2.2.1, d13.2.2.2.2.2.2.2.2.2.2.2.2.1, d13.2.2.2.2.2.2.2.2.2.2.2.2.2.1, d13.2.2.2.2.2.2.2.2.2.2.2.2.2.2.1, true))))) (
      (m_write_pen_do (⟨x8.2.2.2.2.2.2.2.2.2.2.1, (⟨x8.2.2.2.2.2.2.2.2.2.2.2.1, x8.2.2.2.2.2.2.2.2.2.2.2.2.1, x8.2.2.2.2.2.2.2.2.2.2.2.2.2.1, x8.2.2.2.2.2.2.2.2.2.2.2.2.2.2.1, x8.2.2.2.2.2.2.2.2.2.2.2.2.2.2.2.1, x8.2.2.2.2.2.2.2.2.2.2.2.2.2.2.2.2.1⟩ : Vapi_Cell), x8.2.2.2.2.2.2.2.2.2.2.2.2.2.2.2.2.2⟩ : Vwrite_pen) (⟨x8.2.2.1, x8.2.2.2.1, (⟨x8.2.2.2.2.1, x8.2.2.2.2.2.1⟩ : Vaddr_Size), x8.2.2.2.2.2.2.1, x8.2.2.2.2.2.2.2.1, x8.2.2.2.2.2.2.2.2.1⟩ : Vspace_Space) (⟨d10.2.Kind, d10.2.Addr, d10.2.Code, d10.2.Graph, d10.2.FA, d10.2.Pairs, d10.2.Text⟩ : Vorder_Op)).bind fun (d19 : Vspace_Space × Vwrite_pen × Int) =>
      cond (d19.2.2 != 0) (
       esc (
        esc (
         esc (
          some (d19.1, d19.2.1.n, x8.2.2.2.2.2.2.2.2.2.1, d19.2.2))))) (
       (
        cond (d10.2.Kind == 0) (
         some true) (
         some (d10.2.Kind == 8))).bind fun (d22 : Bool) =>
       write_Orders_l8 k8 (d10.1.p, d10.1.code, d19.1.model, d19.1.alternate, d19.1.size.Rows, d19.1.size.Cols, d19.1.cells, d19.1.cursor, d19.1.attrs, w64 (x8.2.2.2.2.2.2.2.2.2.1 + 1), d19.2.1.n, d19.2.1.look.Char, d19.2.1.look.Attr, d19.2.1.look.FA, d19.2.1.look.High, d19.2.1.look.Color, d19.2.1.look.f_Set, d22)))) (
     some (.inl (x8.2.2.1, x8.2.2.2.1, x8.2.2.2.2.1, x8.2.2.2.2.2.1, x8.2.2.2.2.2.2.1, x8.2.2.2.2.2.2.2.1, x8.2.2.2.2.2.2.2.2.1, x8.2.2.2.2.2.2.2.2.2.1, x8.2.2.2.2.2.2.2.2.2.2.1, x8.2.2.2.2.2.2.2.2.2.2.2.1, x8.2.2.2.2.2.2.2.2.2.2.2.2.1, x8.2.2.2.2.2.2.2.2.2.2.2.2.2.1, x8.2.2.2.2.2.2.2.2.2.2.2.2.2.2.1, x8.2.2.2.2.2.2.2.2.2.2.2.2.2.2.2.1, x8.2.2.2.2.2.2.2.2.2.2.2.2.2.2.2.2.1, x8.2.2.2.2.2.2.2.2.2.2.2.2.2.2.2.2.2)))

def m_write_Orders (p0 : Vspace_Space) (p1 : List Int) (p2 : Int) : Option (Vspace_Space × Int × Int × Int) :=
  (m_space_Space_Size p0).bind fun (d1 : Vaddr_Size) =>
  (m_addr_Size_Wrap (⟨d1.Rows, d1.Cols⟩ : Vaddr_Size) p2).bind fun (d2 : Int) =>
  (m_order_Parse p1).bind fun (d3 : Unit) =>
  jn (
   jn (
    jn (
     write_Orders_l8 fuel (p1, 0, p0.model, p0.alternate, p0.size.Rows, p0.size.Cols, p0.cells, p0.cursor, p0.attrs, 0, d2, 0, false, 0, 0, 0, 0, false)) fun (d7 : Int × Bool × Int × Int × (List Vapi_Cell) × Int × Int × Int × Int × Int × Bool × Int × Int × Int × Int × Bool) =>
    some (.inl (d7.2.2.2.2.2.2.2.1, d7.1, d7.2.1, d7.2.2.1, d7.2.2.2.1, d7.2.2.2.2.1, d7.2.2.2.2.2.1, d7.2.2.2.2.2.2.1, d7.2.2.2.2.2.2.2.2.1, d7.2.2.2.2.2.2.2.2.2.1, d7.2.2.2.2.2.2.2.2.2.2.1, d7.2.2.2.2.2.2.2.2.2.2.2.1, d7.2.2.2.2.2.2.2.2.2.2.2.2.1, d7.2.2.2.2.2.2.2.2.2.2.2.2.2.1, d7.2.2.2.2.2.2.2.2.2.2.2.2.2.2.1, d7.2.2.2.2.2.2.2.2.2.2.2.2.2.2.2))) fun (d5 : Int × Int × Bool × Int × Int × (List Vapi_Cell) × Int × Int × Int × Int × Bool × Int × Int × Int × Int × Bool) =>
   some (.inl (d5.1, d5.2.1, d5.2.2.1, d5.2.2.2.1, d5.2.2.2.2.1, d5.2.2.2.2.2.1, d5.2.2.2.2.2.2.1, d5.2.2.2.2.2.2.2.1, d5.2.2.2.2.2.2.2.2.1, d5.2.2.2.2.2.2.2.2.2.1, d5.2.2.2.2.2.2.2.2.2.2.1, d5.2.2.2.2.2.2.2.2.2.2.2.1, d5.2.2.2.2.2.2.2.2.2.2.2.2.1, d5.2.2.2.2.2.2.2.2.2.2.2.2.2.1, d5.2.2.2.2.2.2.2.2.2.2.2.2.2.2.1, d5.2.2.2.2.2.2.2.2.2.2.2.2.2.2.2))) fun (d4 : Int × Int × Bool × Int × Int × (List Vapi_Cell) × Int × Int × Int × Int × Bool × Int × Int × Int × Int × Bool) =>
  some ((⟨d4.2.1, d4.2.2.1, (⟨d4.2.2.2.1, d4.2.2.2.2.1⟩ : Vaddr_Size), d4.2.2.2.2.2.1, d4.2.2.2.2.2.2.1, d4.2.2.2.2.2.2.2.1⟩ : Vspace_Space), d4.2.2.2.2.2.2.2.2.1, d4.1, 0)

def m_write_written (p0 : Vspace_Space) (p1 : Vwrite_Result) (p2 : List Int) : Option (Vspace_Space × Vwrite_Result × Int) :=
  (
   cond (decide ((p2.length : Int) > 0)) (
    gd ((0 : Int) ≤ 0 ∧ 0 < (p2.length : Int)) <|
    gd ((0 : Int) ≤ 1 ∧ 1 ≤ (p2.length : Int) ∧ (p2.length : Int) ≤ (p2.length : Int)) <|
    some ((List.drop 1 p2), (rd p2 0))) (
    some (p2, 0))).bind fun (d1 : (List Int) × Int) =>
  (
   cond (p1.Command != 1) (
    (m_space_Space_Clear_2 p0 (p1.Command == 3)).bind fun (d4 : Vspace_Space) =>
    some (d4.model, d4.alternate, d4.size.Rows, d4.size.Cols, d4.cells, d4.cursor, d4.attrs)) (
    cond ((iband .u8 d1.2 1) != 0) (
     none) (
     some (p0.model, p0.alternate, p0.size.Rows, p0.size.Cols, p0.cells, p0.cursor, p0.attrs)))).bind fun (d3 : Int × Bool × Int × Int × (List Vapi_Cell) × Int × Int) =>
  (m_space_Space_Cursor (⟨d3.1, d3.2.1, (⟨d3.2.2.1, d3.2.2.2.1⟩ : Vaddr_Size), d3.2.2.2.2.1, d3.2.2.2.2.2.1, d3.2.2.2.2.2.2⟩ : Vspace_Space)).bind fun (d5 : Int) =>
  (m_write_Orders (⟨d3.1, d3.2.1, (⟨d3.2.2.1, d3.2.2.2.1⟩ : Vaddr_Size), d3.2.2.2.2.1, d3.2.2.2.2.2.1, d3.2.2.2.2.2.2⟩ : Vspace_Space) d1.1 d5).bind fun (d6 : Vspace_Space × Int × Int × Int) =>
  (
   cond (d6.2.2.2 == 0) (
    some (((iband .u8 d1.2 2) != 0), ((iband .u8 d1.2 4) != 0), ((iband .u8 d1.2 64) != 0))) (
    some (p1.Restore, p1.Alarm, p1.Reset))).bind fun (d7 : Bool × Bool × Bool) =>
  some (d6.1, (⟨p1.Command, d7.1, d7.2.1, d7.2.2, d6.2.2.1, p1.Fields⟩ : Vwrite_Result), d6.2.2.2)

def m_write_Run (p0 : Vspace_Space) (p1 : List Int) : Option (Vspace_Space × Vwrite_Result × Int) :=
  cond ((p1.length : Int) == 0) (
   some ((⟨p0.model, p0.alternate, p0.size, p0.cells, p0.cursor, p0.attrs⟩ : Vspace_Space), (⟨0, false, false, false, 0, ([] : List Int)⟩ : Vwrite_Result), 0)) (
   gd ((0 : Int) ≤ 0 ∧ 0 < (p1.length : Int)) <|
   (m_write_Command (rd p1 0)).bind fun (d3 : Int × Bool) =>
   cond (!d3.2) (
    some ((⟨p0.model, p0.alternate, p0.size, p0.cells, p0.cursor, p0.attrs⟩ : Vspace_Space), (⟨0, false, false, false, 0, ([] : List Int)⟩ : Vwrite_Result), 11)) (
    (
     cond (d3.1 == 1) (
      some (d3.1 == 1)) (
      cond (d3.1 == 2) (
       some (d3.1 == 2)) (
       some (d3.1 == 3)))).bind fun (d6 : Bool) =>
    jn (
     cond d6 (
      gd ((0 : Int) ≤ 1 ∧ 1 ≤ (p1.length : Int) ∧ (p1.length : Int) ≤ (p1.length : Int)) <|
      (m_write_written (⟨p0.model, p0.alternate, p0.size, p0.cells, p0.cursor, p0.attrs⟩ : Vspace_Space) (⟨d3.1, false, false, false, 0, ([] : List Int)⟩ : Vwrite_Result) (List.drop 1 p1)).bind fun (d9 : Vspace_Space × Vwrite_Result × Int) =>
      esc (
       some (d9.1, d9.2.1, d9.2.2))) (
      cond (d3.1 == 4) (
       none) (
       cond (d3.1 == 8) (
        gd ((0 : Int) ≤ 1 ∧ 1 ≤ (p1.length : Int) ∧ (p1.length : Int) ≤ (p1.length : Int)) <|
        (m_bytes_Clone (List.drop 1 p1)).bind fun (d10 : (List Int)) =>
        some (.inl d10)) (
        some (.inl ([] : List Int)))))) fun (d7 : (List Int)) =>
    some ((⟨p0.model, p0.alternate, p0.size, p0.cells, p0.cursor, p0.attrs⟩ : Vspace_Space), (⟨d3.1, false, false, false, 0, d7⟩ : Vwrite_Result), 0)))

def m_vitrineref01_Same (p0 : List Int) (p1 : List Int) : Option Bool :=
  some ((bstr p0).data.toList == (bstr p1).data.toList)

def m_vitrinelaw20_sent (p0 : Int) : Option Int :=
  (m_vitrineref16_Is p0).bind fun (d1 : Bool) =>
  cond d1 (
   some 63) (
   some p0)

def m_space_Space_Alternate (p0 : Vspace_Space) : Option Bool :=
  some p0.alternate

def vitrinelaw20_EntryReplays_l19 (p4 : Int) (d4 : Vspace_Space × Vvitrineref12_Space) (d9 : (List Vapi_Cell) × Int × Int) (d14 : Vspace_Space × Vwrite_Result × Int) : Nat → Int → Option ((Unit) ⊕ Bool)
  | 0, _ => none
  | k19 + 1, x19 =>
    cond (decide (x19 < (d4.2.L.length : Int))) (
     gd ((0 : Int) ≤ x19 ∧ x19 < (d4.2.L.length : Int)) <|
     (m_space_Space_At d14.1 x19).bind fun (d22 : Vapi_Cell) =>
     (m_vitrinelaw20_sent ((rd d4.2.L x19).Char)).bind fun (d23 : Int) =>
     (
      cond ((rd d4.2.L x19).Attr) (
       some 0) (
       some d23)).bind fun (d24 : Int) =>
     (
      cond (decide ((w64 (Int.tmod p4 3)) < 2)) (
       some (!((rd d4.2.L x19).Attr))) (
       some false)).bind fun (d25 : Bool) =>
     (
      cond d25 (
       some (0, 0, 0, 0)) (
       some (d22.High, d22.Color, (rd d4.2.L x19).High, (rd d4.2.L x19).Color))).bind fun (d26 : Int × Int × Int × Int) =>
     (
      cond ((w64 (Int.tmod p4 3)) == 0) (
       some ((rd d4.2.L x19).Attr)) (
       some false)).bind fun (d27 : Bool) =>
     (
      cond d27 (
       some (0, 0, 0)) (
       some (d26.2.2.1, d26.2.2.2, (rd d4.2.L x19).f_Set))).bind fun (d28 : Int × Int × Int) =>
     (
      cond (!((d24 == d22.Char) && ((((rd d4.2.L x19).Attr) == d22.Attr) && ((((rd d4.2.L x19).FA) == d22.FA) && ((d28.1 == d26.1) && ((d28.2.1 == d26.2.1) && ((d28.2.2 == d22.f_Set) && true))))))) (
       some true) (
       gd ((0 : Int) ≤ x19 ∧ x19 < (d9.1.length : Int)) <|
       cond (!((d22.Char == ((rd d9.1 x19).Char)) && ((d22.Attr == ((rd d9.1 x19).Attr)) && ((d22.FA == ((rd d9.1 x19).FA)) && ((d26.1 == ((rd d9.1 x19).High)) && ((d26.2.1 == ((rd d9.1 x19).Color)) && ((d22.f_Set == ((rd d9.1 x19).f_Set)) && true))))))) (
        cond (decide ((w64 (Int.tmod p4 3)) > 0)) (
         some ((rd d4.2.L x19).Attr)) (
         some false)) (
        some false))).bind fun (d29 : Bool) =>
     cond d29 (
      esc (
       some false)) (
      vitrinelaw20_EntryReplays_l19 p4 d4 d9 d14 k19 (w64 (x19 + 1)))) (
     some (.inl ()))

def m_vitrinelaw20_EntryReplays (p0 : Int) (p1 : List Vvitrineref12_Act) (p2 : List Vvitrineref12_Act) (p3 : Int) (p4 : Int) : Option Bool :=
  (m_vitrinelaw20_awake).bind fun (d1 : Bool) =>
  cond (!d1) (
   some false) (
   (m_vitrinelaw20_lay p0 p1).bind fun (d4 : Vspace_Space × Vvitrineref12_Space) =>
   (m_read_Buffer (⟨d4.1.model, d4.1.alternate, d4.1.size, d4.1.cells, d4.1.cursor, d4.1.attrs⟩ : Vspace_Space) p3 (w64 (Int.tmod p4 3))).bind fun (d5 : Vspace_Space × (List Int) × Int) =>
   cond (d5.2.2 != 0) (
    some false) (
    (m_vitrinelaw20_looks d4.2).bind fun (d7 : Bool) =>
    cond (!d7) (
     some true) (
     (m_entry_Buffer d5.2.1).bind fun (d9 : (List Vapi_Cell) × Int × Int) =>
     (m_entry_Replay d5.2.1 d4.2.Alt).bind fun (d10 : (List Int) × Int) =>
     (m_vitrineref20_Replay d5.2.1 d4.2.Alt).bind fun (d11 : (List Int) × Int) =>
     (m_vitrinelaw20_lay p0 p2).bind fun (d13 : Vspace_Space × Vvitrineref12_Space) =>
     (m_write_Run (⟨d13.1.model, d13.1.alternate, d13.1.size, d13.1.cells, d13.1.cursor, d13.1.attrs⟩ : Vspace_Space) d10.1).bind fun (d14 : Vspace_Space × Vwrite_Result × Int) =>
     (
      cond (d9.2.2 != 0) (
       some true) (
       cond (d9.2.1 != d4.2.Cursor) (
        some true) (
        cond ((d9.1.length : Int) != (d4.2.L.length : Int)) (
         some true) (
         (m_vitrineref01_Same d10.1 d11.1).bind fun (d16 : Bool) =>
         cond (!d16) (
          some true) (
          cond (d10.2 != d11.2) (
           some true) (
           cond (d14.2.2 != 0) (
            some true) (
            cond (d14.2.1.Command != 2) (
             some (!d4.2.Alt)) (
             some false)))))))).bind fun (d15 : Bool) =>
     cond d15 (
      some false) (
      jn (
       vitrinelaw20_EntryReplays_l19 p4 d4 d9 d14 fuel 0) fun (d18 : Unit) =>
      (
       (m_space_Space_Cursor d14.1).bind fun (d32 : Int) =>
       cond (d32 == d4.2.Cursor) (
        (m_space_Space_Alternate d14.1).bind fun (d33 : Bool) =>
        some (d33 == d4.2.Alt)) (
        some false)).bind fun (d31 : Bool) =>
      some d31))))

end Go.Vt
