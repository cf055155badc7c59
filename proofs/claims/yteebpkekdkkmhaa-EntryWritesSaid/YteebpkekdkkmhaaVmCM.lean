/- What the functions compute, in plain Lean. No conditions. -/
import Derived.Test.YteebpkekdkkmhaaVtP
set_option linter.unusedVariables false
namespace Go.Vt
structure Ventry_Entry where
  Addr : Int
  Text : (List Int)
  deriving Inhabited, DecidableEq

structure Ventry_Report where
  AID : Int
  Short : Bool
  Cursor : Int
  Entries : (List Ventry_Entry)
  deriving Inhabited, DecidableEq

structure Vattr_Pair where
  f_Type : Int
  Value : Int
  deriving Inhabited, DecidableEq

structure Vorder_Op where
  Kind : Int
  Addr : Int
  Code : Int
  Graph : Bool
  FA : Int
  Pairs : (List Vattr_Pair)
  Text : (List Int)
  deriving Inhabited, DecidableEq

structure Vorder_scanner where
  p : (List Int)
  code : Int
  deriving Inhabited, DecidableEq

structure Vvitrineref20_Entry where
  Addr : Int
  Text : (List Int)
  deriving Inhabited, DecidableEq

structure Vvitrineref20_Report where
  AID : Int
  Short : Bool
  Cursor : Int
  Entries : (List Vvitrineref20_Entry)
  deriving Inhabited, DecidableEq

structure Vapi_Cell where
  Char : Int
  Attr : Bool
  FA : Int
  High : Int
  Color : Int
  f_Set : Int
  deriving Inhabited, DecidableEq

structure Vvitrineref12_Act where
  Do : Int
  N : Int
  On : Bool
  Code : Int
  C : Vapi_Cell
  Text : (List Int)
  deriving Inhabited, DecidableEq

structure Vaddr_Size where
  Rows : Int
  Cols : Int
  deriving Inhabited, DecidableEq

structure Vspace_Space where
  model : Int
  alternate : Bool
  size : Vaddr_Size
  cells : (List Vapi_Cell)
  cursor : Int
  attrs : Int
  deriving Inhabited, DecidableEq

structure Vvitrineref04_Size where
  Rows : Int
  Cols : Int
  deriving Inhabited, DecidableEq

structure Vvitrineref12_Space where
  Model : Int
  Alt : Bool
  Size : Vvitrineref04_Size
  L : (List Vapi_Cell)
  Cursor : Int
  deriving Inhabited, DecidableEq

structure Vvitrineref05_Field where
  Protected : Bool
  Numeric : Bool
  Display : Int
  Modified : Bool
  deriving Inhabited, DecidableEq

structure Vread_sender where
  out : (List Int)
  last : Vapi_Cell
  mode : Int
  deriving Inhabited, DecidableEq

structure Vattr_Field where
  Protected : Bool
  Numeric : Bool
  Display : Int
  Modified : Bool
  deriving Inhabited, DecidableEq

structure Vvitrineref05_Pair where
  f_Type : Int
  Value : Int
  deriving Inhabited, DecidableEq

def m_addr_zone (p0 : Int) : Option (Int × Int × Int × Int) :=
  cond ((ishr .i64 p0 4) == 0) (
   some (64, 192, 1, 9)) (
   cond ((ishr .i64 p0 4) == 1) (
    some (80, 208, 1, 9)) (
    cond ((ishr .i64 p0 4) == 2) (
     some (96, 224, 2, 9)) (
     some (112, 240, 0, 9))))

def m_addr_Six (p0 : Int) : Option Int :=
  (m_addr_zone (iband .i64 p0 63)).bind fun (d1 : Int × Int × Int × Int) =>
  (
   cond (decide ((iband .i64 (iband .i64 p0 63) 15) ≥ d1.2.2.1)) (
    some (decide ((iband .i64 (iband .i64 p0 63) 15) ≤ d1.2.2.2))) (
    some false)).bind fun (d2 : Bool) =>
  cond d2 (
   some (ibor .u8 d1.2.1 (IntKind.wrap .u8 (iband .i64 (iband .i64 p0 63) 15)))) (
   some (ibor .u8 d1.1 (IntKind.wrap .u8 (iband .i64 (iband .i64 p0 63) 15))))

def addr_Unsix_l2 (p0 : Int) : Nat → Int → Option ((Unit) ⊕ Int)
  | 0, _ => none
  | k2 + 1, x2 =>
    cond (decide (x2 < 64)) (
     (m_addr_Six x2).bind fun (d5 : Int) =>
     cond (d5 == p0) (
      esc (
       some x2)) (
      addr_Unsix_l2 p0 k2 (w64 (x2 + 1)))) (
     some (.inl ()))

def m_addr_Unsix (p0 : Int) : Option Int :=
  jn (
   addr_Unsix_l2 p0 fuel 0) fun (d1 : Unit) =>
  some (w64 (iband .u8 p0 63))

def m_addr_Decode (p0 : Int) (p1 : List Int) : Option (Int × Int) :=
  (
   cond (p0 != 12) (
    cond (p0 != 14) (
     some (p0 != 16)) (
     some false)) (
    some false)).bind fun (d2 : Bool) =>
  cond d2 (
   some (0, 1)) (
   cond (decide ((p1.length : Int) < 2)) (
    some (0, 2)) (
    gd ((0 : Int) ≤ 0 ∧ 0 < (p1.length : Int)) <|
    gd ((0 : Int) ≤ 1 ∧ 1 < (p1.length : Int)) <|
    (
     cond (p0 == 16) (
      some true) (
      gd ((0 : Int) ≤ 0 ∧ 0 < (p1.length : Int)) <|
      some ((ishr .u8 (rd p1 0) 6) == 0))).bind fun (d6 : Bool) =>
    cond d6 (
     some (ibor .i64 (ishl .i64 (w64 ((rd p1 0))) 8) (w64 ((rd p1 1))), 0)) (
     gd ((0 : Int) ≤ 0 ∧ 0 < (p1.length : Int)) <|
     cond ((ishr .u8 (rd p1 0) 6) == 2) (
      some (0, 9)) (
      gd ((0 : Int) ≤ 0 ∧ 0 < (p1.length : Int)) <|
      gd ((0 : Int) ≤ 1 ∧ 1 < (p1.length : Int)) <|
      (m_addr_Unsix (rd p1 0)).bind fun (d9 : Int) =>
      (m_addr_Unsix (rd p1 1)).bind fun (d10 : Int) =>
      some (ibor .i64 (ishl .i64 d9 6) d10, 0)))))

def m_entry_begin (p0 : List Int) : Option (Ventry_Report × (List Int) × Int) :=
  (
   cond ((p0.length : Int) == 0) (
    some ((p0.length : Int) == 0)) (
    some ((p0.length : Int) == 2))).bind fun (d2 : Bool) =>
  cond d2 (
   some ((⟨0, false, 0, ([] : List Ventry_Entry)⟩ : Ventry_Report), ([] : List Int), 2)) (
   cond ((p0.length : Int) == 1) (
    gd ((0 : Int) ≤ 0 ∧ 0 < (p0.length : Int)) <|
    some ((⟨(rd p0 0), true, 0, ([] : List Ventry_Entry)⟩ : Ventry_Report), ([] : List Int), 0)) (
    gd ((0 : Int) ≤ 1 ∧ 1 ≤ (p0.length : Int) ∧ (p0.length : Int) ≤ (p0.length : Int)) <|
    (m_addr_Decode 12 (List.drop 1 p0)).bind fun (d4 : Int × Int) =>
    cond (d4.2 != 0) (
     some ((⟨0, false, 0, ([] : List Ventry_Entry)⟩ : Ventry_Report), ([] : List Int), d4.2)) (
     gd ((0 : Int) ≤ 0 ∧ 0 < (p0.length : Int)) <|
     gd ((0 : Int) ≤ 3 ∧ 3 ≤ (p0.length : Int) ∧ (p0.length : Int) ≤ (p0.length : Int)) <|
     some ((⟨(rd p0 0), false, d4.1, ([] : List Ventry_Entry)⟩ : Ventry_Report), (List.drop 3 p0), 0))))

def m_order_Name (p0 : Int) : Option ByteArray :=
  cond (p0 == 0) (
   some (ByteArray.mk (List.toArray [84, 101, 120, 116]))) (
   cond (p0 == 5) (
    some (ByteArray.mk (List.toArray [80, 84]))) (
    cond (p0 == 8) (
     some (ByteArray.mk (List.toArray [71, 69]))) (
     cond (p0 == 17) (
      some (ByteArray.mk (List.toArray [83, 66, 65]))) (
      cond (p0 == 18) (
       some (ByteArray.mk (List.toArray [69, 85, 65]))) (
       cond (p0 == 19) (
        some (ByteArray.mk (List.toArray [73, 67]))) (
        cond (p0 == 29) (
         some (ByteArray.mk (List.toArray [83, 70]))) (
         cond (p0 == 40) (
          some (ByteArray.mk (List.toArray [83, 65]))) (
          cond (p0 == 41) (
           some (ByteArray.mk (List.toArray [83, 70, 69]))) (
           cond (p0 == 44) (
            some (ByteArray.mk (List.toArray [77, 70]))) (
            cond (p0 == 60) (
             some (ByteArray.mk (List.toArray [82, 65]))) (
             some (ByteArray.mk (List.toArray [])))))))))))))

def m_order_Is (p0 : Int) : Option Bool :=
  (
   cond (p0 != 0) (
    (m_order_Name (w64 (p0))).bind fun (d2 : ByteArray) =>
    some (!(d2.data.toList == (ByteArray.mk (List.toArray [])).data.toList))) (
    some false)).bind fun (d1 : Bool) =>
  some d1

def m_order_scanner_fail (p0 : Vorder_scanner) (p1 : Int) : Option Vorder_scanner :=
  cond (p0.code == 0) (
   some (⟨p0.p, p1⟩ : Vorder_scanner)) (
   some p0)

def m_order_scanner_take (p0 : Vorder_scanner) (p1 : Int) : Option (Vorder_scanner × (List Int)) :=
  cond (decide ((p0.p.length : Int) < p1)) (
   (m_order_scanner_fail p0 2).bind fun (d2 : Vorder_scanner) =>
   gd ((0 : Int) ≤ p1 ∧ p1 ≤ 68719476736) <|
   some ((⟨([] : List Int), d2.code⟩ : Vorder_scanner), (List.replicate (Int.toNat p1) 0))) (
   gd ((0 : Int) ≤ 0 ∧ 0 ≤ p1 ∧ p1 ≤ (p0.p.length : Int)) <|
   gd (p1 ≤ p1 ∧ p1 ≤ (p0.p.length : Int)) <|
   gd ((0 : Int) ≤ p1 ∧ p1 ≤ (p0.p.length : Int) ∧ (p0.p.length : Int) ≤ (p0.p.length : Int)) <|
   some ((⟨(List.drop (Int.toNat p1) p0.p), p0.code⟩ : Vorder_scanner), (List.take (Int.toNat p1) p0.p)))

def m_bytes_Clone (p0 : List Int) : Option (List Int) :=
  gd (p0.length ≤ 68719476736) <|
  some p0

def order_scanner_text_l2 (p0 : Vorder_scanner) : Nat → Int → Option Int
  | 0, _ => none
  | k2 + 1, x2 =>
    (
     cond (decide (x2 < (p0.p.length : Int))) (
      gd ((0 : Int) ≤ x2 ∧ x2 < (p0.p.length : Int)) <|
      (m_order_Is (rd p0.p x2)).bind fun (d4 : Bool) =>
      some (!d4)) (
      some false)).bind fun (d3 : Bool) =>
    cond d3 (
     order_scanner_text_l2 p0 k2 (w64 (x2 + 1))) (
     some x2)

def m_order_scanner_text (p0 : Vorder_scanner) : Option (Vorder_scanner × (List Int)) :=
  (
   order_scanner_text_l2 p0 fuel 0).bind fun (d1 : Int) =>
  (m_order_scanner_take p0 d1).bind fun (d6 : Vorder_scanner × (List Int)) =>
  (m_bytes_Clone d6.2).bind fun (d7 : (List Int)) =>
  some (d6.1, d7)

def m_order_scanner_addr (p0 : Vorder_scanner) : Option (Vorder_scanner × Int) :=
  (m_order_scanner_take p0 2).bind fun (d1 : Vorder_scanner × (List Int)) =>
  cond (d1.1.code != 0) (
   some (d1.1, 0)) (
   (m_addr_Decode 12 d1.2).bind fun (d3 : Int × Int) =>
   (
    cond (d3.2 != 0) (
     (m_order_scanner_fail d1.1 d3.2).bind fun (d5 : Vorder_scanner) =>
     some (d5.p, d5.code)) (
     some (d1.1.p, d1.1.code))).bind fun (d4 : (List Int) × Int) =>
   some ((⟨d4.1, d4.2⟩ : Vorder_scanner), d3.1))

def m_order_scanner_character (p0 : Vorder_scanner) : Option (Vorder_scanner × Int) :=
  (m_order_scanner_take p0 1).bind fun (d1 : Vorder_scanner × (List Int)) =>
  gd ((0 : Int) ≤ 0 ∧ 0 < (d1.2.length : Int)) <|
  (m_order_Is (rd d1.2 0)).bind fun (d2 : Bool) =>
  (
   cond d2 (
    (m_order_scanner_fail d1.1 10).bind fun (d4 : Vorder_scanner) =>
    some (d4.p, d4.code)) (
    some (d1.1.p, d1.1.code))).bind fun (d3 : (List Int) × Int) =>
  some ((⟨d3.1, d3.2⟩ : Vorder_scanner), (rd d1.2 0))

def m_attr_Pair_Check (p0 : Vattr_Pair) : Option Int :=
  (
   cond (p0.f_Type == 0) (
    some (p0.Value == 0)) (
    cond (p0.f_Type == 192) (
     some true) (
     cond (p0.f_Type == 65) (
      cond (p0.Value == 0) (
       some true) (
       cond (p0.Value == 240) (
        some true) (
        cond (p0.Value == 241) (
         some true) (
         cond (p0.Value == 242) (
          some true) (
          cond (p0.Value == 244) (
           some true) (
           some (p0.Value == 248))))))) (
      cond (p0.f_Type == 66) (
       cond (p0.Value == 0) (
        some true) (
        cond (decide (p0.Value ≥ 241)) (
         some (decide (p0.Value ≤ 247))) (
         some false))) (
       cond (p0.f_Type == 67) (
        cond (p0.Value == 0) (
         some true) (
         some (p0.Value == 241))) (
        some false)))))).bind fun (d2 : Bool) =>
  cond (!d2) (
   some 10) (
   some 0)

def m_order_scanner_pair (p0 : Vorder_scanner) : Option (Vorder_scanner × (List Vattr_Pair)) :=
  (m_order_scanner_take p0 2).bind fun (d1 : Vorder_scanner × (List Int)) =>
  gd ((0 : Int) ≤ 0 ∧ 0 < (d1.2.length : Int)) <|
  gd ((0 : Int) ≤ 1 ∧ 1 < (d1.2.length : Int)) <|
  (m_attr_Pair_Check (⟨(rd d1.2 0), (rd d1.2 1)⟩ : Vattr_Pair)).bind fun (d3 : Int) =>
  (
   cond (d3 != 0) (
    (m_order_scanner_fail d1.1 d3).bind fun (d5 : Vorder_scanner) =>
    some (d5.p, d5.code)) (
    some (d1.1.p, d1.1.code))).bind fun (d4 : (List Int) × Int) =>
  some ((⟨d4.1, d4.2⟩ : Vorder_scanner), [(⟨(rd d1.2 0), (rd d1.2 1)⟩ : Vattr_Pair)])

def attr_Parse_l4 (p0 : List Int) : Nat → (Int × (List Vattr_Pair)) → Option (((List Vattr_Pair)) ⊕ ((List Vattr_Pair) × Int × Int))
  | 0, _ => none
  | k4 + 1, x4 =>
    cond (decide (x4.1 < (w64 (1 + (w64 (2 * (w64 ((rd p0 0))))))))) (
     gd ((0 : Int) ≤ x4.1 ∧ x4.1 < (p0.length : Int)) <|
     gd ((0 : Int) ≤ (w64 (x4.1 + 1)) ∧ (w64 (x4.1 + 1)) < (p0.length : Int)) <|
     (m_attr_Pair_Check (⟨(rd p0 x4.1), (rd p0 (w64 (x4.1 + 1)))⟩ : Vattr_Pair)).bind fun (d8 : Int) =>
     cond (d8 != 0) (
      esc (
       some (([] : List Vattr_Pair), 0, d8))) (
      gd (x4.2.length + [(⟨(rd p0 x4.1), (rd p0 (w64 (x4.1 + 1)))⟩ : Vattr_Pair)].length ≤ 68719476736) <|
      attr_Parse_l4 p0 k4 (w64 (x4.1 + 2), (x4.2 ++ [(⟨(rd p0 x4.1), (rd p0 (w64 (x4.1 + 1)))⟩ : Vattr_Pair)])))) (
     some (.inl x4.2))

def m_attr_Parse (p0 : List Int) : Option ((List Vattr_Pair) × Int × Int) :=
  (
   cond (decide ((p0.length : Int) < 1)) (
    some true) (
    gd ((0 : Int) ≤ 0 ∧ 0 < (p0.length : Int)) <|
    some (decide ((p0.length : Int) < (w64 (1 + (w64 (2 * (w64 ((rd p0 0))))))))))).bind fun (d1 : Bool) =>
  cond d1 (
   some (([] : List Vattr_Pair), 0, 2)) (
   gd ((0 : Int) ≤ 0 ∧ 0 < (p0.length : Int)) <|
   jn (
    attr_Parse_l4 p0 fuel (1, ([] : List Vattr_Pair))) fun (d3 : (List Vattr_Pair)) =>
   some (d3, w64 (1 + (w64 (2 * (w64 ((rd p0 0)))))), 0))

def m_order_scanner_pairs (p0 : Vorder_scanner) : Option (Vorder_scanner × (List Vattr_Pair)) :=
  (m_attr_Parse p0.p).bind fun (d1 : (List Vattr_Pair) × Int × Int) =>
  cond (d1.2.2 != 0) (
   (m_order_scanner_fail p0 d1.2.2).bind fun (d3 : Vorder_scanner) =>
   some (d3, ([] : List Vattr_Pair))) (
   (m_order_scanner_take p0 d1.2.1).bind fun (d4 : Vorder_scanner × (List Int)) =>
   some (d4.1, d1.1))

def m_order_scanner_op (p0 : Vorder_scanner) : Option (Vorder_scanner × Vorder_Op) :=
  gd ((0 : Int) ≤ 0 ∧ 0 < (p0.p.length : Int)) <|
  (m_order_Is (rd p0.p 0)).bind fun (d1 : Bool) =>
  cond (!d1) (
   (m_order_scanner_text p0).bind fun (d3 : Vorder_scanner × (List Int)) =>
   some (d3.1, (⟨0, 0, 0, false, 0, ([] : List Vattr_Pair), d3.2⟩ : Vorder_Op))) (
   (m_order_scanner_take p0 1).bind fun (d4 : Vorder_scanner × (List Int)) =>
   gd ((0 : Int) ≤ 0 ∧ 0 < (d4.2.length : Int)) <|
   (
    cond ((w64 ((rd d4.2 0))) == 17) (
     some ((w64 ((rd d4.2 0))) == 17)) (
     some ((w64 ((rd d4.2 0))) == 18))).bind fun (d6 : Bool) =>
   (
    cond d6 (
     (m_order_scanner_addr d4.1).bind fun (d8 : Vorder_scanner × Int) =>
     some (d8.2, 0, false, 0, ([] : List Vattr_Pair), d8.1.p, d8.1.code)) (
     cond ((w64 ((rd d4.2 0))) == 60) (
      (m_order_scanner_addr d4.1).bind fun (d9 : Vorder_scanner × Int) =>
      (
       cond (decide ((d9.1.p.length : Int) > 0)) (
        gd ((0 : Int) ≤ 0 ∧ 0 < (d9.1.p.length : Int)) <|
        some ((rd d9.1.p 0) == 8)) (
        some false)).bind fun (d10 : Bool) =>
      (
       cond d10 (
        (m_order_scanner_take d9.1 1).bind fun (d12 : Vorder_scanner × (List Int)) =>
        some (true, d12.1.p, d12.1.code)) (
        some (false, d9.1.p, d9.1.code))).bind fun (d11 : Bool × (List Int) × Int) =>
      (m_order_scanner_character (⟨d11.2.1, d11.2.2⟩ : Vorder_scanner)).bind fun (d13 : Vorder_scanner × Int) =>
      some (d9.2, d13.2, d11.1, 0, ([] : List Vattr_Pair), d13.1.p, d13.1.code)) (
      cond ((w64 ((rd d4.2 0))) == 29) (
       (m_order_scanner_take d4.1 1).bind fun (d14 : Vorder_scanner × (List Int)) =>
       gd ((0 : Int) ≤ 0 ∧ 0 < (d14.2.length : Int)) <|
       some (0, 0, false, (rd d14.2 0), ([] : List Vattr_Pair), d14.1.p, d14.1.code)) (
       cond ((w64 ((rd d4.2 0))) == 40) (
        (m_order_scanner_pair d4.1).bind fun (d15 : Vorder_scanner × (List Vattr_Pair)) =>
        some (0, 0, false, 0, d15.2, d15.1.p, d15.1.code)) (
        (
         cond ((w64 ((rd d4.2 0))) == 41) (
          some ((w64 ((rd d4.2 0))) == 41)) (
          some ((w64 ((rd d4.2 0))) == 44))).bind fun (d16 : Bool) =>
        cond d16 (
         (m_order_scanner_pairs d4.1).bind fun (d17 : Vorder_scanner × (List Vattr_Pair)) =>
         some (0, 0, false, 0, d17.2, d17.1.p, d17.1.code)) (
         cond ((w64 ((rd d4.2 0))) == 8) (
          (m_order_scanner_character d4.1).bind fun (d18 : Vorder_scanner × Int) =>
          some (0, d18.2, false, 0, ([] : List Vattr_Pair), d18.1.p, d18.1.code)) (
          some (0, 0, false, 0, ([] : List Vattr_Pair), d4.1.p, d4.1.code)))))))).bind fun (d7 : Int × Int × Bool × Int × (List Vattr_Pair) × (List Int) × Int) =>
   some ((⟨d7.2.2.2.2.2.1, d7.2.2.2.2.2.2⟩ : Vorder_scanner), (⟨w64 ((rd d4.2 0)), d7.1, d7.2.1, d7.2.2.1, d7.2.2.2.1, d7.2.2.2.2.1, ([] : List Int)⟩ : Vorder_Op)))

def order_All_l2 (p0 : List Int) : Nat → ((List Vorder_Op) × (List Int) × Int) → Option (((List Vorder_Op)) ⊕ ((List Vorder_Op) × Int × Int))
  | 0, _ => none
  | k2 + 1, x2 =>
    cond (decide ((x2.2.1.length : Int) > 0)) (
     (m_order_scanner_op (⟨x2.2.1, x2.2.2⟩ : Vorder_scanner)).bind fun (d4 : Vorder_scanner × Vorder_Op) =>
     cond (d4.1.code != 0) (
      esc (
       some (x2.1, w64 ((p0.length : Int) - (x2.2.1.length : Int)), d4.1.code))) (
      gd (x2.1.length + [d4.2].length ≤ 68719476736) <|
      order_All_l2 p0 k2 ((x2.1 ++ [d4.2]), d4.1.p, d4.1.code))) (
     some (.inl x2.1))

def m_order_All (p0 : List Int) : Option ((List Vorder_Op) × Int × Int) :=
  jn (
   order_All_l2 p0 fuel (([] : List Vorder_Op), p0, 0)) fun (d1 : (List Vorder_Op)) =>
  some (d1, (p0.length : Int), 0)

def m_entry_Report_add (p0 : Ventry_Report) (p1 : List Int) : Option Ventry_Report :=
  (
   cond ((p0.Entries.length : Int) == 0) (
    some [(⟨0, ([] : List Int)⟩ : Ventry_Entry)]) (
    some p0.Entries)).bind fun (d1 : (List Ventry_Entry)) =>
  gd ((0 : Int) ≤ (w64 ((d1.length : Int) - 1)) ∧ (w64 ((d1.length : Int) - 1)) < (d1.length : Int)) <|
  gd (((rd d1 (w64 ((d1.length : Int) - 1))).Text).length + p1.length ≤ 68719476736) <|
  some { p0 with Entries := (List.set d1 (Int.toNat (w64 ((d1.length : Int) - 1))) (⟨(rd d1 (w64 ((d1.length : Int) - 1))).Addr, ((rd d1 (w64 ((d1.length : Int) - 1))).Text ++ p1)⟩ : Ventry_Entry)) }

def entry_Parse_l6 (d3 : (List Vorder_Op) × Int × Int) : Nat → (Int × Int × Bool × Int × (List Ventry_Entry)) → Option ((Int × Bool × Int × (List Ventry_Entry)) ⊕ (Ventry_Report × Int))
  | 0, _ => none
  | k6 + 1, x6 =>
    cond (decide (x6.1 < (d3.1.length : Int))) (
     gd ((0 : Int) ≤ x6.1 ∧ x6.1 < (d3.1.length : Int)) <|
     jn (
      cond (((rd d3.1 x6.1).Kind) == 17) (
       gd (x6.2.2.2.2.length + [(⟨(rd d3.1 x6.1).Addr, ([] : List Int)⟩ : Ventry_Entry)].length ≤ 68719476736) <|
       some (.inl (x6.2.1, x6.2.2.1, x6.2.2.2.1, (x6.2.2.2.2 ++ [(⟨(rd d3.1 x6.1).Addr, ([] : List Int)⟩ : Ventry_Entry)])))) (
       cond (((rd d3.1 x6.1).Kind) == 0) (
        (m_entry_Report_add (⟨x6.2.1, x6.2.2.1, x6.2.2.2.1, x6.2.2.2.2⟩ : Ventry_Report) ((rd d3.1 x6.1).Text)).bind fun (d11 : Ventry_Report) =>
        some (.inl (d11.AID, d11.Short, d11.Cursor, d11.Entries))) (
        cond (((rd d3.1 x6.1).Kind) == 8) (
         (m_entry_Report_add (⟨x6.2.1, x6.2.2.1, x6.2.2.2.1, x6.2.2.2.2⟩ : Ventry_Report) [(rd d3.1 x6.1).Code]).bind fun (d12 : Ventry_Report) =>
         some (.inl (d12.AID, d12.Short, d12.Cursor, d12.Entries))) (
         cond (((rd d3.1 x6.1).Kind) == 40) (
          some (.inl (x6.2.1, x6.2.2.1, x6.2.2.2.1, x6.2.2.2.2))) (
          esc (
           esc (
            some ((⟨0, false, 0, ([] : List Ventry_Entry)⟩ : Ventry_Report), 4)))))))) fun (d10 : Int × Bool × Int × (List Ventry_Entry)) =>
     entry_Parse_l6 d3 k6 (w64 (x6.1 + 1), d10.1, d10.2.1, d10.2.2.1, d10.2.2.2)) (
     some (.inl (x6.2.1, x6.2.2.1, x6.2.2.2.1, x6.2.2.2.2)))

def m_entry_Parse (p0 : List Int) : Option (Ventry_Report × Int) :=
  (m_entry_begin p0).bind fun (d1 : Ventry_Report × (List Int) × Int) =>
  cond (d1.2.2 != 0) (
   some ((⟨0, false, 0, ([] : List Ventry_Entry)⟩ : Ventry_Report), d1.2.2)) (
   (m_order_All d1.2.1).bind fun (d3 : (List Vorder_Op) × Int × Int) =>
   cond (d3.2.2 != 0) (
    some ((⟨0, false, 0, ([] : List Ventry_Entry)⟩ : Ventry_Report), d3.2.2)) (
    jn (
     entry_Parse_l6 d3 fuel (0, d1.1.AID, d1.1.Short, d1.1.Cursor, ([] : List Ventry_Entry))) fun (d5 : Int × Bool × Int × (List Ventry_Entry)) =>
    some ((⟨d5.1, d5.2.1, d5.2.2.1, d5.2.2.2⟩ : Ventry_Report), 0)))

def m_vitrinelaw20_awake : Option Bool :=
  (m_entry_Parse [125, 64, 194, 17, 64, 193, 193, 194]).bind fun (d1 : Ventry_Report × Int) =>
  (
   cond (d1.2 == 0) (
    cond (d1.1.AID == 125) (
     cond (d1.1.Cursor == 2) (
      cond ((d1.1.Entries.length : Int) == 1) (
       gd ((0 : Int) ≤ 0 ∧ 0 < (d1.1.Entries.length : Int)) <|
       cond (((rd d1.1.Entries 0).Addr) == 1) (
        gd ((0 : Int) ≤ 0 ∧ 0 < (d1.1.Entries.length : Int)) <|
        some ((bstr ((rd d1.1.Entries 0).Text)).data.toList == (ByteArray.mk (List.toArray [193, 194])).data.toList)) (
        some false)) (
       some false)) (
      some false)) (
     some false)) (
    some false)).bind fun (d2 : Bool) =>
  some d2

def m_vitrineref01_Copy (p0 : List Int) : Option (List Int) :=
  gd (([] : List Int).length + p0.length ≤ 68719476736) <|
  some (([] : List Int) ++ p0)

def m_vitrineref01_Cut (p0 : List Int) (p1 : Int) : Option (List Int) :=
  (
   cond (decide ((p0.length : Int) > p1)) (
    gd ((0 : Int) ≤ 0 ∧ 0 ≤ p1 ∧ p1 ≤ (p0.length : Int)) <|
    some (List.take (Int.toNat p1) p0)) (
    some p0)).bind fun (d1 : (List Int)) =>
  (m_vitrineref01_Copy d1).bind fun (d2 : (List Int)) =>
  some d2

def m_addr_Encode (p0 : Int) (p1 : Int) : Option ((List Int) × Int) :=
  (
   cond (p0 != 12) (
    cond (p0 != 14) (
     some (p0 != 16)) (
     some false)) (
    some false)).bind fun (d2 : Bool) =>
  cond d2 (
   some (([] : List Int), 1)) (
   (
    cond (decide (p1 < 0)) (
     some true) (
     gd ((0 : Int) ≤ p0) <|
     some (decide (p1 ≥ (ishl .i64 1 p0))))).bind fun (d4 : Bool) =>
   cond d4 (
    some (([] : List Int), 9)) (
    cond (p0 == 12) (
     (m_addr_Six (ishr .i64 p1 6)).bind fun (d5 : Int) =>
     (m_addr_Six p1).bind fun (d6 : Int) =>
     some ([d5, d6], 0)) (
     some ([IntKind.wrap .u8 (ishr .i64 p1 8), IntKind.wrap .u8 (p1)], 0))))

def slices_IndexFunc_l2 (p0 : List Int) : Nat → Int → Option ((Unit) ⊕ Int)
  | 0, _ => none
  | k2 + 1, x2 =>
    cond (decide (x2 < (p0.length : Int))) (
     gd ((0 : Int) ≤ x2 ∧ x2 < (p0.length : Int)) <|
     (m_order_Is (rd p0 x2)).bind fun (d5 : Bool) =>
     cond d5 (
      esc (
       some x2)) (
      slices_IndexFunc_l2 p0 k2 (w64 (x2 + 1)))) (
     some (.inl ()))

def m_slices_IndexFunc (p0 : List Int) : Option Int :=
  jn (
   slices_IndexFunc_l2 p0 fuel 0) fun (d1 : Unit) =>
  some (-1)

def m_slices_ContainsFunc (p0 : List Int) : Option Bool :=
  (m_slices_IndexFunc p0).bind fun (d1 : Int) =>
  some (decide (d1 ≥ 0))

def m_order_place (p0 : Int) (p1 : Int) : Option ((List Int) × Int) :=
  (m_addr_Encode 12 p1).bind fun (d1 : (List Int) × Int) =>
  cond (d1.2 != 0) (
   some (([] : List Int), d1.2)) (
   gd ([p0].length + d1.1.length ≤ 68719476736) <|
   some (([p0] ++ d1.1), 0))

def attr_Bytes_l3 (p0 : List Vattr_Pair) : Nat → (Int × (List Int)) → Option (((List Int)) ⊕ ((List Int) × Int))
  | 0, _ => none
  | k3 + 1, x3 =>
    cond (decide (x3.1 < (p0.length : Int))) (
     gd ((0 : Int) ≤ x3.1 ∧ x3.1 < (p0.length : Int)) <|
     (m_attr_Pair_Check (rd p0 x3.1)).bind fun (d6 : Int) =>
     cond (d6 != 0) (
      esc (
       some (([] : List Int), d6))) (
      gd (x3.2.length + [(rd p0 x3.1).f_Type, (rd p0 x3.1).Value].length ≤ 68719476736) <|
      attr_Bytes_l3 p0 k3 (w64 (x3.1 + 1), (x3.2 ++ [(rd p0 x3.1).f_Type, (rd p0 x3.1).Value])))) (
     some (.inl x3.2))

def m_attr_Bytes (p0 : List Vattr_Pair) : Option ((List Int) × Int) :=
  cond (decide ((p0.length : Int) > 255)) (
   some (([] : List Int), 3)) (
   jn (
    attr_Bytes_l3 p0 fuel (0, [IntKind.wrap .u8 ((p0.length : Int))])) fun (d2 : (List Int)) =>
   some (d2, 0))

def m_order_looks (p0 : Int) (p1 : List Vattr_Pair) : Option ((List Int) × Int) :=
  (m_attr_Bytes p1).bind fun (d1 : (List Int) × Int) =>
  cond (d1.2 != 0) (
   some (([] : List Int), d1.2)) (
   gd ([p0].length + d1.1.length ≤ 68719476736) <|
   some (([p0] ++ d1.1), 0))

def m_order_Op_Bytes (p0 : Vorder_Op) : Option ((List Int) × Int) :=
  cond (p0.Kind == 0) (
   (
    cond ((p0.Text.length : Int) == 0) (
     some true) (
     (m_slices_ContainsFunc p0.Text).bind fun (d4 : Bool) =>
     some d4)).bind fun (d3 : Bool) =>
   cond d3 (
    some (([] : List Int), 10)) (
    (m_bytes_Clone p0.Text).bind fun (d6 : (List Int)) =>
    some (d6, 0))) (
   (
    cond (p0.Kind == 19) (
     some (p0.Kind == 19)) (
     some (p0.Kind == 5))).bind fun (d7 : Bool) =>
   cond d7 (
    some ([IntKind.wrap .u8 (p0.Kind)], 0)) (
    cond (p0.Kind == 29) (
     some ([IntKind.wrap .u8 (p0.Kind), p0.FA], 0)) (
     cond (p0.Kind == 8) (
      (m_order_Is p0.Code).bind fun (d8 : Bool) =>
      cond d8 (
       some (([] : List Int), 10)) (
       some ([IntKind.wrap .u8 (p0.Kind), p0.Code], 0))) (
      (
       cond (p0.Kind == 17) (
        some (p0.Kind == 17)) (
        some (p0.Kind == 18))).bind fun (d10 : Bool) =>
      cond d10 (
       (m_order_place (IntKind.wrap .u8 (p0.Kind)) p0.Addr).bind fun (d11 : (List Int) × Int) =>
       some (d11.1, d11.2)) (
       cond (p0.Kind == 60) (
        (m_order_place (IntKind.wrap .u8 (p0.Kind)) p0.Addr).bind fun (d12 : (List Int) × Int) =>
        jn (
         cond (d12.2 != 0) (
          esc (
           some (([] : List Int), d12.2))) (
          (m_order_Is p0.Code).bind fun (d15 : Bool) =>
          cond d15 (
           esc (
            some (([] : List Int), 10))) (
           cond p0.Graph (
            gd (d12.1.length + [8].length ≤ 68719476736) <|
            some (.inl (d12.1 ++ [8]))) (
            some (.inl d12.1))))) fun (d14 : (List Int)) =>
        gd (d14.length + [p0.Code].length ≤ 68719476736) <|
        some ((d14 ++ [p0.Code]), 0)) (
        cond (p0.Kind == 40) (
         (
          cond ((p0.Pairs.length : Int) != 1) (
           some true) (
           gd ((0 : Int) ≤ 0 ∧ 0 < (p0.Pairs.length : Int)) <|
           (m_attr_Pair_Check (rd p0.Pairs 0)).bind fun (d17 : Int) =>
           some (d17 != 0))).bind fun (d16 : Bool) =>
         cond d16 (
          some (([] : List Int), 10)) (
          gd ((0 : Int) ≤ 0 ∧ 0 < (p0.Pairs.length : Int)) <|
          gd ((0 : Int) ≤ 0 ∧ 0 < (p0.Pairs.length : Int)) <|
          some ([IntKind.wrap .u8 (p0.Kind), (rd p0.Pairs 0).f_Type, (rd p0.Pairs 0).Value], 0))) (
         (
          cond (p0.Kind == 41) (
           some (p0.Kind == 41)) (
           some (p0.Kind == 44))).bind fun (d20 : Bool) =>
         cond d20 (
          (m_order_looks (IntKind.wrap .u8 (p0.Kind)) p0.Pairs).bind fun (d21 : (List Int) × Int) =>
          some (d21.1, d21.2)) (
          some (([] : List Int), 1)))))))))

def order_Bytes_l2 (p0 : List Vorder_Op) : Nat → (Int × (List Int)) → Option (((List Int)) ⊕ ((List Int) × Int))
  | 0, _ => none
  | k2 + 1, x2 =>
    cond (decide (x2.1 < (p0.length : Int))) (
     gd ((0 : Int) ≤ x2.1 ∧ x2.1 < (p0.length : Int)) <|
     (m_order_Op_Bytes (rd p0 x2.1)).bind fun (d5 : (List Int) × Int) =>
     cond (d5.2 != 0) (
      esc (
       some (([] : List Int), d5.2))) (
      gd (x2.2.length + d5.1.length ≤ 68719476736) <|
      order_Bytes_l2 p0 k2 (w64 (x2.1 + 1), (x2.2 ++ d5.1)))) (
     some (.inl x2.2))

def m_order_Bytes (p0 : List Vorder_Op) : Option ((List Int) × Int) :=
  jn (
   order_Bytes_l2 p0 fuel (0, ([] : List Int))) fun (d1 : (List Int)) =>
  some (d1, 0)

def entry_Bytes_l6 (p0 : Ventry_Report) (d4 : Bool) : Nat → (Int × (List Int)) → Option (((List Int)) ⊕ ((List Int) × Int))
  | 0, _ => none
  | k6 + 1, x6 =>
    cond (decide (x6.1 < (p0.Entries.length : Int))) (
     gd ((0 : Int) ≤ x6.1 ∧ x6.1 < (p0.Entries.length : Int)) <|
     (
      cond (!d4) (
       gd (([] : List Vorder_Op).length + [(⟨17, (rd p0.Entries x6.1).Addr, 0, false, 0, ([] : List Vattr_Pair), ([] : List Int)⟩ : Vorder_Op)].length ≤ 68719476736) <|
       some (([] : List Vorder_Op) ++ [(⟨17, (rd p0.Entries x6.1).Addr, 0, false, 0, ([] : List Vattr_Pair), ([] : List Int)⟩ : Vorder_Op)])) (
       some ([] : List Vorder_Op))).bind fun (d9 : (List Vorder_Op)) =>
     (
      cond (decide ((((rd p0.Entries x6.1).Text).length : Int) > 0)) (
       gd (d9.length + [(⟨0, 0, 0, false, 0, ([] : List Vattr_Pair), (rd p0.Entries x6.1).Text⟩ : Vorder_Op)].length ≤ 68719476736) <|
       some (d9 ++ [(⟨0, 0, 0, false, 0, ([] : List Vattr_Pair), (rd p0.Entries x6.1).Text⟩ : Vorder_Op)])) (
       some d9)).bind fun (d10 : (List Vorder_Op)) =>
     (m_order_Bytes d10).bind fun (d11 : (List Int) × Int) =>
     cond (d11.2 != 0) (
      esc (
       some (([] : List Int), d11.2))) (
      gd (x6.2.length + d11.1.length ≤ 68719476736) <|
      entry_Bytes_l6 p0 d4 k6 (w64 (x6.1 + 1), (x6.2 ++ d11.1)))) (
     some (.inl x6.2))

def m_entry_Bytes (p0 : Ventry_Report) : Option ((List Int) × Int) :=
  cond p0.Short (
   some ([p0.AID], 0)) (
   (m_addr_Encode 12 p0.Cursor).bind fun (d2 : (List Int) × Int) =>
   cond (d2.2 != 0) (
    some (([] : List Int), d2.2)) (
    gd ([p0.AID].length + d2.1.length ≤ 68719476736) <|
    (
     cond ((p0.Entries.length : Int) == 1) (
      gd ((0 : Int) ≤ 0 ∧ 0 < (p0.Entries.length : Int)) <|
      cond (((rd p0.Entries 0).Addr) == 0) (
       gd ((0 : Int) ≤ 0 ∧ 0 < (p0.Entries.length : Int)) <|
       some (decide ((((rd p0.Entries 0).Text).length : Int) > 0))) (
       some false)) (
      some false)).bind fun (d4 : Bool) =>
    jn (
     entry_Bytes_l6 p0 d4 fuel (0, ([p0.AID] ++ d2.1))) fun (d5 : (List Int)) =>
    some (d5, 0)))

def vitrinelaw20_back_l2 (p0 : Ventry_Report) : Nat → (Int × (List Vvitrineref20_Entry)) → Option (List Vvitrineref20_Entry)
  | 0, _ => none
  | k2 + 1, x2 =>
    cond (decide (x2.1 < (p0.Entries.length : Int))) (
     gd ((0 : Int) ≤ x2.1 ∧ x2.1 < (p0.Entries.length : Int)) <|
     gd (x2.2.length + [(⟨(rd p0.Entries x2.1).Addr, (rd p0.Entries x2.1).Text⟩ : Vvitrineref20_Entry)].length ≤ 68719476736) <|
     vitrinelaw20_back_l2 p0 k2 (w64 (x2.1 + 1), (x2.2 ++ [(⟨(rd p0.Entries x2.1).Addr, (rd p0.Entries x2.1).Text⟩ : Vvitrineref20_Entry)]))) (
     some x2.2)

def m_vitrinelaw20_back (p0 : Ventry_Report) : Option Vvitrineref20_Report :=
  (
   vitrinelaw20_back_l2 p0 fuel (0, ([] : List Vvitrineref20_Entry))).bind fun (d1 : (List Vvitrineref20_Entry)) =>
  some (⟨p0.AID, p0.Short, p0.Cursor, d1⟩ : Vvitrineref20_Report)

def m_vitrineref01_Same (p0 : List Int) (p1 : List Int) : Option Bool :=
  some ((bstr p0).data.toList == (bstr p1).data.toList)

def vitrineref20_Same_l4 (p0 : Vvitrineref20_Report) (p1 : Vvitrineref20_Report) : Nat → Int → Option ((Unit) ⊕ Bool)
  | 0, _ => none
  | k4 + 1, x4 =>
    cond (decide (x4 < (p0.Entries.length : Int))) (
     (
      gd ((0 : Int) ≤ x4 ∧ x4 < (p0.Entries.length : Int)) <|
      gd ((0 : Int) ≤ x4 ∧ x4 < (p1.Entries.length : Int)) <|
      cond (((rd p0.Entries x4).Addr) != ((rd p1.Entries x4).Addr)) (
       some true) (
       gd ((0 : Int) ≤ x4 ∧ x4 < (p0.Entries.length : Int)) <|
       gd ((0 : Int) ≤ x4 ∧ x4 < (p1.Entries.length : Int)) <|
       (m_vitrineref01_Same ((rd p0.Entries x4).Text) ((rd p1.Entries x4).Text)).bind fun (d8 : Bool) =>
       some (!d8))).bind fun (d7 : Bool) =>
     cond d7 (
      esc (
       some false)) (
      vitrineref20_Same_l4 p0 p1 k4 (w64 (x4 + 1)))) (
     some (.inl ()))

def m_vitrineref20_Same (p0 : Vvitrineref20_Report) (p1 : Vvitrineref20_Report) : Option Bool :=
  (
   cond (p0.AID != p1.AID) (
    some true) (
    cond (!(p0.Short == p1.Short)) (
     some true) (
     cond (p0.Cursor != p1.Cursor) (
      some true) (
      some ((p0.Entries.length : Int) != (p1.Entries.length : Int)))))).bind fun (d1 : Bool) =>
  cond d1 (
   some false) (
   jn (
    vitrineref20_Same_l4 p0 p1 fuel 0) fun (d3 : Unit) =>
   some true)

def m_vitrinelaw20_EntryAgain (p0 : List Int) : Option Bool :=
  (m_vitrinelaw20_awake).bind fun (d1 : Bool) =>
  cond (!d1) (
   some false) (
   (m_vitrineref01_Cut p0 400).bind fun (d3 : (List Int)) =>
   (m_entry_Parse d3).bind fun (d4 : Ventry_Report × Int) =>
   cond (d4.2 != 0) (
    some true) (
    (m_entry_Bytes d4.1).bind fun (d6 : (List Int) × Int) =>
    cond (d6.2 != 0) (
     some (d6.2 == 9)) (
     (m_entry_Parse d6.1).bind fun (d8 : Ventry_Report × Int) =>
     (
      cond (d8.2 == 0) (
       (m_vitrinelaw20_back d8.1).bind fun (d10 : Vvitrineref20_Report) =>
       (m_vitrinelaw20_back d4.1).bind fun (d11 : Vvitrineref20_Report) =>
       (m_vitrineref20_Same d10 d11).bind fun (d12 : Bool) =>
       some d12) (
       some false)).bind fun (d9 : Bool) =>
     some d9)))

def vitrinelaw20_own_l2 (p0 : Vvitrineref20_Report) : Nat → (Int × (List Ventry_Entry)) → Option (List Ventry_Entry)
  | 0, _ => none
  | k2 + 1, x2 =>
    cond (decide (x2.1 < (p0.Entries.length : Int))) (
     gd ((0 : Int) ≤ x2.1 ∧ x2.1 < (p0.Entries.length : Int)) <|
     (m_vitrineref01_Copy ((rd p0.Entries x2.1).Text)).bind fun (d7 : (List Int)) =>
     gd (x2.2.length + [(⟨(rd p0.Entries x2.1).Addr, d7⟩ : Ventry_Entry)].length ≤ 68719476736) <|
     vitrinelaw20_own_l2 p0 k2 (w64 (x2.1 + 1), (x2.2 ++ [(⟨(rd p0.Entries x2.1).Addr, d7⟩ : Ventry_Entry)]))) (
     some x2.2)

def m_vitrinelaw20_own (p0 : Vvitrineref20_Report) : Option Ventry_Report :=
  (
   vitrinelaw20_own_l2 p0 fuel (0, ([] : List Ventry_Entry))).bind fun (d1 : (List Ventry_Entry)) =>
  some (⟨p0.AID, p0.Short, p0.Cursor, d1⟩ : Ventry_Report)

def m_vitrineref04_Mod (p0 : Int) (p1 : Int) : Option Int :=
  cond (decide (p1 < 1)) (
   some 0) (
   gd (p1 ≠ 0) <|
   gd (p1 ≠ 0) <|
   some (Int.tmod (w64 ((Int.tmod p0 p1) + p1)) p1))

def vitrineref01_Num_l2 (p0 : ByteArray) : Nat → (Int × Int) → Option Int
  | 0, _ => none
  | k2 + 1, x2 =>
    cond (decide (x2.1 < (p0.size : Int))) (
     gd ((0 : Int) ≤ x2.1 ∧ x2.1 < (p0.size : Int)) <|
     gd ((0 : Int) ≤ x2.1 ∧ x2.1 < (p0.size : Int)) <|
     (
      cond (decide ((sbyte p0 x2.1) ≥ 97)) (
       gd ((0 : Int) ≤ x2.1 ∧ x2.1 < (p0.size : Int)) <|
       some (w64 ((w64 (IntKind.wrap .u8 ((sbyte p0 x2.1) - 97))) + 10))) (
       some (w64 (IntKind.wrap .u8 ((sbyte p0 x2.1) - 48))))).bind fun (d5 : Int) =>
     vitrineref01_Num_l2 p0 k2 (w64 (x2.1 + 1), w64 ((w64 (16 * x2.2)) + d5))) (
     some x2.2)

def m_vitrineref01_Num (p0 : ByteArray) : Option Int :=
  (
   vitrineref01_Num_l2 p0 fuel (0, 0)).bind fun (d1 : Int) =>
  some d1

def m_vitrineref04_Six (p0 : Int) : Option Int :=
  (m_vitrineref04_Mod p0 64).bind fun (d1 : Int) =>
  gd ((0 : Int) ≤ (w64 (2 * d1)) ∧ (w64 (2 * d1)) ≤ (w64 ((w64 (2 * d1)) + 2)) ∧ (w64 ((w64 (2 * d1)) + 2)) ≤ ((ByteArray.mk (List.toArray [52, 48, 99, 49, 99, 50, 99, 51, 99, 52, 99, 53, 99, 54, 99, 55, 99, 56, 99, 57, 52, 97, 52, 98, 52, 99, 52, 100, 52, 101, 52, 102, 53, 48, 100, 49, 100, 50, 100, 51, 100, 52, 100, 53, 100, 54, 100, 55, 100, 56, 100, 57, 53, 97, 53, 98, 53, 99, 53, 100, 53, 101, 53, 102, 54, 48, 54, 49, 101, 50, 101, 51, 101, 52, 101, 53, 101, 54, 101, 55, 101, 56, 101, 57, 54, 97, 54, 98, 54, 99, 54, 100, 54, 101, 54, 102, 102, 48, 102, 49, 102, 50, 102, 51, 102, 52, 102, 53, 102, 54, 102, 55, 102, 56, 102, 57, 55, 97, 55, 98, 55, 99, 55, 100, 55, 101, 55, 102])).size : Int)) <|
  (m_vitrineref01_Num (ByteArray.extract (ByteArray.mk (List.toArray [52, 48, 99, 49, 99, 50, 99, 51, 99, 52, 99, 53, 99, 54, 99, 55, 99, 56, 99, 57, 52, 97, 52, 98, 52, 99, 52, 100, 52, 101, 52, 102, 53, 48, 100, 49, 100, 50, 100, 51, 100, 52, 100, 53, 100, 54, 100, 55, 100, 56, 100, 57, 53, 97, 53, 98, 53, 99, 53, 100, 53, 101, 53, 102, 54, 48, 54, 49, 101, 50, 101, 51, 101, 52, 101, 53, 101, 54, 101, 55, 101, 56, 101, 57, 54, 97, 54, 98, 54, 99, 54, 100, 54, 101, 54, 102, 102, 48, 102, 49, 102, 50, 102, 51, 102, 52, 102, 53, 102, 54, 102, 55, 102, 56, 102, 57, 55, 97, 55, 98, 55, 99, 55, 100, 55, 101, 55, 102])) (Int.toNat (w64 (2 * d1))) (Int.toNat (w64 ((w64 (2 * d1)) + 2))))).bind fun (d2 : Int) =>
  some (IntKind.wrap .u8 (d2))

def m_vitrineref04_Encode (p0 : Int) (p1 : Int) : Option ((List Int) × Int) :=
  jn (
   cond (p0 == 12) (
    some (.inl 4095)) (
    cond (p0 == 14) (
     some (.inl 16383)) (
     cond (p0 == 16) (
      some (.inl 65535)) (
      esc (
       some (([] : List Int), 1)))))) fun (d2 : Int) =>
  (
   cond (decide (p1 < 0)) (
    some true) (
    some (decide (p1 > d2)))).bind fun (d3 : Bool) =>
  cond d3 (
   some (([] : List Int), 9)) (
   cond (p0 == 12) (
    (m_vitrineref04_Six (w64 (Int.tdiv p1 64))).bind fun (d6 : Int) =>
    (m_vitrineref04_Six (Int.tmod p1 64)).bind fun (d7 : Int) =>
    some ([d6, d7], 0)) (
    some ([IntKind.wrap .u8 (w64 (Int.tdiv p1 256)), IntKind.wrap .u8 (Int.tmod p1 256)], 0)))

def vitrineref16_Name_l2 (p0 : Int) : Nat → Int → Option ((Unit) ⊕ ByteArray)
  | 0, _ => none
  | k2 + 1, x2 =>
    cond (decide (x2 < ([0, 5, 8, 17, 18, 19, 29, 40, 41, 44, 60].length : Int))) (
     gd ((0 : Int) ≤ x2 ∧ x2 < ([0, 5, 8, 17, 18, 19, 29, 40, 41, 44, 60].length : Int)) <|
     cond ((rd [0, 5, 8, 17, 18, 19, 29, 40, 41, 44, 60] x2) == p0) (
      gd ((0 : Int) ≤ x2 ∧ x2 < ([(ByteArray.mk (List.toArray [84, 101, 120, 116])), (ByteArray.mk (List.toArray [80, 84])), (ByteArray.mk (List.toArray [71, 69])), (ByteArray.mk (List.toArray [83, 66, 65])), (ByteArray.mk (List.toArray [69, 85, 65])), (ByteArray.mk (List.toArray [73, 67])), (ByteArray.mk (List.toArray [83, 70])), (ByteArray.mk (List.toArray [83, 65])), (ByteArray.mk (List.toArray [83, 70, 69])), (ByteArray.mk (List.toArray [77, 70])), (ByteArray.mk (List.toArray [82, 65]))].length : Int)) <|
      esc (
       some (rd [(ByteArray.mk (List.toArray [84, 101, 120, 116])), (ByteArray.mk (List.toArray [80, 84])), (ByteArray.mk (List.toArray [71, 69])), (ByteArray.mk (List.toArray [83, 66, 65])), (ByteArray.mk (List.toArray [69, 85, 65])), (ByteArray.mk (List.toArray [73, 67])), (ByteArray.mk (List.toArray [83, 70])), (ByteArray.mk (List.toArray [83, 65])), (ByteArray.mk (List.toArray [83, 70, 69])), (ByteArray.mk (List.toArray [77, 70])), (ByteArray.mk (List.toArray [82, 65]))] x2))) (
      vitrineref16_Name_l2 p0 k2 (w64 (x2 + 1)))) (
     some (.inl ()))

def m_vitrineref16_Name (p0 : Int) : Option ByteArray :=
  jn (
   vitrineref16_Name_l2 p0 fuel 0) fun (d1 : Unit) =>
  some (ByteArray.mk (List.toArray []))

def m_vitrineref16_Is (p0 : Int) : Option Bool :=
  (
   cond (p0 != 0) (
    (m_vitrineref16_Name (w64 (p0))).bind fun (d2 : ByteArray) =>
    some (!(d2.data.toList == (ByteArray.mk (List.toArray [])).data.toList))) (
    some false)).bind fun (d1 : Bool) =>
  some d1

def vitrineref20_Bytes_l13 (p0 : Vvitrineref20_Report) (x5 : Int × (List Int)) : Nat → Int → Option ((Unit) ⊕ (((List Int)) ⊕ (((List Int)) ⊕ ((List Int) × Int))))
  | 0, _ => none
  | k13 + 1, x13 =>
    cond (decide (x13 < (((rd p0.Entries x5.1).Text).length : Int))) (
     gd ((0 : Int) ≤ x13 ∧ x13 < (((rd p0.Entries x5.1).Text).length : Int)) <|
     (m_vitrineref16_Is (rd ((rd p0.Entries x5.1).Text) x13)).bind fun (d16 : Bool) =>
     cond d16 (
      esc (
       esc (
        esc (
         some (([] : List Int), 10))))) (
      vitrineref20_Bytes_l13 p0 x5 k13 (w64 (x13 + 1)))) (
     some (.inl ()))

def vitrineref20_Bytes_l5 (p0 : Vvitrineref20_Report) : Nat → (Int × (List Int)) → Option (((List Int)) ⊕ ((List Int) × Int))
  | 0, _ => none
  | k5 + 1, x5 =>
    cond (decide (x5.1 < (p0.Entries.length : Int))) (
     jn (
      gd ((0 : Int) ≤ x5.1 ∧ x5.1 < (p0.Entries.length : Int)) <|
      (
       cond (decide ((p0.Entries.length : Int) > 1)) (
        some true) (
        cond (((rd p0.Entries x5.1).Addr) != 0) (
         some true) (
         some ((((rd p0.Entries x5.1).Text).length : Int) == 0)))).bind fun (d8 : Bool) =>
      jn (
       cond d8 (
        (m_vitrineref04_Encode 12 ((rd p0.Entries x5.1).Addr)).bind fun (d10 : (List Int) × Int) =>
        cond (d10.2 != 0) (
         esc (
          esc (
           esc (
            some (([] : List Int), d10.2))))) (
         gd (x5.2.length + [17].length ≤ 68719476736) <|
         gd ((x5.2 ++ [17]).length + d10.1.length ≤ 68719476736) <|
         some (.inl ((x5.2 ++ [17]) ++ d10.1)))) (
        some (.inl x5.2))) fun (d9 : (List Int)) =>
      jn (
       vitrineref20_Bytes_l13 p0 x5 fuel 0) fun (d12 : Unit) =>
      gd (d9.length + ((rd p0.Entries x5.1).Text).length ≤ 68719476736) <|
      some (.inl (d9 ++ (rd p0.Entries x5.1).Text))) fun (d7 : (List Int)) =>
     vitrineref20_Bytes_l5 p0 k5 (w64 (x5.1 + 1), d7)) (
     some (.inl x5.2))

def m_vitrineref20_Bytes (p0 : Vvitrineref20_Report) : Option ((List Int) × Int) :=
  cond p0.Short (
   some ([p0.AID], 0)) (
   (m_vitrineref04_Encode 12 p0.Cursor).bind fun (d2 : (List Int) × Int) =>
   cond (d2.2 != 0) (
    some (([] : List Int), d2.2)) (
    gd ([p0.AID].length + d2.1.length ≤ 68719476736) <|
    jn (
     vitrineref20_Bytes_l5 p0 fuel (0, ([p0.AID] ++ d2.1))) fun (d4 : (List Int)) =>
    some (d4, 0)))

def vitrineref20_Same_2_l4 (p0 : Vvitrineref20_Report) (p1 : Vvitrineref20_Report) : Nat → Int → Option ((Unit) ⊕ Bool)
  | 0, _ => none
  | k4 + 1, x4 =>
    cond (decide (x4 < (p0.Entries.length : Int))) (
     (
      gd ((0 : Int) ≤ x4 ∧ x4 < (p0.Entries.length : Int)) <|
      gd ((0 : Int) ≤ x4 ∧ x4 < (p1.Entries.length : Int)) <|
      cond (((rd p0.Entries x4).Addr) != ((rd p1.Entries x4).Addr)) (
       some true) (
       gd ((0 : Int) ≤ x4 ∧ x4 < (p0.Entries.length : Int)) <|
       gd ((0 : Int) ≤ x4 ∧ x4 < (p1.Entries.length : Int)) <|
       (m_vitrineref01_Same ((rd p0.Entries x4).Text) ((rd p1.Entries x4).Text)).bind fun (d8 : Bool) =>
       some (!d8))).bind fun (d7 : Bool) =>
     cond d7 (
      esc (
       some false)) (
      vitrineref20_Same_2_l4 p0 p1 k4 (w64 (x4 + 1)))) (
     some (.inl ()))

def m_vitrineref20_Same_2 (p0 : Vvitrineref20_Report) (p1 : Vvitrineref20_Report) : Option Bool :=
  (
   cond (p0.AID != p1.AID) (
    some true) (
    cond (!(p0.Short == p1.Short)) (
     some true) (
     cond (p0.Cursor != p1.Cursor) (
      some true) (
      some ((p0.Entries.length : Int) != (p1.Entries.length : Int)))))).bind fun (d1 : Bool) =>
  cond d1 (
   some false) (
   jn (
    vitrineref20_Same_2_l4 p0 p1 fuel 0) fun (d3 : Unit) =>
   some true)

def vitrinelaw20_EntryWrites_l4 (p0 : Vvitrineref20_Report) : Nat → (Int × (List Vvitrineref20_Entry)) → Option (List Vvitrineref20_Entry)
  | 0, _ => none
  | k4 + 1, x4 =>
    cond (decide (x4.1 < (p0.Entries.length : Int))) (
     gd ((0 : Int) ≤ x4.1 ∧ x4.1 < (p0.Entries.length : Int)) <|
     (
      cond (decide (x4.1 < 6)) (
       (m_vitrineref01_Cut ((rd p0.Entries x4.1).Text) 30).bind fun (d9 : (List Int)) =>
       gd (x4.2.length + [(⟨(rd p0.Entries x4.1).Addr, d9⟩ : Vvitrineref20_Entry)].length ≤ 68719476736) <|
       some (x4.2 ++ [(⟨(rd p0.Entries x4.1).Addr, d9⟩ : Vvitrineref20_Entry)])) (
       some x4.2)).bind fun (d7 : (List Vvitrineref20_Entry)) =>
     vitrinelaw20_EntryWrites_l4 p0 k4 (w64 (x4.1 + 1), d7)) (
     some x4.2)

def m_vitrinelaw20_EntryWrites (p0 : Vvitrineref20_Report) : Option Bool :=
  (m_vitrinelaw20_awake).bind fun (d1 : Bool) =>
  cond (!d1) (
   some false) (
   (
    vitrinelaw20_EntryWrites_l4 p0 fuel (0, ([] : List Vvitrineref20_Entry))).bind fun (d3 : (List Vvitrineref20_Entry)) =>
   (m_vitrinelaw20_own { p0 with Entries := d3 }).bind fun (d10 : Ventry_Report) =>
   (m_entry_Bytes d10).bind fun (d11 : (List Int) × Int) =>
   (m_vitrineref20_Bytes { p0 with Entries := d3 }).bind fun (d12 : (List Int) × Int) =>
   (
    (m_vitrineref01_Same d11.1 d12.1).bind fun (d14 : Bool) =>
    cond (!d14) (
     some true) (
     some (d11.2 != d12.2))).bind fun (d13 : Bool) =>
   cond d13 (
    some false) (
    cond (d11.2 != 0) (
     some true) (
     (m_entry_Parse d11.1).bind fun (d17 : Ventry_Report × Int) =>
     (
      cond p0.Short (
       some (0, ([] : List Vvitrineref20_Entry))) (
       some (p0.Cursor, d3))).bind fun (d18 : Int × (List Vvitrineref20_Entry)) =>
     (
      cond (d17.2 == 0) (
       (m_vitrinelaw20_back d17.1).bind fun (d20 : Vvitrineref20_Report) =>
       (m_vitrineref20_Same_2 (⟨d20.AID, d20.Short, d20.Cursor, d20.Entries⟩ : Vvitrineref20_Report) { p0 with Cursor := d18.1, Entries := d18.2 }).bind fun (d21 : Bool) =>
       some d21) (
       some false)).bind fun (d19 : Bool) =>
     some d19)))

def m_addr_Model (p0 : Int) : Option (Vaddr_Size × Int) :=
  cond (p0 == 2) (
   some ((⟨24, 80⟩ : Vaddr_Size), 0)) (
   cond (p0 == 3) (
    some ((⟨32, 80⟩ : Vaddr_Size), 0)) (
    cond (p0 == 4) (
     some ((⟨43, 80⟩ : Vaddr_Size), 0)) (
     cond (p0 == 5) (
      some ((⟨27, 132⟩ : Vaddr_Size), 0)) (
      some ((⟨0, 0⟩ : Vaddr_Size), 5)))))

def m_addr_Size_Valid (p0 : Vaddr_Size) : Option Bool :=
  (
   cond (decide (p0.Rows ≥ 1)) (
    cond (decide (p0.Rows ≤ 43)) (
     cond (decide (p0.Cols ≥ 1)) (
      cond (decide (p0.Cols ≤ 132)) (
       some (decide ((w64 (p0.Rows * p0.Cols)) ≤ 3564))) (
       some false)) (
      some false)) (
     some false)) (
    some false)).bind fun (d1 : Bool) =>
  some d1

def m_addr_Size_Cells (p0 : Vaddr_Size) : Option Int :=
  (m_addr_Size_Valid p0).bind fun (d1 : Bool) =>
  cond (!d1) (
   some 0) (
   some (w64 (p0.Rows * p0.Cols)))

def m_space_Space_Clear (p0 : Vspace_Space) (p1 : Bool) : Option Vspace_Space :=
  (
   cond p1 (
    some p0.model) (
    some 2)).bind fun (d1 : Int) =>
  (m_addr_Model d1).bind fun (d2 : Vaddr_Size × Int) =>
  (m_addr_Size_Cells d2.1).bind fun (d3 : Int) =>
  gd ((0 : Int) ≤ d3 ∧ d3 ≤ 68719476736) <|
  some (⟨p0.model, p1, d2.1, (List.replicate (Int.toNat d3) (⟨0, false, 0, 0, 0, 0⟩ : Vapi_Cell)), 0, 0⟩ : Vspace_Space)

def m_space_New (p0 : Int) : Option ((Int) ⊕ (Vspace_Space × Int)) :=
  (m_addr_Model p0).bind fun (d1 : Vaddr_Size × Int) =>
  cond (d1.2 != 0) (
   some (.inl d1.2)) (
   (m_space_Space_Clear (⟨p0, false, (⟨0, 0⟩ : Vaddr_Size), ([] : List Vapi_Cell), 0, 0⟩ : Vspace_Space) false).bind fun (d3 : Vspace_Space) =>
   some (.inr (d3, 0)))

def m_vitrineref04_Model (p0 : Int) : Option (Vvitrineref04_Size × Bool) :=
  (
   cond (decide (p0 < 2)) (
    some true) (
    some (decide (p0 > 5)))).bind fun (d1 : Bool) =>
  cond d1 (
   some ((⟨0, 0⟩ : Vvitrineref04_Size), false)) (
   gd ((0 : Int) ≤ (w64 (p0 - 2)) ∧ (w64 (p0 - 2)) < ([(⟨24, 80⟩ : Vvitrineref04_Size), (⟨32, 80⟩ : Vvitrineref04_Size), (⟨43, 80⟩ : Vvitrineref04_Size), (⟨27, 132⟩ : Vvitrineref04_Size)].length : Int)) <|
   some ((rd [(⟨24, 80⟩ : Vvitrineref04_Size), (⟨32, 80⟩ : Vvitrineref04_Size), (⟨43, 80⟩ : Vvitrineref04_Size), (⟨27, 132⟩ : Vvitrineref04_Size)] (w64 (p0 - 2))), true))

def m_vitrineref04_Valid (p0 : Vvitrineref04_Size) : Option Bool :=
  (
   cond (decide (p0.Rows ≥ 1)) (
    cond (decide (p0.Rows ≤ 43)) (
     cond (decide (p0.Cols ≥ 1)) (
      cond (decide (p0.Cols ≤ 132)) (
       some (decide ((w64 (p0.Rows * p0.Cols)) ≤ 3564))) (
       some false)) (
      some false)) (
     some false)) (
    some false)).bind fun (d1 : Bool) =>
  some d1

def m_vitrineref04_Cells (p0 : Vvitrineref04_Size) : Option Int :=
  (m_vitrineref04_Valid p0).bind fun (d1 : Bool) =>
  cond (!d1) (
   some 0) (
   some (w64 (p0.Rows * p0.Cols)))

def m_vitrineref12_Clear (p0 : Vvitrineref12_Space) (p1 : Bool) : Option Vvitrineref12_Space :=
  (m_vitrineref04_Model 2).bind fun (d1 : Vvitrineref04_Size × Bool) =>
  (
   cond p1 (
    (m_vitrineref04_Model p0.Model).bind fun (d3 : Vvitrineref04_Size × Bool) =>
    some (d3.1.Rows, d3.1.Cols)) (
    some (d1.1.Rows, d1.1.Cols))).bind fun (d2 : Int × Int) =>
  (m_vitrineref04_Cells (⟨d2.1, d2.2⟩ : Vvitrineref04_Size)).bind fun (d4 : Int) =>
  gd ((0 : Int) ≤ d4 ∧ d4 ≤ 68719476736) <|
  some (⟨p0.Model, p1, (⟨d2.1, d2.2⟩ : Vvitrineref04_Size), (List.replicate (Int.toNat d4) (⟨0, false, 0, 0, 0, 0⟩ : Vapi_Cell)), 0⟩ : Vvitrineref12_Space)

def m_vitrineref12_New (p0 : Int) : Option ((Unit) ⊕ (Vvitrineref12_Space)) :=
  (m_vitrineref04_Model p0).bind fun (d1 : Vvitrineref04_Size × Bool) =>
  cond (!d1.2) (
   some (.inl ())) (
   (m_vitrineref12_Clear (⟨p0, false, (⟨0, 0⟩ : Vvitrineref04_Size), ([] : List Vapi_Cell), 0⟩ : Vvitrineref12_Space) false).bind fun (d3 : Vvitrineref12_Space) =>
   some (.inr d3))

def m_vitrineref12_Clear_2 (p0 : Vvitrineref12_Space) (p1 : Bool) : Option Vvitrineref12_Space :=
  (m_vitrineref04_Model 2).bind fun (d1 : Vvitrineref04_Size × Bool) =>
  (
   cond p1 (
    (m_vitrineref04_Model p0.Model).bind fun (d3 : Vvitrineref04_Size × Bool) =>
    some (d3.1.Rows, d3.1.Cols)) (
    some (d1.1.Rows, d1.1.Cols))).bind fun (d2 : Int × Int) =>
  (m_vitrineref04_Cells (⟨d2.1, d2.2⟩ : Vvitrineref04_Size)).bind fun (d4 : Int) =>
  gd ((0 : Int) ≤ d4 ∧ d4 ≤ 68719476736) <|
  some (⟨p0.Model, p1, (⟨d2.1, d2.2⟩ : Vvitrineref04_Size), (List.replicate (Int.toNat d4) (⟨0, false, 0, 0, 0, 0⟩ : Vapi_Cell)), 0⟩ : Vvitrineref12_Space)

def m_vitrineref04_Wrap (p0 : Vvitrineref04_Size) (p1 : Int) : Option Int :=
  (m_vitrineref04_Cells p0).bind fun (d1 : Int) =>
  (m_vitrineref04_Mod p1 d1).bind fun (d2 : Int) =>
  some d2

def m_vitrineref12_Wrap (p0 : Vvitrineref12_Space) (p1 : Int) : Option Int :=
  (m_vitrineref04_Wrap p0.Size p1).bind fun (d1 : Int) =>
  some d1

def m_vitrineref12_At (p0 : Vvitrineref12_Space) (p1 : Int) : Option Vapi_Cell :=
  (m_vitrineref12_Wrap p0 p1).bind fun (d2 : Int) =>
  gd ((0 : Int) ≤ d2 ∧ d2 < (p0.L.length : Int)) <|
  some (rd p0.L d2)

def m_vitrineref05_Of (p0 : Int) : Option Vvitrineref05_Field :=
  some (⟨(decide ((Int.tmod (w64 (p0)) 64) ≥ 32)), ((Int.tmod (w64 (Int.tdiv (Int.tmod (w64 (p0)) 64) 16)) 2) == 1), Int.tmod (w64 (Int.tdiv (Int.tmod (w64 (p0)) 64) 4)) 4, ((Int.tmod (Int.tmod (w64 (p0)) 64) 2) == 1)⟩ : Vvitrineref05_Field)

def m_vitrineref05_Bits (p0 : Vvitrineref05_Field) : Option (Int × Int) :=
  (
   cond (decide (p0.Display < 0)) (
    some true) (
    some (decide (p0.Display > 3)))).bind fun (d1 : Bool) =>
  cond d1 (
   some (0, 1)) (
   (
    cond p0.Protected (
     some (w64 ((w64 (4 * p0.Display)) + 32))) (
     some (w64 (4 * p0.Display)))).bind fun (d3 : Int) =>
   (
    cond p0.Numeric (
     some (w64 (d3 + 16))) (
     some d3)).bind fun (d4 : Int) =>
   (
    cond p0.Modified (
     some (w64 (d4 + 1))) (
     some d4)).bind fun (d5 : Int) =>
   some (IntKind.wrap .u8 (d5), 0))

def m_vitrineref05_Six (p0 : Int) : Option Int :=
  (m_vitrineref05_Of p0).bind fun (d1 : Vvitrineref05_Field) =>
  (m_vitrineref05_Bits d1).bind fun (d2 : Int × Int) =>
  some d2.1

def m_vitrineref12_Fit (p0 : Vapi_Cell) : Option Vapi_Cell :=
  (
   cond p0.Attr (
    (m_vitrineref05_Six p0.FA).bind fun (d2 : Int) =>
    some (0, d2)) (
    some (p0.Char, 0))).bind fun (d1 : Int × Int) =>
  some (⟨d1.1, p0.Attr, d1.2, p0.High, p0.Color, p0.f_Set⟩ : Vapi_Cell)

def m_vitrineref12_Set (p0 : Vvitrineref12_Space) (p1 : Int) (p2 : Vapi_Cell) : Option Vvitrineref12_Space :=
  (m_vitrineref12_Wrap p0 p1).bind fun (d1 : Int) =>
  (m_vitrineref12_Fit p2).bind fun (d2 : Vapi_Cell) =>
  gd ((0 : Int) ≤ d1 ∧ d1 < (p0.L.length : Int)) <|
  some (⟨p0.Model, p0.Alt, p0.Size, (List.set p0.L (Int.toNat d1) d2), p0.Cursor⟩ : Vvitrineref12_Space)

def m_vitrineref12_Put (p0 : Vvitrineref12_Space) (p1 : Int) (p2 : Int) : Option Vvitrineref12_Space :=
  (m_vitrineref12_At p0 p1).bind fun (d1 : Vapi_Cell) =>
  cond (!d1.Attr) (
   (m_vitrineref12_Set (⟨p0.Model, p0.Alt, p0.Size, p0.L, p0.Cursor⟩ : Vvitrineref12_Space) p1 (⟨p2, d1.Attr, d1.FA, d1.High, d1.Color, d1.f_Set⟩ : Vapi_Cell)).bind fun (d2 : Vvitrineref12_Space) =>
   some d2) (
   some (⟨p0.Model, p0.Alt, p0.Size, p0.L, p0.Cursor⟩ : Vvitrineref12_Space))

def vitrineref12_Do_l9 (p1 : Vvitrineref12_Act) : Nat → (Int × Int × Bool × Int × Int × (List Vapi_Cell) × Int) → Option (Int × Bool × Int × Int × (List Vapi_Cell) × Int)
  | 0, _ => none
  | k9 + 1, x9 =>
    cond (decide (x9.1 < (p1.Text.length : Int))) (
     gd ((0 : Int) ≤ x9.1 ∧ x9.1 < (p1.Text.length : Int)) <|
     (
      cond (decide (x9.1 < 200)) (
       (m_vitrineref12_Wrap (⟨x9.2.1, x9.2.2.1, (⟨x9.2.2.2.1, x9.2.2.2.2.1⟩ : Vvitrineref04_Size), x9.2.2.2.2.2.1, x9.2.2.2.2.2.2⟩ : Vvitrineref12_Space) p1.N).bind fun (d13 : Int) =>
       (m_vitrineref12_Put (⟨x9.2.1, x9.2.2.1, (⟨x9.2.2.2.1, x9.2.2.2.2.1⟩ : Vvitrineref04_Size), x9.2.2.2.2.2.1, x9.2.2.2.2.2.2⟩ : Vvitrineref12_Space) (w64 (d13 + x9.1)) (rd p1.Text x9.1)).bind fun (d14 : Vvitrineref12_Space) =>
       some (d14.Model, d14.Alt, d14.Size.Rows, d14.Size.Cols, d14.L, d14.Cursor)) (
       some (x9.2.1, x9.2.2.1, x9.2.2.2.1, x9.2.2.2.2.1, x9.2.2.2.2.2.1, x9.2.2.2.2.2.2))).bind fun (d12 : Int × Bool × Int × Int × (List Vapi_Cell) × Int) =>
     vitrineref12_Do_l9 p1 k9 (w64 (x9.1 + 1), d12.1, d12.2.1, d12.2.2.1, d12.2.2.2.1, d12.2.2.2.2.1, d12.2.2.2.2.2)) (
     some (x9.2.1, x9.2.2.1, x9.2.2.2.1, x9.2.2.2.2.1, x9.2.2.2.2.2.1, x9.2.2.2.2.2.2))

def m_vitrineref12_Do (p0 : Vvitrineref12_Space) (p1 : Vvitrineref12_Act) : Option Vvitrineref12_Space :=
  (
   (
    cond ((Int.tmod p1.Do 6) == 0) (
     (m_vitrineref12_Clear_2 p0 p1.On).bind fun (d3 : Vvitrineref12_Space) =>
     some (d3.Model, d3.Alt, d3.Size.Rows, d3.Size.Cols, d3.L, d3.Cursor)) (
     cond ((Int.tmod p1.Do 6) == 1) (
      (m_vitrineref12_Wrap (⟨p0.Model, p0.Alt, p0.Size, p0.L, p0.Cursor⟩ : Vvitrineref12_Space) p1.N).bind fun (d4 : Int) =>
      some (p0.Model, p0.Alt, p0.Size.Rows, p0.Size.Cols, p0.L, d4)) (
      cond ((Int.tmod p1.Do 6) == 2) (
       (m_vitrineref12_Put (⟨p0.Model, p0.Alt, p0.Size, p0.L, p0.Cursor⟩ : Vvitrineref12_Space) p1.N p1.Code).bind fun (d5 : Vvitrineref12_Space) =>
       some (d5.Model, d5.Alt, d5.Size.Rows, d5.Size.Cols, d5.L, d5.Cursor)) (
       cond ((Int.tmod p1.Do 6) == 3) (
        (m_vitrineref12_Set (⟨p0.Model, p0.Alt, p0.Size, p0.L, p0.Cursor⟩ : Vvitrineref12_Space) p1.N (⟨0, true, p1.Code, 0, 0, 0⟩ : Vapi_Cell)).bind fun (d6 : Vvitrineref12_Space) =>
        some (d6.Model, d6.Alt, d6.Size.Rows, d6.Size.Cols, d6.L, d6.Cursor)) (
        cond ((Int.tmod p1.Do 6) == 4) (
         (m_vitrineref12_Set (⟨p0.Model, p0.Alt, p0.Size, p0.L, p0.Cursor⟩ : Vvitrineref12_Space) p1.N p1.C).bind fun (d7 : Vvitrineref12_Space) =>
         some (d7.Model, d7.Alt, d7.Size.Rows, d7.Size.Cols, d7.L, d7.Cursor)) (
         (
          vitrineref12_Do_l9 p1 fuel (0, p0.Model, p0.Alt, p0.Size.Rows, p0.Size.Cols, p0.L, p0.Cursor)).bind fun (d8 : Int × Bool × Int × Int × (List Vapi_Cell) × Int) =>
         some (d8.1, d8.2.1, d8.2.2.1, d8.2.2.2.1, d8.2.2.2.2.1, d8.2.2.2.2.2))))))).bind fun (d2 : Int × Bool × Int × Int × (List Vapi_Cell) × Int) =>
   some (d2.1, d2.2.1, d2.2.2.1, d2.2.2.2.1, d2.2.2.2.2.1, d2.2.2.2.2.2)).bind fun (d1 : Int × Bool × Int × Int × (List Vapi_Cell) × Int) =>
  some (⟨d1.1, d1.2.1, (⟨d1.2.2.1, d1.2.2.2.1⟩ : Vvitrineref04_Size), d1.2.2.2.2.1, d1.2.2.2.2.2⟩ : Vvitrineref12_Space)

def m_space_Space_Clear_2 (p0 : Vspace_Space) (p1 : Bool) : Option Vspace_Space :=
  (
   cond p1 (
    some p0.model) (
    some 2)).bind fun (d1 : Int) =>
  (m_addr_Model d1).bind fun (d2 : Vaddr_Size × Int) =>
  (m_addr_Size_Cells (⟨d2.1.Rows, d2.1.Cols⟩ : Vaddr_Size)).bind fun (d3 : Int) =>
  gd ((0 : Int) ≤ d3 ∧ d3 ≤ 68719476736) <|
  some (⟨p0.model, p1, (⟨d2.1.Rows, d2.1.Cols⟩ : Vaddr_Size), (List.replicate (Int.toNat d3) (⟨0, false, 0, 0, 0, 0⟩ : Vapi_Cell)), 0, 0⟩ : Vspace_Space)

def m_addr_rest (p0 : Int) (p1 : Int) : Option Int :=
  gd (p1 ≠ 0) <|
  (
   cond (decide ((Int.tmod p0 p1) < 0)) (
    some (w64 ((Int.tmod p0 p1) + p1))) (
    some (Int.tmod p0 p1))).bind fun (d1 : Int) =>
  some d1

def m_addr_Size_Wrap (p0 : Vaddr_Size) (p1 : Int) : Option Int :=
  (m_addr_Size_Valid p0).bind fun (d1 : Bool) =>
  cond (!d1) (
   some 0) (
   (m_addr_Size_Cells p0).bind fun (d3 : Int) =>
   (m_addr_rest p1 d3).bind fun (d4 : Int) =>
   some d4)

def m_space_count (p0 : Vapi_Cell) : Option Int :=
  cond p0.Attr (
   some 1) (
   some 0)

def m_space_Space_Set (p0 : Vspace_Space) (p1 : Int) (p2 : Vapi_Cell) : Option Vspace_Space :=
  (
   cond p2.Attr (
    some (0, iband .u8 p2.FA 61)) (
    some (p2.Char, 0))).bind fun (d1 : Int × Int) =>
  (m_addr_Size_Wrap p0.size p1).bind fun (d2 : Int) =>
  gd ((0 : Int) ≤ d2 ∧ d2 < (p0.cells.length : Int)) <|
  (m_space_count { p2 with Char := d1.1, FA := d1.2 }).bind fun (d4 : Int) =>
  (m_space_count (rd p0.cells d2)).bind fun (d5 : Int) =>
  gd ((0 : Int) ≤ d2 ∧ d2 < (p0.cells.length : Int)) <|
  some (⟨p0.model, p0.alternate, p0.size, (List.set p0.cells (Int.toNat d2) { p2 with Char := d1.1, FA := d1.2 }), p0.cursor, w64 (p0.attrs + (w64 (d4 - d5)))⟩ : Vspace_Space)

def m_space_Space_Place (p0 : Vspace_Space) (p1 : Int) : Option Vspace_Space :=
  (m_addr_Size_Wrap p0.size p1).bind fun (d1 : Int) =>
  some { p0 with cursor := d1 }

def vitrinelaw19_lay_l6 (p1 : List Vvitrineref12_Act) : Nat → (Int × Int × Bool × Int × Int × (List Vapi_Cell) × Int × Int × Bool × Int × Int × (List Vapi_Cell) × Int × Int) → Option (Int × Bool × Int × Int × (List Vapi_Cell) × Int × Int × Bool × Int × Int × (List Vapi_Cell) × Int × Int)
  | 0, _ => none
  | k6 + 1, x6 =>
    cond (decide (x6.1 < (p1.length : Int))) (
     gd ((0 : Int) ≤ x6.1 ∧ x6.1 < (p1.length : Int)) <|
     (
      cond (decide (x6.1 < 30)) (
       (m_vitrineref12_Do (⟨x6.2.1, x6.2.2.1, (⟨x6.2.2.2.1, x6.2.2.2.2.1⟩ : Vvitrineref04_Size), x6.2.2.2.2.2.1, x6.2.2.2.2.2.2.1⟩ : Vvitrineref12_Space) { (rd p1 x6.1) with C := ((rd p1 x6.1).C) }).bind fun (d10 : Vvitrineref12_Space) =>
       some (d10.Model, d10.Alt, d10.Size.Rows, d10.Size.Cols, d10.L, d10.Cursor)) (
       some (x6.2.1, x6.2.2.1, x6.2.2.2.1, x6.2.2.2.2.1, x6.2.2.2.2.2.1, x6.2.2.2.2.2.2.1))).bind fun (d9 : Int × Bool × Int × Int × (List Vapi_Cell) × Int) =>
     vitrinelaw19_lay_l6 p1 k6 (w64 (x6.1 + 1), d9.1, d9.2.1, d9.2.2.1, d9.2.2.2.1, d9.2.2.2.2.1, d9.2.2.2.2.2, x6.2.2.2.2.2.2.2.1, x6.2.2.2.2.2.2.2.2.1, x6.2.2.2.2.2.2.2.2.2.1, x6.2.2.2.2.2.2.2.2.2.2.1, x6.2.2.2.2.2.2.2.2.2.2.2.1, x6.2.2.2.2.2.2.2.2.2.2.2.2.1, x6.2.2.2.2.2.2.2.2.2.2.2.2.2)) (
     some (x6.2.1, x6.2.2.1, x6.2.2.2.1, x6.2.2.2.2.1, x6.2.2.2.2.2.1, x6.2.2.2.2.2.2.1, x6.2.2.2.2.2.2.2.1, x6.2.2.2.2.2.2.2.2.1, x6.2.2.2.2.2.2.2.2.2.1, x6.2.2.2.2.2.2.2.2.2.2.1, x6.2.2.2.2.2.2.2.2.2.2.2.1, x6.2.2.2.2.2.2.2.2.2.2.2.2.1, x6.2.2.2.2.2.2.2.2.2.2.2.2.2))

def vitrinelaw19_lay_l14 (d5 : Int × Bool × Int × Int × (List Vapi_Cell) × Int × Int × Bool × Int × Int × (List Vapi_Cell) × Int × Int) : Nat → (Int × Int × Bool × Int × Int × (List Vapi_Cell) × Int × Int) → Option (Int × Bool × Int × Int × (List Vapi_Cell) × Int × Int)
  | 0, _ => none
  | k14 + 1, x14 =>
    cond (decide (x14.1 < (d5.2.2.2.2.1.length : Int))) (
     gd ((0 : Int) ≤ x14.1 ∧ x14.1 < (d5.2.2.2.2.1.length : Int)) <|
     (
      cond (!((((rd d5.2.2.2.2.1 x14.1).Char) == 0) && ((((rd d5.2.2.2.2.1 x14.1).Attr) == false) && ((((rd d5.2.2.2.2.1 x14.1).FA) == 0) && ((((rd d5.2.2.2.2.1 x14.1).High) == 0) && ((((rd d5.2.2.2.2.1 x14.1).Color) == 0) && ((((rd d5.2.2.2.2.1 x14.1).f_Set) == 0) && true))))))) (
       (m_space_Space_Set (⟨x14.2.1, x14.2.2.1, (⟨x14.2.2.2.1, x14.2.2.2.2.1⟩ : Vaddr_Size), x14.2.2.2.2.2.1, x14.2.2.2.2.2.2.1, x14.2.2.2.2.2.2.2⟩ : Vspace_Space) x14.1 (rd d5.2.2.2.2.1 x14.1)).bind fun (d18 : Vspace_Space) =>
       some (d18.model, d18.alternate, d18.size.Rows, d18.size.Cols, d18.cells, d18.cursor, d18.attrs)) (
       some (x14.2.1, x14.2.2.1, x14.2.2.2.1, x14.2.2.2.2.1, x14.2.2.2.2.2.1, x14.2.2.2.2.2.2.1, x14.2.2.2.2.2.2.2))).bind fun (d17 : Int × Bool × Int × Int × (List Vapi_Cell) × Int × Int) =>
     vitrinelaw19_lay_l14 d5 k14 (w64 (x14.1 + 1), d17.1, d17.2.1, d17.2.2.1, d17.2.2.2.1, d17.2.2.2.2.1, d17.2.2.2.2.2.1, d17.2.2.2.2.2.2)) (
     some (x14.2.1, x14.2.2.1, x14.2.2.2.1, x14.2.2.2.2.1, x14.2.2.2.2.2.1, x14.2.2.2.2.2.2.1, x14.2.2.2.2.2.2.2))

def m_vitrinelaw19_lay (p0 : Int) (p1 : List Vvitrineref12_Act) : Option (Vspace_Space × Vvitrineref12_Space) :=
  (m_space_New (w64 (2 + (w64 (Int.tmod p0 4))))).bind fun (d2 : (Int) ⊕ (Vspace_Space × Int)) => match d2 with
  | .inl d2 => (
   none)
  | .inr d2 => (
   (m_vitrineref12_New (w64 (2 + (w64 (Int.tmod p0 4))))).bind fun (d4 : (Unit) ⊕ (Vvitrineref12_Space)) => match d4 with
   | .inl d4 => (
    none)
   | .inr d4 => (
    (
     vitrinelaw19_lay_l6 p1 fuel (0, d4.Model, d4.Alt, d4.Size.Rows, d4.Size.Cols, d4.L, d4.Cursor, d2.1.model, d2.1.alternate, d2.1.size.Rows, d2.1.size.Cols, d2.1.cells, d2.1.cursor, d2.1.attrs)).bind fun (d5 : Int × Bool × Int × Int × (List Vapi_Cell) × Int × Int × Bool × Int × Int × (List Vapi_Cell) × Int × Int) =>
    (
     cond d5.2.1 (
      (m_space_Space_Clear_2 (⟨d5.2.2.2.2.2.2.1, d5.2.2.2.2.2.2.2.1, (⟨d5.2.2.2.2.2.2.2.2.1, d5.2.2.2.2.2.2.2.2.2.1⟩ : Vaddr_Size), d5.2.2.2.2.2.2.2.2.2.2.1, d5.2.2.2.2.2.2.2.2.2.2.2.1, d5.2.2.2.2.2.2.2.2.2.2.2.2⟩ : Vspace_Space) true).bind fun (d12 : Vspace_Space) =>
      some (d12.model, d12.alternate, d12.size.Rows, d12.size.Cols, d12.cells, d12.cursor, d12.attrs)) (
      some (d5.2.2.2.2.2.2.1, d5.2.2.2.2.2.2.2.1, d5.2.2.2.2.2.2.2.2.1, d5.2.2.2.2.2.2.2.2.2.1, d5.2.2.2.2.2.2.2.2.2.2.1, d5.2.2.2.2.2.2.2.2.2.2.2.1, d5.2.2.2.2.2.2.2.2.2.2.2.2))).bind fun (d11 : Int × Bool × Int × Int × (List Vapi_Cell) × Int × Int) =>
    (
     vitrinelaw19_lay_l14 d5 fuel (0, d11.1, d11.2.1, d11.2.2.1, d11.2.2.2.1, d11.2.2.2.2.1, d11.2.2.2.2.2.1, d11.2.2.2.2.2.2)).bind fun (d13 : Int × Bool × Int × Int × (List Vapi_Cell) × Int × Int) =>
    (m_space_Space_Place (⟨d13.1, d13.2.1, (⟨d13.2.2.1, d13.2.2.2.1⟩ : Vaddr_Size), d13.2.2.2.2.1, d13.2.2.2.2.2.1, d13.2.2.2.2.2.2⟩ : Vspace_Space) d5.2.2.2.2.2.1).bind fun (d19 : Vspace_Space) =>
    some (d19, (⟨d5.1, d5.2.1, (⟨d5.2.2.1, d5.2.2.2.1⟩ : Vvitrineref04_Size), d5.2.2.2.2.1, d5.2.2.2.2.2.1⟩ : Vvitrineref12_Space))))

def keys_place_l2 (p0 : ByteArray) (p1 : Int) : Nat → Int → Option ((Unit) ⊕ Int)
  | 0, _ => none
  | k2 + 1, x2 =>
    cond (decide (x2 < (p0.size : Int))) (
     gd ((0 : Int) ≤ x2 ∧ x2 < (p0.size : Int)) <|
     cond ((sbyte p0 x2) == p1) (
      esc (
       some (w64 (x2 + 1)))) (
      keys_place_l2 p0 p1 k2 (w64 (x2 + 1)))) (
     some (.inl ()))

def m_keys_place (p0 : ByteArray) (p1 : Int) : Option Int :=
  jn (
   keys_place_l2 p0 p1 fuel 0) fun (d1 : Unit) =>
  some 0

def m_keys_Short (p0 : Int) : Option Bool :=
  (
   cond (p0 == 109) (
    some true) (
    (m_keys_place (ByteArray.mk (List.toArray [108, 110, 107])) p0).bind fun (d2 : Int) =>
    some (decide (d2 > 0)))).bind fun (d1 : Bool) =>
  some d1

def m_space_Space_Cursor (p0 : Vspace_Space) : Option Int :=
  some p0.cursor

def m_read_sender_addr (p0 : Vread_sender) (p1 : Int) : Option Vread_sender :=
  (m_addr_Encode 12 p1).bind fun (d1 : (List Int) × Int) =>
  cond (d1.2 == 0) (
   gd (p0.out.length + d1.1.length ≤ 68719476736) <|
   some { p0 with out := (p0.out ++ d1.1) }) (
   some p0)

def m_read_begin (p0 : Vspace_Space) (p1 : Int) (p2 : Int) (p3 : Bool) : Option ((Int) ⊕ (Vread_sender × Int)) :=
  (
   cond (decide (p2 < 0)) (
    some true) (
    some (decide (p2 > 2)))).bind fun (d2 : Bool) =>
  cond d2 (
   some (.inl 1)) (
   (
    cond (!p3) (
     (m_space_Space_Cursor p0).bind fun (d5 : Int) =>
     (m_read_sender_addr (⟨[p1], (⟨0, false, 0, 0, 0, 0⟩ : Vapi_Cell), p2⟩ : Vread_sender) d5).bind fun (d6 : Vread_sender) =>
     some (d6.out, d6.last.Char, d6.last.Attr, d6.last.FA, d6.last.High, d6.last.Color, d6.last.f_Set, d6.mode)) (
     some ([p1], 0, false, 0, 0, 0, 0, p2))).bind fun (d4 : (List Int) × Int × Bool × Int × Int × Int × Int × Int) =>
   some (.inr ((⟨d4.1, (⟨d4.2.1, d4.2.2.1, d4.2.2.2.1, d4.2.2.2.2.1, d4.2.2.2.2.2.1, d4.2.2.2.2.2.2.1⟩ : Vapi_Cell), d4.2.2.2.2.2.2.2⟩ : Vread_sender), 0)))

def m_read_bytesOf (p0 : Vread_sender) : Option (Vread_sender × (List Int)) :=
  some (p0, p0.out)

def m_space_Space_Formatted (p0 : Vspace_Space) : Option Bool :=
  some (decide (p0.attrs > 0))

def m_space_Space_All (p0 : Vspace_Space) : Option Unit :=
  some ()

def m_space_Space_Size (p0 : Vspace_Space) : Option Vaddr_Size :=
  some p0.size

def m_space_Space_At (p0 : Vspace_Space) (p1 : Int) : Option Vapi_Cell :=
  (m_addr_Size_Wrap p0.size p1).bind fun (d2 : Int) =>
  gd ((0 : Int) ≤ d2 ∧ d2 < (p0.cells.length : Int)) <|
  some (rd p0.cells d2)

def m_attr_looks (p0 : Vapi_Cell) : Option (Vattr_Pair × Vattr_Pair × Vattr_Pair) :=
  some ((⟨65, p0.High⟩ : Vattr_Pair), (⟨66, p0.Color⟩ : Vattr_Pair), (⟨67, p0.f_Set⟩ : Vattr_Pair))

def attr_Diff_l6 (d1 : Int × Int × Int × Int × Int × Int × Int × Int × Int × Int × Int × Int) : Nat → (Int × (List Vattr_Pair)) → Option (List Vattr_Pair)
  | 0, _ => none
  | k6 + 1, x6 =>
    cond (decide (x6.1 < 3)) (
     gd ((0 : Int) ≤ x6.1 ∧ x6.1 < (3 : Int)) <|
     gd ((0 : Int) ≤ x6.1 ∧ x6.1 < (3 : Int)) <|
     (
      cond (!((((rd [(⟨d1.2.2.2.2.2.2.1, d1.2.2.2.2.2.2.2.1⟩ : Vattr_Pair), (⟨d1.2.2.2.2.2.2.2.2.1, d1.2.2.2.2.2.2.2.2.2.1⟩ : Vattr_Pair), (⟨d1.2.2.2.2.2.2.2.2.2.2.1, d1.2.2.2.2.2.2.2.2.2.2.2⟩ : Vattr_Pair)] x6.1).f_Type) == ((rd [(⟨d1.1, d1.2.1⟩ : Vattr_Pair), (⟨d1.2.2.1, d1.2.2.2.1⟩ : Vattr_Pair), (⟨d1.2.2.2.2.1, d1.2.2.2.2.2.1⟩ : Vattr_Pair)] x6.1).f_Type)) && ((((rd [(⟨d1.2.2.2.2.2.2.1, d1.2.2.2.2.2.2.2.1⟩ : Vattr_Pair), (⟨d1.2.2.2.2.2.2.2.2.1, d1.2.2.2.2.2.2.2.2.2.1⟩ : Vattr_Pair), (⟨d1.2.2.2.2.2.2.2.2.2.2.1, d1.2.2.2.2.2.2.2.2.2.2.2⟩ : Vattr_Pair)] x6.1).Value) == ((rd [(⟨d1.1, d1.2.1⟩ : Vattr_Pair), (⟨d1.2.2.1, d1.2.2.2.1⟩ : Vattr_Pair), (⟨d1.2.2.2.2.1, d1.2.2.2.2.2.1⟩ : Vattr_Pair)] x6.1).Value)) && true))) (
       gd (x6.2.length + [(rd [(⟨d1.1, d1.2.1⟩ : Vattr_Pair), (⟨d1.2.2.1, d1.2.2.2.1⟩ : Vattr_Pair), (⟨d1.2.2.2.2.1, d1.2.2.2.2.2.1⟩ : Vattr_Pair)] x6.1)].length ≤ 68719476736) <|
       some (x6.2 ++ [(rd [(⟨d1.1, d1.2.1⟩ : Vattr_Pair), (⟨d1.2.2.1, d1.2.2.2.1⟩ : Vattr_Pair), (⟨d1.2.2.2.2.1, d1.2.2.2.2.2.1⟩ : Vattr_Pair)] x6.1)])) (
       some x6.2)).bind fun (d10 : (List Vattr_Pair)) =>
     attr_Diff_l6 d1 k6 (w64 (x6.1 + 1), d10)) (
     some x6.2)

def m_attr_Diff (p0 : Vapi_Cell) (p1 : Vapi_Cell) : Option (List Vattr_Pair) :=
  (
   (m_attr_looks p0).bind fun (d2 : (Vattr_Pair × Vattr_Pair × Vattr_Pair)) =>
   (m_attr_looks p1).bind fun (d3 : (Vattr_Pair × Vattr_Pair × Vattr_Pair)) =>
   some (d3.1.f_Type, d3.1.Value, d3.2.1.f_Type, d3.2.1.Value, d3.2.2.f_Type, d3.2.2.Value, d2.1.f_Type, d2.1.Value, d2.2.1.f_Type, d2.2.1.Value, d2.2.2.f_Type, d2.2.2.Value)).bind fun (d1 : Int × Int × Int × Int × Int × Int × Int × Int × Int × Int × Int × Int) =>
  cond (((d1.2.2.2.2.2.2.1 == d1.1) && ((d1.2.2.2.2.2.2.2.1 == d1.2.1) && true)) && (((d1.2.2.2.2.2.2.2.2.1 == d1.2.2.1) && ((d1.2.2.2.2.2.2.2.2.2.1 == d1.2.2.2.1) && true)) && (((d1.2.2.2.2.2.2.2.2.2.2.1 == d1.2.2.2.2.1) && ((d1.2.2.2.2.2.2.2.2.2.2.2 == d1.2.2.2.2.2.1) && true)) && true))) (
   some ([] : List Vattr_Pair)) (
   (
    attr_Diff_l6 d1 fuel (0, ([] : List Vattr_Pair))).bind fun (d5 : (List Vattr_Pair)) =>
   some d5)

def read_sender_character_l6 (d4 : (List Vattr_Pair)) : Nat → (Int × (List Int)) → Option (List Int)
  | 0, _ => none
  | k6 + 1, x6 =>
    cond (decide (x6.1 < (d4.length : Int))) (
     gd ((0 : Int) ≤ x6.1 ∧ x6.1 < (d4.length : Int)) <|
     gd (x6.2.length + [40, (rd d4 x6.1).f_Type, (rd d4 x6.1).Value].length ≤ 68719476736) <|
     read_sender_character_l6 d4 k6 (w64 (x6.1 + 1), (x6.2 ++ [40, (rd d4 x6.1).f_Type, (rd d4 x6.1).Value]))) (
     some x6.2)

def m_read_sender_character (p0 : Vread_sender) (p1 : Vapi_Cell) : Option Vread_sender :=
  (
   (
    cond (p0.mode == 2) (
     (m_attr_Diff p0.last p1).bind fun (d4 : (List Vattr_Pair)) =>
     (
      read_sender_character_l6 d4 fuel (0, p0.out)).bind fun (d5 : (List Int)) =>
     some (d5, p1.Char, p1.Attr, p1.FA, p1.High, p1.Color, p1.f_Set)) (
     cond (p1.f_Set == 241) (
      gd (p0.out.length + [8].length ≤ 68719476736) <|
      some ((p0.out ++ [8]), p0.last.Char, p0.last.Attr, p0.last.FA, p0.last.High, p0.last.Color, p0.last.f_Set)) (
      some (p0.out, p0.last.Char, p0.last.Attr, p0.last.FA, p0.last.High, p0.last.Color, p0.last.f_Set)))).bind fun (d2 : (List Int) × Int × Bool × Int × Int × Int × Int) =>
   some (d2.1, d2.2.1, d2.2.2.1, d2.2.2.2.1, d2.2.2.2.2.1, d2.2.2.2.2.2.1, d2.2.2.2.2.2.2)).bind fun (d1 : (List Int) × Int × Bool × Int × Int × Int × Int) =>
  (m_order_Is p1.Char).bind fun (d10 : Bool) =>
  (
   cond d10 (
    some 63) (
    some p1.Char)).bind fun (d11 : Int) =>
  gd (d1.1.length + [d11].length ≤ 68719476736) <|
  some (⟨(d1.1 ++ [d11]), (⟨d1.2.1, d1.2.2.1, d1.2.2.2.1, d1.2.2.2.2.1, d1.2.2.2.2.2.1, d1.2.2.2.2.2.2⟩ : Vapi_Cell), p0.mode⟩ : Vread_sender)

def m_read_sender_some (p0 : Vread_sender) (p1 : Vapi_Cell) : Option Vread_sender :=
  cond (p1.Char != 0) (
   (m_read_sender_character (⟨p0.out, p0.last, p0.mode⟩ : Vread_sender) p1).bind fun (d1 : Vread_sender) =>
   some d1) (
   some (⟨p0.out, p0.last, p0.mode⟩ : Vread_sender))

def m_field_Modified (p0 : Vspace_Space) : Option Unit :=
  some ()

def m_field_Fields (p0 : Vspace_Space) : Option Unit :=
  some ()

def m_space_Space_Attrs (p0 : Vspace_Space) : Option Unit :=
  some ()

def m_attr_Of (p0 : Int) : Option Vattr_Field :=
  some (⟨((iband .u8 p0 32) != 0), ((iband .u8 p0 16) != 0), ishr .i64 (w64 (iband .u8 p0 12)) 2, ((iband .u8 p0 1) != 0)⟩ : Vattr_Field)

def m_field_Places (p0 : Vspace_Space) (p1 : Int) : Option Unit :=
  some ()

def read_modified_l15 (p0 : Vspace_Space) (d13 : Int) : Nat → (Int × (List Int) × Int × Bool × Int × Int × Int × Int × Int) → Option ((List Int) × Int × Bool × Int × Int × Int × Int × Int)
  | 0, _ => none
  | k15 + 1, x15 =>
    cond (decide (x15.1 < d13)) (
     (m_space_Space_At (⟨p0.model, p0.alternate, p0.size, p0.cells, p0.cursor, p0.attrs⟩ : Vspace_Space) x15.1).bind fun (d18 : Vapi_Cell) =>
     (m_read_sender_some (⟨x15.2.1, (⟨x15.2.2.1, x15.2.2.2.1, x15.2.2.2.2.1, x15.2.2.2.2.2.1, x15.2.2.2.2.2.2.1, x15.2.2.2.2.2.2.2.1⟩ : Vapi_Cell), x15.2.2.2.2.2.2.2.2⟩ : Vread_sender) (⟨d18.Char, d18.Attr, d18.FA, d18.High, d18.Color, d18.f_Set⟩ : Vapi_Cell)).bind fun (d20 : Vread_sender) =>
     read_modified_l15 p0 d13 k15 (w64 (x15.1 + 1), d20.out, d20.last.Char, d20.last.Attr, d20.last.FA, d20.last.High, d20.last.Color, d20.last.f_Set, d20.mode)) (
     some (x15.2.1, x15.2.2.1, x15.2.2.2.1, x15.2.2.2.2.1, x15.2.2.2.2.2.1, x15.2.2.2.2.2.2.1, x15.2.2.2.2.2.2.2.1, x15.2.2.2.2.2.2.2.2))

def read_modified_l68 (p0 : Vspace_Space) (d62 : Vaddr_Size) : Nat → (Int × (List Int) × Int × Bool × Int × Int × Int × Int × Int) → Option ((List Int) × Int × Bool × Int × Int × Int × Int × Int)
  | 0, _ => none
  | k68 + 1, x68 =>
    (m_space_Space_At p0 x68.1).bind fun (d69 : Vapi_Cell) =>
    cond (!d69.Attr) (
     (m_space_Space_At p0 x68.1).bind fun (d74 : Vapi_Cell) =>
     (m_read_sender_some (⟨x68.2.1, (⟨x68.2.2.1, x68.2.2.2.1, x68.2.2.2.2.1, x68.2.2.2.2.2.1, x68.2.2.2.2.2.2.1, x68.2.2.2.2.2.2.2.1⟩ : Vapi_Cell), x68.2.2.2.2.2.2.2.2⟩ : Vread_sender) (⟨d74.Char, d74.Attr, d74.FA, d74.High, d74.Color, d74.f_Set⟩ : Vapi_Cell)).bind fun (d75 : Vread_sender) =>
     (m_addr_Size_Wrap (⟨d62.Rows, d62.Cols⟩ : Vaddr_Size) (w64 (x68.1 + 1))).bind fun (d76 : Int) =>
     read_modified_l68 p0 d62 k68 (d76, d75.out, d75.last.Char, d75.last.Attr, d75.last.FA, d75.last.High, d75.last.Color, d75.last.f_Set, d75.mode)) (
     some (x68.2.1, x68.2.2.1, x68.2.2.2.1, x68.2.2.2.2.1, x68.2.2.2.2.2.1, x68.2.2.2.2.2.2.1, x68.2.2.2.2.2.2.2.1, x68.2.2.2.2.2.2.2.2))

def read_modified_l40 (p0 : Vspace_Space) (d38 : Int) : Nat → (Int × (List Int) × Int × Bool × Int × Int × Int × Int × Int) → Option ((List Int) × Int × Bool × Int × Int × Int × Int × Int)
  | 0, _ => none
  | k40 + 1, x40 =>
    cond (decide (x40.1 < d38)) (
     (m_space_Space_At p0 x40.1).bind fun (d43 : Vapi_Cell) =>
     (
      cond d43.Attr (
       (m_space_Space_At p0 x40.1).bind fun (d48 : Vapi_Cell) =>
       (m_attr_Of d48.FA).bind fun (d49 : Vattr_Field) =>
       (
        cond d49.Modified (
         (
          gd (x40.2.1.length + [17].length ≤ 68719476736) <|
          (m_space_Space_Size p0).bind fun (d55 : Vaddr_Size) =>
          (m_addr_Size_Wrap (⟨d55.Rows, d55.Cols⟩ : Vaddr_Size) (w64 (x40.1 + 1))).bind fun (d56 : Int) =>
          (m_read_sender_addr (⟨(x40.2.1 ++ [17]), (⟨x40.2.2.1, x40.2.2.2.1, x40.2.2.2.2.1, x40.2.2.2.2.2.1, x40.2.2.2.2.2.2.1, x40.2.2.2.2.2.2.2.1⟩ : Vapi_Cell), x40.2.2.2.2.2.2.2.2⟩ : Vread_sender) d56).bind fun (d57 : Vread_sender) =>
          (m_field_Places p0 x40.1).bind fun (d58 : Unit) =>
          (
           (
            (m_space_Space_Size p0).bind fun (d62 : Vaddr_Size) =>
            (m_addr_Size_Wrap (⟨d62.Rows, d62.Cols⟩ : Vaddr_Size) x40.1).bind fun (d63 : Int) =>
            (m_space_Space_At p0 d63).bind fun (d64 : Vapi_Cell) =>
            cond (!d64.Attr) (
             some (d57.out, d57.last.Char, d57.last.Attr, d57.last.FA, d57.last.High, d57.last.Color, d57.last.f_Set, d57.mode)) (
             (m_addr_Size_Wrap (⟨d62.Rows, d62.Cols⟩ : Vaddr_Size) (w64 (d63 + 1))).bind fun (d66 : Int) =>
             (
              read_modified_l68 p0 d62 fuel (d66, d57.out, d57.last.Char, d57.last.Attr, d57.last.FA, d57.last.High, d57.last.Color, d57.last.f_Set, d57.mode)).bind fun (d67 : (List Int) × Int × Bool × Int × Int × Int × Int × Int) =>
             some (d67.1, d67.2.1, d67.2.2.1, d67.2.2.2.1, d67.2.2.2.2.1, d67.2.2.2.2.2.1, d67.2.2.2.2.2.2.1, d67.2.2.2.2.2.2.2))).bind fun (d60 : (List Int) × Int × Bool × Int × Int × Int × Int × Int) =>
           some (d60.1, d60.2.1, d60.2.2.1, d60.2.2.2.1, d60.2.2.2.2.1, d60.2.2.2.2.2.1, d60.2.2.2.2.2.2.1, d60.2.2.2.2.2.2.2)).bind fun (d59 : (List Int) × Int × Bool × Int × Int × Int × Int × Int) =>
          some (d59.1, d59.2.1, d59.2.2.1, d59.2.2.2.1, d59.2.2.2.2.1, d59.2.2.2.2.2.1, d59.2.2.2.2.2.2.1, d59.2.2.2.2.2.2.2)).bind fun (d52 : (List Int) × Int × Bool × Int × Int × Int × Int × Int) =>
         some (d52.1, d52.2.1, d52.2.2.1, d52.2.2.2.1, d52.2.2.2.2.1, d52.2.2.2.2.2.1, d52.2.2.2.2.2.2.1, d52.2.2.2.2.2.2.2)) (
         some (x40.2.1, x40.2.2.1, x40.2.2.2.1, x40.2.2.2.2.1, x40.2.2.2.2.2.1, x40.2.2.2.2.2.2.1, x40.2.2.2.2.2.2.2.1, x40.2.2.2.2.2.2.2.2))).bind fun (d51 : (List Int) × Int × Bool × Int × Int × Int × Int × Int) =>
       some (d51.1, d51.2.1, d51.2.2.1, d51.2.2.2.1, d51.2.2.2.2.1, d51.2.2.2.2.2.1, d51.2.2.2.2.2.2.1, d51.2.2.2.2.2.2.2)) (
       some (x40.2.1, x40.2.2.1, x40.2.2.2.1, x40.2.2.2.2.1, x40.2.2.2.2.2.1, x40.2.2.2.2.2.2.1, x40.2.2.2.2.2.2.2.1, x40.2.2.2.2.2.2.2.2))).bind fun (d45 : (List Int) × Int × Bool × Int × Int × Int × Int × Int) =>
     read_modified_l40 p0 d38 k40 (w64 (x40.1 + 1), d45.1, d45.2.1, d45.2.2.1, d45.2.2.2.1, d45.2.2.2.2.1, d45.2.2.2.2.2.1, d45.2.2.2.2.2.2.1, d45.2.2.2.2.2.2.2)) (
     some (x40.2.1, x40.2.2.1, x40.2.2.2.1, x40.2.2.2.2.1, x40.2.2.2.2.2.1, x40.2.2.2.2.2.2.1, x40.2.2.2.2.2.2.2.1, x40.2.2.2.2.2.2.2.2))

def m_read_modified (p0 : Vspace_Space) (p1 : Int) (p2 : Int) (p3 : Bool) : Option (Vspace_Space × (List Int) × Int) :=
  (m_read_begin (⟨p0.model, p0.alternate, p0.size, p0.cells, p0.cursor, p0.attrs⟩ : Vspace_Space) p1 p2 p3).bind fun (d2 : (Int) ⊕ (Vread_sender × Int)) => match d2 with
  | .inl d2 => (
   none)
  | .inr d2 => (
   (
    cond (d2.2 != 0) (
     some (true, d2.2, d2.1.out, d2.1.last.Char, d2.1.last.Attr, d2.1.last.FA, d2.1.last.High, d2.1.last.Color, d2.1.last.f_Set, d2.1.mode)) (
     some (p3, d2.2, d2.1.out, d2.1.last.Char, d2.1.last.Attr, d2.1.last.FA, d2.1.last.High, d2.1.last.Color, d2.1.last.f_Set, d2.1.mode))).bind fun (d3 : Bool × Int × (List Int) × Int × Bool × Int × Int × Int × Int × Int) =>
   cond d3.1 (
    (m_read_bytesOf (⟨d3.2.2.1, (⟨d3.2.2.2.1, d3.2.2.2.2.1, d3.2.2.2.2.2.1, d3.2.2.2.2.2.2.1, d3.2.2.2.2.2.2.2.1, d3.2.2.2.2.2.2.2.2.1⟩ : Vapi_Cell), d3.2.2.2.2.2.2.2.2.2⟩ : Vread_sender)).bind fun (d5 : Vread_sender × (List Int)) =>
    some (p0, d5.2, d3.2.1)) (
    (m_space_Space_Formatted p0).bind fun (d6 : Bool) =>
    cond (!d6) (
     (m_space_Space_All p0).bind fun (d8 : Unit) =>
     (
      (
       (m_space_Space_Size p0).bind fun (d12 : Vaddr_Size) =>
       (m_addr_Size_Cells d12).bind fun (d13 : Int) =>
       (
        read_modified_l15 p0 d13 fuel (0, d3.2.2.1, d3.2.2.2.1, d3.2.2.2.2.1, d3.2.2.2.2.2.1, d3.2.2.2.2.2.2.1, d3.2.2.2.2.2.2.2.1, d3.2.2.2.2.2.2.2.2.1, d3.2.2.2.2.2.2.2.2.2)).bind fun (d14 : (List Int) × Int × Bool × Int × Int × Int × Int × Int) =>
       some (d14.1, d14.2.1, d14.2.2.1, d14.2.2.2.1, d14.2.2.2.2.1, d14.2.2.2.2.2.1, d14.2.2.2.2.2.2.1, d14.2.2.2.2.2.2.2)).bind fun (d10 : (List Int) × Int × Bool × Int × Int × Int × Int × Int) =>
      some (d10.1, d10.2.1, d10.2.2.1, d10.2.2.2.1, d10.2.2.2.2.1, d10.2.2.2.2.2.1, d10.2.2.2.2.2.2.1, d10.2.2.2.2.2.2.2)).bind fun (d9 : (List Int) × Int × Bool × Int × Int × Int × Int × Int) =>
     some (p0, d9.1, 0)) (
     (m_field_Modified p0).bind fun (d21 : Unit) =>
     (
      (
       (m_field_Fields p0).bind fun (d25 : Unit) =>
       (
        (
         (m_space_Space_Attrs p0).bind fun (d29 : Unit) =>
         (
          (
           (m_space_Space_All p0).bind fun (d33 : Unit) =>
           (
            (
             (m_space_Space_Size p0).bind fun (d37 : Vaddr_Size) =>
             (m_addr_Size_Cells (⟨d37.Rows, d37.Cols⟩ : Vaddr_Size)).bind fun (d38 : Int) =>
             (
              read_modified_l40 p0 d38 fuel (0, d3.2.2.1, d3.2.2.2.1, d3.2.2.2.2.1, d3.2.2.2.2.2.1, d3.2.2.2.2.2.2.1, d3.2.2.2.2.2.2.2.1, d3.2.2.2.2.2.2.2.2.1, d3.2.2.2.2.2.2.2.2.2)).bind fun (d39 : (List Int) × Int × Bool × Int × Int × Int × Int × Int) =>
             some (d39.1, d39.2.1, d39.2.2.1, d39.2.2.2.1, d39.2.2.2.2.1, d39.2.2.2.2.2.1, d39.2.2.2.2.2.2.1, d39.2.2.2.2.2.2.2)).bind fun (d35 : (List Int) × Int × Bool × Int × Int × Int × Int × Int) =>
            some (d35.1, d35.2.1, d35.2.2.1, d35.2.2.2.1, d35.2.2.2.2.1, d35.2.2.2.2.2.1, d35.2.2.2.2.2.2.1, d35.2.2.2.2.2.2.2)).bind fun (d34 : (List Int) × Int × Bool × Int × Int × Int × Int × Int) =>
           some (d34.1, d34.2.1, d34.2.2.1, d34.2.2.2.1, d34.2.2.2.2.1, d34.2.2.2.2.2.1, d34.2.2.2.2.2.2.1, d34.2.2.2.2.2.2.2)).bind fun (d31 : (List Int) × Int × Bool × Int × Int × Int × Int × Int) =>
          some (d31.1, d31.2.1, d31.2.2.1, d31.2.2.2.1, d31.2.2.2.2.1, d31.2.2.2.2.2.1, d31.2.2.2.2.2.2.1, d31.2.2.2.2.2.2.2)).bind fun (d30 : (List Int) × Int × Bool × Int × Int × Int × Int × Int) =>
         some (d30.1, d30.2.1, d30.2.2.1, d30.2.2.2.1, d30.2.2.2.2.1, d30.2.2.2.2.2.1, d30.2.2.2.2.2.2.1, d30.2.2.2.2.2.2.2)).bind fun (d27 : (List Int) × Int × Bool × Int × Int × Int × Int × Int) =>
        some (d27.1, d27.2.1, d27.2.2.1, d27.2.2.2.1, d27.2.2.2.2.1, d27.2.2.2.2.2.1, d27.2.2.2.2.2.2.1, d27.2.2.2.2.2.2.2)).bind fun (d26 : (List Int) × Int × Bool × Int × Int × Int × Int × Int) =>
       some (d26.1, d26.2.1, d26.2.2.1, d26.2.2.2.1, d26.2.2.2.2.1, d26.2.2.2.2.2.1, d26.2.2.2.2.2.2.1, d26.2.2.2.2.2.2.2)).bind fun (d23 : (List Int) × Int × Bool × Int × Int × Int × Int × Int) =>
      some (d23.1, d23.2.1, d23.2.2.1, d23.2.2.2.1, d23.2.2.2.2.1, d23.2.2.2.2.2.1, d23.2.2.2.2.2.2.1, d23.2.2.2.2.2.2.2)).bind fun (d22 : (List Int) × Int × Bool × Int × Int × Int × Int × Int) =>
     some (p0, d22.1, 0))))

def m_read_Modified (p0 : Vspace_Space) (p1 : Int) (p2 : Int) : Option (Vspace_Space × (List Int) × Int) :=
  (m_keys_Short p1).bind fun (d1 : Bool) =>
  (m_read_modified p0 p1 p2 d1).bind fun (d2 : Vspace_Space × (List Int) × Int) =>
  some (d2.1, d2.2.1, d2.2.2)

def m_vitrinelaw19_awake : Option Bool :=
  (m_vitrinelaw19_lay 0 [(⟨3, 0, false, 1, (⟨0, false, 0, 0, 0, 0⟩ : Vapi_Cell), ([] : List Int)⟩ : Vvitrineref12_Act), (⟨5, 1, false, 0, (⟨0, false, 0, 0, 0, 0⟩ : Vapi_Cell), [193, 0, 194]⟩ : Vvitrineref12_Act), (⟨1, 2, false, 0, (⟨0, false, 0, 0, 0, 0⟩ : Vapi_Cell), ([] : List Int)⟩ : Vvitrineref12_Act)]).bind fun (d2 : Vspace_Space × Vvitrineref12_Space) =>
  (m_read_Modified d2.1 125 0).bind fun (d3 : Vspace_Space × (List Int) × Int) =>
  (
   cond (d3.2.2 == 0) (
    (m_vitrineref01_Same d3.2.1 [125, 64, 194, 17, 64, 193, 193, 194]).bind fun (d5 : Bool) =>
    some d5) (
    some false)).bind fun (d4 : Bool) =>
  some d4

def vitrineref12_Attrs_l2 (p0 : Vvitrineref12_Space) : Nat → (Int × (List Int)) → Option (List Int)
  | 0, _ => none
  | k2 + 1, x2 =>
    cond (decide (x2.1 < (p0.L.length : Int))) (
     gd ((0 : Int) ≤ x2.1 ∧ x2.1 < (p0.L.length : Int)) <|
     (
      cond ((rd p0.L x2.1).Attr) (
       gd (x2.2.length + [x2.1].length ≤ 68719476736) <|
       some (x2.2 ++ [x2.1])) (
       some x2.2)).bind fun (d5 : (List Int)) =>
     vitrineref12_Attrs_l2 p0 k2 (w64 (x2.1 + 1), d5)) (
     some x2.2)

def m_vitrineref12_Attrs (p0 : Vvitrineref12_Space) : Option (List Int) :=
  (
   vitrineref12_Attrs_l2 p0 fuel (0, ([] : List Int))).bind fun (d1 : (List Int)) =>
  some d1

def m_vitrineref18_Short (p0 : Int) : Option Bool :=
  (
   cond (p0 == 108) (
    some true) (
    cond (p0 == 110) (
     some true) (
     cond (p0 == 107) (
      some true) (
      some (p0 == 109))))).bind fun (d1 : Bool) =>
  some d1

def m_vitrineref13_Field (p0 : Vvitrineref12_Space) (p1 : Int) : Option Vvitrineref05_Field :=
  gd ((0 : Int) ≤ p1 ∧ p1 < (p0.L.length : Int)) <|
  (m_vitrineref05_Of ((rd p0.L p1).FA)).bind fun (d1 : Vvitrineref05_Field) =>
  some (⟨d1.Protected, d1.Numeric, d1.Display, d1.Modified⟩ : Vvitrineref05_Field)

def vitrineref13_Starts_l4 (p0 : Vvitrineref12_Space) : Nat → (Int × Int × (List Int)) → Option (List Int)
  | 0, _ => none
  | k4 + 1, x4 =>
    cond (decide (x4.1 < (p0.L.length : Int))) (
     gd ((0 : Int) ≤ x4.1 ∧ x4.1 < (p0.L.length : Int)) <|
     (
      cond ((rd p0.L x4.1).Attr) (
       some x4.1) (
       some x4.2.1)).bind fun (d7 : Int) =>
     gd ((0 : Int) ≤ x4.1 ∧ x4.1 < (x4.2.2.length : Int)) <|
     vitrineref13_Starts_l4 p0 k4 (w64 (x4.1 + 1), d7, (List.set x4.2.2 (Int.toNat x4.1) d7))) (
     some x4.2.2)

def m_vitrineref13_Starts (p0 : Vvitrineref12_Space) : Option (List Int) :=
  (m_vitrineref12_Attrs p0).bind fun (d1 : (List Int)) =>
  gd ((0 : Int) ≤ (p0.L.length : Int) ∧ (p0.L.length : Int) ≤ 68719476736) <|
  (
   cond (decide ((d1.length : Int) > 0)) (
    gd ((0 : Int) ≤ (w64 ((d1.length : Int) - 1)) ∧ (w64 ((d1.length : Int) - 1)) < (d1.length : Int)) <|
    some (rd d1 (w64 ((d1.length : Int) - 1)))) (
    some (-1))).bind fun (d2 : Int) =>
  (
   vitrineref13_Starts_l4 p0 fuel (0, d2, (List.replicate (Int.toNat (p0.L.length : Int)) 0))).bind fun (d3 : (List Int)) =>
  some d3

def vitrineref13_Places_l5 (p0 : Vvitrineref12_Space) (d1 : Int) (d3 : (List Int)) : Nat → (Int × (List Int)) → Option (List Int)
  | 0, _ => none
  | k5 + 1, x5 =>
    cond (decide (x5.1 < (p0.L.length : Int))) (
     (m_vitrineref04_Mod (w64 (d1 + x5.1)) (p0.L.length : Int)).bind fun (d8 : Int) =>
     gd ((0 : Int) ≤ d8 ∧ d8 < (d3.length : Int)) <|
     cond ((rd d3 d8) != d1) (
      some x5.2) (
      gd (x5.2.length + [d8].length ≤ 68719476736) <|
      vitrineref13_Places_l5 p0 d1 d3 k5 (w64 (x5.1 + 1), (x5.2 ++ [d8])))) (
     some x5.2)

def m_vitrineref13_Places (p0 : Vvitrineref12_Space) (p1 : Int) : Option (List Int) :=
  (m_vitrineref12_Wrap p0 p1).bind fun (d1 : Int) =>
  gd ((0 : Int) ≤ d1 ∧ d1 < (p0.L.length : Int)) <|
  cond (!((rd p0.L d1).Attr)) (
   some ([] : List Int)) (
   (m_vitrineref13_Starts p0).bind fun (d3 : (List Int)) =>
   (
    vitrineref13_Places_l5 p0 d1 d3 fuel (1, ([] : List Int))).bind fun (d4 : (List Int)) =>
   some d4)

def m_vitrineref05_Diff (p0 : Vapi_Cell) (p1 : Vapi_Cell) : Option (List Vvitrineref05_Pair) :=
  (
   cond (p0.High != p1.High) (
    gd (([] : List Vvitrineref05_Pair).length + [(⟨65, p1.High⟩ : Vvitrineref05_Pair)].length ≤ 68719476736) <|
    some (([] : List Vvitrineref05_Pair) ++ [(⟨65, p1.High⟩ : Vvitrineref05_Pair)])) (
    some ([] : List Vvitrineref05_Pair))).bind fun (d1 : (List Vvitrineref05_Pair)) =>
  (
   cond (p0.Color != p1.Color) (
    gd (d1.length + [(⟨66, p1.Color⟩ : Vvitrineref05_Pair)].length ≤ 68719476736) <|
    some (d1 ++ [(⟨66, p1.Color⟩ : Vvitrineref05_Pair)])) (
    some d1)).bind fun (d2 : (List Vvitrineref05_Pair)) =>
  (
   cond (p0.f_Set != p1.f_Set) (
    gd (d2.length + [(⟨67, p1.f_Set⟩ : Vvitrineref05_Pair)].length ≤ 68719476736) <|
    some (d2 ++ [(⟨67, p1.f_Set⟩ : Vvitrineref05_Pair)])) (
    some d2)).bind fun (d3 : (List Vvitrineref05_Pair)) =>
  some d3

def vitrineref19_character_l4 (d2 : (List Vvitrineref05_Pair)) : Nat → (Int × (List Int)) → Option (List Int)
  | 0, _ => none
  | k4 + 1, x4 =>
    cond (decide (x4.1 < (d2.length : Int))) (
     gd ((0 : Int) ≤ x4.1 ∧ x4.1 < (d2.length : Int)) <|
     gd (x4.2.length + [40, (rd d2 x4.1).f_Type, (rd d2 x4.1).Value].length ≤ 68719476736) <|
     vitrineref19_character_l4 d2 k4 (w64 (x4.1 + 1), (x4.2 ++ [40, (rd d2 x4.1).f_Type, (rd d2 x4.1).Value]))) (
     some x4.2)

def m_vitrineref19_character (p0 : Vapi_Cell) (p1 : Vapi_Cell) (p2 : Int) : Option (List Int) :=
  (
   cond (p2 == 2) (
    (m_vitrineref05_Diff p1 p0).bind fun (d2 : (List Vvitrineref05_Pair)) =>
    (
     vitrineref19_character_l4 d2 fuel (0, ([] : List Int))).bind fun (d3 : (List Int)) =>
    some d3) (
    cond (p0.f_Set == 241) (
     gd (([] : List Int).length + [8].length ≤ 68719476736) <|
     some (([] : List Int) ++ [8])) (
     some ([] : List Int)))).bind fun (d1 : (List Int)) =>
  (m_vitrineref16_Is p0.Char).bind fun (d7 : Bool) =>
  cond d7 (
   gd (d1.length + [63].length ≤ 68719476736) <|
   some (d1 ++ [63])) (
   gd (d1.length + [p0.Char].length ≤ 68719476736) <|
   some (d1 ++ [p0.Char]))

def vitrineref19_Characters_l2 (p0 : List Vapi_Cell) (p2 : Int) : Nat → (Int × (List Int) × Int × Bool × Int × Int × Int × Int) → Option ((List Int) × Int × Bool × Int × Int × Int × Int)
  | 0, _ => none
  | k2 + 1, x2 =>
    cond (decide (x2.1 < (p0.length : Int))) (
     gd ((0 : Int) ≤ x2.1 ∧ x2.1 < (p0.length : Int)) <|
     (m_vitrineref19_character (rd p0 x2.1) (⟨x2.2.2.1, x2.2.2.2.1, x2.2.2.2.2.1, x2.2.2.2.2.2.1, x2.2.2.2.2.2.2.1, x2.2.2.2.2.2.2.2⟩ : Vapi_Cell) p2).bind fun (d5 : (List Int)) =>
     gd (x2.2.1.length + d5.length ≤ 68719476736) <|
     vitrineref19_Characters_l2 p0 p2 k2 (w64 (x2.1 + 1), (x2.2.1 ++ d5), (rd p0 x2.1).Char, (rd p0 x2.1).Attr, (rd p0 x2.1).FA, (rd p0 x2.1).High, (rd p0 x2.1).Color, (rd p0 x2.1).f_Set)) (
     some (x2.2.1, x2.2.2.1, x2.2.2.2.1, x2.2.2.2.2.1, x2.2.2.2.2.2.1, x2.2.2.2.2.2.2.1, x2.2.2.2.2.2.2.2))

def m_vitrineref19_Characters (p0 : List Vapi_Cell) (p1 : Vapi_Cell) (p2 : Int) : Option ((List Int) × Vapi_Cell) :=
  (
   vitrineref19_Characters_l2 p0 p2 fuel (0, ([] : List Int), p1.Char, p1.Attr, p1.FA, p1.High, p1.Color, p1.f_Set)).bind fun (d1 : (List Int) × Int × Bool × Int × Int × Int × Int) =>
  some (d1.1, (⟨d1.2.1, d1.2.2.1, d1.2.2.2.1, d1.2.2.2.2.1, d1.2.2.2.2.2.1, d1.2.2.2.2.2.2⟩ : Vapi_Cell))

def vitrinelaw19_ReadFields_l22 (d4 : Vspace_Space × Vvitrineref12_Space) (d20 : (List Int)) : Nat → (Int × (List Int)) → Option (List Int)
  | 0, _ => none
  | k22 + 1, x22 =>
    cond (decide (x22.1 < (d20.length : Int))) (
     (
      gd ((0 : Int) ≤ x22.1 ∧ x22.1 < (d20.length : Int)) <|
      gd ((0 : Int) ≤ (rd d20 x22.1) ∧ (rd d20 x22.1) < (d4.2.L.length : Int)) <|
      cond (((rd d4.2.L (rd d20 x22.1)).Char) == 0) (
       some x22.2) (
       (m_vitrineref19_Characters [(rd d4.2.L (rd d20 x22.1))] (⟨0, false, 0, 0, 0, 0⟩ : Vapi_Cell) 0).bind fun (d26 : (List Int) × Vapi_Cell) =>
       gd (x22.2.length + d26.1.length ≤ 68719476736) <|
       some (x22.2 ++ d26.1))).bind fun (d24 : (List Int)) =>
     vitrinelaw19_ReadFields_l22 d4 d20 k22 (w64 (x22.1 + 1), d24)) (
     some x22.2)

def vitrinelaw19_ReadFields_l13 (d4 : Vspace_Space × Vvitrineref12_Space) (d11 : (List Int)) : Nat → (Int × (List Int)) → Option (List Int)
  | 0, _ => none
  | k13 + 1, x13 =>
    cond (decide (x13.1 < (d11.length : Int))) (
     (
      gd ((0 : Int) ≤ x13.1 ∧ x13.1 < (d11.length : Int)) <|
      (m_vitrineref13_Field d4.2 (rd d11 x13.1)).bind fun (d16 : Vvitrineref05_Field) =>
      cond (!d16.Modified) (
       some x13.2) (
       (m_vitrineref12_Wrap d4.2 (w64 ((rd d11 x13.1) + 1))).bind fun (d18 : Int) =>
       (m_vitrineref04_Encode 12 d18).bind fun (d19 : (List Int) × Int) =>
       gd (x13.2.length + [17].length ≤ 68719476736) <|
       gd ((x13.2 ++ [17]).length + d19.1.length ≤ 68719476736) <|
       (m_vitrineref13_Places d4.2 (rd d11 x13.1)).bind fun (d20 : (List Int)) =>
       (
        vitrinelaw19_ReadFields_l22 d4 d20 fuel (0, ((x13.2 ++ [17]) ++ d19.1))).bind fun (d21 : (List Int)) =>
       some d21)).bind fun (d15 : (List Int)) =>
     vitrinelaw19_ReadFields_l13 d4 d11 k13 (w64 (x13.1 + 1), d15)) (
     some x13.2)

def m_vitrinelaw19_ReadFields (p0 : Int) (p1 : List Vvitrineref12_Act) (p2 : Int) : Option Bool :=
  (m_vitrinelaw19_awake).bind fun (d1 : Bool) =>
  cond (!d1) (
   some false) (
   (m_vitrinelaw19_lay p0 p1).bind fun (d4 : Vspace_Space × Vvitrineref12_Space) =>
   (
    (m_vitrineref12_Attrs d4.2).bind fun (d6 : (List Int)) =>
    cond ((d6.length : Int) == 0) (
     some true) (
     (m_vitrineref18_Short p2).bind fun (d7 : Bool) =>
     some d7)).bind fun (d5 : Bool) =>
   cond d5 (
    some true) (
    (m_read_Modified d4.1 p2 0).bind fun (d9 : Vspace_Space × (List Int) × Int) =>
    (m_vitrineref04_Encode 12 d4.2.Cursor).bind fun (d10 : (List Int) × Int) =>
    gd ([p2].length + d10.1.length ≤ 68719476736) <|
    (m_vitrineref12_Attrs d4.2).bind fun (d11 : (List Int)) =>
    (
     vitrinelaw19_ReadFields_l13 d4 d11 fuel (0, ([p2] ++ d10.1))).bind fun (d12 : (List Int)) =>
    (
     cond (d9.2.2 == 0) (
      (m_vitrineref01_Same d9.2.1 d12).bind fun (d28 : Bool) =>
      some d28) (
      some false)).bind fun (d27 : Bool) =>
    some d27))

def m_read_All (p0 : Vspace_Space) (p1 : Int) (p2 : Int) : Option (Vspace_Space × (List Int) × Int) :=
  (m_read_modified p0 p1 p2 false).bind fun (d1 : Vspace_Space × (List Int) × Int) =>
  some (d1.1, d1.2.1, d1.2.2)

def vitrineref04_Unsix_l2 (p0 : Int) : Nat → Int → Option ((Unit) ⊕ Int)
  | 0, _ => none
  | k2 + 1, x2 =>
    cond (decide (x2 < 64)) (
     (m_vitrineref04_Six x2).bind fun (d5 : Int) =>
     cond (d5 == p0) (
      esc (
       some x2)) (
      vitrineref04_Unsix_l2 p0 k2 (w64 (x2 + 1)))) (
     some (.inl ()))

def m_vitrineref04_Unsix (p0 : Int) : Option Int :=
  jn (
   vitrineref04_Unsix_l2 p0 fuel 0) fun (d1 : Unit) =>
  some (Int.tmod (w64 (p0)) 64)

def m_vitrineref04_Decode (p0 : Int) (p1 : List Int) : Option (Int × Int) :=
  (
   cond (p0 != 12) (
    cond (p0 != 14) (
     some (p0 != 16)) (
     some false)) (
    some false)).bind fun (d1 : Bool) =>
  cond d1 (
   some (0, 1)) (
   cond (decide ((p1.length : Int) < 2)) (
    some (0, 2)) (
    gd ((0 : Int) ≤ 0 ∧ 0 < (p1.length : Int)) <|
    gd ((0 : Int) ≤ 1 ∧ 1 < (p1.length : Int)) <|
    (
     cond (p0 == 16) (
      some true) (
      gd ((0 : Int) ≤ 0 ∧ 0 < (p1.length : Int)) <|
      some (decide ((rd p1 0) < 64)))).bind fun (d5 : Bool) =>
    cond d5 (
     some (w64 ((w64 (256 * (w64 ((rd p1 0))))) + (w64 ((rd p1 1)))), 0)) (
     (
      gd ((0 : Int) ≤ 0 ∧ 0 < (p1.length : Int)) <|
      cond (decide ((rd p1 0) ≥ 128)) (
       gd ((0 : Int) ≤ 0 ∧ 0 < (p1.length : Int)) <|
       some (decide ((rd p1 0) < 192))) (
       some false)).bind fun (d7 : Bool) =>
     cond d7 (
      some (0, 9)) (
      gd ((0 : Int) ≤ 0 ∧ 0 < (p1.length : Int)) <|
      gd ((0 : Int) ≤ 1 ∧ 1 < (p1.length : Int)) <|
      (m_vitrineref04_Unsix (rd p1 0)).bind fun (d10 : Int) =>
      (m_vitrineref04_Unsix (rd p1 1)).bind fun (d11 : Int) =>
      some (w64 ((w64 (64 * d10)) + d11), 0)))))

def m_vitrinelaw19_ReadShort (p0 : Int) (p1 : List Vvitrineref12_Act) (p2 : Int) (p3 : Int) : Option Bool :=
  (m_vitrinelaw19_awake).bind fun (d1 : Bool) =>
  cond (!d1) (
   some false) (
   (m_vitrinelaw19_lay p0 p1).bind fun (d4 : Vspace_Space × Vvitrineref12_Space) =>
   (m_read_Modified d4.1 p2 (w64 (Int.tmod p3 3))).bind fun (d5 : Vspace_Space × (List Int) × Int) =>
   (m_read_All d5.1 p2 (w64 (Int.tmod p3 3))).bind fun (d6 : Vspace_Space × (List Int) × Int) =>
   (
    cond (d5.2.2 != 0) (
     some true) (
     cond (d6.2.2 != 0) (
      some true) (
      some (decide ((d6.2.1.length : Int) < 3))))).bind fun (d7 : Bool) =>
   cond d7 (
    some false) (
    (m_vitrineref18_Short p2).bind fun (d9 : Bool) =>
    cond d9 (
     (m_vitrineref01_Same d5.2.1 [p2]).bind fun (d11 : Bool) =>
     some d11) (
     gd ((0 : Int) ≤ 1 ∧ 1 ≤ (d6.2.1.length : Int) ∧ (d6.2.1.length : Int) ≤ (d6.2.1.length : Int)) <|
     (m_vitrineref04_Decode 12 (List.drop 1 d6.2.1)).bind fun (d12 : Int × Int) =>
     (
      (m_vitrineref01_Same d5.2.1 d6.2.1).bind fun (d14 : Bool) =>
      cond d14 (
       cond (d12.2 == 0) (
        some (d12.1 == d4.2.Cursor)) (
        some false)) (
       some false)).bind fun (d13 : Bool) =>
     some d13)))

def vitrinelaw20_lay_l6 (p1 : List Vvitrineref12_Act) : Nat → (Int × Int × Bool × Int × Int × (List Vapi_Cell) × Int × Int × Bool × Int × Int × (List Vapi_Cell) × Int × Int) → Option (Int × Bool × Int × Int × (List Vapi_Cell) × Int × Int × Bool × Int × Int × (List Vapi_Cell) × Int × Int)
  | 0, _ => none
  | k6 + 1, x6 =>
    cond (decide (x6.1 < (p1.length : Int))) (
     gd ((0 : Int) ≤ x6.1 ∧ x6.1 < (p1.length : Int)) <|
     (
      cond (decide (x6.1 < 30)) (
       (m_vitrineref12_Do (⟨x6.2.1, x6.2.2.1, (⟨x6.2.2.2.1, x6.2.2.2.2.1⟩ : Vvitrineref04_Size), x6.2.2.2.2.2.1, x6.2.2.2.2.2.2.1⟩ : Vvitrineref12_Space) { (rd p1 x6.1) with C := ((rd p1 x6.1).C) }).bind fun (d10 : Vvitrineref12_Space) =>
       some (d10.Model, d10.Alt, d10.Size.Rows, d10.Size.Cols, d10.L, d10.Cursor)) (
       some (x6.2.1, x6.2.2.1, x6.2.2.2.1, x6.2.2.2.2.1, x6.2.2.2.2.2.1, x6.2.2.2.2.2.2.1))).bind fun (d9 : Int × Bool × Int × Int × (List Vapi_Cell) × Int) =>
     vitrinelaw20_lay_l6 p1 k6 (w64 (x6.1 + 1), d9.1, d9.2.1, d9.2.2.1, d9.2.2.2.1, d9.2.2.2.2.1, d9.2.2.2.2.2, x6.2.2.2.2.2.2.2.1, x6.2.2.2.2.2.2.2.2.1, x6.2.2.2.2.2.2.2.2.2.1, x6.2.2.2.2.2.2.2.2.2.2.1, x6.2.2.2.2.2.2.2.2.2.2.2.1, x6.2.2.2.2.2.2.2.2.2.2.2.2.1, x6.2.2.2.2.2.2.2.2.2.2.2.2.2)) (
     some (x6.2.1, x6.2.2.1, x6.2.2.2.1, x6.2.2.2.2.1, x6.2.2.2.2.2.1, x6.2.2.2.2.2.2.1, x6.2.2.2.2.2.2.2.1, x6.2.2.2.2.2.2.2.2.1, x6.2.2.2.2.2.2.2.2.2.1, x6.2.2.2.2.2.2.2.2.2.2.1, x6.2.2.2.2.2.2.2.2.2.2.2.1, x6.2.2.2.2.2.2.2.2.2.2.2.2.1, x6.2.2.2.2.2.2.2.2.2.2.2.2.2))

def vitrinelaw20_lay_l14 (d5 : Int × Bool × Int × Int × (List Vapi_Cell) × Int × Int × Bool × Int × Int × (List Vapi_Cell) × Int × Int) : Nat → (Int × Int × Bool × Int × Int × (List Vapi_Cell) × Int × Int) → Option (Int × Bool × Int × Int × (List Vapi_Cell) × Int × Int)
  | 0, _ => none
  | k14 + 1, x14 =>
    cond (decide (x14.1 < (d5.2.2.2.2.1.length : Int))) (
     gd ((0 : Int) ≤ x14.1 ∧ x14.1 < (d5.2.2.2.2.1.length : Int)) <|
     (
      cond (!((((rd d5.2.2.2.2.1 x14.1).Char) == 0) && ((((rd d5.2.2.2.2.1 x14.1).Attr) == false) && ((((rd d5.2.2.2.2.1 x14.1).FA) == 0) && ((((rd d5.2.2.2.2.1 x14.1).High) == 0) && ((((rd d5.2.2.2.2.1 x14.1).Color) == 0) && ((((rd d5.2.2.2.2.1 x14.1).f_Set) == 0) && true))))))) (
       (m_space_Space_Set (⟨x14.2.1, x14.2.2.1, (⟨x14.2.2.2.1, x14.2.2.2.2.1⟩ : Vaddr_Size), x14.2.2.2.2.2.1, x14.2.2.2.2.2.2.1, x14.2.2.2.2.2.2.2⟩ : Vspace_Space) x14.1 (rd d5.2.2.2.2.1 x14.1)).bind fun (d18 : Vspace_Space) =>
       some (d18.model, d18.alternate, d18.size.Rows, d18.size.Cols, d18.cells, d18.cursor, d18.attrs)) (
       some (x14.2.1, x14.2.2.1, x14.2.2.2.1, x14.2.2.2.2.1, x14.2.2.2.2.2.1, x14.2.2.2.2.2.2.1, x14.2.2.2.2.2.2.2))).bind fun (d17 : Int × Bool × Int × Int × (List Vapi_Cell) × Int × Int) =>
     vitrinelaw20_lay_l14 d5 k14 (w64 (x14.1 + 1), d17.1, d17.2.1, d17.2.2.1, d17.2.2.2.1, d17.2.2.2.2.1, d17.2.2.2.2.2.1, d17.2.2.2.2.2.2)) (
     some (x14.2.1, x14.2.2.1, x14.2.2.2.1, x14.2.2.2.2.1, x14.2.2.2.2.2.1, x14.2.2.2.2.2.2.1, x14.2.2.2.2.2.2.2))

def m_vitrinelaw20_lay (p0 : Int) (p1 : List Vvitrineref12_Act) : Option (Vspace_Space × Vvitrineref12_Space) :=
  (m_space_New (w64 (2 + (w64 (Int.tmod p0 4))))).bind fun (d2 : (Int) ⊕ (Vspace_Space × Int)) => match d2 with
  | .inl d2 => (
   none)
  | .inr d2 => (
   (m_vitrineref12_New (w64 (2 + (w64 (Int.tmod p0 4))))).bind fun (d4 : (Unit) ⊕ (Vvitrineref12_Space)) => match d4 with
   | .inl d4 => (
    none)
   | .inr d4 => (
    (
     vitrinelaw20_lay_l6 p1 fuel (0, d4.Model, d4.Alt, d4.Size.Rows, d4.Size.Cols, d4.L, d4.Cursor, d2.1.model, d2.1.alternate, d2.1.size.Rows, d2.1.size.Cols, d2.1.cells, d2.1.cursor, d2.1.attrs)).bind fun (d5 : Int × Bool × Int × Int × (List Vapi_Cell) × Int × Int × Bool × Int × Int × (List Vapi_Cell) × Int × Int) =>
    (
     cond d5.2.1 (
      (m_space_Space_Clear_2 (⟨d5.2.2.2.2.2.2.1, d5.2.2.2.2.2.2.2.1, (⟨d5.2.2.2.2.2.2.2.2.1, d5.2.2.2.2.2.2.2.2.2.1⟩ : Vaddr_Size), d5.2.2.2.2.2.2.2.2.2.2.1, d5.2.2.2.2.2.2.2.2.2.2.2.1, d5.2.2.2.2.2.2.2.2.2.2.2.2⟩ : Vspace_Space) true).bind fun (d12 : Vspace_Space) =>
      some (d12.model, d12.alternate, d12.size.Rows, d12.size.Cols, d12.cells, d12.cursor, d12.attrs)) (
      some (d5.2.2.2.2.2.2.1, d5.2.2.2.2.2.2.2.1, d5.2.2.2.2.2.2.2.2.1, d5.2.2.2.2.2.2.2.2.2.1, d5.2.2.2.2.2.2.2.2.2.2.1, d5.2.2.2.2.2.2.2.2.2.2.2.1, d5.2.2.2.2.2.2.2.2.2.2.2.2))).bind fun (d11 : Int × Bool × Int × Int × (List Vapi_Cell) × Int × Int) =>
    (
     vitrinelaw20_lay_l14 d5 fuel (0, d11.1, d11.2.1, d11.2.2.1, d11.2.2.2.1, d11.2.2.2.2.1, d11.2.2.2.2.2.1, d11.2.2.2.2.2.2)).bind fun (d13 : Int × Bool × Int × Int × (List Vapi_Cell) × Int × Int) =>
    (m_space_Space_Place (⟨d13.1, d13.2.1, (⟨d13.2.2.1, d13.2.2.2.1⟩ : Vaddr_Size), d13.2.2.2.2.1, d13.2.2.2.2.2.1, d13.2.2.2.2.2.2⟩ : Vspace_Space) d5.2.2.2.2.2.1).bind fun (d19 : Vspace_Space) =>
    some ((⟨d19.model, d19.alternate, d19.size, d19.cells, d19.cursor, d19.attrs⟩ : Vspace_Space), (⟨d5.1, d5.2.1, (⟨d5.2.2.1, d5.2.2.2.1⟩ : Vvitrineref04_Size), d5.2.2.2.2.1, d5.2.2.2.2.2.1⟩ : Vvitrineref12_Space))))

def vitrineref05_Right_l4 (p0 : Vvitrineref05_Pair) (d2 : (List Int)) : Nat → Int → Option ((Unit) ⊕ Bool)
  | 0, _ => none
  | k4 + 1, x4 =>
    cond (decide (x4 < (d2.length : Int))) (
     gd ((0 : Int) ≤ x4 ∧ x4 < (d2.length : Int)) <|
     cond ((rd d2 x4) == p0.Value) (
      esc (
       some true)) (
      vitrineref05_Right_l4 p0 d2 k4 (w64 (x4 + 1)))) (
     some (.inl ()))

def m_vitrineref05_Right (p0 : Vvitrineref05_Pair) : Option Bool :=
  jn (
   cond (p0.f_Type == 0) (
    some (.inl [0])) (
    cond (p0.f_Type == 192) (
     esc (
      some true)) (
     cond (p0.f_Type == 65) (
      some (.inl [0, 240, 241, 242, 244, 248])) (
      cond (p0.f_Type == 66) (
       some (.inl [0, 241, 242, 243, 244, 245, 246, 247])) (
       cond (p0.f_Type == 67) (
        some (.inl [0, 241])) (
        some (.inl ([] : List Int)))))))) fun (d2 : (List Int)) =>
  jn (
   vitrineref05_Right_l4 p0 d2 fuel 0) fun (d3 : Unit) =>
  some false

def vitrinelaw20_looks_l7 (d5 : (List Vvitrineref05_Pair)) : Nat → Int → Option ((Unit) ⊕ ((Unit) ⊕ ((Unit) ⊕ Bool)))
  | 0, _ => none
  | k7 + 1, x7 =>
    cond (decide (x7 < (d5.length : Int))) (
     gd ((0 : Int) ≤ x7 ∧ x7 < (d5.length : Int)) <|
     (m_vitrineref05_Right (rd d5 x7)).bind fun (d10 : Bool) =>
     cond (!d10) (
      esc (
       esc (
        esc (
         some false)))) (
      vitrinelaw20_looks_l7 d5 k7 (w64 (x7 + 1)))) (
     some (.inl ()))

def vitrinelaw20_looks_l2 (p0 : Vvitrineref12_Space) : Nat → Int → Option ((Unit) ⊕ Bool)
  | 0, _ => none
  | k2 + 1, x2 =>
    cond (decide (x2 < (p0.L.length : Int))) (
     jn (
      gd ((0 : Int) ≤ x2 ∧ x2 < (p0.L.length : Int)) <|
      (m_vitrineref05_Diff (⟨0, false, 0, 0, 0, 0⟩ : Vapi_Cell) (rd p0.L x2)).bind fun (d5 : (List Vvitrineref05_Pair)) =>
      jn (
       vitrinelaw20_looks_l7 d5 fuel 0) fun (d6 : Unit) =>
      some (.inl ())) fun (d4 : Unit) =>
     vitrinelaw20_looks_l2 p0 k2 (w64 (x2 + 1))) (
     some (.inl ()))

def m_vitrinelaw20_looks (p0 : Vvitrineref12_Space) : Option Bool :=
  jn (
   vitrinelaw20_looks_l2 p0 fuel 0) fun (d1 : Unit) =>
  some true

def m_vitrinelaw20_sent (p0 : Int) : Option Int :=
  (m_vitrineref16_Is p0).bind fun (d1 : Bool) =>
  cond d1 (
   some 63) (
   some p0)

def vitrinelaw20_EntryModified_l22 (d4 : Vspace_Space × Vvitrineref12_Space) : Nat → (Int × (List Int)) → Option (List Int)
  | 0, _ => none
  | k22 + 1, x22 =>
    (m_vitrineref12_At d4.2 x22.1).bind fun (d23 : Vapi_Cell) =>
    cond (!d23.Attr) (
     (m_vitrineref12_At d4.2 x22.1).bind fun (d26 : Vapi_Cell) =>
     (
      cond (d26.Char != 0) (
       (m_vitrinelaw20_sent d26.Char).bind fun (d28 : Int) =>
       gd (x22.2.length + [d28].length ≤ 68719476736) <|
       some (x22.2 ++ [d28])) (
       some x22.2)).bind fun (d27 : (List Int)) =>
     vitrinelaw20_EntryModified_l22 d4 k22 (w64 (x22.1 + 1), d27)) (
     some x22.2)

def vitrinelaw20_EntryModified_l16 (d4 : Vspace_Space × Vvitrineref12_Space) (d14 : (List Int)) : Nat → (Int × (List Vvitrineref20_Entry)) → Option (List Vvitrineref20_Entry)
  | 0, _ => none
  | k16 + 1, x16 =>
    cond (decide (x16.1 < (d14.length : Int))) (
     (
      gd ((0 : Int) ≤ x16.1 ∧ x16.1 < (d14.length : Int)) <|
      gd ((0 : Int) ≤ (rd d14 x16.1) ∧ (rd d14 x16.1) < (d4.2.L.length : Int)) <|
      cond ((iband .u8 ((rd d4.2.L (rd d14 x16.1)).FA) 1) == 0) (
       some x16.2) (
       (m_vitrineref12_Wrap d4.2 (w64 ((rd d14 x16.1) + 1))).bind fun (d20 : Int) =>
       (
        vitrinelaw20_EntryModified_l22 d4 fuel (w64 ((rd d14 x16.1) + 1), ([] : List Int))).bind fun (d21 : (List Int)) =>
       gd (x16.2.length + [(⟨d20, d21⟩ : Vvitrineref20_Entry)].length ≤ 68719476736) <|
       some (x16.2 ++ [(⟨d20, d21⟩ : Vvitrineref20_Entry)]))).bind fun (d18 : (List Vvitrineref20_Entry)) =>
     vitrinelaw20_EntryModified_l16 d4 d14 k16 (w64 (x16.1 + 1), d18)) (
     some x16.2)

def vitrinelaw20_EntryModified_l32 (d4 : Vspace_Space × Vvitrineref12_Space) : Nat → (Int × (List Int)) → Option (List Int)
  | 0, _ => none
  | k32 + 1, x32 =>
    cond (decide (x32.1 < (d4.2.L.length : Int))) (
     gd ((0 : Int) ≤ x32.1 ∧ x32.1 < (d4.2.L.length : Int)) <|
     (
      cond (((rd d4.2.L x32.1).Char) != 0) (
       (m_vitrinelaw20_sent ((rd d4.2.L x32.1).Char)).bind fun (d36 : Int) =>
       gd (x32.2.length + [d36].length ≤ 68719476736) <|
       some (x32.2 ++ [d36])) (
       some x32.2)).bind fun (d35 : (List Int)) =>
     vitrinelaw20_EntryModified_l32 d4 k32 (w64 (x32.1 + 1), d35)) (
     some x32.2)

def m_vitrinelaw20_EntryModified (p0 : Int) (p1 : List Vvitrineref12_Act) (p2 : Int) (p3 : Int) : Option Bool :=
  (m_vitrinelaw20_awake).bind fun (d1 : Bool) =>
  cond (!d1) (
   some false) (
   (m_vitrinelaw20_lay p0 p1).bind fun (d4 : Vspace_Space × Vvitrineref12_Space) =>
   (m_read_Modified d4.1 p2 (w64 (Int.tmod p3 3))).bind fun (d5 : Vspace_Space × (List Int) × Int) =>
   (m_entry_Parse d5.2.1).bind fun (d6 : Ventry_Report × Int) =>
   (m_vitrinelaw20_looks d4.2).bind fun (d7 : Bool) =>
   cond (!d7) (
    some (d5.2.2 == 0)) (
    (
     cond (d5.2.2 != 0) (
      some true) (
      cond (d6.2 != 0) (
       some true) (
       some (d6.1.AID != p2)))).bind fun (d9 : Bool) =>
    cond d9 (
     some false) (
     (m_vitrineref18_Short p2).bind fun (d11 : Bool) =>
     cond d11 (
      (
       cond d6.1.Short (
        some ((d6.1.Entries.length : Int) == 0)) (
        some false)).bind fun (d13 : Bool) =>
      some d13) (
      (m_vitrineref12_Attrs d4.2).bind fun (d14 : (List Int)) =>
      (
       vitrinelaw20_EntryModified_l16 d4 d14 fuel (0, ([] : List Vvitrineref20_Entry))).bind fun (d15 : (List Vvitrineref20_Entry)) =>
      (m_vitrineref12_Attrs d4.2).bind fun (d29 : (List Int)) =>
      (
       cond ((d29.length : Int) == 0) (
        (
         vitrinelaw20_EntryModified_l32 d4 fuel (0, ([] : List Int))).bind fun (d31 : (List Int)) =>
        cond (decide ((d31.length : Int) > 0)) (
         some [(⟨0, d31⟩ : Vvitrineref20_Entry)]) (
         some d15)) (
        some d15)).bind fun (d30 : (List Vvitrineref20_Entry)) =>
      (m_vitrinelaw20_back (⟨d6.1.AID, d6.1.Short, d6.1.Cursor, d6.1.Entries⟩ : Ventry_Report)).bind fun (d39 : Vvitrineref20_Report) =>
      (m_vitrineref20_Same_2 (⟨d39.AID, d39.Short, d39.Cursor, d39.Entries⟩ : Vvitrineref20_Report) (⟨p2, false, d4.2.Cursor, d30⟩ : Vvitrineref20_Report)).bind fun (d40 : Bool) =>
      some d40))))

def m_read_begin_2 (p0 : Int) (p1 : Int) (p2 : Bool) : Option Int :=
  some 5

def m_space_Space_All_2 : Option Unit :=
  some ()

def m_space_Space_Size_2 : Option Vaddr_Size :=
  some (⟨0, 0⟩ : Vaddr_Size)

def m_space_Space_At_2 (p0 : Int) : Option Vapi_Cell :=
  some (⟨0, false, 0, 0, 0, 0⟩ : Vapi_Cell)

def read_Buffer_l11 (d9 : Int) : Nat → Unit → Option Unit
  | 0, _ => none
  | k11 + 1, x11 =>
    cond (decide (0 < d9)) (
     (m_space_Space_At_2 0).bind fun (d14 : Vapi_Cell) =>
     cond d14.Attr (
      none) (
      none)) (
     some ())

def m_read_Buffer (p0 : Int) (p1 : Int) : Option Int :=
  (m_read_begin_2 p0 p1 false).bind fun (d2 : Int) =>
  cond (d2 != 0) (
   some d2) (
   (m_space_Space_All_2).bind fun (d4 : Unit) =>
   (
    (
     (m_space_Space_Size_2).bind fun (d8 : Vaddr_Size) =>
     (m_addr_Size_Cells d8).bind fun (d9 : Int) =>
     (
      read_Buffer_l11 d9 fuel ()).bind fun (d10 : Unit) =>
     some ()).bind fun (d6 : Unit) =>
    some ()).bind fun (d5 : Unit) =>
   none)

def m_read_bytesOf_2 : Option Unit :=
  some ()

def m_space_Space_Formatted_2 : Option Bool :=
  some false

def m_read_sender_some_2 (p0 : Vapi_Cell) : Option Unit :=
  cond (p0.Char != 0) (
   none) (
   some ())

def m_field_Modified_2 : Option Unit :=
  some ()

def m_field_Fields_2 : Option Unit :=
  some ()

def m_space_Space_Attrs_2 : Option Unit :=
  some ()

def read_modified_2_l15 (d13 : Int) : Nat → Int → Option Unit
  | 0, _ => none
  | k15 + 1, x15 =>
    cond (decide (x15 < d13)) (
     (m_space_Space_At_2 x15).bind fun (d18 : Vapi_Cell) =>
     (m_read_sender_some_2 d18).bind fun (d20 : Unit) =>
     read_modified_2_l15 d13 k15 (w64 (x15 + 1))) (
     some ())

def read_modified_2_l40 (d38 : Int) : Nat → Int → Option Unit
  | 0, _ => none
  | k40 + 1, x40 =>
    cond (decide (x40 < d38)) (
     (m_space_Space_At_2 x40).bind fun (d43 : Vapi_Cell) =>
     (
      cond d43.Attr (
       (m_space_Space_At_2 x40).bind fun (d48 : Vapi_Cell) =>
       (m_attr_Of d48.FA).bind fun (d49 : Vattr_Field) =>
       cond d49.Modified (
        none) (
        some ())) (
       some ())).bind fun (d45 : Unit) =>
     read_modified_2_l40 d38 k40 (w64 (x40 + 1))) (
     some ())

def m_read_modified_2 (p0 : Int) (p1 : Int) (p2 : Bool) : Option Int :=
  (m_read_begin_2 p0 p1 p2).bind fun (d2 : Int) =>
  (
   cond (d2 != 0) (
    some true) (
    some p2)).bind fun (d3 : Bool) =>
  cond d3 (
   (m_read_bytesOf_2).bind fun (d5 : Unit) =>
   some d2) (
   (m_space_Space_Formatted_2).bind fun (d6 : Bool) =>
   cond (!d6) (
    (m_space_Space_All_2).bind fun (d8 : Unit) =>
    (
     (
      (m_space_Space_Size_2).bind fun (d12 : Vaddr_Size) =>
      (m_addr_Size_Cells (⟨d12.Rows, d12.Cols⟩ : Vaddr_Size)).bind fun (d13 : Int) =>
      (
       read_modified_2_l15 d13 fuel 0).bind fun (d14 : Unit) =>
      some ()).bind fun (d10 : Unit) =>
     some ()).bind fun (d9 : Unit) =>
    none) (
    (m_field_Modified_2).bind fun (d21 : Unit) =>
    (
     (
      (m_field_Fields_2).bind fun (d25 : Unit) =>
      (
       (
        (m_space_Space_Attrs_2).bind fun (d29 : Unit) =>
        (
         (
          (m_space_Space_All_2).bind fun (d33 : Unit) =>
          (
           (
            (m_space_Space_Size_2).bind fun (d37 : Vaddr_Size) =>
            (m_addr_Size_Cells (⟨d37.Rows, d37.Cols⟩ : Vaddr_Size)).bind fun (d38 : Int) =>
            (
             read_modified_2_l40 d38 fuel 0).bind fun (d39 : Unit) =>
            some ()).bind fun (d35 : Unit) =>
           some ()).bind fun (d34 : Unit) =>
          some ()).bind fun (d31 : Unit) =>
         some ()).bind fun (d30 : Unit) =>
        some ()).bind fun (d27 : Unit) =>
       some ()).bind fun (d26 : Unit) =>
      some ()).bind fun (d23 : Unit) =>
     some ()).bind fun (d22 : Unit) =>
    none))

def m_read_Modified_2 (p0 : Int) (p1 : Int) : Option Int :=
  (m_keys_Short p0).bind fun (d1 : Bool) =>
  (m_read_modified_2 p0 p1 d1).bind fun (d2 : Int) =>
  some d2

def m_read_All_2 (p0 : Int) (p1 : Int) : Option Int :=
  (m_read_modified_2 p0 p1 false).bind fun (d1 : Int) =>
  some d1

def m_read_For (p0 : Int) (p1 : Int) (p2 : Int) : Option Int :=
  cond (p0 == 5) (
   (m_read_Buffer p1 p2).bind fun (d3 : Int) =>
   some d3) (
   cond (p0 == 6) (
    (m_read_Modified_2 p1 p2).bind fun (d4 : Int) =>
    some d4) (
    cond (p0 == 7) (
     (m_read_All_2 p1 p2).bind fun (d5 : Int) =>
     some d5) (
     some 11)))

def m_read_Length (p0 : Int) : Option Int :=
  (m_read_Buffer 0 p0).bind fun (d1 : Int) =>
  some (([] : List Int).length : Int)

def m_read_Most : Option Int :=
  (m_space_Space_Size_2).bind fun (d1 : Vaddr_Size) =>
  (m_addr_Size_Cells (⟨d1.Rows, d1.Cols⟩ : Vaddr_Size)).bind fun (d2 : Int) =>
  some (w64 (3 + (w64 (11 * d2))))

def m_vitrinelaw19_ReadNil (p0 : Int) (p1 : Int) (p2 : Int) : Option Bool :=
  (m_vitrinelaw19_awake).bind fun (d1 : Bool) =>
  cond (!d1) (
   some false) (
   (m_read_Buffer p1 p2).bind fun (d3 : Int) =>
   (m_read_Modified_2 p1 p2).bind fun (d4 : Int) =>
   (m_read_All_2 p1 p2).bind fun (d5 : Int) =>
   (m_read_For p0 p1 p2).bind fun (d6 : Int) =>
   (
    cond (decide (p0 < 5)) (
     some true) (
     some (decide (p0 > 7)))).bind fun (d7 : Bool) =>
   (
    cond d7 (
     some 11) (
     some 5)).bind fun (d8 : Int) =>
   (
    cond (d3 == 5) (
     cond (d4 == 5) (
      cond (d5 == 5) (
       cond (d6 == d8) (
        (m_read_Length p2).bind fun (d10 : Int) =>
        cond (d10 == 0) (
         (m_read_Most).bind fun (d11 : Int) =>
         some (d11 == 3)) (
         some false)) (
        some false)) (
       some false)) (
      some false)) (
     some false)).bind fun (d9 : Bool) =>
   some d9)

end Go.Vt
