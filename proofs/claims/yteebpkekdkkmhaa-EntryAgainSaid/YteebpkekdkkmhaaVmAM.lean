/- What the functions compute, in plain Lean. No conditions. -/
import Derived.Test.YteebpkekdkkmhaaVtL
set_option linter.unusedVariables false
namespace Go.Vt
structure Ventry_Entry where
  Addr : Int
  Text : (List Int)
  deriving Inhabited, DecidableEq

structure Ventry_Report where
  AID : Int
  Short : Bool
  Cursor : Int
  Entries : (List Ventry_Entry)
  deriving Inhabited, DecidableEq

structure Vattr_Pair where
  f_Type : Int
  Value : Int
  deriving Inhabited, DecidableEq

structure Vorder_Op where
  Kind : Int
  Addr : Int
  Code : Int
  Graph : Bool
  FA : Int
  Pairs : (List Vattr_Pair)
  Text : (List Int)
  deriving Inhabited, DecidableEq

structure Vorder_scanner where
  p : (List Int)
  code : Int
  deriving Inhabited, DecidableEq

structure Vvitrineref20_Entry where
  Addr : Int
  Text : (List Int)
  deriving Inhabited, DecidableEq

structure Vvitrineref20_Report where
  AID : Int
  Short : Bool
  Cursor : Int
  Entries : (List Vvitrineref20_Entry)
  deriving Inhabited, DecidableEq

def m_addr_zone (p0 : Int) : Option (Int × Int × Int × Int) :=
  cond ((ishr .i64 p0 4) == 0) (
   some (64, 192, 1, 9)) (
   cond ((ishr .i64 p0 4) == 1) (
    some (80, 208, 1, 9)) (
    cond ((ishr .i64 p0 4) == 2) (
     some (96, 224, 2, 9)) (
     some (112, 240, 0, 9))))

def m_addr_Six (p0 : Int) : Option Int :=
  (m_addr_zone (iband .i64 p0 63)).bind fun (d1 : Int × Int × Int × Int) =>
  (
   cond (decide ((iband .i64 (iband .i64 p0 63) 15) ≥ d1.2.2.1)) (
    some (decide ((iband .i64 (iband .i64 p0 63) 15) ≤ d1.2.2.2))) (
    some false)).bind fun (d2 : Bool) =>
  cond d2 (
   some (ibor .u8 d1.2.1 (IntKind.wrap .u8 (iband .i64 (iband .i64 p0 63) 15)))) (
   some (ibor .u8 d1.1 (IntKind.wrap .u8 (iband .i64 (iband .i64 p0 63) 15))))

def addr_Unsix_l2 (p0 : Int) : Nat → Int → Option ((Unit) ⊕ Int)
  | 0, _ => none
  | k2 + 1, x2 =>
    cond (decide (x2 < 64)) (
     (m_addr_Six x2).bind fun (d5 : Int) =>
     cond (d5 == p0) (
      esc (
       some x2)) (
      addr_Unsix_l2 p0 k2 (w64 (x2 + 1)))) (
     some (.inl ()))

def m_addr_Unsix (p0 : Int) : Option Int :=
  jn (
   addr_Unsix_l2 p0 fuel 0) fun (d1 : Unit) =>
  some (w64 (iband .u8 p0 63))

def m_addr_Decode (p0 : Int) (p1 : List Int) : Option (Int × Int) :=
  (
   cond (p0 != 12) (
    cond (p0 != 14) (
     some (p0 != 16)) (
     some false)) (
    some false)).bind fun (d2 : Bool) =>
  cond d2 (
   some (0, 1)) (
   cond (decide ((p1.length : Int) < 2)) (
    some (0, 2)) (
    gd ((0 : Int) ≤ 0 ∧ 0 < (p1.length : Int)) <|
    gd ((0 : Int) ≤ 1 ∧ 1 < (p1.length : Int)) <|
    (
     cond (p0 == 16) (
      some true) (
      gd ((0 : Int) ≤ 0 ∧ 0 < (p1.length : Int)) <|
      some ((ishr .u8 (rd p1 0) 6) == 0))).bind fun (d5 : Bool) =>
    cond d5 (
     some (ibor .i64 (ishl .i64 (w64 ((rd p1 0))) 8) (w64 ((rd p1 1))), 0)) (
     gd ((0 : Int) ≤ 0 ∧ 0 < (p1.length : Int)) <|
     cond ((ishr .u8 (rd p1 0) 6) == 2) (
      some (0, 9)) (
      gd ((0 : Int) ≤ 0 ∧ 0 < (p1.length : Int)) <|
      gd ((0 : Int) ≤ 1 ∧ 1 < (p1.length : Int)) <|
      (m_addr_Unsix (rd p1 0)).bind fun (d7 : Int) =>
      (m_addr_Unsix (rd p1 1)).bind fun (d8 : Int) =>
      some (ibor .i64 (ishl .i64 d7 6) d8, 0)))))

def m_entry_begin (p0 : List Int) : Option (Ventry_Report × (List Int) × Int) :=
  (
   cond ((p0.length : Int) == 0) (
    some ((p0.length : Int) == 0)) (
    some ((p0.length : Int) == 2))).bind fun (d2 : Bool) =>
  cond d2 (
   some ((⟨0, false, 0, ([] : List Ventry_Entry)⟩ : Ventry_Report), ([] : List Int), 2)) (
   cond ((p0.length : Int) == 1) (
    gd ((0 : Int) ≤ 0 ∧ 0 < (p0.length : Int)) <|
    some ((⟨(rd p0 0), true, 0, ([] : List Ventry_Entry)⟩ : Ventry_Report), ([] : List Int), 0)) (
    gd ((0 : Int) ≤ 1 ∧ 1 ≤ (p0.length : Int) ∧ (p0.length : Int) ≤ (p0.length : Int)) <|
    (m_addr_Decode 12 (List.drop 1 p0)).bind fun (d4 : Int × Int) =>
    cond (d4.2 != 0) (
     some ((⟨0, false, 0, ([] : List Ventry_Entry)⟩ : Ventry_Report), ([] : List Int), d4.2)) (
     gd ((0 : Int) ≤ 0 ∧ 0 < (p0.length : Int)) <|
     gd ((0 : Int) ≤ 3 ∧ 3 ≤ (p0.length : Int) ∧ (p0.length : Int) ≤ (p0.length : Int)) <|
     some ((⟨(rd p0 0), false, d4.1, ([] : List Ventry_Entry)⟩ : Ventry_Report), (List.drop 3 p0), 0))))

def m_order_Name (p0 : Int) : Option ByteArray :=
  cond (p0 == 0) (
   some (ByteArray.mk (List.toArray [84, 101, 120, 116]))) (
   cond (p0 == 5) (
    some (ByteArray.mk (List.toArray [80, 84]))) (
    cond (p0 == 8) (
     some (ByteArray.mk (List.toArray [71, 69]))) (
     cond (p0 == 17) (
      some (ByteArray.mk (List.toArray [83, 66, 65]))) (
      cond (p0 == 18) (
       some (ByteArray.mk (List.toArray [69, 85, 65]))) (
       cond (p0 == 19) (
        some (ByteArray.mk (List.toArray [73, 67]))) (
        cond (p0 == 29) (
         some (ByteArray.mk (List.toArray [83, 70]))) (
         cond (p0 == 40) (
          some (ByteArray.mk (List.toArray [83, 65]))) (
          cond (p0 == 41) (
           some (ByteArray.mk (List.toArray [83, 70, 69]))) (
           cond (p0 == 44) (
            some (ByteArray.mk (List.toArray [77, 70]))) (
            cond (p0 == 60) (
             some (ByteArray.mk (List.toArray [82, 65]))) (
             some (ByteArray.mk (List.toArray [])))))))))))))

def m_order_Is (p0 : Int) : Option Bool :=
  (
   cond (p0 != 0) (
    (m_order_Name (w64 (p0))).bind fun (d2 : ByteArray) =>
    some (!(d2.data.toList == (ByteArray.mk (List.toArray [])).data.toList))) (
    some false)).bind fun (d1 : Bool) =>
  some d1

def m_order_scanner_fail (p0 : Vorder_scanner) (p1 : Int) : Option Vorder_scanner :=
  cond (p0.code == 0) (
   some (⟨p0.p, p1⟩ : Vorder_scanner)) (
   some p0)

def m_order_scanner_take (p0 : Vorder_scanner) (p1 : Int) : Option (Vorder_scanner × (List Int)) :=
  cond (decide ((p0.p.length : Int) < p1)) (
   (m_order_scanner_fail p0 2).bind fun (d2 : Vorder_scanner) =>
   gd ((0 : Int) ≤ p1 ∧ p1 ≤ 68719476736) <|
   some ((⟨([] : List Int), d2.code⟩ : Vorder_scanner), (List.replicate (Int.toNat p1) 0))) (
   gd ((0 : Int) ≤ 0 ∧ 0 ≤ p1 ∧ p1 ≤ (p0.p.length : Int)) <|
   gd (p1 ≤ p1 ∧ p1 ≤ (p0.p.length : Int)) <|
   gd ((0 : Int) ≤ p1 ∧ p1 ≤ (p0.p.length : Int) ∧ (p0.p.length : Int) ≤ (p0.p.length : Int)) <|
   some ((⟨(List.drop (Int.toNat p1) p0.p), p0.code⟩ : Vorder_scanner), (List.take (Int.toNat p1) p0.p)))

def m_bytes_Clone (p0 : List Int) : Option (List Int) :=
  gd (p0.length ≤ 68719476736) <|
  some p0

def order_scanner_text_l2 (p0 : Vorder_scanner) : Nat → Int → Option Int
  | 0, _ => none
  | k2 + 1, x2 =>
    (
     cond (decide (x2 < (p0.p.length : Int))) (
      gd ((0 : Int) ≤ x2 ∧ x2 < (p0.p.length : Int)) <|
      (m_order_Is (rd p0.p x2)).bind fun (d4 : Bool) =>
      some (!d4)) (
      some false)).bind fun (d3 : Bool) =>
    cond d3 (
     order_scanner_text_l2 p0 k2 (w64 (x2 + 1))) (
     some x2)

def m_order_scanner_text (p0 : Vorder_scanner) : Option (Vorder_scanner × (List Int)) :=
  (
   order_scanner_text_l2 p0 fuel 0).bind fun (d1 : Int) =>
  (m_order_scanner_take p0 d1).bind fun (d6 : Vorder_scanner × (List Int)) =>
  (m_bytes_Clone d6.2).bind fun (d7 : (List Int)) =>
  some (d6.1, d7)

def m_order_scanner_addr (p0 : Vorder_scanner) : Option (Vorder_scanner × Int) :=
  (m_order_scanner_take p0 2).bind fun (d1 : Vorder_scanner × (List Int)) =>
  cond (d1.1.code != 0) (
   some (d1.1, 0)) (
   (m_addr_Decode 12 d1.2).bind fun (d3 : Int × Int) =>
   (
    cond (d3.2 != 0) (
     (m_order_scanner_fail d1.1 d3.2).bind fun (d5 : Vorder_scanner) =>
     some (d5.p, d5.code)) (
     some (d1.1.p, d1.1.code))).bind fun (d4 : (List Int) × Int) =>
   some ((⟨d4.1, d4.2⟩ : Vorder_scanner), d3.1))

def m_order_scanner_character (p0 : Vorder_scanner) : Option (Vorder_scanner × Int) :=
  (m_order_scanner_take p0 1).bind fun (d1 : Vorder_scanner × (List Int)) =>
  gd ((0 : Int) ≤ 0 ∧ 0 < (d1.2.length : Int)) <|
  (m_order_Is (rd d1.2 0)).bind fun (d2 : Bool) =>
  (
   cond d2 (
    (m_order_scanner_fail d1.1 10).bind fun (d4 : Vorder_scanner) =>
    some (d4.p, d4.code)) (
    some (d1.1.p, d1.1.code))).bind fun (d3 : (List Int) × Int) =>
  some ((⟨d3.1, d3.2⟩ : Vorder_scanner), (rd d1.2 0))

def m_attr_Pair_Check (p0 : Vattr_Pair) : Option Int :=
  (
   cond (p0.f_Type == 0) (
    some (p0.Value == 0)) (
    cond (p0.f_Type == 192) (
     some true) (
     cond (p0.f_Type == 65) (
      cond (p0.Value == 0) (
       some true) (
       cond (p0.Value == 240) (
        some true) (
        cond (p0.Value == 241) (
         some true) (
         cond (p0.Value == 242) (
          some true) (
          cond (p0.Value == 244) (
           some true) (
           some (p0.Value == 248))))))) (
      cond (p0.f_Type == 66) (
       cond (p0.Value == 0) (
        some true) (
        cond (decide (p0.Value ≥ 241)) (
         some (decide (p0.Value ≤ 247))) (
         some false))) (
       cond (p0.f_Type == 67) (
        cond (p0.Value == 0) (
         some true) (
         some (p0.Value == 241))) (
        some false)))))).bind fun (d2 : Bool) =>
  cond (!d2) (
   some 10) (
   some 0)

def m_order_scanner_pair (p0 : Vorder_scanner) : Option (Vorder_scanner × (List Vattr_Pair)) :=
  (m_order_scanner_take p0 2).bind fun (d1 : Vorder_scanner × (List Int)) =>
  gd ((0 : Int) ≤ 0 ∧ 0 < (d1.2.length : Int)) <|
  gd ((0 : Int) ≤ 1 ∧ 1 < (d1.2.length : Int)) <|
  (m_attr_Pair_Check (⟨(rd d1.2 0), (rd d1.2 1)⟩ : Vattr_Pair)).bind fun (d2 : Int) =>
  (
   cond (d2 != 0) (
    (m_order_scanner_fail d1.1 d2).bind fun (d4 : Vorder_scanner) =>
    some (d4.p, d4.code)) (
    some (d1.1.p, d1.1.code))).bind fun (d3 : (List Int) × Int) =>
  some ((⟨d3.1, d3.2⟩ : Vorder_scanner), [(⟨(rd d1.2 0), (rd d1.2 1)⟩ : Vattr_Pair)])

def attr_Parse_l4 (p0 : List Int) : Nat → (Int × (List Vattr_Pair)) → Option (((List Vattr_Pair)) ⊕ ((List Vattr_Pair) × Int × Int))
  | 0, _ => none
  | k4 + 1, x4 =>
    cond (decide (x4.1 < (w64 (1 + (w64 (2 * (w64 ((rd p0 0))))))))) (
     gd ((0 : Int) ≤ x4.1 ∧ x4.1 < (p0.length : Int)) <|
     gd ((0 : Int) ≤ (w64 (x4.1 + 1)) ∧ (w64 (x4.1 + 1)) < (p0.length : Int)) <|
     (m_attr_Pair_Check (⟨(rd p0 x4.1), (rd p0 (w64 (x4.1 + 1)))⟩ : Vattr_Pair)).bind fun (d7 : Int) =>
     cond (d7 != 0) (
      esc (
       some (([] : List Vattr_Pair), 0, d7))) (
      gd (x4.2.length + [(⟨(rd p0 x4.1), (rd p0 (w64 (x4.1 + 1)))⟩ : Vattr_Pair)].length ≤ 68719476736) <|
      attr_Parse_l4 p0 k4 (w64 (x4.1 + 2), (x4.2 ++ [(⟨(rd p0 x4.1), (rd p0 (w64 (x4.1 + 1)))⟩ : Vattr_Pair)])))) (
     some (.inl x4.2))

def m_attr_Parse (p0 : List Int) : Option ((List Vattr_Pair) × Int × Int) :=
  (
   cond (decide ((p0.length : Int) < 1)) (
    some true) (
    gd ((0 : Int) ≤ 0 ∧ 0 < (p0.length : Int)) <|
    some (decide ((p0.length : Int) < (w64 (1 + (w64 (2 * (w64 ((rd p0 0))))))))))).bind fun (d1 : Bool) =>
  cond d1 (
   some (([] : List Vattr_Pair), 0, 2)) (
   gd ((0 : Int) ≤ 0 ∧ 0 < (p0.length : Int)) <|
   jn (
    attr_Parse_l4 p0 fuel (1, ([] : List Vattr_Pair))) fun (d3 : (List Vattr_Pair)) =>
   some (d3, w64 (1 + (w64 (2 * (w64 ((rd p0 0)))))), 0))

def m_order_scanner_pairs (p0 : Vorder_scanner) : Option (Vorder_scanner × (List Vattr_Pair)) :=
  (m_attr_Parse p0.p).bind fun (d1 : (List Vattr_Pair) × Int × Int) =>
  cond (d1.2.2 != 0) (
   (m_order_scanner_fail p0 d1.2.2).bind fun (d3 : Vorder_scanner) =>
   some (d3, ([] : List Vattr_Pair))) (
   (m_order_scanner_take p0 d1.2.1).bind fun (d4 : Vorder_scanner × (List Int)) =>
   some (d4.1, d1.1))

def m_order_scanner_op (p0 : Vorder_scanner) : Option (Vorder_scanner × Vorder_Op) :=
  gd ((0 : Int) ≤ 0 ∧ 0 < (p0.p.length : Int)) <|
  (m_order_Is (rd p0.p 0)).bind fun (d1 : Bool) =>
  cond (!d1) (
   (m_order_scanner_text p0).bind fun (d3 : Vorder_scanner × (List Int)) =>
   some (d3.1, (⟨0, 0, 0, false, 0, ([] : List Vattr_Pair), d3.2⟩ : Vorder_Op))) (
   (m_order_scanner_take p0 1).bind fun (d4 : Vorder_scanner × (List Int)) =>
   gd ((0 : Int) ≤ 0 ∧ 0 < (d4.2.length : Int)) <|
   (
    cond ((w64 ((rd d4.2 0))) == 17) (
     some ((w64 ((rd d4.2 0))) == 17)) (
     some ((w64 ((rd d4.2 0))) == 18))).bind fun (d6 : Bool) =>
   (
    cond d6 (
     (m_order_scanner_addr d4.1).bind fun (d8 : Vorder_scanner × Int) =>
     some (d8.2, 0, false, 0, ([] : List Vattr_Pair), d8.1.p, d8.1.code)) (
     cond ((w64 ((rd d4.2 0))) == 60) (
      (m_order_scanner_addr d4.1).bind fun (d9 : Vorder_scanner × Int) =>
      (
       cond (decide ((d9.1.p.length : Int) > 0)) (
        gd ((0 : Int) ≤ 0 ∧ 0 < (d9.1.p.length : Int)) <|
        some ((rd d9.1.p 0) == 8)) (
        some false)).bind fun (d10 : Bool) =>
      (
       cond d10 (
        (m_order_scanner_take d9.1 1).bind fun (d12 : Vorder_scanner × (List Int)) =>
        some (true, d12.1.p, d12.1.code)) (
        some (false, d9.1.p, d9.1.code))).bind fun (d11 : Bool × (List Int) × Int) =>
      (m_order_scanner_character (⟨d11.2.1, d11.2.2⟩ : Vorder_scanner)).bind fun (d13 : Vorder_scanner × Int) =>
      some (d9.2, d13.2, d11.1, 0, ([] : List Vattr_Pair), d13.1.p, d13.1.code)) (
      cond ((w64 ((rd d4.2 0))) == 29) (
       (m_order_scanner_take d4.1 1).bind fun (d14 : Vorder_scanner × (List Int)) =>
       gd ((0 : Int) ≤ 0 ∧ 0 < (d14.2.length : Int)) <|
       some (0, 0, false, (rd d14.2 0), ([] : List Vattr_Pair), d14.1.p, d14.1.code)) (
       cond ((w64 ((rd d4.2 0))) == 40) (
        (m_order_scanner_pair d4.1).bind fun (d15 : Vorder_scanner × (List Vattr_Pair)) =>
        some (0, 0, false, 0, d15.2, d15.1.p, d15.1.code)) (
        (
         cond ((w64 ((rd d4.2 0))) == 41) (
          some ((w64 ((rd d4.2 0))) == 41)) (
          some ((w64 ((rd d4.2 0))) == 44))).bind fun (d16 : Bool) =>
        cond d16 (
         (m_order_scanner_pairs d4.1).bind fun (d17 : Vorder_scanner × (List Vattr_Pair)) =>
         some (0, 0, false, 0, d17.2, d17.1.p, d17.1.code)) (
         cond ((w64 ((rd d4.2 0))) == 8) (
          (m_order_scanner_character d4.1).bind fun (d18 : Vorder_scanner × Int) =>
          some (0, d18.2, false, 0, ([] : List Vattr_Pair), d18.1.p, d18.1.code)) (
          some (0, 0, false, 0, ([] : List Vattr_Pair), d4.1.p, d4.1.code)))))))).bind fun (d7 : Int × Int × Bool × Int × (List Vattr_Pair) × (List Int) × Int) =>
   some ((⟨d7.2.2.2.2.2.1, d7.2.2.2.2.2.2⟩ : Vorder_scanner), (⟨w64 ((rd d4.2 0)), d7.1, d7.2.1, d7.2.2.1, d7.2.2.2.1, d7.2.2.2.2.1, ([] : List Int)⟩ : Vorder_Op)))

def order_All_l2 (p0 : List Int) : Nat → ((List Vorder_Op) × (List Int) × Int) → Option (((List Vorder_Op)) ⊕ ((List Vorder_Op) × Int × Int))
  | 0, _ => none
  | k2 + 1, x2 =>
    cond (decide ((x2.2.1.length : Int) > 0)) (
     (m_order_scanner_op (⟨x2.2.1, x2.2.2⟩ : Vorder_scanner)).bind fun (d4 : Vorder_scanner × Vorder_Op) =>
     cond (d4.1.code != 0) (
      esc (
       some (x2.1, w64 ((p0.length : Int) - (x2.2.1.length : Int)), d4.1.code))) (
      gd (x2.1.length + [d4.2].length ≤ 68719476736) <|
      order_All_l2 p0 k2 ((x2.1 ++ [d4.2]), d4.1.p, d4.1.code))) (
     some (.inl x2.1))

def m_order_All (p0 : List Int) : Option ((List Vorder_Op) × Int × Int) :=
  jn (
   order_All_l2 p0 fuel (([] : List Vorder_Op), p0, 0)) fun (d1 : (List Vorder_Op)) =>
  some (d1, (p0.length : Int), 0)

def m_entry_Report_add (p0 : Ventry_Report) (p1 : List Int) : Option Ventry_Report :=
  (
   cond ((p0.Entries.length : Int) == 0) (
    some [(⟨0, ([] : List Int)⟩ : Ventry_Entry)]) (
    some p0.Entries)).bind fun (d1 : (List Ventry_Entry)) =>
  gd ((0 : Int) ≤ (w64 ((d1.length : Int) - 1)) ∧ (w64 ((d1.length : Int) - 1)) < (d1.length : Int)) <|
  gd (((rd d1 (w64 ((d1.length : Int) - 1))).Text).length + p1.length ≤ 68719476736) <|
  some { p0 with Entries := (List.set d1 (Int.toNat (w64 ((d1.length : Int) - 1))) (⟨(rd d1 (w64 ((d1.length : Int) - 1))).Addr, ((rd d1 (w64 ((d1.length : Int) - 1))).Text ++ p1)⟩ : Ventry_Entry)) }

def entry_Parse_l6 (d3 : (List Vorder_Op) × Int × Int) : Nat → (Int × Int × Bool × Int × (List Ventry_Entry)) → Option ((Int × Bool × Int × (List Ventry_Entry)) ⊕ (Ventry_Report × Int))
  | 0, _ => none
  | k6 + 1, x6 =>
    cond (decide (x6.1 < (d3.1.length : Int))) (
     gd ((0 : Int) ≤ x6.1 ∧ x6.1 < (d3.1.length : Int)) <|
     jn (
      cond (((rd d3.1 x6.1).Kind) == 17) (
       gd (x6.2.2.2.2.length + [(⟨(rd d3.1 x6.1).Addr, ([] : List Int)⟩ : Ventry_Entry)].length ≤ 68719476736) <|
       some (.inl (x6.2.1, x6.2.2.1, x6.2.2.2.1, (x6.2.2.2.2 ++ [(⟨(rd d3.1 x6.1).Addr, ([] : List Int)⟩ : Ventry_Entry)])))) (
       cond (((rd d3.1 x6.1).Kind) == 0) (
        (m_entry_Report_add (⟨x6.2.1, x6.2.2.1, x6.2.2.2.1, x6.2.2.2.2⟩ : Ventry_Report) ((rd d3.1 x6.1).Text)).bind fun (d11 : Ventry_Report) =>
        some (.inl (d11.AID, d11.Short, d11.Cursor, d11.Entries))) (
        cond (((rd d3.1 x6.1).Kind) == 8) (
         (m_entry_Report_add (⟨x6.2.1, x6.2.2.1, x6.2.2.2.1, x6.2.2.2.2⟩ : Ventry_Report) [(rd d3.1 x6.1).Code]).bind fun (d12 : Ventry_Report) =>
         some (.inl (d12.AID, d12.Short, d12.Cursor, d12.Entries))) (
         cond (((rd d3.1 x6.1).Kind) == 40) (
          some (.inl (x6.2.1, x6.2.2.1, x6.2.2.2.1, x6.2.2.2.2))) (
          esc (
           esc (
            some ((⟨0, false, 0, ([] : List Ventry_Entry)⟩ : Ventry_Report), 4)))))))) fun (d10 : Int × Bool × Int × (List Ventry_Entry)) =>
     entry_Parse_l6 d3 k6 (w64 (x6.1 + 1), d10.1, d10.2.1, d10.2.2.1, d10.2.2.2)) (
     some (.inl (x6.2.1, x6.2.2.1, x6.2.2.2.1, x6.2.2.2.2)))

def m_entry_Parse (p0 : List Int) : Option (Ventry_Report × Int) :=
  (m_entry_begin p0).bind fun (d1 : Ventry_Report × (List Int) × Int) =>
  cond (d1.2.2 != 0) (
   some ((⟨0, false, 0, ([] : List Ventry_Entry)⟩ : Ventry_Report), d1.2.2)) (
   (m_order_All d1.2.1).bind fun (d3 : (List Vorder_Op) × Int × Int) =>
   cond (d3.2.2 != 0) (
    some ((⟨0, false, 0, ([] : List Ventry_Entry)⟩ : Ventry_Report), d3.2.2)) (
    jn (
     entry_Parse_l6 d3 fuel (0, d1.1.AID, d1.1.Short, d1.1.Cursor, ([] : List Ventry_Entry))) fun (d5 : Int × Bool × Int × (List Ventry_Entry)) =>
    some ((⟨d5.1, d5.2.1, d5.2.2.1, d5.2.2.2⟩ : Ventry_Report), 0)))

def m_vitrinelaw20_awake : Option Bool :=
  (m_entry_Parse [125, 64, 194, 17, 64, 193, 193, 194]).bind fun (d1 : Ventry_Report × Int) =>
  (
   cond (d1.2 == 0) (
    cond (d1.1.AID == 125) (
     cond (d1.1.Cursor == 2) (
      cond ((d1.1.Entries.length : Int) == 1) (
       gd ((0 : Int) ≤ 0 ∧ 0 < (d1.1.Entries.length : Int)) <|
       cond (((rd d1.1.Entries 0).Addr) == 1) (
        gd ((0 : Int) ≤ 0 ∧ 0 < (d1.1.Entries.length : Int)) <|
        some ((bstr ((rd d1.1.Entries 0).Text)).data.toList == (ByteArray.mk (List.toArray [193, 194])).data.toList)) (
        some false)) (
       some false)) (
      some false)) (
     some false)) (
    some false)).bind fun (d2 : Bool) =>
  some d2

def m_vitrineref01_Copy (p0 : List Int) : Option (List Int) :=
  gd (([] : List Int).length + p0.length ≤ 68719476736) <|
  some (([] : List Int) ++ p0)

def m_vitrineref01_Cut (p0 : List Int) (p1 : Int) : Option (List Int) :=
  (
   cond (decide ((p0.length : Int) > p1)) (
    gd ((0 : Int) ≤ 0 ∧ 0 ≤ p1 ∧ p1 ≤ (p0.length : Int)) <|
    some (List.take (Int.toNat p1) p0)) (
    some p0)).bind fun (d1 : (List Int)) =>
  (m_vitrineref01_Copy d1).bind fun (d2 : (List Int)) =>
  some d2

def m_addr_Encode (p0 : Int) (p1 : Int) : Option ((List Int) × Int) :=
  (
   cond (p0 != 12) (
    cond (p0 != 14) (
     some (p0 != 16)) (
     some false)) (
    some false)).bind fun (d2 : Bool) =>
  cond d2 (
   some (([] : List Int), 1)) (
   (
    cond (decide (p1 < 0)) (
     some true) (
     gd ((0 : Int) ≤ p0) <|
     some (decide (p1 ≥ (ishl .i64 1 p0))))).bind fun (d4 : Bool) =>
   cond d4 (
    some (([] : List Int), 9)) (
    cond (p0 == 12) (
     (m_addr_Six (ishr .i64 p1 6)).bind fun (d5 : Int) =>
     (m_addr_Six p1).bind fun (d6 : Int) =>
     some ([d5, d6], 0)) (
     some ([IntKind.wrap .u8 (ishr .i64 p1 8), IntKind.wrap .u8 (p1)], 0))))

def slices_IndexFunc_l2 (p0 : List Int) : Nat → Int → Option ((Unit) ⊕ Int)
  | 0, _ => none
  | k2 + 1, x2 =>
    cond (decide (x2 < (p0.length : Int))) (
     gd ((0 : Int) ≤ x2 ∧ x2 < (p0.length : Int)) <|
     (m_order_Is (rd p0 x2)).bind fun (d5 : Bool) =>
     cond d5 (
      esc (
       some x2)) (
      slices_IndexFunc_l2 p0 k2 (w64 (x2 + 1)))) (
     some (.inl ()))

def m_slices_IndexFunc (p0 : List Int) : Option Int :=
  jn (
   slices_IndexFunc_l2 p0 fuel 0) fun (d1 : Unit) =>
  some (-1)

def m_slices_ContainsFunc (p0 : List Int) : Option Bool :=
  (m_slices_IndexFunc p0).bind fun (d1 : Int) =>
  some (decide (d1 ≥ 0))

def m_order_place (p0 : Int) (p1 : Int) : Option ((List Int) × Int) :=
  (m_addr_Encode 12 p1).bind fun (d1 : (List Int) × Int) =>
  cond (d1.2 != 0) (
   some (([] : List Int), d1.2)) (
   gd ([p0].length + d1.1.length ≤ 68719476736) <|
   some (([p0] ++ d1.1), 0))

def attr_Bytes_l3 (p0 : List Vattr_Pair) : Nat → (Int × (List Int)) → Option (((List Int)) ⊕ ((List Int) × Int))
  | 0, _ => none
  | k3 + 1, x3 =>
    cond (decide (x3.1 < (p0.length : Int))) (
     gd ((0 : Int) ≤ x3.1 ∧ x3.1 < (p0.length : Int)) <|
     (m_attr_Pair_Check (rd p0 x3.1)).bind fun (d6 : Int) =>
     cond (d6 != 0) (
      esc (
       some (([] : List Int), d6))) (
      gd (x3.2.length + [(rd p0 x3.1).f_Type, (rd p0 x3.1).Value].length ≤ 68719476736) <|
      attr_Bytes_l3 p0 k3 (w64 (x3.1 + 1), (x3.2 ++ [(rd p0 x3.1).f_Type, (rd p0 x3.1).Value])))) (
     some (.inl x3.2))

def m_attr_Bytes (p0 : List Vattr_Pair) : Option ((List Int) × Int) :=
  cond (decide ((p0.length : Int) > 255)) (
   some (([] : List Int), 3)) (
   jn (
    attr_Bytes_l3 p0 fuel (0, [IntKind.wrap .u8 ((p0.length : Int))])) fun (d2 : (List Int)) =>
   some (d2, 0))

def m_order_looks (p0 : Int) (p1 : List Vattr_Pair) : Option ((List Int) × Int) :=
  (m_attr_Bytes p1).bind fun (d1 : (List Int) × Int) =>
  cond (d1.2 != 0) (
   some (([] : List Int), d1.2)) (
   gd ([p0].length + d1.1.length ≤ 68719476736) <|
   some (([p0] ++ d1.1), 0))

def m_order_Op_Bytes (p0 : Vorder_Op) : Option ((List Int) × Int) :=
  cond (p0.Kind == 0) (
   (
    cond ((p0.Text.length : Int) == 0) (
     some true) (
     (m_slices_ContainsFunc p0.Text).bind fun (d4 : Bool) =>
     some d4)).bind fun (d3 : Bool) =>
   cond d3 (
    some (([] : List Int), 10)) (
    (m_bytes_Clone p0.Text).bind fun (d6 : (List Int)) =>
    some (d6, 0))) (
   (
    cond (p0.Kind == 19) (
     some (p0.Kind == 19)) (
     some (p0.Kind == 5))).bind fun (d7 : Bool) =>
   cond d7 (
    some ([IntKind.wrap .u8 (p0.Kind)], 0)) (
    cond (p0.Kind == 29) (
     some ([IntKind.wrap .u8 (p0.Kind), p0.FA], 0)) (
     cond (p0.Kind == 8) (
      (m_order_Is p0.Code).bind fun (d8 : Bool) =>
      cond d8 (
       some (([] : List Int), 10)) (
       some ([IntKind.wrap .u8 (p0.Kind), p0.Code], 0))) (
      (
       cond (p0.Kind == 17) (
        some (p0.Kind == 17)) (
        some (p0.Kind == 18))).bind fun (d10 : Bool) =>
      cond d10 (
       (m_order_place (IntKind.wrap .u8 (p0.Kind)) p0.Addr).bind fun (d11 : (List Int) × Int) =>
       some (d11.1, d11.2)) (
       cond (p0.Kind == 60) (
        (m_order_place (IntKind.wrap .u8 (p0.Kind)) p0.Addr).bind fun (d12 : (List Int) × Int) =>
        jn (
         cond (d12.2 != 0) (
          esc (
           some (([] : List Int), d12.2))) (
          (m_order_Is p0.Code).bind fun (d15 : Bool) =>
          cond d15 (
           esc (
            some (([] : List Int), 10))) (
           cond p0.Graph (
            gd (d12.1.length + [8].length ≤ 68719476736) <|
            some (.inl (d12.1 ++ [8]))) (
            some (.inl d12.1))))) fun (d14 : (List Int)) =>
        gd (d14.length + [p0.Code].length ≤ 68719476736) <|
        some ((d14 ++ [p0.Code]), 0)) (
        cond (p0.Kind == 40) (
         (
          cond ((p0.Pairs.length : Int) != 1) (
           some true) (
           gd ((0 : Int) ≤ 0 ∧ 0 < (p0.Pairs.length : Int)) <|
           (m_attr_Pair_Check (rd p0.Pairs 0)).bind fun (d17 : Int) =>
           some (d17 != 0))).bind fun (d16 : Bool) =>
         cond d16 (
          some (([] : List Int), 10)) (
          gd ((0 : Int) ≤ 0 ∧ 0 < (p0.Pairs.length : Int)) <|
          gd ((0 : Int) ≤ 0 ∧ 0 < (p0.Pairs.length : Int)) <|
          some ([IntKind.wrap .u8 (p0.Kind), (rd p0.Pairs 0).f_Type, (rd p0.Pairs 0).Value], 0))) (
         (
          cond (p0.Kind == 41) (
           some (p0.Kind == 41)) (
           some (p0.Kind == 44))).bind fun (d19 : Bool) =>
         cond d19 (
          (m_order_looks (IntKind.wrap .u8 (p0.Kind)) p0.Pairs).bind fun (d20 : (List Int) × Int) =>
          some (d20.1, d20.2)) (
          some (([] : List Int), 1)))))))))

def order_Bytes_l2 (p0 : List Vorder_Op) : Nat → (Int × (List Int)) → Option (((List Int)) ⊕ ((List Int) × Int))
  | 0, _ => none
  | k2 + 1, x2 =>
    cond (decide (x2.1 < (p0.length : Int))) (
     gd ((0 : Int) ≤ x2.1 ∧ x2.1 < (p0.length : Int)) <|
     (m_order_Op_Bytes (rd p0 x2.1)).bind fun (d5 : (List Int) × Int) =>
     cond (d5.2 != 0) (
      esc (
       some (([] : List Int), d5.2))) (
      gd (x2.2.length + d5.1.length ≤ 68719476736) <|
      order_Bytes_l2 p0 k2 (w64 (x2.1 + 1), (x2.2 ++ d5.1)))) (
     some (.inl x2.2))

def m_order_Bytes (p0 : List Vorder_Op) : Option ((List Int) × Int) :=
  jn (
   order_Bytes_l2 p0 fuel (0, ([] : List Int))) fun (d1 : (List Int)) =>
  some (d1, 0)

def entry_Bytes_l6 (p0 : Ventry_Report) (d4 : Bool) : Nat → (Int × (List Int)) → Option (((List Int)) ⊕ ((List Int) × Int))
  | 0, _ => none
  | k6 + 1, x6 =>
    cond (decide (x6.1 < (p0.Entries.length : Int))) (
     gd ((0 : Int) ≤ x6.1 ∧ x6.1 < (p0.Entries.length : Int)) <|
     (
      cond (!d4) (
       gd (([] : List Vorder_Op).length + [(⟨17, (rd p0.Entries x6.1).Addr, 0, false, 0, ([] : List Vattr_Pair), ([] : List Int)⟩ : Vorder_Op)].length ≤ 68719476736) <|
       some (([] : List Vorder_Op) ++ [(⟨17, (rd p0.Entries x6.1).Addr, 0, false, 0, ([] : List Vattr_Pair), ([] : List Int)⟩ : Vorder_Op)])) (
       some ([] : List Vorder_Op))).bind fun (d9 : (List Vorder_Op)) =>
     (
      cond (decide ((((rd p0.Entries x6.1).Text).length : Int) > 0)) (
       gd (d9.length + [(⟨0, 0, 0, false, 0, ([] : List Vattr_Pair), (rd p0.Entries x6.1).Text⟩ : Vorder_Op)].length ≤ 68719476736) <|
       some (d9 ++ [(⟨0, 0, 0, false, 0, ([] : List Vattr_Pair), (rd p0.Entries x6.1).Text⟩ : Vorder_Op)])) (
       some d9)).bind fun (d10 : (List Vorder_Op)) =>
     (m_order_Bytes d10).bind fun (d11 : (List Int) × Int) =>
     cond (d11.2 != 0) (
      esc (
       some (([] : List Int), d11.2))) (
      gd (x6.2.length + d11.1.length ≤ 68719476736) <|
      entry_Bytes_l6 p0 d4 k6 (w64 (x6.1 + 1), (x6.2 ++ d11.1)))) (
     some (.inl x6.2))

def m_entry_Bytes (p0 : Ventry_Report) : Option ((List Int) × Int) :=
  cond p0.Short (
   some ([p0.AID], 0)) (
   (m_addr_Encode 12 p0.Cursor).bind fun (d2 : (List Int) × Int) =>
   cond (d2.2 != 0) (
    some (([] : List Int), d2.2)) (
    gd ([p0.AID].length + d2.1.length ≤ 68719476736) <|
    (
     cond ((p0.Entries.length : Int) == 1) (
      gd ((0 : Int) ≤ 0 ∧ 0 < (p0.Entries.length : Int)) <|
      cond (((rd p0.Entries 0).Addr) == 0) (
       gd ((0 : Int) ≤ 0 ∧ 0 < (p0.Entries.length : Int)) <|
       some (decide ((((rd p0.Entries 0).Text).length : Int) > 0))) (
       some false)) (
      some false)).bind fun (d4 : Bool) =>
    jn (
     entry_Bytes_l6 p0 d4 fuel (0, ([p0.AID] ++ d2.1))) fun (d5 : (List Int)) =>
    some (d5, 0)))

def vitrinelaw20_back_l2 (p0 : Ventry_Report) : Nat → (Int × (List Vvitrineref20_Entry)) → Option (List Vvitrineref20_Entry)
  | 0, _ => none
  | k2 + 1, x2 =>
    cond (decide (x2.1 < (p0.Entries.length : Int))) (
     gd ((0 : Int) ≤ x2.1 ∧ x2.1 < (p0.Entries.length : Int)) <|
     gd (x2.2.length + [(⟨(rd p0.Entries x2.1).Addr, (rd p0.Entries x2.1).Text⟩ : Vvitrineref20_Entry)].length ≤ 68719476736) <|
     vitrinelaw20_back_l2 p0 k2 (w64 (x2.1 + 1), (x2.2 ++ [(⟨(rd p0.Entries x2.1).Addr, (rd p0.Entries x2.1).Text⟩ : Vvitrineref20_Entry)]))) (
     some x2.2)

def m_vitrinelaw20_back (p0 : Ventry_Report) : Option Vvitrineref20_Report :=
  (
   vitrinelaw20_back_l2 p0 fuel (0, ([] : List Vvitrineref20_Entry))).bind fun (d1 : (List Vvitrineref20_Entry)) =>
  some (⟨p0.AID, p0.Short, p0.Cursor, d1⟩ : Vvitrineref20_Report)

def m_vitrineref01_Same (p0 : List Int) (p1 : List Int) : Option Bool :=
  some ((bstr p0).data.toList == (bstr p1).data.toList)

def vitrineref20_Same_l4 (p0 : Vvitrineref20_Report) (p1 : Vvitrineref20_Report) : Nat → Int → Option ((Unit) ⊕ Bool)
  | 0, _ => none
  | k4 + 1, x4 =>
    cond (decide (x4 < (p0.Entries.length : Int))) (
     (
      gd ((0 : Int) ≤ x4 ∧ x4 < (p0.Entries.length : Int)) <|
      gd ((0 : Int) ≤ x4 ∧ x4 < (p1.Entries.length : Int)) <|
      cond (((rd p0.Entries x4).Addr) != ((rd p1.Entries x4).Addr)) (
       some true) (
       gd ((0 : Int) ≤ x4 ∧ x4 < (p0.Entries.length : Int)) <|
       gd ((0 : Int) ≤ x4 ∧ x4 < (p1.Entries.length : Int)) <|
       (m_vitrineref01_Same ((rd p0.Entries x4).Text) ((rd p1.Entries x4).Text)).bind fun (d8 : Bool) =>
       some (!d8))).bind fun (d7 : Bool) =>
     cond d7 (
      esc (
       some false)) (
      vitrineref20_Same_l4 p0 p1 k4 (w64 (x4 + 1)))) (
     some (.inl ()))

def m_vitrineref20_Same (p0 : Vvitrineref20_Report) (p1 : Vvitrineref20_Report) : Option Bool :=
  (
   cond (p0.AID != p1.AID) (
    some true) (
    cond (!(p0.Short == p1.Short)) (
     some true) (
     cond (p0.Cursor != p1.Cursor) (
      some true) (
      some ((p0.Entries.length : Int) != (p1.Entries.length : Int)))))).bind fun (d1 : Bool) =>
  cond d1 (
   some false) (
   jn (
    vitrineref20_Same_l4 p0 p1 fuel 0) fun (d3 : Unit) =>
   some true)

def m_vitrinelaw20_EntryAgain (p0 : List Int) : Option Bool :=
  (m_vitrinelaw20_awake).bind fun (d1 : Bool) =>
  cond (!d1) (
   some false) (
   (m_vitrineref01_Cut p0 400).bind fun (d3 : (List Int)) =>
   (m_entry_Parse d3).bind fun (d4 : Ventry_Report × Int) =>
   cond (d4.2 != 0) (
    some true) (
    (m_entry_Bytes d4.1).bind fun (d6 : (List Int) × Int) =>
    cond (d6.2 != 0) (
     some (d6.2 == 9)) (
     (m_entry_Parse d6.1).bind fun (d8 : Ventry_Report × Int) =>
     (
      cond (d8.2 == 0) (
       (m_vitrinelaw20_back d8.1).bind fun (d10 : Vvitrineref20_Report) =>
       (m_vitrinelaw20_back d4.1).bind fun (d11 : Vvitrineref20_Report) =>
       (m_vitrineref20_Same d10 d11).bind fun (d12 : Bool) =>
       some d12) (
       some false)).bind fun (d9 : Bool) =>
     some d9)))

end Go.Vt
