/- Lemmas. No conditions. -/
import Derived.Test.YtdehoidiaedcoaaGreatVmfx
set_option linter.unusedVariables false
set_option linter.unusedSimpArgs false
set_option linter.unusedVariables false
set_option linter.unusedSimpArgs false
set_option maxRecDepth 100000
namespace Go.Vt
def sgT (n : Int) : List Int := match bP n with
 | some (os, _) => sgn os
 | none => []
def T37 : List Int := [0, 1, 2, 3, 156, 9, 134, 127, 151, 141, 142, 11, 12, 13, 14, 15, 16, 17, 18, 19, 157, 133, 8, 135, 24, 25, 146, 143, 28, 29, 30, 31, 128, 129, 130, 131, 132, 10, 23, 27, 136, 137, 138, 139, 140, 5, 6, 7, 144, 145, 22, 147, 148, 149, 150, 4, 152, 153, 154, 155, 20, 21, 158, 26, 32, 160, 226, 228, 224, 225, 227, 229, 231, 241, 162, 46, 60, 40, 43, 124, 38, 233, 234, 235, 232, 237, 238, 239, 236, 223, 33, 36, 42, 41, 59, 172, 45, 47, 194, 196, 192, 193, 195, 197, 199, 209, 166, 44, 37, 95, 62, 63, 248, 201, 202, 203, 200, 205, 206, 207, 204, 96, 58, 35, 64, 39, 61, 34, 216, 97, 98, 99, 100, 101, 102, 103, 104, 105, 171, 187, 240, 253, 254, 177, 176, 106, 107, 108, 109, 110, 111, 112, 113, 114, 170, 186, 230, 184, 198, 164, 181, 126, 115, 116, 117, 118, 119, 120, 121, 122, 161, 191, 208, 221, 222, 174, 94, 163, 165, 183, 169, 167, 182, 188, 189, 190, 91, 93, 175, 168, 180, 215, 123, 65, 66, 67, 68, 69, 70, 71, 72, 73, 173, 244, 246, 242, 243, 245, 125, 74, 75, 76, 77, 78, 79, 80, 81, 82, 185, 251, 252, 249, 250, 255, 92, 247, 83, 84, 85, 86, 87, 88, 89, 90, 178, 212, 214, 210, 211, 213, 48, 49, 50, 51, 52, 53, 54, 55, 56, 57, 179, 219, 220, 217, 218, 159]
def tW : List Int := [0, 1, 2, 3, 156, 9, 134, 127, 151, 141, 142, 11, 12, 13, 14, 15, 16, 17, 18, 19, 157, 133, 8, 135, 24, 25, 146, 143, 28, 29, 30, 31, 128, 129, 130, 131, 132, 10, 23, 27, 136, 137, 138, 139, 140, 5, 6, 7, 144, 145, 22, 147, 148, 149, 150, 4, 152, 153, 154, 155, 20, 21, 158, 26, 32, 160, 226, 123, 224, 225, 227, 229, 231, 241, 196, 46, 60, 40, 43, 33, 38, 233, 234, 235, 232, 237, 238, 239, 236, 126, 220, 36, 42, 41, 59, 94, 45, 47, 194, 91, 192, 193, 195, 197, 199, 209, 246, 44, 37, 95, 62, 63, 248, 201, 202, 203, 200, 205, 206, 207, 204, 96, 58, 35, 167, 39, 61, 34, 216, 97, 98, 99, 100, 101, 102, 103, 104, 105, 171, 187, 240, 253, 254, 177, 176, 106, 107, 108, 109, 110, 111, 112, 113, 114, 170, 186, 230, 184, 198, 164, 181, 223, 115, 116, 117, 118, 119, 120, 121, 122, 161, 191, 208, 221, 222, 174, 162, 163, 165, 183, 169, 64, 182, 188, 189, 190, 172, 124, 175, 168, 180, 215, 228, 65, 66, 67, 68, 69, 70, 71, 72, 73, 173, 244, 166, 242, 243, 245, 252, 74, 75, 76, 77, 78, 79, 80, 81, 82, 185, 251, 125, 249, 250, 255, 214, 247, 83, 84, 85, 86, 87, 88, 89, 90, 178, 212, 92, 210, 211, 213, 48, 49, 50, 51, 52, 53, 54, 55, 56, 57, 179, 219, 93, 217, 218, 159]
def tV : List Int := [0, 1, 2, 3, 156, 9, 134, 127, 151, 141, 142, 11, 12, 13, 14, 15, 16, 17, 18, 19, 157, 133, 8, 135, 24, 25, 146, 143, 28, 29, 30, 31, 128, 129, 130, 131, 132, 10, 23, 27, 136, 137, 138, 139, 140, 5, 6, 7, 144, 145, 22, 147, 148, 149, 150, 4, 152, 153, 154, 155, 20, 21, 158, 26, 32, 160, 226, 228, 64, 225, 227, 229, 92, 241, 176, 46, 60, 40, 43, 33, 38, 123, 234, 235, 125, 237, 238, 239, 236, 223, 167, 36, 42, 41, 59, 94, 45, 47, 194, 196, 192, 193, 195, 197, 199, 209, 249, 44, 37, 95, 62, 63, 248, 201, 202, 203, 200, 205, 206, 207, 204, 181, 58, 163, 224, 39, 61, 34, 216, 97, 98, 99, 100, 101, 102, 103, 104, 105, 171, 187, 240, 253, 254, 177, 91, 106, 107, 108, 109, 110, 111, 112, 113, 114, 170, 186, 230, 184, 198, 164, 96, 168, 115, 116, 117, 118, 119, 120, 121, 122, 161, 191, 208, 221, 222, 174, 162, 35, 165, 183, 169, 93, 182, 188, 189, 190, 172, 124, 175, 126, 180, 215, 233, 65, 66, 67, 68, 69, 70, 71, 72, 73, 173, 244, 246, 242, 243, 245, 232, 74, 75, 76, 77, 78, 79, 80, 81, 82, 185, 251, 252, 166, 250, 255, 231, 247, 83, 84, 85, 86, 87, 88, 89, 90, 178, 212, 214, 210, 211, 213, 48, 49, 50, 51, 52, 53, 54, 55, 56, 57, 179, 219, 220, 217, 218, 159]
def tU : List Int := [0, 1, 2, 3, 156, 9, 134, 127, 151, 141, 142, 11, 12, 13, 14, 15, 16, 17, 18, 19, 157, 133, 8, 135, 24, 25, 146, 143, 28, 29, 30, 31, 128, 129, 130, 131, 132, 10, 23, 27, 136, 137, 138, 139, 140, 5, 6, 7, 144, 145, 22, 147, 148, 149, 150, 4, 152, 153, 154, 155, 20, 21, 158, 26, 32, 160, 226, 228, 224, 225, 227, 229, 231, 241, 91, 46, 60, 40, 43, 33, 38, 233, 234, 235, 232, 237, 238, 239, 236, 223, 93, 36, 42, 41, 59, 94, 45, 47, 194, 196, 192, 193, 195, 197, 199, 209, 166, 44, 37, 95, 62, 63, 248, 201, 202, 203, 200, 205, 206, 207, 204, 96, 58, 35, 64, 39, 61, 34, 216, 97, 98, 99, 100, 101, 102, 103, 104, 105, 171, 187, 240, 253, 254, 177, 176, 106, 107, 108, 109, 110, 111, 112, 113, 114, 170, 186, 230, 184, 198, 164, 181, 126, 115, 116, 117, 118, 119, 120, 121, 122, 161, 191, 208, 221, 222, 174, 162, 163, 165, 183, 169, 167, 182, 188, 189, 190, 172, 124, 175, 168, 180, 215, 123, 65, 66, 67, 68, 69, 70, 71, 72, 73, 173, 244, 246, 242, 243, 245, 125, 74, 75, 76, 77, 78, 79, 80, 81, 82, 185, 251, 252, 249, 250, 255, 92, 247, 83, 84, 85, 86, 87, 88, 89, 90, 178, 212, 214, 210, 211, 213, 48, 49, 50, 51, 52, 53, 54, 55, 56, 57, 179, 219, 220, 217, 218, 159]
def p7 : List Int := [0, 1, 2, 3, 156, 9, 134, 127, 151, 141, 142, 11, 12, 13, 14, 15, 16, 17, 18, 19, 157, 133, 8, 135, 24, 25, 146, 143, 28, 29, 30, 31, 128, 129, 130, 131, 132, 10, 23, 27, 136, 137, 138, 139, 140, 5, 6, 7, 144, 145, 22, 147, 148, 149, 150, 4, 152, 153, 154, 155, 20, 21, 158, 26, 32, 160, 226, 228, 224, 225, 227, 229, 231, 241, 162, 46, 60, 40, 43, 124, 38, 233, 234, 235, 232, 237, 238, 239, 236, 223, 33, 36, 42, 41, 59, 94, 45, 47, 194, 196, 192, 193, 195, 197, 199, 209, 166, 44, 37, 95, 62, 63, 248, 201, 202, 203, 200, 205, 206, 207, 204, 96, 58, 35, 64, 39, 61, 34, 216, 97, 98, 99, 100, 101, 102, 103, 104, 105, 171, 187, 240, 253, 254, 177, 176, 106, 107, 108, 109, 110, 111, 112, 113, 114, 170, 186, 230, 184, 198, 164, 181, 126, 115, 116, 117, 118, 119, 120, 121, 122, 161, 191, 208, 91, 222, 174, 172, 163, 165, 183, 169, 167, 182, 188, 189, 190, 221, 168, 175, 93, 180, 215, 123, 65, 66, 67, 68, 69, 70, 71, 72, 73, 173, 244, 246, 242, 243, 245, 125, 74, 75, 76, 77, 78, 79, 80, 81, 82, 185, 251, 252, 249, 250, 255, 92, 247, 83, 84, 85, 86, 87, 88, 89, 90, 178, 212, 214, 210, 211, 213, 48, 49, 50, 51, 52, 53, 54, 55, 56, 57, 179, 219, 220, 217, 218, 159]
def p6 : List Int := [0, 1, 2, 3, 156, 9, 134, 127, 151, 141, 142, 11, 12, 13, 14, 15, 16, 17, 18, 19, 157, 133, 8, 135, 24, 25, 146, 143, 28, 29, 30, 31, 128, 129, 130, 131, 132, 10, 23, 27, 136, 137, 138, 139, 140, 5, 6, 7, 144, 145, 22, 147, 148, 149, 150, 4, 152, 153, 154, 155, 20, 21, 158, 26, 32, 160, 226, 228, 224, 225, 227, 229, 231, 241, 162, 46, 60, 40, 43, 124, 38, 233, 234, 235, 232, 237, 238, 239, 236, 223, 33, 36, 42, 41, 59, 172, 45, 47, 194, 196, 192, 193, 195, 197, 199, 209, 166, 44, 37, 95, 62, 63, 248, 201, 202, 203, 200, 205, 206, 207, 204, 96, 58, 35, 64, 39, 61, 34, 216, 97, 98, 99, 100, 101, 102, 103, 104, 105, 171, 187, 240, 253, 254, 177, 176, 106, 107, 108, 109, 110, 111, 112, 113, 114, 170, 186, 230, 184, 198, 8364, 181, 126, 115, 116, 117, 118, 119, 120, 121, 122, 161, 191, 208, 221, 222, 174, 94, 163, 165, 183, 169, 167, 182, 188, 189, 190, 91, 93, 175, 168, 180, 215, 123, 65, 66, 67, 68, 69, 70, 71, 72, 73, 173, 244, 246, 242, 243, 245, 125, 74, 75, 76, 77, 78, 79, 80, 81, 82, 185, 251, 252, 249, 250, 255, 92, 247, 83, 84, 85, 86, 87, 88, 89, 90, 178, 212, 214, 210, 211, 213, 48, 49, 50, 51, 52, 53, 54, 55, 56, 57, 179, 219, 220, 217, 218, 159]
def rK (n : Int) : List Int := if n = 37 then T37 else if n = 273 then tW else if n = 297 then tV else if n = 500 then tU else if n = 1047 then p7 else p6
/-! ### digits to the base 16 -/
def hxI (z : Int) : Int := if z ≥ 97 then w64 ((w64 (IntKind.wrap .u8 (z - 97))) + 10) else w64 (IntKind.wrap .u8 (z - 48))
def nC (l : List Int) : Int := l.foldl (fun a b => w64 ((w64 (16 * a)) + hxI b)) 0
def bl (s : ByteArray) : List Int := s.data.toList.map fun b => (b.toNat : Int)
theorem qI (s : ByteArray) : (bl s).length = s.size := by simp [bl]
theorem sb_bl {s : ByteArray} {i : Nat} (h : i < (bl s).length) : jJ s (i : Int) = (bl s)[i] := by
 have h' : i < s.data.toList.length := by simpa [bl] using h
 unfold jJ; simp only [Int.toNat_natCast, bl, List.getElem_map]; rw [List.getD_eq_getElem?_getD, List.getElem?_eq_getElem h']; rfl
theorem px (s : ByteArray) (a b : Nat) : bl (s.extract a b) = ((bl s).drop a).take (b - a) := by
 unfold bl; rw [ByteArray.data_extract, Array.toList_extract, List.extract_eq_take_drop, List.map_take, List.map_drop]
theorem num_ok {s : ByteArray} (hs : s.size < 100000) : cm s = some (nC (bl s)) := by
 have hl := qI s
 unfold cm
 have loop : du s bw (0, 0) = some (nC (bl s)) := by
  refine cw (fun i => ((i : Int), nC ((bl s).take i))) s.size (by omega) (fun k i hi => ?_) (fun k => ?_)
  ·have d1 : decide ((i : Int) < (s.size : Int)) = true := decide_eq_true (by omega)
   have hb := sb_bl (s := s) (i := i) (by omega)
   rw [du.eq_2]; simp only [d1, cond_true]
   rw [aX (by omega), aX (by omega), aX (by omega), hb, je (by omega)]
   have hx : (cond (decide ((bl s)[i]'(by omega) ≥ 97)) (some (w64 ((w64 (IntKind.wrap .u8 ((bl s)[i]'(by omega) - 97))) + 10))) (some (w64 (IntKind.wrap .u8 ((bl s)[i]'(by omega) - 48)))) : Option Int) = some (hxI ((bl s)[i]'(by omega))) := by
    unfold hxI
    by_cases h : (bl s)[i]'(by omega) ≥ 97
    ·rw [decide_eq_true h, if_pos h]; rfl
    ·rw [decide_eq_false h, if_neg h]; rfl
   rw [hx]; simp only [Option.bind_some]
   have e : nC ((bl s).take (i + 1)) = w64 ((w64 (16 * nC ((bl s).take i))) + hxI ((bl s)[i]'(by omega))) := by
    unfold nC; rw [List.take_succ_eq_append_getElem (by omega), List.foldl_append]; rfl
   rw [e]
  ·have d1 : decide ((s.size : Int) < (s.size : Int)) = false := decide_eq_false (by omega)
   rw [du.eq_2]; simp only [d1, cond_false]
   rw [List.take_of_length_le (by omega)]
 rw [loop]; rfl
theorem qq {s : ByteArray} {a b : Nat} (hs : s.size < 100000) : cm (s.extract a b) = some (nC (((bl s).drop a).take (b - a))) := by
 have h : (s.extract a b).size ≤ s.size := by
  have := qI (s.extract a b)
  rw [px, List.length_take, List.length_drop, qI] at this; omega
 rw [num_ok (by omega), px]
/-- the document's sign, out of lists -/
def oP (o : List Int) (c : Int) : Nat → Bool := fun i => !(nC ((o.drop (6 * i)).take 2) == c)
def dsg (b o : List Int) (c : Nat) : Int :=
 if tl (oP o c) (o.length / 6) < o.length / 6 then IntKind.wrap .i32 (nC ((o.drop (6 * tl (oP o c) (o.length / 6) + 2)).take 4)) else IntKind.wrap .i32 (nC ((b.drop (4 * c)).take 4))
def rG : ByteArray := ByteArray.mk (List.toArray [48, 48, 48, 48, 48, 48, 48, 49, 48, 48, 48, 50, 48, 48, 48, 51, 48, 48, 57, 99, 48, 48, 48, 57, 48, 48, 56, 54, 48, 48, 55, 102, 48, 48, 57, 55, 48, 48, 56, 100, 48, 48, 56, 101, 48, 48, 48, 98, 48, 48, 48, 99, 48, 48, 48, 100, 48, 48, 48, 101, 48, 48, 48, 102, 48, 48, 49, 48, 48, 48, 49, 49, 48, 48, 49, 50, 48, 48, 49, 51, 48, 48, 57, 100, 48, 48, 56, 53, 48, 48, 48, 56, 48, 48, 56, 55, 48, 48, 49, 56, 48, 48, 49, 57, 48, 48, 57, 50, 48, 48, 56, 102, 48, 48, 49, 99, 48, 48, 49, 100, 48, 48, 49, 101, 48, 48, 49, 102, 48, 48, 56, 48, 48, 48, 56, 49, 48, 48, 56, 50, 48, 48, 56, 51, 48, 48, 56, 52, 48, 48, 48, 97, 48, 48, 49, 55, 48, 48, 49, 98, 48, 48, 56, 56, 48, 48, 56, 57, 48, 48, 56, 97, 48, 48, 56, 98, 48, 48, 56, 99, 48, 48, 48, 53, 48, 48, 48, 54, 48, 48, 48, 55, 48, 48, 57, 48, 48, 48, 57, 49, 48, 48, 49, 54, 48, 48, 57, 51, 48, 48, 57, 52, 48, 48, 57, 53, 48, 48, 57, 54, 48, 48, 48, 52, 48, 48, 57, 56, 48, 48, 57, 57, 48, 48, 57, 97, 48, 48, 57, 98, 48, 48, 49, 52, 48, 48, 49, 53, 48, 48, 57, 101, 48, 48, 49, 97, 48, 48, 50, 48, 48, 48, 97, 48, 48, 48, 101, 50, 48, 48, 101, 52, 48, 48, 101, 48, 48, 48, 101, 49, 48, 48, 101, 51, 48, 48, 101, 53, 48, 48, 101, 55, 48, 48, 102, 49, 48, 48, 97, 50, 48, 48, 50, 101, 48, 48, 51, 99, 48, 48, 50, 56, 48, 48, 50, 98, 48, 48, 55, 99, 48, 48, 50, 54, 48, 48, 101, 57, 48, 48, 101, 97, 48, 48, 101, 98, 48, 48, 101, 56, 48, 48, 101, 100, 48, 48, 101, 101, 48, 48, 101, 102, 48, 48, 101, 99, 48, 48, 100, 102, 48, 48, 50, 49, 48, 48, 50, 52, 48, 48, 50, 97, 48, 48, 50, 57, 48, 48, 51, 98, 48, 48, 97, 99, 48, 48, 50, 100, 48, 48, 50, 102, 48, 48, 99, 50, 48, 48, 99, 52, 48, 48, 99, 48, 48, 48, 99, 49, 48, 48, 99, 51, 48, 48, 99, 53, 48, 48, 99, 55, 48, 48, 100, 49, 48, 48, 97, 54, 48, 48, 50, 99, 48, 48, 50, 53, 48, 48, 53, 102, 48, 48, 51, 101, 48, 48, 51, 102, 48, 48, 102, 56, 48, 48, 99, 57, 48, 48, 99, 97, 48, 48, 99, 98, 48, 48, 99, 56, 48, 48, 99, 100, 48, 48, 99, 101, 48, 48, 99, 102, 48, 48, 99, 99, 48, 48, 54, 48, 48, 48, 51, 97, 48, 48, 50, 51, 48, 48, 52, 48, 48, 48, 50, 55, 48, 48, 51, 100, 48, 48, 50, 50, 48, 48, 100, 56, 48, 48, 54, 49, 48, 48, 54, 50, 48, 48, 54, 51, 48, 48, 54, 52, 48, 48, 54, 53, 48, 48, 54, 54, 48, 48, 54, 55, 48, 48, 54, 56, 48, 48, 54, 57, 48, 48, 97, 98, 48, 48, 98, 98, 48, 48, 102, 48, 48, 48, 102, 100, 48, 48, 102, 101, 48, 48, 98, 49, 48, 48, 98, 48, 48, 48, 54, 97, 48, 48, 54, 98, 48, 48, 54, 99, 48, 48, 54, 100, 48, 48, 54, 101, 48, 48, 54, 102, 48, 48, 55, 48, 48, 48, 55, 49, 48, 48, 55, 50, 48, 48, 97, 97, 48, 48, 98, 97, 48, 48, 101, 54, 48, 48, 98, 56, 48, 48, 99, 54, 48, 48, 97, 52, 48, 48, 98, 53, 48, 48, 55, 101, 48, 48, 55, 51, 48, 48, 55, 52, 48, 48, 55, 53, 48, 48, 55, 54, 48, 48, 55, 55, 48, 48, 55, 56, 48, 48, 55, 57, 48, 48, 55, 97, 48, 48, 97, 49, 48, 48, 98, 102, 48, 48, 100, 48, 48, 48, 100, 100, 48, 48, 100, 101, 48, 48, 97, 101, 48, 48, 53, 101, 48, 48, 97, 51, 48, 48, 97, 53, 48, 48, 98, 55, 48, 48, 97, 57, 48, 48, 97, 55, 48, 48, 98, 54, 48, 48, 98, 99, 48, 48, 98, 100, 48, 48, 98, 101, 48, 48, 53, 98, 48, 48, 53, 100, 48, 48, 97, 102, 48, 48, 97, 56, 48, 48, 98, 52, 48, 48, 100, 55, 48, 48, 55, 98, 48, 48, 52, 49, 48, 48, 52, 50, 48, 48, 52, 51, 48, 48, 52, 52, 48, 48, 52, 53, 48, 48, 52, 54, 48, 48, 52, 55, 48, 48, 52, 56, 48, 48, 52, 57, 48, 48, 97, 100, 48, 48, 102, 52, 48, 48, 102, 54, 48, 48, 102, 50, 48, 48, 102, 51, 48, 48, 102, 53, 48, 48, 55, 100, 48, 48, 52, 97, 48, 48, 52, 98, 48, 48, 52, 99, 48, 48, 52, 100, 48, 48, 52, 101, 48, 48, 52, 102, 48, 48, 53, 48, 48, 48, 53, 49, 48, 48, 53, 50, 48, 48, 98, 57, 48, 48, 102, 98, 48, 48, 102, 99, 48, 48, 102, 57, 48, 48, 102, 97, 48, 48, 102, 102, 48, 48, 53, 99, 48, 48, 102, 55, 48, 48, 53, 51, 48, 48, 53, 52, 48, 48, 53, 53, 48, 48, 53, 54, 48, 48, 53, 55, 48, 48, 53, 56, 48, 48, 53, 57, 48, 48, 53, 97, 48, 48, 98, 50, 48, 48, 100, 52, 48, 48, 100, 54, 48, 48, 100, 50, 48, 48, 100, 51, 48, 48, 100, 53, 48, 48, 51, 48, 48, 48, 51, 49, 48, 48, 51, 50, 48, 48, 51, 51, 48, 48, 51, 52, 48, 48, 51, 53, 48, 48, 51, 54, 48, 48, 51, 55, 48, 48, 51, 56, 48, 48, 51, 57, 48, 48, 98, 51, 48, 48, 100, 98, 48, 48, 100, 99, 48, 48, 100, 57, 48, 48, 100, 97, 48, 48, 57, 102])
def n7 : List Int := [48, 48, 48, 48, 48, 48, 48, 49, 48, 48, 48, 50, 48, 48, 48, 51, 48, 48, 57, 99, 48, 48, 48, 57, 48, 48, 56, 54, 48, 48, 55, 102, 48, 48, 57, 55, 48, 48, 56, 100, 48, 48, 56, 101, 48, 48, 48, 98, 48, 48, 48, 99, 48, 48, 48, 100, 48, 48, 48, 101, 48, 48, 48, 102, 48, 48, 49, 48, 48, 48, 49, 49, 48, 48, 49, 50, 48, 48, 49, 51, 48, 48, 57, 100, 48, 48, 56, 53, 48, 48, 48, 56, 48, 48, 56, 55, 48, 48, 49, 56, 48, 48, 49, 57, 48, 48, 57, 50, 48, 48, 56, 102, 48, 48, 49, 99, 48, 48, 49, 100, 48, 48, 49, 101, 48, 48, 49, 102, 48, 48, 56, 48, 48, 48, 56, 49, 48, 48, 56, 50, 48, 48, 56, 51, 48, 48, 56, 52, 48, 48, 48, 97, 48, 48, 49, 55, 48, 48, 49, 98, 48, 48, 56, 56, 48, 48, 56, 57, 48, 48, 56, 97, 48, 48, 56, 98, 48, 48, 56, 99, 48, 48, 48, 53, 48, 48, 48, 54, 48, 48, 48, 55, 48, 48, 57, 48, 48, 48, 57, 49, 48, 48, 49, 54, 48, 48, 57, 51, 48, 48, 57, 52, 48, 48, 57, 53, 48, 48, 57, 54, 48, 48, 48, 52, 48, 48, 57, 56, 48, 48, 57, 57, 48, 48, 57, 97, 48, 48, 57, 98, 48, 48, 49, 52, 48, 48, 49, 53, 48, 48, 57, 101, 48, 48, 49, 97, 48, 48, 50, 48, 48, 48, 97, 48, 48, 48, 101, 50, 48, 48, 101, 52, 48, 48, 101, 48, 48, 48, 101, 49, 48, 48, 101, 51, 48, 48, 101, 53, 48, 48, 101, 55, 48, 48, 102, 49, 48, 48, 97, 50, 48, 48, 50, 101, 48, 48, 51, 99, 48, 48, 50, 56, 48, 48, 50, 98, 48, 48, 55, 99, 48, 48, 50, 54, 48, 48, 101, 57, 48, 48, 101, 97, 48, 48, 101, 98, 48, 48, 101, 56, 48, 48, 101, 100, 48, 48, 101, 101, 48, 48, 101, 102, 48, 48, 101, 99, 48, 48, 100, 102, 48, 48, 50, 49, 48, 48, 50, 52, 48, 48, 50, 97, 48, 48, 50, 57, 48, 48, 51, 98, 48, 48, 97, 99, 48, 48, 50, 100, 48, 48, 50, 102, 48, 48, 99, 50, 48, 48, 99, 52, 48, 48, 99, 48, 48, 48, 99, 49, 48, 48, 99, 51, 48, 48, 99, 53, 48, 48, 99, 55, 48, 48, 100, 49, 48, 48, 97, 54, 48, 48, 50, 99, 48, 48, 50, 53, 48, 48, 53, 102, 48, 48, 51, 101, 48, 48, 51, 102, 48, 48, 102, 56, 48, 48, 99, 57, 48, 48, 99, 97, 48, 48, 99, 98, 48, 48, 99, 56, 48, 48, 99, 100, 48, 48, 99, 101, 48, 48, 99, 102, 48, 48, 99, 99, 48, 48, 54, 48, 48, 48, 51, 97, 48, 48, 50, 51, 48, 48, 52, 48, 48, 48, 50, 55, 48, 48, 51, 100, 48, 48, 50, 50, 48, 48, 100, 56, 48, 48, 54, 49, 48, 48, 54, 50, 48, 48, 54, 51, 48, 48, 54, 52, 48, 48, 54, 53, 48, 48, 54, 54, 48, 48, 54, 55, 48, 48, 54, 56, 48, 48, 54, 57, 48, 48, 97, 98, 48, 48, 98, 98, 48, 48, 102, 48, 48, 48, 102, 100, 48, 48, 102, 101, 48, 48, 98, 49, 48, 48, 98, 48, 48, 48, 54, 97, 48, 48, 54, 98, 48, 48, 54, 99, 48, 48, 54, 100, 48, 48, 54, 101, 48, 48, 54, 102, 48, 48, 55, 48, 48, 48, 55, 49, 48, 48, 55, 50, 48, 48, 97, 97, 48, 48, 98, 97, 48, 48, 101, 54, 48, 48, 98, 56, 48, 48, 99, 54, 48, 48, 97, 52, 48, 48, 98, 53, 48, 48, 55, 101, 48, 48, 55, 51, 48, 48, 55, 52, 48, 48, 55, 53, 48, 48, 55, 54, 48, 48, 55, 55, 48, 48, 55, 56, 48, 48, 55, 57, 48, 48, 55, 97, 48, 48, 97, 49, 48, 48, 98, 102, 48, 48, 100, 48, 48, 48, 100, 100, 48, 48, 100, 101, 48, 48, 97, 101, 48, 48, 53, 101, 48, 48, 97, 51, 48, 48, 97, 53, 48, 48, 98, 55, 48, 48, 97, 57, 48, 48, 97, 55, 48, 48, 98, 54, 48, 48, 98, 99, 48, 48, 98, 100, 48, 48, 98, 101, 48, 48, 53, 98, 48, 48, 53, 100, 48, 48, 97, 102, 48, 48, 97, 56, 48, 48, 98, 52, 48, 48, 100, 55, 48, 48, 55, 98, 48, 48, 52, 49, 48, 48, 52, 50, 48, 48, 52, 51, 48, 48, 52, 52, 48, 48, 52, 53, 48, 48, 52, 54, 48, 48, 52, 55, 48, 48, 52, 56, 48, 48, 52, 57, 48, 48, 97, 100, 48, 48, 102, 52, 48, 48, 102, 54, 48, 48, 102, 50, 48, 48, 102, 51, 48, 48, 102, 53, 48, 48, 55, 100, 48, 48, 52, 97, 48, 48, 52, 98, 48, 48, 52, 99, 48, 48, 52, 100, 48, 48, 52, 101, 48, 48, 52, 102, 48, 48, 53, 48, 48, 48, 53, 49, 48, 48, 53, 50, 48, 48, 98, 57, 48, 48, 102, 98, 48, 48, 102, 99, 48, 48, 102, 57, 48, 48, 102, 97, 48, 48, 102, 102, 48, 48, 53, 99, 48, 48, 102, 55, 48, 48, 53, 51, 48, 48, 53, 52, 48, 48, 53, 53, 48, 48, 53, 54, 48, 48, 53, 55, 48, 48, 53, 56, 48, 48, 53, 57, 48, 48, 53, 97, 48, 48, 98, 50, 48, 48, 100, 52, 48, 48, 100, 54, 48, 48, 100, 50, 48, 48, 100, 51, 48, 48, 100, 53, 48, 48, 51, 48, 48, 48, 51, 49, 48, 48, 51, 50, 48, 48, 51, 51, 48, 48, 51, 52, 48, 48, 51, 53, 48, 48, 51, 54, 48, 48, 51, 55, 48, 48, 51, 56, 48, 48, 51, 57, 48, 48, 98, 51, 48, 48, 100, 98, 48, 48, 100, 99, 48, 48, 100, 57, 48, 48, 100, 97, 48, 48, 57, 102]
def O37 : List Int := []
def O273 : List Int := [52, 51, 48, 48, 55, 98, 52, 97, 48, 48, 99, 52, 52, 102, 48, 48, 50, 49, 53, 57, 48, 48, 55, 101, 53, 97, 48, 48, 100, 99, 53, 102, 48, 48, 53, 101, 54, 51, 48, 48, 53, 98, 54, 97, 48, 48, 102, 54, 55, 99, 48, 48, 97, 55, 97, 49, 48, 48, 100, 102, 98, 48, 48, 48, 97, 50, 98, 53, 48, 48, 52, 48, 98, 97, 48, 48, 97, 99, 98, 98, 48, 48, 55, 99, 99, 48, 48, 48, 101, 52, 99, 99, 48, 48, 97, 54, 100, 48, 48, 48, 102, 99, 100, 99, 48, 48, 55, 100, 101, 48, 48, 48, 100, 54, 101, 99, 48, 48, 53, 99, 102, 99, 48, 48, 53, 100]
def O297 : List Int := [52, 52, 48, 48, 52, 48, 52, 56, 48, 48, 53, 99, 52, 97, 48, 48, 98, 48, 52, 102, 48, 48, 50, 49, 53, 49, 48, 48, 55, 98, 53, 52, 48, 48, 55, 100, 53, 97, 48, 48, 97, 55, 53, 102, 48, 48, 53, 101, 54, 97, 48, 48, 102, 57, 55, 57, 48, 48, 98, 53, 55, 98, 48, 48, 97, 51, 55, 99, 48, 48, 101, 48, 57, 48, 48, 48, 53, 98, 97, 48, 48, 48, 54, 48, 97, 49, 48, 48, 97, 56, 98, 48, 48, 48, 97, 50, 98, 49, 48, 48, 50, 51, 98, 53, 48, 48, 53, 100, 98, 97, 48, 48, 97, 99, 98, 98, 48, 48, 55, 99, 98, 100, 48, 48, 55, 101, 99, 48, 48, 48, 101, 57, 100, 48, 48, 48, 101, 56, 100, 100, 48, 48, 97, 54, 101, 48, 48, 48, 101, 55]
def O500 : List Int := [52, 97, 48, 48, 53, 98, 52, 102, 48, 48, 50, 49, 53, 97, 48, 48, 53, 100, 53, 102, 48, 48, 53, 101, 98, 48, 48, 48, 97, 50, 98, 97, 48, 48, 97, 99, 98, 98, 48, 48, 55, 99]
def O1047 : List Int := [53, 102, 48, 48, 53, 101, 97, 100, 48, 48, 53, 98, 98, 48, 48, 48, 97, 99, 98, 97, 48, 48, 100, 100, 98, 98, 48, 48, 97, 56, 98, 100, 48, 48, 53, 100]
def O1140 : List Int := [57, 102, 50, 48, 97, 99]
theorem baseB_l : bl rG = n7 := by decide +kernel
theorem zero_all : rd T37 0 = 0 ∧ rd tW 0 = 0 ∧ rd tV 0 = 0 ∧ rd tU 0 = 0 ∧ rd p7 0 = 0 ∧ rd p6 0 = 0 := by decide +kernel
theorem d37 : (List.range 256).map (dsg n7 O37) = T37 := by decide +kernel
theorem s37 : sgT 37 = T37 := by decide +kernel
theorem n37 : T37.Nodup := by decide +kernel
theorem d273 : (List.range 256).map (dsg n7 O273) = tW := by decide +kernel
theorem s273 : sgT 273 = tW := by decide +kernel
theorem n273 : tW.Nodup := by decide +kernel
theorem d297 : (List.range 256).map (dsg n7 O297) = tV := by decide +kernel
theorem s297 : sgT 297 = tV := by decide +kernel
theorem n297 : tV.Nodup := by decide +kernel
theorem d500 : (List.range 256).map (dsg n7 O500) = tU := by decide +kernel
theorem s500 : sgT 500 = tU := by decide +kernel
theorem n500 : tU.Nodup := by decide +kernel
theorem d1047 : (List.range 256).map (dsg n7 O1047) = p7 := by decide +kernel
theorem s1047 : sgT 1047 = p7 := by decide +kernel
theorem n1047 : p7.Nodup := by decide +kernel
theorem d1140 : (List.range 256).map (dsg n7 O1140) = p6 := by decide +kernel
theorem s1140 : sgT 1140 = p6 := by decide +kernel
theorem n1140 : p6.Nodup := by decide +kernel

theorem tA {n : Int} {o : ByteArray} {bo : Bool} (ho : eh n = some (o, bo)) (h1 : o.size % 6 = 0) (h2 : o.size < 1000) {c : Nat} (hc : c < 256) : bp n (c : Int) = some (dsg (bl rG) (bl o) c) := by
 have hol := qI o
 have hle := jY (oP (bl o) (c : Int)) ((bl o).length / 6)
 have hb : rG.size = 1024 := rfl
 have hw : w64 (c : Int) = (c : Int) := w64n (by omega)
 unfold bp; simp only [ho, Option.bind_some]
 have w2 : ∀ i d : Nat, i < 100000 → d < 100 → w64 (((i : Nat) : Int) + (d : Int)) = ((i + d : Nat) : Int) := fun i d h1 h2 => mT (by omega)
 have loop : c8 (c : Int) (o, bo) bw 0 = some (if tl (oP (bl o) (c : Int)) ((bl o).length / 6) < (bl o).length / 6 then .inr (IntKind.wrap .i32 (nC (((bl o).drop (6 * tl (oP (bl o) (c : Int)) ((bl o).length / 6) + 2)).take 4))) else .inl ()) := by
  generalize hj : tl (oP (bl o) (c : Int)) ((bl o).length / 6) = j at hle
  refine cw (fun i => ((6 * i : Nat) : Int)) j (by omega) (fun q i hi => ?_) (fun q => ?_)
  ·have d1 : decide (((6 * i : Nat) : Int) < (o.size : Int)) = true := decide_eq_true (by omega)
   have hb : oP (bl o) (c : Int) i = true := jI (n := (bl o).length / 6) (by omega)
   have hb' : (nC (((bl o).drop (6 * i)).take 2) == (c : Int)) = false := by unfold oP at hb; simpa using hb
   have e2 : w64 (((6 * i : Nat) : Int) + 2) = ((6 * i + 2 : Nat) : Int) := w2 (6 * i) 2 (by omega) (by omega)
   have e6 : w64 (((6 * i : Nat) : Int) + 6) = ((6 * (i + 1) : Nat) : Int) := by have := w2 (6 * i) 6 (by omega) (by omega); rw [show 6 * (i + 1) = 6 * i + 6 by omega]; exact this
   rw [c8.eq_2]; simp only [d1, cond_true, e2, e6, hw]
   rw [aX (by omega), Int.toNat_natCast, Int.toNat_natCast, qq (by omega), show 6 * i + 2 - 6 * i = 2 by omega]
   simp only [Option.bind_some, hb', cond_false]
  ·rw [c8.eq_2]
   by_cases hjn : j < (bl o).length / 6
   ·have d1 : decide (((6 * j : Nat) : Int) < (o.size : Int)) = true := decide_eq_true (by omega)
    have hb : oP (bl o) (c : Int) j = false := by rw [← hj]; exact iq (by omega)
    have hb' : (nC (((bl o).drop (6 * j)).take 2) == (c : Int)) = true := by unfold oP at hb; simpa using hb
    have e2 : w64 (((6 * j : Nat) : Int) + 2) = ((6 * j + 2 : Nat) : Int) := w2 (6 * j) 2 (by omega) (by omega)
    have e6 : w64 (((6 * j : Nat) : Int) + 6) = ((6 * j + 6 : Nat) : Int) := w2 (6 * j) 6 (by omega) (by omega)
    simp only [d1, cond_true, e2, e6, hw]
    rw [aX (by omega), Int.toNat_natCast, Int.toNat_natCast, qq (by omega), show 6 * j + 2 - 6 * j = 2 by omega]
    simp only [Option.bind_some, hb', cond_true]
    rw [aX (by omega), Int.toNat_natCast, qq (by omega), show 6 * j + 6 - (6 * j + 2) = 4 by omega, if_pos hjn]
    rfl
   ·have d1 : decide (((6 * j : Nat) : Int) < (o.size : Int)) = false := decide_eq_false (by omega)
    simp only [d1, cond_false, if_neg hjn]
 rw [loop]; unfold dsg
 by_cases hj : tl (oP (bl o) (c : Int)) ((bl o).length / 6) < (bl o).length / 6
 ·rw [if_pos hj, if_pos hj]; rfl
 ·rw [if_neg hj, if_neg hj]; simp only [jn]
  have e4 : w64 (4 * (c : Int)) = ((4 * c : Nat) : Int) := by rw [c3 (by omega) (by omega)]; omega
  have e8 : w64 (((4 * c : Nat) : Int) + 4) = ((4 * c + 4 : Nat) : Int) := w2 (4 * c) 4 (by omega) (by omega)
  rw [hw, e4, e8]; change gd ((0 : Int) ≤ ((4 * c : Nat) : Int) ∧ ((4 * c : Nat) : Int) ≤ ((4 * c + 4 : Nat) : Int) ∧ ((4 * c + 4 : Nat) : Int) ≤ (rG.size : Int)) ((cm (rG.extract _ _)).bind _) = _
  rw [aX (by omega), Int.toNat_natCast, Int.toNat_natCast, qq (by omega), show 4 * c + 4 - 4 * c = 4 by omega]
  rfl
theorem jH {n : Int} {o : ByteArray} {bo : Bool} {O T : List Int} (ho : eh n = some (o, bo)) (h1 : o.size % 6 = 0) (h2 : o.size < 1000) (hO : bl o = O) (hT : (List.range 256).map (dsg n7 O) = T) {c : Nat} (hc : c < 256) : bp n (c : Int) = some (rd T (c : Int)) := by
 rw [tA ho h1 h2 hc, baseB_l, hO, ← hT]
 rw [rdn (by simpa using hc)]; simp
theorem r37 {c : Nat} (hc : c < 256) : bp 37 (c : Int) = some (rd T37 (c : Int)) := jH (o := _) rfl (by decide +kernel) (by decide +kernel) (by decide +kernel) d37 hc
theorem r273 {c : Nat} (hc : c < 256) : bp 273 (c : Int) = some (rd tW (c : Int)) := jH (o := _) rfl (by decide +kernel) (by decide +kernel) (by decide +kernel) d273 hc
theorem r297 {c : Nat} (hc : c < 256) : bp 297 (c : Int) = some (rd tV (c : Int)) := jH (o := _) rfl (by decide +kernel) (by decide +kernel) (by decide +kernel) d297 hc
theorem r500 {c : Nat} (hc : c < 256) : bp 500 (c : Int) = some (rd tU (c : Int)) := jH (o := _) rfl (by decide +kernel) (by decide +kernel) (by decide +kernel) d500 hc
theorem r1047 {c : Nat} (hc : c < 256) : bp 1047 (c : Int) = some (rd p7 (c : Int)) := jH (o := _) rfl (by decide +kernel) (by decide +kernel) (by decide +kernel) d1047 hc
theorem r1140 {c : Nat} (hc : c < 256) : bp 1140 (c : Int) = some (rd p6 (c : Int)) := jH (o := _) rfl (by decide +kernel) (by decide +kernel) (by decide +kernel) d1140 hc
theorem jb {n : Int} (h : n ∈ pgs) : sgT n = rK n ∧ (rK n).length = 256 ∧ (rK n).Nodup ∧ rd (rK n) 0 = 0 ∧ ∀ c : Nat, c < 256 → bp n (c : Int) = some (rd (rK n) (c : Int)) := by
 simp only [pgs, List.mem_cons, List.not_mem_nil, or_false] at h; obtain ⟨z1, z2, z3, z4, z5, z6⟩ := zero_all; rcases h with rfl | rfl | rfl | rfl | rfl | rfl
 ·exact ⟨s37, rfl, n37, z1, fun c hc => r37 hc⟩
 ·exact ⟨s273, rfl, n273, z2, fun c hc => r273 hc⟩
 ·exact ⟨s297, rfl, n297, z3, fun c hc => r297 hc⟩
 ·exact ⟨s500, rfl, n500, z4, fun c hc => r500 hc⟩
 ·exact ⟨s1047, rfl, n1047, z5, fun c hc => r1047 hc⟩
 ·exact ⟨s1140, rfl, n1140, z6, fun c hc => r1140 hc⟩
end Go.Vt
set_option linter.unusedVariables false
set_option linter.unusedSimpArgs false
set_option maxRecDepth 100000
namespace Go.Vt
theorem pg_ok {n : Int} (h : n ∈ pgs) : ∃ os, bP n = some (os, true) := by
 simp only [pgs, List.mem_cons, List.not_mem_nil, or_false] at h; rcases h with rfl | rfl | rfl | rfl | rfl | rfl <;> exact ⟨_, rfl⟩
/-- a code's sign -/
def sgI (n c : Int) : Int := rd (sgT n) c
theorem sgT_of {n : Int} {os : List au} {b : Bool} (h : bP n = some (os, b)) : sgT n = sgn os := by unfold sgT; rw [h]
theorem rS {n : Int} (h : n ∈ pgs) : (sgT n).length = 256 := by rw [(jb h).1]; exact (jb h).2.1
theorem psign {n : Int} (h : n ∈ pgs) {c : Int} (hc : By c) : gT ⟨n⟩ c = some (sgI n c) := by
 obtain ⟨os, ho⟩ := pg_ok h
 have hlen := rS h
 obtain ⟨c1, c2⟩ := hc
 have e := sgT_of ho
 unfold gT qm sgI; simp only [ho]
 rw [aX ⟨c1, c2⟩, ← e, nT ⟨c1, by omega⟩]
theorem rsign {n : Int} (h : n ∈ pgs) {c : Int} (hc : By c) : bp n c = some (sgI n c) := by
 obtain ⟨c1, c2⟩ := hc
 obtain ⟨k, rfl⟩ : ∃ k : Nat, c = (k : Int) := ⟨c.toNat, by omega⟩
 unfold sgI; rw [(jb h).1]
 exact (jb h).2.2.2.2 k (by omega)
theorem sg0 {n : Int} (h : n ∈ pgs) : sgI n 0 = 0 := by unfold sgI; rw [(jb h).1]; exact (jb h).2.2.2.1
theorem pg_nodup {n : Int} (h : n ∈ pgs) : (sgT n).Nodup := by rw [(jb h).1]; exact (jb h).2.2.1
/-- a sign's code; -1: it has none -/
def cdN (n z : Int) : Nat := tl (fun i => !(sgI n (i : Int) == z)) 256
def cdI (n z : Int) : Int := if cdN n z < 256 then (cdN n z : Int) else -1
theorem cdI_lt (n z : Int) : -1 ≤ cdI n z ∧ cdI n z < 256 := by unfold cdI; split <;> omega
theorem rcode {n : Int} (h : n ∈ pgs) (z : Int) : dA n z = some (cdI n z) := by
 have hle : cdN n z ≤ 256 := jY _ _
 have hs : ∀ i : Nat, i < 256 → bp n (IntKind.wrap .u8 (i : Int)) = some (sgI n (i : Int)) := fun i hi => by rw [nR ⟨by omega, by omega⟩]; exact rsign h ⟨by omega, by omega⟩
 unfold dA cdI
 have loop : c9 n z bw 0 = some (if cdN n z < 256 then .inr (cdN n z : Int) else .inl ()) := by
  refine cw (fun i => (i : Int)) (cdN n z) (by omega) (fun q i hi => ?_) (fun q => ?_)
  ·have d1 : decide ((i : Int) < 256) = true := decide_eq_true (by omega)
   have hb : (!(sgI n (i : Int) == z)) = true := jI (p := fun i : Nat => !(sgI n (i : Int) == z)) hi
   have hb' : (sgI n (i : Int) == z) = false := by simpa using hb
   rw [c9.eq_2]
   simp only [d1, cond_true, hs i (by omega), Option.bind_some, hb', cond_false, je (show i < 1000000 by omega)]
  ·rw [c9.eq_2]
   by_cases hj : cdN n z < 256
   ·have d1 : decide ((cdN n z : Int) < 256) = true := decide_eq_true (by omega)
    have hb : (!(sgI n (cdN n z : Int) == z)) = false := iq (p := fun i : Nat => !(sgI n (i : Int) == z)) hj
    have hb' : (sgI n (cdN n z : Int) == z) = true := by simpa using hb
    simp only [d1, cond_true, hs _ hj, Option.bind_some, hb', if_pos hj]
    rfl
   ·have d1 : decide ((cdN n z : Int) < 256) = false := decide_eq_false (by omega)
    simp only [d1, cond_false, if_neg hj]
 rw [loop]
 by_cases hj : cdN n z < 256
 ·rw [if_pos hj, if_pos hj]; rfl
 ·rw [if_neg hj, if_neg hj]; rfl
theorem nQ : ∀ (l : List (Int × Value)) (k : Int) (v : Value) (z : Int), fp (ip l k v) z = if k = z then some v else fp l z
 | [], k, v, z => rfl
 | p :: r, k, v, z => by
  simp only [ip]
  by_cases h : p.1 = k
  ·rw [if_pos h]; simp only [fp]
   by_cases h2 : k = z
   ·rw [if_pos h2, if_pos h2]
   ·rw [if_neg h2, if_neg h2, if_neg (by rw [h]; exact h2)]
  ·rw [if_neg h]; simp only [fp]
   by_cases h2 : p.1 = z
   ·rw [if_pos h2, if_pos h2, if_neg (fun e => h (h2.trans e.symm))]
   ·rw [if_neg h2, if_neg h2]; exact nQ r k v z
theorem qr {z : Int} : ∀ (ss : List Int) (c : Nat) (m : List (Int × Value)), z ∉ ss → fp (mp c ss m) z = fp m z
 | [], _, _, _ => rfl
 | s :: ss, c, m, h => by
  rw [mp, qr ss (c + 1) _ (fun e => h (List.mem_cons_of_mem _ e)), nQ, if_neg fun e => h (by rw [e]; exact List.mem_cons_self)]
theorem sS {z : Int} : ∀ (ss : List Int) (c : Nat) (m : List (Int × Value)) (i : Nat), ss.Nodup → ss[i]? = some z → fp (mp c ss m) z = some (.int .u8 (IntKind.wrap .u8 ((c + i : Nat) : Int)))
 | [], _, _, i, _, h => by simp at h
 | s :: ss, c, m, 0, hn, h => by
  have e : s = z := by simpa using h
  subst e; rw [mp, qr ss (c + 1) _ (List.nodup_cons.1 hn).1, nQ, if_pos rfl]; rfl
 | s :: ss, c, m, i + 1, hn, h => by
  rw [mp, sS ss (c + 1) _ i (List.nodup_cons.1 hn).2 (by simpa using h), show c + 1 + i = c + (i + 1) by omega]
theorem pcode {n : Int} (h : n ∈ pgs) (z : Int) : es ⟨n⟩ z = some (if cdI n z < 0 then (0, false) else (cdI n z, true)) := by
 obtain ⟨os, ho⟩ := pg_ok h
 have hlen := rS h
 have e := sgT_of ho
 have hle : cdN n z ≤ 256 := jY _ _
 unfold es qn; simp only [ho]; rw [← e]
 by_cases hj : cdN n z < 256
 ·have hb : (!(sgI n (cdN n z : Int) == z)) = false := iq (p := fun i : Nat => !(sgI n (i : Int) == z)) hj
  have hb' : sgI n (cdN n z : Int) = z := by simpa using hb
  have hlt : cdN n z < (sgT n).length := by omega
  have hg : (sgT n)[cdN n z]? = some z := by
   have h9 := List.getElem?_eq_getElem hlt
   unfold sgI at hb'; rw [rdn hlt] at hb'; rw [h9, hb']
  rw [sS (sgT n) 0 [] (cdN n z) (pg_nodup h) hg, Nat.zero_add, nR ⟨by omega, by omega⟩]
  unfold cdI
  rw [if_pos hj, if_neg (by omega)]
 ·have hz : z ∉ sgT n := fun hm => by
   obtain ⟨i, hi, hv⟩ := List.getElem_of_mem hm
   have : (!(sgI n (i : Int) == z)) = true := jI (p := fun i : Nat => !(sgI n (i : Int) == z)) (n := 256) (by unfold cdN at hj hle; omega)
   unfold sgI at this
   rw [rdn (by omega), hv] at this
   simp at this
  rw [qr _ _ _ hz]; unfold cdI
  rw [if_neg hj, if_pos (by omega)]; rfl
/-! ### what a code may be used for -/
def jP (c : Int) : Bool := decide (c ≥ 64) && decide (c < 255)
theorem pdata (c : Int) : fG c = some (jP c) := by
 unfold fG jP; cases decide (c ≥ 64) <;> rfl
theorem rdata (c : Int) : eR c = some (jP c) := by
 unfold eR jP
 have : decide (c ≤ 254) = decide (c < 255) := by by_cases h : c < 255 <;> simp [h] <;> omega
 rw [this]; cases decide (c ≥ 64) <;> rfl
def oO (n c : Int) : Bool := (c == 28) || (jP c && ((decide (sgI n c ≥ 48) && decide (sgI n c ≤ 57)) || ((sgI n c == 46) || (sgI n c == 45))))
theorem pnum {n : Int} (h : n ∈ pgs) {c : Int} (hc : By c) : fu ⟨n⟩ c = some (oO n c) := by
 unfold fu gW oO; simp only [psign h hc, pdata, Option.bind_some]
 cases (c == 28) <;> cases jP c <;> cases decide (sgI n c ≥ 48) <;> cases decide (sgI n c ≤ 57) <;> cases (sgI n c == 46) <;> rfl
theorem rnum {n : Int} (h : n ∈ pgs) {c : Int} (hc : By c) : dn n c = some (oO n c) := by
 unfold dn oO; simp only [rsign h hc, rdata, Option.bind_some]
 cases (c == 28) <;> cases jP c <;> cases decide (sgI n c ≥ 48) <;> cases decide (sgI n c ≤ 57) <;> cases (sgI n c == 46) <;> rfl
def nG (n c : Int) : Int := if c = 0 then 3 else if sgI n c = 63 then 1 else if sgI n c = 62 then 2 else if sgI n c = 32 then 3 else if sgI n c = 38 then 4 else 0
theorem pdes {n : Int} (h : n ∈ pgs) {c : Int} (hc : By c) : fo ⟨n⟩ c = some (nG n c) := by
 unfold fo gW nG; simp only [psign h hc, Option.bind_some, Bool.cond_eq_ite, beq_iff_eq]
 repeat' split
 all_goals first | rfl | contradiction
theorem rdes {n : Int} (h : n ∈ pgs) {c : Int} (hc : By c) : dq n c = some (nG n c) := by
 unfold dq nG; simp only [rsign h hc, Option.bind_some]
 by_cases h0 : c = 0
 ·subst h0; rw [sg0 h]; rfl
 ·rw [if_neg h0, cN h0]
  by_cases g1 : sgI n c = 63
  ·rw [if_pos g1, jA g1]; rfl
  ·by_cases g2 : sgI n c = 62
   ·rw [if_neg g1, if_pos g2, cN g1, jA g2]; rfl
   ·by_cases g3 : sgI n c = 32
    ·rw [if_neg g1, if_neg g2, if_pos g3, cN g1, cN g2, jA g3]; rfl
    ·by_cases g4 : sgI n c = 38
     ·rw [if_neg g1, if_neg g2, if_neg g3, if_pos g4, cN g1, cN g2, cN g3, jA g4]; rfl
     ·rw [if_neg g1, if_neg g2, if_neg g3, if_neg g4, cN g1, cN g2, cN g3, cN g4]; rfl
end Go.Vt
set_option linter.unusedVariables false
set_option linter.unusedSimpArgs false
set_option maxRecDepth 100000
namespace Go.Vt
/-- behind a character was entered -/
def jU (L : List ae) (k : Nat) : Int :=
 if bm L ((k + 1) % L.length) then
  (if (fld (rd L (((k + 1) % L.length : Nat) : Int)).FA).Protected && (fld (rd L (((k + 1) % L.length : Nat) : Int)).FA).Numeric then kC L ((k + 1) % L.length) else ((((k + 1) % L.length + 1) % L.length : Nat) : Int))
 else (((k + 1) % L.length : Nat) : Int)
theorem tT {L : List ae} {N : Nat} (hl : L.length = N) (hN : 0 < N) (k : Nat) : 0 ≤ jU L k ∧ jU L k < N := by
 have h1 := Nat.mod_lt (k + 1) (show 0 < L.length by omega)
 have h2 := Nat.mod_lt ((k + 1) % L.length + 1) (show 0 < L.length by omega)
 unfold jU
 split
 ·split
  ·exact kB hl hN
  ·omega
 ·omega
theorem nB {m : Int} {N : Nat} {s : ad} (h : SS m N s) {rn cn : Nat} (hr : s.size.Rows = (rn : Int)) (hc : s.size.Cols = (cn : Int)) (hN : N = rn * cn) {k : Nat} (hk : s.cursor = (k : Int)) (hkN : k < N) {dr dc : Int} {dr' dc' : Nat} (hdr : dr % (rn : Int) = (dr' : Int)) (hdc : dc % (N : Int) = (dc' : Int)) : dN s dr dc = some (pC s ((mvI rn cn k dr' dc' : Nat) : Int)) := by
 have hb := ng h.dim.dim hr hc hN
 unfold dN aQ aW; simp only [Option.bind_some, hk, pmove h.dim.dim hr hc hN (aS hkN) hdr hdc]
 have hlt : mvI rn cn k dr' dc' < N := by rw [hN]; exact mvI_lt (by omega) (by omega)
 have := mw h (p := ((mvI rn cn k dr' dc' : Nat) : Int)) (by omega) (by omega)
 have e : (⟨s.model, s.alternate, s.size, s.cells, (k : Int), s.attrs⟩ : ad) = s := by rw [← hk]
 simp only [e, this, Option.bind_some]
theorem pafter {m : Int} {N : Nat} {s : ad} (h : SS m N s) {rn cn : Nat} (hr : s.size.Rows = (rn : Int)) (hc : s.size.Cols = (cn : Int)) (hN : N = rn * cn) {k : Nat} (hk : s.cursor = (k : Int)) (hkN : k < N) : fm s = some (pC s (jU s.cells k)) := by
 have hl := h.len
 have hle := h.dim.dim.le
 have hb := ng h.dim.dim hr hc hN
 have e0 : (0 : Int) % (rn : Int) = ((0 : Nat) : Int) := Int.zero_emod _
 have e1 : (1 : Int) % (N : Int) = ((1 : Nat) : Int) := aS (k := 1) (by omega)
 have mv : ∀ q, q < N → mvI rn cn q 0 1 = (q + 1) % N := fun q hq => by rw [mv_on (by omega) (by omega), ← hN]
 have hp : (k + 1) % N < N := Nat.mod_lt _ (by omega)
 have hS := h.c (p := (((k + 1) % N : Nat) : Int)) (by omega) (by omega)
 unfold fm jU; simp only [nB h hr hc hN hk hkN e0 e1, mv k hkN, Option.bind_some, aW, hl]; change ((aN (pC s (((k + 1) % N : Nat) : Int)) (((k + 1) % N : Nat) : Int)).bind _) = _; simp only [iC hS, aS hp, Option.bind_some]
 have hA : (rd (pC s (((k + 1) % N : Nat) : Int)).cells (((k + 1) % N : Nat) : Int)).Attr = bm s.cells ((k + 1) % N) := rfl
 rw [hA]
 cases bm s.cells ((k + 1) % N) with
 | false => simp only [Bool.not_false, cond_true, Option.bind_some, Bool.false_eq_true, if_false]
 | true =>
  simp only [Bool.not_true, cond_false, pof, Option.bind_some, fH, if_true]
  have hF : (rd (pC s (((k + 1) % N : Nat) : Int)).cells (((k + 1) % N : Nat) : Int)).FA = (rd s.cells (((k + 1) % N : Nat) : Int)).FA := rfl
  rw [hF]
  have ht := ptab hS (k := (k + 1) % N) rfl hp
  have hm := nB hS hr hc hN (k := (k + 1) % N) rfl hp e0 e1
  rw [mv _ hp] at hm
  cases (fld (rd s.cells (((k + 1) % N : Nat) : Int)).FA).Protected <;> cases (fld (rd s.cells (((k + 1) % N : Nat) : Int)).FA).Numeric
  ·simp only [cond_false, Option.bind_some, hm, Bool.and_false, Bool.false_eq_true, if_false]; rfl
  ·simp only [cond_false, Option.bind_some, hm, Bool.and_true, Bool.false_eq_true, if_false]; rfl
  ·simp only [cond_true, cond_false, Option.bind_some, hm, Bool.and_false, Bool.false_eq_true, if_false]; rfl
  ·simp only [cond_true, Option.bind_some, ht, Bool.and_true, if_true]; rfl
theorem pline {m : Int} {N : Nat} {s : ad} (h : SS m N s) {rn cn : Nat} (hr : s.size.Rows = (rn : Int)) (hc : s.size.Cols = (cn : Int)) (hN : N = rn * cn) {k : Nat} (hk : s.cursor = (k : Int)) (hkN : k < N) : fV s = some (pC s (iY s.cells (atI rn cn (k / cn + 1) 0))) := by
 have hl := h.len
 have hle := h.dim.dim.le
 have hb := ng h.dim.dim hr hc hN
 have hq : k / cn < rn := by rw [Nat.div_lt_iff_lt_mul (by omega), ← hN]; exact hkN
 have hat : atI rn cn (k / cn + 1) 0 < N := by rw [hN]; exact qJ (by omega) (by omega)
 have hw : w64 (((k / cn : Nat) : Int) + 1) = ((k / cn + 1 : Nat) : Int) := mT (b := 1) (by omega)
 have hline : fZ ⟨s.size.Rows, s.size.Cols⟩ (k : Int) = some ((atI rn cn (k / cn + 1) 0 : Nat) : Int) := by
  unfold fZ; simp only [prowc h.dim.dim hr hc hN (aS hkN), Option.bind_some, hw]
  rw [patc h.dim.dim hr hc hN (a' := (k / cn + 1) % rn) (b' := 0) (by rw [Int.natCast_emod]) (Int.zero_emod _)]
  simp only [Option.bind_some]; unfold atI; rw [Nat.mod_mod]
 have hf := lR (L := s.cells) (N := N) (k := atI rn cn (k / cn + 1) 0) hl hat
 unfold fV aQ aW; simp only [Option.bind_some, hk, hline, sN h (aS hat) hat, mw h hf.1 hf.2]
theorem phome {m : Int} {N : Nat} {s : ad} (h : SS m N s) {rn cn : Nat} (hr : s.size.Rows = (rn : Int)) (hc : s.size.Cols = (cn : Int)) (hN : N = rn * cn) : il s = some (pC s (iY s.cells 0)) := by
 have hl := h.len
 have hle := h.dim.dim.le
 have hf := lR (L := s.cells) (N := N) (k := 0) hl (by omega)
 unfold il
 simp only [sN h (n := 0) (k := 0) (Int.zero_emod _) (by omega), Option.bind_some, mw h hf.1 hf.2]
theorem rdo0 {m : Int} {N : Nat} {x : aa} (h : RS m N x) {rn cn : Nat} (hr : x.Size.Rows = (rn : Int)) (hc : x.Size.Cols = (cn : Int)) (hN : N = rn * cn) {k : Nat} (hk : x.Cursor = (k : Int)) (hkN : k < N) : ba x ⟨0, 0, 0⟩ = some (rC x (kC x.L k)) := by
 have e : ((Int.tmod 0 6) == 0) = true := rfl
 unfold ba; simp only [e, cond_true, hk, rtab h (aS hkN) hkN, Option.bind_some]
 rfl
theorem rdo1 {m : Int} {N : Nat} {x : aa} (h : RS m N x) {rn cn : Nat} (hr : x.Size.Rows = (rn : Int)) (hc : x.Size.Cols = (cn : Int)) (hN : N = rn * cn) {k : Nat} (hk : x.Cursor = (k : Int)) (hkN : k < N) : ba x ⟨1, 0, 0⟩ = some (rC x (pu x.L k)) := by
 have e : ((Int.tmod 1 6) == 0) = false := rfl
 have e1 : ((Int.tmod 1 6) == 1) = true := rfl
 unfold ba; simp only [e, e1, cond_true, cond_false, hk, rbtab h (aS hkN) hkN, Option.bind_some]
 rfl
theorem rdo2 {m : Int} {N : Nat} {x : aa} (h : RS m N x) {rn cn : Nat} (hr : x.Size.Rows = (rn : Int)) (hc : x.Size.Cols = (cn : Int)) (hN : N = rn * cn) {k : Nat} (hk : x.Cursor = (k : Int)) (hkN : k < N) : ba x ⟨2, 0, 0⟩ = some (rC x (iY x.L (atI rn cn (k / cn + 1) 0))) := by
 have hle := h.dim.dim.le
 have hb := ng h.dim.dim hr hc hN
 have hq : k / cn < rn := by rw [Nat.div_lt_iff_lt_mul (by omega), ← hN]; exact hkN
 have hat : atI rn cn (k / cn + 1) 0 < N := by rw [hN]; exact qJ (by omega) (by omega)
 have hw : w64 (((k / cn : Nat) : Int) + 1) = ((k / cn + 1 : Nat) : Int) := mT (b := 1) (by omega)
 have e : ((Int.tmod 2 6) == 0) = false := rfl
 have e1 : ((Int.tmod 2 6) == 1) = false := rfl
 have e2 : ((Int.tmod 2 6) == 2) = true := rfl
 have ed : Int.tdiv (k : Int) (cn : Int) = ((k / cn : Nat) : Int) := rfl
 have ha : dP x.Size ((k / cn + 1 : Nat) : Int) 0 = some ((atI rn cn (k / cn + 1) 0 : Nat) : Int) := by
  rw [show x.Size = ⟨x.Size.Rows, x.Size.Cols⟩ from rfl, ratc h.dim.dim hr hc hN (a' := (k / cn + 1) % rn) (b' := 0) (by rw [Int.natCast_emod]) (Int.zero_emod _)]
  unfold atI; rw [Nat.mod_mod]
 unfold ba; simp only [e, e1, e2, cond_true, cond_false, hk, hc]
 rw [aX (by omega), ed, w64n (by omega), hw, ha]
 simp only [Option.bind_some, sG h (aS hat) hat]
 rfl
theorem rdo3 {m : Int} {N : Nat} {x : aa} (h : RS m N x) {rn cn : Nat} (hr : x.Size.Rows = (rn : Int)) (hc : x.Size.Cols = (cn : Int)) (hN : N = rn * cn) {k : Nat} (hk : x.Cursor = (k : Int)) (hkN : k < N) : ba x ⟨3, 0, 0⟩ = some (rC x (iY x.L 0)) := by
 have hle := h.dim.dim.le
 have e : ((Int.tmod 3 6) == 0) = false := rfl
 have e1 : ((Int.tmod 3 6) == 1) = false := rfl
 have e2 : ((Int.tmod 3 6) == 2) = false := rfl
 have e3 : ((Int.tmod 3 6) == 3) = true := rfl
 unfold ba
 simp only [e, e1, e2, e3, cond_true, cond_false, sG h (n := 0) (k := 0) (Int.zero_emod _) (by omega), Option.bind_some]
 rfl
theorem rdo4 {m : Int} {N : Nat} {x : aa} (h : RS m N x) {rn cn : Nat} (hr : x.Size.Rows = (rn : Int)) (hc : x.Size.Cols = (cn : Int)) (hN : N = rn * cn) {k : Nat} (hk : x.Cursor = (k : Int)) (hkN : k < N) {dr dc : Int} {dr' dc' : Nat} (hdr : dr % (rn : Int) = (dr' : Int)) (hdc : dc % (N : Int) = (dc' : Int)) : ba x ⟨4, dr, dc⟩ = some (rC x ((mvI rn cn k dr' dc' : Nat) : Int)) := by
 have e : ((Int.tmod 4 6) == 0) = false := rfl
 have e1 : ((Int.tmod 4 6) == 1) = false := rfl
 have e2 : ((Int.tmod 4 6) == 2) = false := rfl
 have e3 : ((Int.tmod 4 6) == 3) = false := rfl
 have e4 : ((Int.tmod 4 6) == 4) = true := rfl
 have hm : dW x.Size (k : Int) dr dc = some ((mvI rn cn k dr' dc' : Nat) : Int) := by
  rw [show x.Size = ⟨x.Size.Rows, x.Size.Cols⟩ from rfl, rmovec h.dim.dim hr hc hN (aS hkN) hdr hdc]
 unfold ba; simp only [e, e1, e2, e3, e4, cond_true, cond_false, hk, hm, Option.bind_some]
 rfl
theorem rdo5 {m : Int} {N : Nat} {x : aa} (h : RS m N x) {rn cn : Nat} (hr : x.Size.Rows = (rn : Int)) (hc : x.Size.Cols = (cn : Int)) (hN : N = rn * cn) {k : Nat} (hk : x.Cursor = (k : Int)) (hkN : k < N) : ba x ⟨5, 0, 0⟩ = some (rC x (jU x.L k)) := by
 have hl := h.len
 have hle := h.dim.dim.le
 have hp : (k + 1) % N < N := Nat.mod_lt _ (by omega)
 have hp2 : ((k + 1) % N + 1) % N < N := Nat.mod_lt _ (by omega)
 have e : ((Int.tmod 5 6) == 0) = false := rfl
 have e1 : ((Int.tmod 5 6) == 1) = false := rfl
 have e2 : ((Int.tmod 5 6) == 2) = false := rfl
 have e3 : ((Int.tmod 5 6) == 3) = false := rfl
 have e4 : ((Int.tmod 5 6) == 4) = false := rfl
 have hR := h.c (p := (((k + 1) % N : Nat) : Int)) (by omega) (by omega)
 have w1 : w64 ((k : Int) + 1) = ((k + 1 : Nat) : Int) := mT (b := 1) (by omega)
 have w2 : w64 ((((k + 1) % N : Nat) : Int) + 1) = (((k + 1) % N + 1 : Nat) : Int) := mT (b := 1) (by omega)
 unfold ba jU; simp only [e, e1, e2, e3, e4, cond_false, hk, w1, hl]; change (((aZ (rC x (k : Int)) _).bind _).bind _) = _
 have hRk := h.c (p := (k : Int)) (by omega) (by omega)
 simp only [f5 hRk, Option.bind_some]
 rw [show (((k + 1 : Nat) : Int)) % (N : Int) = (((k + 1) % N : Nat) : Int) from (Int.natCast_emod _ _).symm, aX (by omega), w2]
 have hA : (rd x.L (((k + 1) % N : Nat) : Int)).Attr = bm x.L ((k + 1) % N) := rfl
 rw [hA]
 cases bm x.L ((k + 1) % N) with
 | false => simp only [cond_false, Option.bind_some, Bool.false_eq_true, if_false]; rfl
 | true =>
  simp only [cond_true, if_true]
  have hfd := ms hR hp
  have hwp := f5 hR (((k + 1) % N + 1 : Nat) : Int)
  rw [show ((((k + 1) % N + 1 : Nat) : Int)) % (N : Int) = ((((k + 1) % N + 1) % N : Nat) : Int) from (Int.natCast_emod _ _).symm] at hwp
  have htb := rtab hR (aS hp) hp
  change (((bj (rC x (((k + 1) % N : Nat) : Int)) _).bind _).bind _) = _; rw [hfd]; simp only [Option.bind_some]; change ((((cond (fld (rd x.L (((k + 1) % N : Nat) : Int)).FA).Protected (some (fld (rd x.L (((k + 1) % N : Nat) : Int)).FA).Numeric) (some false)).bind fun d10 => cond d10 ((b5 (rC x (((k + 1) % N : Nat) : Int)) _ false).bind _) ((aZ (rC x (((k + 1) % N : Nat) : Int)) _).bind _)).bind _)) = _
  cases (fld (rd x.L (((k + 1) % N : Nat) : Int)).FA).Protected <;> cases (fld (rd x.L (((k + 1) % N : Nat) : Int)).FA).Numeric
  ·simp only [cond_false, Option.bind_some, hwp, Bool.and_false, Bool.false_eq_true, if_false]; rfl
  ·simp only [cond_false, Option.bind_some, hwp, Bool.and_true, Bool.false_eq_true, if_false]; rfl
  ·simp only [cond_true, cond_false, Option.bind_some, hwp, Bool.and_false, Bool.false_eq_true, if_false]; rfl
  ·simp only [cond_true, Option.bind_some, htb, Bool.and_true, if_true]; rfl
end Go.Vt
set_option linter.unusedVariables false
set_option linter.unusedSimpArgs false
set_option maxRecDepth 100000
namespace Go.Vt
def jS (c : ae) : ae := { c with Char := 0 }
theorem sC {m : Int} {N : Nat} {s : ad} (h : SS m N s) {j : Nat} (hj : j < N) :
  ∃ s', bs s (j : Int) 0 = some s' ∧ SS m N s' ∧ s'.alternate = s.alternate ∧ s'.size = s.size ∧ s'.cursor = s.cursor ∧ ∀ q, q < N → rd s'.cells (q : Int) = if q = j ∧ (rd s.cells (j : Int)).Attr = false then jS (rd s.cells (q : Int)) else rd s.cells (q : Int) := by
 have hd := h.dim.dim.le
 have hl := h.len
 have hjm : (j : Int) % (N : Int) = (j : Int) := Int.emod_eq_of_lt (by omega) (by omega)
 have hjl : j < s.cells.length := by omega
 unfold bs; simp only [mX h, hjm, Option.bind_some]
 rw [aX (by omega)]
 cases ha : (rd s.cells (j : Int)).Attr with
 | true =>
  simp only [Bool.not_true, cond_false]
  exact ⟨s, rfl, h, rfl, rfl, rfl, fun q hq => by rw [if_neg (by simp)]⟩
 | false =>
  simp only [Bool.not_false, cond_true]
  have hok := h.ok _ (List.getElem_mem hjl)
  rw [rdn hjl] at ha ⊢
  have hcn : cnt (s.cells.set j ⟨0, false, s.cells[j].FA, s.cells[j].High, s.cells[j].Color, s.cells[j].f_Set⟩) = cnt s.cells := by
   rw [qF _ _ _ hjl]; unfold c1; simp [ha]
  refine ⟨_, rfl, ⟨h.model, h.dim, by simp [hl], fun d hd' => ?_, h.cur, ?_⟩, rfl, rfl, rfl, fun q hq => ?_⟩
  ·rw [Int.toNat_natCast] at hd'; rcases List.mem_or_eq_of_mem_set hd' with h1 | h1
   ·exact h.ok d h1
   ·subst h1
    exact ⟨by0, hok.fa, hok.high, hok.color, hok.set, (fun h2 => by cases h2), fun _ => hok.plain ha⟩
  ·simp only [Int.toNat_natCast]; rw [hcn]; exact h.attrs
  ·rw [rdn (by simp; omega), rdn (by omega)]
   simp only [Int.toNat_natCast, List.getElem_set]
   by_cases hqj : j = q
   ·subst hqj; simp [jS, ha]
   ·rw [if_neg hqj, if_neg (by omega)]
theorem mo {m : Int} {N : Nat} {s : ad} (h : SS m N s) {n : Nat} (hn : n < N) : aN s (n : Int) = some (rd s.cells (n : Int)) := by
 rw [iC h, Int.emod_eq_of_lt (by omega) (by omega)]
abbrev t7 (s : ad) : T7 := (s.model, s.alternate, s.size.Rows, s.size.Cols, s.cells, s.cursor, s.attrs)
/-- all cells blank, where none is an attribute -/
theorem qB {m : Int} {N : Nat} {s : ad} (h : SS m N s) : ∃ s', jk s = some s' ∧ SS m N s' ∧ s'.alternate = s.alternate ∧ s'.size = s.size ∧ s'.cursor = s.cursor ∧ ∀ q, q < N → rd s'.cells (q : Int) = if (rd s.cells (q : Int)).Attr = false then jS (rd s.cells (q : Int)) else rd s.cells (q : Int) := by
 have hd := h.dim.dim.le
 unfold jk aQ; simp only [Option.bind_some, mW h]
 have key := iz (L := gh (N : Int)) (n := N) (s := t7 s)
  (fun i y => ∃ u : ad, SS m N u ∧ y = t7 u ∧ u.alternate = s.alternate ∧ u.size = s.size ∧ u.cursor = s.cursor ∧ ∀ q, q < N → rd u.cells (q : Int) = if q < i ∧ (rd s.cells (q : Int)).Attr = false then jS (rd s.cells (q : Int)) else rd s.cells (q : Int))
  (fun r => ∃ u : ad, SS m N u ∧ r = t7 u ∧ u.alternate = s.alternate ∧ u.size = s.size ∧ u.cursor = s.cursor ∧ ∀ q, q < N → rd u.cells (q : Int) = if (rd s.cells (q : Int)).Attr = false then jS (rd s.cells (q : Int)) else rd s.cells (q : Int)) (by omega) ?_ ?_ ?_
 ·obtain ⟨r, h1, u, h2, rfl, h3⟩ := key; rw [h1]; exact ⟨u, rfl, h2, h3⟩
 ·rintro k i y hi ⟨u, hu, rfl, e1, e2, e3, e4⟩
  have d1 : decide ((i : Int) < (N : Int)) = true := decide_eq_true (by omega)
  obtain ⟨u', g1, g2, g3, g4, g5, g6⟩ := sC hu hi; rw [gh.eq_2]
  simp only [d1, cond_true, se, g1, Option.bind_some, gp (show i < 9223372036854775807 by omega)]
  refine ⟨_, rfl, u', g2, rfl, g3.trans e1, g4.trans e2, g5.trans e3, fun q hq => ?_⟩
  rw [g6 q hq, e4 q hq, e4 i hi, if_neg (show ¬ (i < i ∧ (rd s.cells (i : Int)).Attr = false) by omega)]
  by_cases hqi : q = i
  ·subst hqi
   by_cases ha : (rd s.cells (q : Int)).Attr = false
   ·rw [if_pos ⟨rfl, ha⟩, if_neg (by omega), if_pos ⟨by omega, ha⟩]
   ·rw [if_neg (fun h => ha h.2), if_neg (fun h => ha h.2), if_neg (fun h => ha h.2)]
  ·rw [if_neg (fun h => hqi h.1)]
   by_cases ha : (rd s.cells (q : Int)).Attr = false
   ·by_cases hq2 : q < i
    ·rw [if_pos ⟨hq2, ha⟩, if_pos ⟨by omega, ha⟩]
    ·rw [if_neg (fun h => hq2 h.1), if_neg (fun h => hq2 (by omega))]
   ·rw [if_neg (fun h => ha h.2), if_neg (fun h => ha h.2)]
 ·rintro k y ⟨u, hu, rfl, e1, e2, e3, e4⟩
  have d1 : decide ((N : Int) < (N : Int)) = false := decide_eq_false (by omega)
  rw [gh.eq_2]; simp only [d1, cond_false]; refine ⟨_, rfl, u, hu, rfl, e1, e2, e3, fun q hq => ?_⟩; rw [e4 q hq]
  simp [hq]
 ·exact ⟨s, h, rfl, rfl, rfl, rfl, fun q hq => by simp⟩
/-- the i places behind place a are blank -/
structure rI (m : Int) (N : Nat) (s : ad) (a i : Nat) (u : ad) : Prop where
 ss : SS m N u
 alt : u.alternate = s.alternate
 sz : u.size = s.size
 cur : u.cursor = s.cursor
 na : ∀ t, 1 ≤ t → t ≤ i → (rd s.cells (((a + t) % N : Nat) : Int)).Attr = false
 inn : ∀ q, q < N → (∃ t, 1 ≤ t ∧ t ≤ i ∧ q = (a + t) % N) → rd u.cells (q : Int) = jS (rd s.cells (q : Int))
 out : ∀ q, q < N → (¬ ∃ t, 1 ≤ t ∧ t ≤ i ∧ q = (a + t) % N) → rd u.cells (q : Int) = rd s.cells (q : Int)
theorem rI.attr {m : Int} {N : Nat} {s u : ad} {a i : Nat} (h : rI m N s a i u) {q : Nat} (hq : q < N) : (rd u.cells (q : Int)).Attr = (rd s.cells (q : Int)).Attr := by
 by_cases he : ∃ t, 1 ≤ t ∧ t ≤ i ∧ q = (a + t) % N
 ·rw [h.inn q hq he]; rfl
 ·rw [h.out q hq he]
/-- the places of one field blank -/
theorem tI {m : Int} {N : Nat} {s : ad} (h : SS m N s) {a : Nat} (ha : a < N) (hat : (rd s.cells (a : Int)).Attr = true) :
  ∃ i u, i + 1 ≤ N ∧ ca ⟨s.size.Rows, s.size.Cols⟩ bw ((((a + 1) % N : Nat) : Int), t7 s) = some (t7 u) ∧ rI m N s a i u ∧ (rd s.cells (((a + (i + 1)) % N : Nat) : Int)).Attr = true := by
 have hd := h.dim.dim.le
 have loop : ∀ (d i k : Nat) (u : ad), i + 1 + d = N → d < k → rI m N s a i u →
   ∃ j v, j + 1 ≤ N ∧ ca ⟨s.size.Rows, s.size.Cols⟩ k ((((a + (i + 1)) % N : Nat) : Int), t7 u) = some (t7 v) ∧ rI m N s a j v ∧ (rd s.cells (((a + (j + 1)) % N : Nat) : Int)).Attr = true := by
  intro d
  induction d with
  | zero =>
   intro i k u e hk hu
   obtain ⟨k, rfl⟩ : ∃ j, k = j + 1 := ⟨k - 1, by omega⟩
   have hp : (a + (i + 1)) % N = a := by rw [show a + (i + 1) = a + N by omega, Nat.add_mod_right, Nat.mod_eq_of_lt ha]
   rw [ca.eq_2]
   have h1 : (rd u.cells (((a + (i + 1)) % N : Nat) : Int)).Attr = true := by rw [hu.attr (Nat.mod_lt _ (by omega)), hp]; exact hat
   simp only [se, mo hu.ss (Nat.mod_lt (a + (i + 1)) (show 0 < N by omega)), Option.bind_some, h1, Bool.not_true, cond_false]
   exact ⟨i, u, by omega, rfl, hu, by rw [hp]; exact hat⟩
  | succ d ih =>
   intro i k u e hk hu
   obtain ⟨k, rfl⟩ : ∃ j, k = j + 1 := ⟨k - 1, by omega⟩
   have hpl : (a + (i + 1)) % N < N := Nat.mod_lt _ (by omega)
   rw [ca.eq_2]
   cases h1 : (rd s.cells (((a + (i + 1)) % N : Nat) : Int)).Attr with
   | true =>
    have h2 : (rd u.cells (((a + (i + 1)) % N : Nat) : Int)).Attr = true := by rw [hu.attr hpl]; exact h1
    simp only [se, mo hu.ss hpl, Option.bind_some, h2, Bool.not_true, cond_false]
    exact ⟨i, u, by omega, rfl, hu, h1⟩
   | false =>
    have h2 : (rd u.cells (((a + (i + 1)) % N : Nat) : Int)).Attr = false := by rw [hu.attr hpl]; exact h1
    obtain ⟨v, g1, g2, g3, g4, g5, g6⟩ := sC hu.ss hpl
    have hw : w64 ((((a + (i + 1)) % N : Nat) : Int) + 1) = (((a + (i + 1)) % N + 1 : Nat) : Int) := by rw [c3 (by omega) (by omega)]; omega
    have hm : (((a + (i + 1)) % N + 1 : Nat) : Int) % (N : Int) = (((a + (i + 1 + 1)) % N : Nat) : Int) := by
     rw [← Int.natCast_emod, Nat.mod_add_mod]; rfl
    simp only [se, mo hu.ss hpl, Option.bind_some, h2, Bool.not_false, cond_true, g1, hw, f4 h, hm]
    refine ih (i + 1) k v (by omega) (by omega) ⟨g2, g3.trans hu.alt, g4.trans hu.sz, g5.trans hu.cur, fun t h3 h4 => ?_, fun q hq hx => ?_, fun q hq hx => ?_⟩
    ·by_cases ht : t = i + 1
     ·subst ht; exact h1
     ·exact hu.na t h3 (by omega)
    ·rw [g6 q hq]; obtain ⟨t, h3, h4, h5⟩ := hx
     by_cases ht : t = i + 1
     ·subst ht; rw [if_pos ⟨h5, h2⟩]
      by_cases he : ∃ t, 1 ≤ t ∧ t ≤ i ∧ q = (a + t) % N
      ·rw [hu.inn q hq he]; rfl
      ·rw [hu.out q hq he]
     ·have he : ∃ t, 1 ≤ t ∧ t ≤ i ∧ q = (a + t) % N := ⟨t, h3, by omega, h5⟩
      rw [hu.inn q hq he]
      split <;> rfl
    ·rw [g6 q hq]
     have h3 : ¬ (q = (a + (i + 1)) % N ∧ (rd u.cells (((a + (i + 1)) % N : Nat) : Int)).Attr = false) := fun h3 => hx ⟨i + 1, by omega, by omega, h3.1⟩
     rw [if_neg h3]
     exact hu.out q hq fun ⟨t, h4, h5, h6⟩ => hx ⟨t, h4, by omega, h6⟩
 have := loop (N - 1) 0 bw s (by omega) (by unfold bw; omega) ⟨h, rfl, rfl, rfl, fun t h1 h2 => by omega, fun q hq ⟨t, h1, h2, _⟩ => by omega, fun q hq _ => rfl⟩
 exact this
def j3 (c : ae) : ae := ⟨c.Char, c.Attr, iv .u8 c.FA 1, c.High, c.Color, c.f_Set⟩
/-- what an erase leaves of place q -/
def er (L : List ae) (l0 : Int) (q : Nat) : ae :=
 let c := rd L (q : Int)
 if bU .u8 (rd L (stF L l0 q)).FA 32 = 0 then (if c.Attr then j3 c else jS c) else c
theorem tg (L : List ae) (l0 : Int) (q : Nat) : (er L l0 q).Attr = (rd L (q : Int)).Attr := by
 unfold er jS j3; simp only; split
 ·split
  ·rfl
  ·rfl
 ·rfl
theorem band1 : ∀ f : Fin 256, By (iv .u8 (f.val : Int) 1) ∧ bU .u8 (iv .u8 (bU .u8 (f.val : Int) 61) 1) 61 = iv .u8 (bU .u8 (f.val : Int) 61) 1 ∧ iv .u8 (f.val : Int) 1 = bU .u8 (f.val : Int) 254 := by decide +kernel
structure tX (m : Int) (N : Nat) (s : ad) (l0 : Int) (a : Nat) (u : ad) : Prop where
 ss : SS m N u
 alt : u.alternate = s.alternate
 sz : u.size = s.size
 cur : u.cursor = s.cursor
 get : ∀ q, q < N → rd u.cells (q : Int) = if stF s.cells l0 q < (a : Int) then er s.cells l0 q else rd s.cells (q : Int)
theorem tX.attr {m : Int} {N : Nat} {s : ad} {l0 : Int} {a : Nat} {u : ad} (h : tX m N s l0 a u) {q : Nat} (hq : q < N) : (rd u.cells (q : Int)).Attr = (rd s.cells (q : Int)).Attr := by
 rw [h.get q hq]; split
 ·exact tg _ _ _
 ·rfl
theorem er_step {m : Int} {N : Nat} {s : ad} (h : SS m N s) {l0 : Int} (hc : l0 = stF s.cells l0 (N - 1)) (hn : ∃ b, b < N ∧ bm s.cells b = true) {a : Nat} (ha : a < N) {u : ad} (hu : tX m N s l0 a u) (k : Nat) :
  ∃ v, bS (N : Int) (k + 1) ((a : Int), t7 u) = bS (N : Int) k (((a + 1 : Nat) : Int), t7 v) ∧ tX m N s l0 (a + 1) v := by
 have hd := h.dim.dim.le
 have hl := h.len
 have hul := hu.ss.len
 have d1 : decide ((a : Int) < (N : Int)) = true := decide_eq_true (by omega)
 have hA := hu.attr ha
 rw [bS.eq_2]
 cases hat : (rd s.cells (a : Int)).Attr with
 | false =>
  rw [hat] at hA
  simp only [d1, cond_true, se, mo hu.ss ha, Option.bind_some, hA, cond_false, gp (show a < 9223372036854775807 by omega)]
  refine ⟨u, rfl, hu.ss, hu.alt, hu.sz, hu.cur, fun q hq => ?_⟩; rw [hu.get q hq]; obtain ⟨b, h1, h2, h3⟩ := mn hc hn q hq
  have hb : b ≠ a := by
   intro e; subst e; unfold bm at h3; rw [hat] at h3; cases h3
  rw [h1]
  by_cases h4 : b < a
  ·rw [if_pos (by omega), if_pos (by omega)]
  ·rw [if_neg (by omega), if_neg (by omega)]
 | true =>
  have hisA : bm s.cells a = true := hat
  have hsa : stF s.cells l0 a = (a : Int) := iB hisA
  have hua : rd u.cells (a : Int) = rd s.cells (a : Int) := by rw [hu.get a ha, hsa, if_neg (by omega)]
  have hap : (a : Int) % (N : Int) = (a : Int) := Int.emod_eq_of_lt (by omega) (by omega)
  have hw1 : w64 ((a : Int) + 1) = ((a + 1 : Nat) : Int) := gp (by omega)
  have hm1 : ((a + 1 : Nat) : Int) % (N : Int) = (((a + 1) % N : Nat) : Int) := rfl
  have hok : COk (rd s.cells (a : Int)) := h.ok _ (fS (by omega))
  rw [hat] at hA
  by_cases hp : bU .u8 (rd s.cells (a : Int)).FA 32 = 0
  ·have hp' : (bU .u8 (rd s.cells (a : Int)).FA 32 != 0) = false := nw hp
   obtain ⟨i, w, hi, g1, g2, g3⟩ := tI hu.ss ha hA
   have hwa : rd w.cells (a : Int) = rd s.cells (a : Int) := by
    rw [g2.out a ha, hua]; rintro ⟨t, h1, h2, h3⟩
    by_cases h4 : a + t < N
    ·rw [Nat.mod_eq_of_lt h4] at h3; omega
    ·rw [Nat.mod_eq_sub_mod (by omega), Nat.mod_eq_of_lt (by omega)] at h3; omega
   obtain ⟨f, hf⟩ := hok.fa.fin; obtain ⟨b1, b2, b3⟩ := band1 f; rw [hf] at b1 b2; obtain ⟨c1', c2'⟩ := hok.attr hat
   have hcb : CB (j3 (rd s.cells (a : Int))) := ⟨hok.char, b1, hok.high, hok.color, hok.set⟩
   obtain ⟨k1, k2⟩ := qd g2.ss (a : Int) hcb
   have hfit : Vt.fit (j3 (rd s.cells (a : Int))) = j3 (rd s.cells (a : Int)) := by
    unfold Vt.fit j3; simp only [hat, if_true]; rw [c2'] at b2; rw [b2, c1']
   rw [hfit, hap, Int.toNat_natCast] at k1 k2
   have e1 : (⟨(rd s.cells (a : Int)).Char, true, iv .u8 (rd s.cells (a : Int)).FA 1, (rd s.cells (a : Int)).High, (rd s.cells (a : Int)).Color, (rd s.cells (a : Int)).f_Set⟩ : ae) = j3 (rd s.cells (a : Int)) := by unfold j3; rw [hat]
   have hu42 : ca ⟨u.size.Rows, u.size.Cols⟩ bw ((((a + 1) % N : Nat) : Int), u.model, u.alternate, u.size.Rows, u.size.Cols, u.cells, u.cursor, u.attrs) = some (t7 w) := g1
   have hsAttr : (rd s.cells (a : Int)).Attr = true := hat
   simp only [d1, cond_true, se, mo hu.ss ha, Option.bind_some, hua, hat, gX, hp', cond_false, fT, aQ, f4 hu.ss, hap, Bool.not_true, hw1, hm1, hu42, mo g2.ss ha, hwa, e1, k1]; refine ⟨_, rfl, k2, g2.alt.trans hu.alt, g2.sz.trans hu.sz, g2.cur.trans hu.cur, fun q hq => ?_⟩
   have hwl := g2.ss.len
   simp only
   rw [rdn (by simp; omega)]
   simp only [List.getElem_set]
   have er_free : ∀ q, stF s.cells l0 q = (a : Int) → er s.cells l0 q = if (rd s.cells (q : Int)).Attr then j3 (rd s.cells (q : Int)) else jS (rd s.cells (q : Int)) := fun q e => by
    unfold er; simp only [e, hp, if_true]
   by_cases hqa : a = q
   ·subst hqa
    rw [if_pos rfl, hsa, if_pos (by omega), er_free a hsa, hat]; simp
   ·rw [if_neg hqa]
    have hrdw : w.cells[q]'(by omega) = rd w.cells (q : Int) := (rdn (by omega)).symm
    rw [hrdw]
    have na' : ∀ t, 1 ≤ t → t ≤ i → bm s.cells ((a + t) % N) = false := fun t h1 h2 => by
     have := g2.na t h1 h2
     rw [hu.attr (Nat.mod_lt _ (by omega))] at this; exact this
    by_cases he : ∃ t, 1 ≤ t ∧ t ≤ i ∧ q = (a + t) % N
    ·rw [g2.inn q hq he]; obtain ⟨t, h1, h2, h3⟩ := he
     have hst : stF s.cells l0 q = (a : Int) := by rw [h3]; exact p9 hc ha hisA t fun t' h4 h5 => na' t' h4 (by omega)
     have hnq : (rd s.cells (q : Int)).Attr = false := by have := na' t h1 h2; rw [← h3] at this; exact this
     rw [hst, if_pos (by omega), er_free q hst, hnq, hu.get q hq, hst, if_neg (by omega)]; simp
    ·rw [g2.out q hq he, hu.get q hq]
     have hq1 : q = (a + (q + N - a) % N) % N := by
      rw [Nat.add_mod_mod, show a + (q + N - a) = q + N by omega, Nat.add_mod_right, Nat.mod_eq_of_lt hq]
     have hdl : (q + N - a) % N < N := Nat.mod_lt _ (by omega)
     have hd0 : (q + N - a) % N ≠ 0 := by
      intro e; rw [e, Nat.add_zero, Nat.mod_eq_of_lt ha] at hq1; exact hqa hq1.symm
     have hdi : ¬ (q + N - a) % N ≤ i := fun e => he ⟨_, by omega, e, hq1⟩
     have hend : bm s.cells ((a + (i + 1)) % N) = true := by
      have := g3
      rw [hu.attr (Nat.mod_lt _ (by omega))] at this; exact this
     have hne := oD hc ha (show 1 ≤ i + 1 by omega) hend ((q + N - a) % N - (i + 1)) (by omega)
     rw [show i + 1 + ((q + N - a) % N - (i + 1)) = (q + N - a) % N by omega, ← hq1] at hne
     obtain ⟨b, h1, h2, h3⟩ := mn hc hn q hq; rw [h1] at hne ⊢
     by_cases h4 : b < a
     ·rw [if_pos (by omega), if_pos (by omega)]
     ·rw [if_neg (by omega), if_neg (by omega)]
  ·have hp' : (bU .u8 (rd s.cells (a : Int)).FA 32 != 0) = true := nv hp
   simp only [d1, cond_true, se, mo hu.ss ha, Option.bind_some, hua, hat, gX, hp', hw1]; refine ⟨u, rfl, hu.ss, hu.alt, hu.sz, hu.cur, fun q hq => ?_⟩; rw [hu.get q hq]
   by_cases hst : stF s.cells l0 q = (a : Int)
   ·rw [hst, if_neg (by omega), if_pos (by omega)]
    unfold er; simp only [hst, hp, if_false]
   ·obtain ⟨b, h1, h2, h3⟩ := mn hc hn q hq; rw [h1] at hst ⊢
    by_cases h4 : b < a
    ·rw [if_pos (by omega), if_pos (by omega)]
    ·rw [if_neg (by omega), if_neg (by omega)]
/-! ### the whole -/
/-- what an erase of all unprotected leaves -/
def r7 (L : List ae) (q : Nat) : ae := if Fmt L then er L (fO L) q else jS (rd L (q : Int))
def iA (L : List ae) : List ae := (List.range L.length).map (r7 L)
theorem gr (L : List ae) : (iA L).length = L.length := by simp [iA]
theorem oo {L : List ae} {q : Nat} (h : q < L.length) : rd (iA L) (q : Int) = r7 L q := by
 unfold iA; rw [rdn (by simpa using h)]; simp
theorem rp {L : List ae} {q : Nat} (h : q < L.length) : bm (iA L) q = bm L q := by
 unfold bm; rw [oo h]; unfold r7
 split
 ·rw [tg]
 ·rfl
theorem fmt_era {L : List ae} : Fmt (iA L) ↔ Fmt L := by
 unfold Fmt; rw [gr]
 constructor
 ·rintro ⟨a, h1, h2⟩; exact ⟨a, h1, by rwa [rp h1] at h2⟩
 ·rintro ⟨a, h1, h2⟩; exact ⟨a, h1, by rwa [rp h1]⟩
theorem next_no {L : List ae} (h : ¬ Fmt L) (hL : 0 < L.length) (k : Nat) : ls L k = -1 := by
 unfold ls ob; rw [if_neg]
 have : tl (fun i => !frB L ((k + 1 + i) % L.length)) L.length = L.length := tl_eq (Nat.le_refl _) (fun i hi => by
  unfold frB
  rw [lr h (Nat.mod_lt _ hL)]; rfl) (fun h => by omega)
 omega
theorem pd {c : ae} (h : COk c) (ha : c.Attr = true) : COk (j3 c) := by
 obtain ⟨f, hf⟩ := h.fa.fin; obtain ⟨b1, b2, _⟩ := band1 f; rw [hf] at b1 b2; rw [(h.attr ha).2] at b2
 exact ⟨h.char, b1, h.high, h.color, h.set, (fun _ => ⟨(h.attr ha).1, b2⟩), fun e => by have e : c.Attr = false := e; rw [ha] at e; cases e⟩
theorem pw {c : ae} (h : COk c) (ha : c.Attr = false) : COk (jS c) := sd h ha by0
theorem qC {L : List ae} (ho : ∀ c ∈ L, COk c) : ∀ c ∈ iA L, COk c := by
 intro c hc; unfold iA at hc; obtain ⟨q, hq, rfl⟩ := List.mem_map.1 hc
 have hq' := List.mem_range.1 hq
 have hok := ho _ (fS (l := L) (n := (q : Int)) (by omega))
 unfold r7
 split
 ·unfold er; simp only
  split
  ·split
   ·rename_i h1; exact pd hok h1
   ·rename_i h1; exact pw hok (by simpa using h1)
  ·exact hok
 ·rename_i hf
  exact pw hok (lr hf hq')
theorem pera {m : Int} {N : Nat} {s : ad} (h : SS m N s) : eU s = some (pC (wS s (iA s.cells)) (kC (iA s.cells) (N - 1))) := by
 have hd := h.dim.dim.le
 have hl := h.len
 have hcl := cnt_le s.cells
 have hE := h.w (L := iA s.cells) (by rw [gr]; exact hl) (qC h.ok)
 have hel := gr s.cells
 unfold eU cd; rw [h.attrs]
 by_cases hf : Fmt s.cells
 ·have d1 : decide (cnt s.cells > 0) = true := decide_eq_true (kK.1 hf)
  have hcy : fO s.cells = stF s.cells (fO s.cells) (N - 1) := by rw [← hl]; exact km hf
  have hn : ∃ b, b < N ∧ bm s.cells b = true := by rw [← hl]; exact hf
  have key := iz (L := bS (N : Int)) (n := N) (s := t7 s) (fun i y => ∃ u, y = t7 u ∧ tX m N s (fO s.cells) i u) (fun r => ∃ u, r = t7 u ∧ tX m N s (fO s.cells) N u) (by omega) ?_ ?_ ?_
  ·obtain ⟨r, h1, u, rfl, hu⟩ := key
   have hcells : u.cells = iA s.cells := by
    refine kM (by rw [hu.ss.len, gr, hl]) fun q hq => ?_
    rw [gr, hl] at hq; obtain ⟨b, h2, h3, _⟩ := mn hcy hn q hq
    rw [hu.get q hq, h2, if_pos (by omega), oo (by omega)]
    unfold r7; rw [if_pos hf]
   have hu' : u = wS s (iA s.cells) := by
    have e := hu.ss.attrs
    have e2 := hu.ss.model
    have e3 := h.model
    rw [hcells] at e; obtain ⟨u1, u2, u3, u4, u5, u6⟩ := u
    have g1 := hu.alt
    have g2 := hu.sz
    have g3 := hu.cur
    simp only at e e2 g1 g2 g3 hcells; subst e hcells g1 g2 g3; unfold wS; rw [e2, ← e3]
   subst hu'
   have hb := kB (L := iA s.cells) (N := N) (k := N - 1) (by omega) (by omega)
   have h1' : bS (N : Int) bw (0, s.model, s.alternate, s.size.Rows, s.size.Cols, s.cells, s.cursor, s.attrs) = some (t7 (wS s (iA s.cells))) := h1
   simp only [d1, Option.bind_some, Bool.not_true, cond_false, iJ, fQ, gA, aQ, mW h, h.attrs] at h1' ⊢; simp only [h1', Option.bind_some]
   have hm1 : (-1 : Int) % (N : Int) = ((N - 1 : Nat) : Int) := by
    rw [show (-1 : Int) = ((N - 1 : Nat) : Int) - N by omega, Int.sub_emod_right, aS (by omega)]
   have hnx := pnext hE hm1 (show N - 1 < N by omega)
   change ((fF (wS s (iA s.cells)) (-1)).bind _) = _; rw [hnx]; simp only [Option.bind_some]; change ((bD (wS s (iA s.cells)) (kC (iA s.cells) (N - 1))).bind _) = _; rw [mw hE hb.1 hb.2]; rfl
  ·rintro k i y hi ⟨u, rfl, hu⟩; obtain ⟨v, h1, h2⟩ := er_step h hcy hn hi hu k; exact ⟨_, h1, v, rfl, h2⟩
  ·rintro k y ⟨u, rfl, hu⟩
   have d1 : decide ((N : Int) < (N : Int)) = false := decide_eq_false (by omega)
   rw [bS.eq_2]; simp only [d1, cond_false]; exact ⟨_, rfl, u, rfl, hu⟩
  ·refine ⟨s, rfl, h, rfl, rfl, rfl, fun q hq => ?_⟩; obtain ⟨b, h2, _⟩ := mn hcy hn q hq
   rw [h2, if_neg (by omega)]
 ·have d1 : decide (cnt s.cells > 0) = false := decide_eq_false fun e => hf (kK.2 e)
  obtain ⟨s', g1, g2, g3, g4, g5, g6⟩ := qB h
  have hcells : s'.cells = iA s.cells := by
   refine kM (by rw [g2.len, gr, hl]) fun q hq => ?_
   rw [gr, hl] at hq
   have h1 : (rd s.cells (q : Int)).Attr = false := lr hf (by omega)
   rw [g6 q hq, if_pos h1, oo (by omega)]
   unfold r7; rw [if_neg hf]
  have hs' : s' = wS s (iA s.cells) := by
   have e := g2.attrs
   have e2 := g2.model
   have e3 := h.model
   rw [hcells] at e; obtain ⟨u1, u2, u3, u4, u5, u6⟩ := s'; simp only at e e2 g3 g4 g5 hcells; subst e hcells g3 g4 g5; unfold wS; rw [e2, ← e3]
  subst hs'
  have ht : kC (iA s.cells) (N - 1) = 0 := by
   unfold kC
   rw [next_no (fun e => hf (fmt_era.1 e)) (by omega)]; rfl
  simp only [d1, Option.bind_some, Bool.not_false, cond_true, g1, mw hE (p := 0) (by omega) (by omega), ht]
/-! ### the document's -/
theorem rera {m : Int} {N : Nat} {x : aa} (h : RS m N x) : de x = some (rC (wL x (iA x.L)) (kC (iA x.L) (N - 1))) := by
 have hd := h.dim.dim.le
 have hl := h.len
 have hel := gr x.L
 unfold de; simp only [qg h, Option.bind_some]
 -- the characters
 let mid : Nat → ae := fun q => if bm x.L q then rd x.L (q : Int) else if (stI x.L q < 0 ∨ (fld (faI x.L q)).Protected = false) then jS (rd x.L (q : Int)) else rd x.L (q : Int)
 have hmidA : ∀ q, (mid q).Attr = (rd x.L (q : Int)).Attr := fun q => by
  simp only [mid]; split
  ·rfl
  ·split <;> rfl
 have hmidF : ∀ q, (mid q).FA = (rd x.L (q : Int)).FA := fun q => by
  simp only [mid]; split
  ·rfl
  ·split <;> rfl
 let M : Nat → List ae := fun i => (List.range N).map fun q => if q < i then mid q else rd x.L (q : Int)
 have hMl : ∀ i, (M i).length = N := fun i => by simp [M]
 have hMr : ∀ i q, q < N → rd (M i) (q : Int) = if q < i then mid q else rd x.L (q : Int) := fun i q hq => by
  simp only [M]; rw [rdn (by simpa using hq)]; simp
 have hMok : ∀ i, ∀ c ∈ M i, COk c := fun i c hc => by
  obtain ⟨q, hq, rfl⟩ := List.mem_map.1 hc
  have hq' := List.mem_range.1 hq
  have hok := h.ok _ (fS (l := x.L) (n := (q : Int)) (by omega))
  split
  ·simp only [mid]
   split
   ·exact hok
   ·rename_i hA
    split
    ·exact pw hok (by simpa [bm] using hA)
    ·exact hok
  ·exact hok
 have hMA : ∀ i q, q < N → bm (M i) q = bm x.L q := fun i q hq => by
  unfold bm; rw [hMr i q hq]; split
  ·exact hmidA q
  ·rfl
 have hM0 : M 0 = x.L := kM (by rw [hMl, hl]) fun q hq => by rw [hMr 0 q (by omega), if_neg (by omega)]
 have loop1 : bV x (ez x.L (fO x.L) N) bw (0, x.Model, x.Alt, x.Size.Rows, x.Size.Cols, x.L, x.Cursor) = some (x.Model, x.Alt, x.Size.Rows, x.Size.Cols, M N, x.Cursor) := by
  have e0 : ((0 : Int), x.Model, x.Alt, x.Size.Rows, x.Size.Cols, x.L, x.Cursor) = (((0 : Nat) : Int), x.Model, x.Alt, x.Size.Rows, x.Size.Cols, M 0, x.Cursor) := by rw [hM0]; rfl
  rw [e0]
  refine cw (fun i => ((i : Int), x.Model, x.Alt, x.Size.Rows, x.Size.Cols, M i, x.Cursor)) N (by omega) (fun k i hi => ?_) (fun k => ?_)
  ·have d1 : decide ((i : Int) < (x.L.length : Int)) = true := decide_eq_true (by omega)
   have hsl : (ez x.L (fO x.L) N).length = N := by simp [ez]
   have hR := h.w (L := M i) (hMl i) (hMok i)
   rw [bV.eq_2]; simp only [d1, cond_true]
   rw [aX (by omega), aX (by omega), kD hi, je (by omega)]
   have hq : (cond (decide (stF x.L (fO x.L) i < 0)) (some true) ((bj (wL x (M i)) (stF x.L (fO x.L) i)).bind fun (d7 : bi) => some (!d7.Protected)) : Option Bool) = some (decide (stI x.L i < 0 ∨ (fld (faI x.L i)).Protected = false)) := by
    change (cond (decide (stI x.L i < 0)) (some true) ((bj (wL x (M i)) (stI x.L i)).bind _)) = _
    by_cases hs : stI x.L i < 0
    ·rw [decide_eq_true hs, decide_eq_true (.inl hs)]; rfl
    ·have hf : Fmt x.L := by
      by_cases hf : Fmt x.L
      ·exact hf
      ·rw [ir hf (by omega)] at hs; exact absurd (by omega) hs
     obtain ⟨b, h1, h2, h3⟩ := iW hf (n := i) (by omega)
     rw [decide_eq_false hs]; unfold faI; rw [h1]
     simp only [cond_false, ms hR (show b < N by omega), Option.bind_some]
     have hFA : (rd (wL x (M i)).L (b : Int)).FA = (rd x.L (b : Int)).FA := by
      change (rd (M i) (b : Int)).FA = _
      rw [hMr i b (by omega)]; split
      ·exact hmidF b
      ·rfl
     rw [hFA]
     cases (fld (rd x.L (b : Int)).FA).Protected with
     | true => rw [decide_eq_false (by simp)]; rfl
     | false => rw [decide_eq_true (.inr rfl)]; rfl
   change (((cond (decide (stF x.L (fO x.L) i < 0)) (some true) ((bj (wL x (M i)) (stF x.L (fO x.L) i)).bind fun (d7 : bi) => some (!d7.Protected)) : Option Bool)).bind _) = _; rw [hq]; simp only [Option.bind_some]
   have hstep : ∀ b : Bool, b = decide (stI x.L i < 0 ∨ (fld (faI x.L i)).Protected = false) → M (i + 1) = if b then gv (M i) i 0 else M i := fun b hb => by
    refine kM ?_ fun q hq => ?_
    ·rw [hMl]; split
     ·rw [iE, hMl]
     ·rw [hMl]
    ·have hqN : q < N := by
      split at hq
      ·rw [iE, hMl] at hq; exact hq
      ·rw [hMl] at hq; exact hq
     rw [hMr _ q hqN]
     by_cases hqi : q = i
     ·subst hqi
      rw [if_pos (by omega)]
      cases b with
      | true =>
       have hcond := of_decide_eq_true hb.symm
       simp only [if_true, mid, if_pos hcond]; unfold gv; rw [hMA q q hqN]
       cases hA : bm x.L q with
       | true => simp only [if_true]; rw [hMr q q hqN, if_neg (by omega)]
       | false =>
        simp only [Bool.false_eq_true, if_false]
        rw [jK (by rw [hMl]; exact hqN) (by rw [hMl]; exact hqN), if_pos rfl, hMr q q hqN, if_neg (by omega)]; rfl
      | false =>
       have hcond := of_decide_eq_false hb.symm
       have hm : mid q = rd x.L (q : Int) := by
        simp only [mid]
        split
        ·rfl
        ·first | rfl | rw [if_neg hcond]
       change mid q = rd (M q) (q : Int)
       rw [hm, hMr q q hqN, if_neg (by omega)]
     ·have h1 : rd (if b then gv (M i) i 0 else M i) (q : Int) = rd (M i) (q : Int) := by
       cases b with
       | true =>
        simp only [if_true]; unfold gv
        split
        ·rfl
        ·rw [jK (by rw [hMl]; exact hi) (by rw [hMl]; exact hqN), if_neg (fun e => hqi e.symm)]
       | false => rfl
      rw [h1, hMr _ q hqN]
      by_cases h2 : q < i
      ·rw [if_pos (by omega), if_pos h2]
      ·rw [if_neg (by omega), if_neg h2]
   generalize hb : decide (stI x.L i < 0 ∨ (fld (faI x.L i)).Protected = false) = b
   have hs := hstep b hb.symm
   cases b with
   | true =>
    simp only [if_true] at hs
    have hp := rput hR (n := (i : Int)) (aS hi) hi by0
    simp only [cond_true]; change (((bn (wL x (M i)) (i : Int) 0).bind _).bind _) = _; rw [hp, hs]; rfl
   | false =>
    simp only [Bool.false_eq_true, if_false] at hs; simp only [cond_false, Option.bind_some, hs]
  ·have d1 : decide ((N : Int) < (x.L.length : Int)) = false := decide_eq_false (by omega)
   rw [bV.eq_2]; simp only [d1, cond_false]
 rw [loop1]; simp only [Option.bind_some]
 have hRM := h.w (L := M N) (hMl N) (hMok N)
 have hat := py hRM
 change ((cD (wL x (M N))).bind _) = _; rw [hat]; simp only [Option.bind_some]
 have hatt : b9 (wL x (M N)).L N = b9 x.L N := pz fun q hq => hMA N q hq
 rw [hatt]
 generalize hAA : b9 x.L N = A
 have hAle : A.length ≤ N := by rw [← hAA]; exact jT _ _
 have hmem : ∀ q, q ∈ A ↔ q < N ∧ bm x.L q = true := fun q => by rw [← hAA]; exact fN
 -- the attributes
 let W : Nat → List ae := fun i => (List.range N).map fun q => if q ∈ A.take i ∧ (fld (rd x.L (q : Int)).FA).Protected = false then j3 (rd x.L (q : Int)) else mid q
 have hWl : ∀ i, (W i).length = N := fun i => by simp [W]
 have hWr : ∀ i q, q < N → rd (W i) (q : Int) = if q ∈ A.take i ∧ (fld (rd x.L (q : Int)).FA).Protected = false then j3 (rd x.L (q : Int)) else mid q := fun i q hq => by
  simp only [W]; rw [rdn (by simpa using hq)]; simp
 have hWok : ∀ i, ∀ c ∈ W i, COk c := fun i c hc => by
  obtain ⟨q, hq, rfl⟩ := List.mem_map.1 hc
  have hq' := List.mem_range.1 hq
  split
  ·rename_i hh
   have h2 := (hmem q).1 (List.mem_of_mem_take hh.1)
   exact pd (h.ok _ (fS (by omega))) h2.2
  ·have := hMok N (mid q) (List.mem_map.2 ⟨q, hq, by rw [if_pos hq']⟩)
   exact this
 have hW0 : W 0 = M N := kM (by rw [hWl, hMl]) fun q hq => by
  rw [hMl] at hq
  rw [hWr 0 q hq, hMr N q hq, if_pos hq, if_neg (by simp)]
 have hnd : A.Nodup := by rw [← hAA]; exact List.Pairwise.filter _ List.nodup_range
 have loop2 : bJ (A.map fun i : Nat => (i : Int)) bw (0, x.Model, x.Alt, x.Size.Rows, x.Size.Cols, M N, x.Cursor) = some (x.Model, x.Alt, x.Size.Rows, x.Size.Cols, W A.length, x.Cursor) := by
  rw [← hW0]
  refine cw (fun i => ((i : Int), x.Model, x.Alt, x.Size.Rows, x.Size.Cols, W i, x.Cursor)) A.length (by omega) (fun k i hi => ?_) (fun k => ?_)
  ·have d1 : decide ((i : Int) < ((A.map fun i : Nat => (i : Int)).length : Int)) = true := decide_eq_true (by rw [List.length_map]; omega)
   have hrd : rd (A.map fun i : Nat => (i : Int)) (i : Int) = (A[i] : Int) := by rw [rdn (by rw [List.length_map]; exact hi)]; simp
   obtain ⟨ha, hat⟩ := (hmem A[i]).1 (List.getElem_mem hi)
   have hR := h.w (L := W i) (hWl i) (hWok i)
   have hnot : A[i] ∉ A.take i := fun hm => by
    obtain ⟨j, hj, hje⟩ := List.getElem_of_mem hm
    have hj' : j < i := by rw [List.length_take] at hj; omega
    rw [List.getElem_take] at hje
    exact (List.pairwise_iff_getElem.1 hnd) j i (by omega) hi hj' hje
   have hcell : rd (W i) (A[i] : Int) = mid A[i] := by rw [hWr i _ ha, if_neg fun h => hnot h.1]
   have hmidc : mid A[i] = rd x.L (A[i] : Int) := by simp only [mid]; rw [if_pos hat]
   rw [bJ.eq_2]; simp only [d1, cond_true]
   rw [aX (by rw [List.length_map]; omega), hrd, aX (by rw [hWl]; omega), je (by omega)]
   change ((bj (wL x (W i)) (A[i] : Int)).bind _) = _; rw [ms hR ha]; simp only [Option.bind_some]
   have hcw : (rd (wL x (W i)).L (A[i] : Int)) = rd x.L (A[i] : Int) := by change rd (W i) (A[i] : Int) = _; rw [hcell, hmidc]
   rw [hcw]
   have htk : ∀ q, q ∈ A.take (i + 1) ↔ q ∈ A.take i ∨ q = A[i] := fun q => by rw [List.take_succ_eq_append_getElem hi, List.mem_append, List.mem_singleton]
   cases hp : (fld (rd x.L (A[i] : Int)).FA).Protected with
   | true =>
    have hs : W (i + 1) = W i := kM (by rw [hWl, hWl]) fun q hq => by
     rw [hWl] at hq; rw [hWr _ q hq, hWr _ q hq]
     by_cases h1 : q = A[i]
     ·subst h1; rw [if_neg (fun e => by rw [hp] at e; cases e.2), if_neg (fun e => by rw [hp] at e; cases e.2)]
     ·have : (q ∈ A.take (i + 1)) = (q ∈ A.take i) := propext ((htk q).trans ⟨fun h => h.resolve_right h1, .inl⟩)
      simp only [this]
    simp only [Bool.not_true, cond_false, Option.bind_some, hs]
   | false =>
    have hok := h.ok _ (fS (l := x.L) (n := (A[i] : Int)) (by omega))
    have hdm := pd hok hat
    have hset := (mr hR (A[i] : Int) hdm.cb).1
    rw [aS ha, hdm.fit] at hset
    have hFA : bU .u8 (rd x.L (A[i] : Int)).FA 254 = iv .u8 (rd x.L (A[i] : Int)).FA 1 := by
     obtain ⟨f, hf⟩ := hok.fa.fin
     have := (band1 f).2.2
     rw [hf] at this; exact this.symm
    have hs : W (i + 1) = (W i).set A[i] (j3 (rd x.L (A[i] : Int))) := kM (by rw [List.length_set, hWl, hWl]) fun q hq => by
     rw [List.length_set, hWl] at hq
     rw [jK (by rw [hWl]; exact ha) (by rw [hWl]; exact hq), hWr _ q hq]
     by_cases h1 : A[i] = q
     ·rw [if_pos h1]; subst h1; rw [if_pos ⟨(htk _).2 (.inr rfl), hp⟩]
     ·rw [if_neg h1, hWr _ q hq]
      have : (q ∈ A.take (i + 1)) = (q ∈ A.take i) := propext ((htk q).trans ⟨fun h => h.resolve_right fun e => h1 e.symm, .inl⟩)
      simp only [this]
    simp only [Bool.not_false, cond_true]
    have ecell : ({ (rd (W i) (A[i] : Int)) with FA := bU .u8 ((rd (W i) (A[i] : Int)).FA) 254 } : ae) = j3 (rd x.L (A[i] : Int)) := by
     rw [hcell, hmidc, hFA]; rfl
    rw [← ecell] at hset; refine (congrArg (fun o : Option aa => (o.bind fun d17 => some (d17.Model, d17.Alt, d17.Size.Rows, d17.Size.Cols, d17.L, d17.Cursor)).bind fun d16 => bJ (A.map fun i : Nat => (i : Int)) k (((i + 1 : Nat) : Int), d16.1, d16.2.1, d16.2.2.1, d16.2.2.2.1, d16.2.2.2.2.1, d16.2.2.2.2.2)) hset).trans ?_; rw [hs, ecell]; rfl
  ·have d1 : decide ((A.length : Int) < ((A.map fun i : Nat => (i : Int)).length : Int)) = false := decide_eq_false (by rw [List.length_map]; omega)
   rw [bJ.eq_2]; simp only [d1, cond_false]
 rw [loop2]; simp only [Option.bind_some]
 have hfin : W A.length = iA x.L := kM (by rw [hWl, gr, hl]) fun q hq => by
  rw [gr, hl] at hq
  rw [hWr _ q hq, oo (by omega), List.take_of_length_le (Nat.le_refl _)]
  have hpb : ∀ f : Int, ((bU .u8 f 32 = 0) = ((fld f).Protected = false)) := fun f => by unfold fld; simp
  unfold r7
  by_cases hf : Fmt x.L
  ·rw [if_pos hf]; unfold er; simp only [hpb]; change _ = if (fld (faI x.L q)).Protected = false then _ else _
   obtain ⟨b, h1, h2, h3⟩ := iW hf (n := q) (by omega)
   cases hA : bm x.L q with
   | true =>
    have hself : faI x.L q = (rd x.L (q : Int)).FA := by unfold faI; rw [qO hA]
    have hA2 : (rd x.L (q : Int)).Attr = true := hA
    have hq2 : q ∈ A := (hmem q).2 ⟨hq, hA⟩
    rw [hself]; simp only [mid, hA, if_true, hA2, hq2, true_and]
   | false =>
    have hq2 : q ∉ A := fun e => by rw [((hmem q).1 e).2] at hA; cases hA
    have hA2 : (rd x.L (q : Int)).Attr = false := hA
    rw [if_neg fun e => hq2 e.1]; simp only [mid, hA, Bool.false_eq_true, if_false, hA2]
    by_cases hpr : (fld (faI x.L q)).Protected = false
    ·rw [if_pos (.inr hpr), if_pos hpr]
    ·rw [if_neg (by rw [h1]; rintro (e | e); omega; exact hpr e), if_neg hpr]
  ·rw [if_neg hf]
   have hA : bm x.L q = false := lr hf (by omega)
   have hq2 : q ∉ A := fun e => by rw [((hmem q).1 e).2] at hA; cases hA
   rw [if_neg fun e => hq2 e.1]; simp only [mid, hA, Bool.false_eq_true, if_false]
   rw [if_pos (.inl (by rw [ir hf (by omega)]; omega))]
 rw [hfin]
 have hE := h.w (L := iA x.L) (by omega) (qC h.ok)
 have hm1 : (-1 : Int) % (N : Int) = ((N - 1 : Nat) : Int) := by
  rw [show (-1 : Int) = ((N - 1 : Nat) : Int) - N by omega, Int.sub_emod_right, aS (by omega)]
 have hnx := rnext hE hm1 (show N - 1 < N by omega)
 change ((cv (wL x (iA x.L)) (-1) false).bind _) = _; rw [hnx]; rfl
end Go.Vt
set_option linter.unusedVariables false
set_option linter.unusedSimpArgs false
set_option maxRecDepth 100000
namespace Go.Vt
def ent (c : ae) (z : Int) : ae := { c with Char := z, f_Set := 0 }
def iL (L : List ae) (k : Nat) (z : Int) : List ae := L.set k (ent (rd L (k : Int)) z)
theorem r8 {c : ae} (h : COk c) (ha : c.Attr = false) {z : Int} (hz : By z) : COk (ent c z) := ⟨hz, h.fa, h.high, h.color, by0, (fun e => by have e : c.Attr = true := e; rw [ha] at e; cases e), fun _ => h.plain ha⟩
theorem jp (L : List ae) (k : Nat) (z : Int) : (iL L k z).length = L.length := by unfold iL; simp
theorem nf {L : List ae} (ho : ∀ c ∈ L, COk c) {k : Nat} (hk : k < L.length) (hA : bm L k = false) {z : Int} (hz : By z) : ∀ c ∈ iL L k z, COk c := by
 intro c hc; unfold iL at hc; rcases List.mem_or_eq_of_mem_set hc with h1 | rfl
 ·exact ho c h1
 ·exact r8 (ho _ (fS (by omega))) hA hz
theorem modI_isA {L : List ae} {k : Nat} (hk : k < L.length) {q : Nat} (hq : q < L.length) : bm (fq L k) q = bm L q := by
 unfold fq
 split
 ·rfl
 ·rename_i hs
  have hf : Fmt L := by
   by_cases hf : Fmt L
   ·exact hf
   ·rw [ir hf hk] at hs; exact absurd (by omega) hs
  obtain ⟨b, h1, h2, h3⟩ := iW hf hk; rw [h1, Int.toNat_natCast]; unfold bm; rw [jK h2 hq]
  by_cases e : b = q
  ·subst e; rw [if_pos rfl]; rfl
  ·rw [if_neg e]
theorem oS {L : List ae} {k : Nat} (hk : k < L.length) {z : Int} {q : Nat} (hq : q < L.length) : bm (lX L k z) q = bm L q := by
 unfold lX
 have hf : ∀ i, pl L k i < L.length := fun i => j0 (by omega) i
 rw [modI_isA (by rw [db]; exact hk) (by rw [db]; exact hq), oJ hf _ hq]
theorem oR (L : List ae) (k : Nat) (z : Int) : (lX L k z).length = L.length := by unfold lX; rw [iF, db]
theorem qu {L : List ae} (ho : ∀ c ∈ L, COk c) {k : Nat} (hk : k < L.length) {z : Int} (hz : By z) : ∀ c ∈ lX L k z, COk c := by
 have hf : ∀ i, pl L k i < L.length := fun i => j0 (by omega) i
 unfold lX
 exact jC (lP ho hf _ fun i _ => qv ho (by omega) hz i) (by rw [db]; exact hk)
/-- what is answered: the screen, the board, an error -/
def gj (n : Int) (B : ah) (x : aa) (c : Int) : aa × ah × Int :=
 if ft x.L x.Cursor.toNat = false then (x, { B with lock := 2 }, 13)
 else if ¬ (stI x.L x.Cursor.toNat < 0) ∧ (fld (faI x.L x.Cursor.toNat)).Numeric = true ∧ oO n c = false then (x, { B with lock := 3 }, 14)
 else if (B.inserts = true ∧ c ≠ 28) ∧ ¬ (im x.L x.Cursor.toNat < rl x.L x.Cursor.toNat true) then (x, { B with lock := 4 }, 7)
 else
  let L3 := fq (iL (if B.inserts = true ∧ c ≠ 28 then lX x.L x.Cursor.toNat c else x.L) x.Cursor.toNat c) x.Cursor.toNat
  (rC (wL x L3) (if c = 28 then kC L3 x.Cursor.toNat else jU L3 x.Cursor.toNat), B, 0)
theorem RS.n {m : Int} {N : Nat} {x : aa} (h : RS m N x) : x.Cursor = (x.Cursor.toNat : Int) ∧ x.Cursor.toNat < N := by have := h.cur; omega
/-- a character at the cursor, the field modified -/
theorem pset {m : Int} {N : Nat} {s : ad} (h : SS m N s) {k : Nat} (hk : k < N) (hA : bm s.cells k = false) {z : Int} (hz : By z) : ck s (k : Int) (ent (rd s.cells (k : Int)) z) = some (wS s (iL s.cells k z)) := by
 have hl := h.len
 have hok := r8 (h.ok _ (fS (l := s.cells) (n := (k : Int)) (by omega))) hA hz
 have := (qd h (k : Int) hok.cb).1
 rw [aS hk, hok.fit] at this; exact this
theorem rset {m : Int} {N : Nat} {x : aa} (h : RS m N x) {k : Nat} (hk : k < N) (hA : bm x.L k = false) {z : Int} (hz : By z) : bI x (k : Int) (ent (rd x.L (k : Int)) z) = some (wL x (iL x.L k z)) := by
 have hl := h.len
 have hok := r8 (h.ok _ (fS (l := x.L) (n := (k : Int)) (by omega))) hA hz
 have := (mr h (k : Int) hok.cb).1
 rw [aS hk, hok.fit] at this; exact this
theorem ne {m n : Int} {N : Nat} {x : aa} (h : RS m N x) (hn : n ∈ pgs) {c : Int} (hc : By c) (B : ah) : RS m N (gj n B x c).1 := by
 obtain ⟨hk, hkN⟩ := h.n
 have hl := h.len
 unfold gj
 generalize x.Cursor.toNat = k at hk hkN
 split
 ·exact h
 ·rename_i ho
  split
  ·exact h
  ·split
   ·exact h
   ·have hA := j1 (by simpa using ho)
    simp only
    have h1 : ∀ L1 : List ae, L1.length = N → (∀ c ∈ L1, COk c) → bm L1 k = false → RS m N (rC (wL x (fq (iL L1 k c) k)) (if c = 28 then kC (fq (iL L1 k c) k) k else jU (fq (iL L1 k c) k) k)) := fun L1 g1 g2 g3 => by
     have g4 : (fq (iL L1 k c) k).length = N := by rw [iF, jp]; exact g1
     have g5 := h.w g4 (jC (nf g2 (by omega) g3 hc) (by rw [jp]; omega))
     have g6 := kB (L := fq (iL L1 k c) k) (N := N) (k := k) g4 (by omega)
     have g7 := tT (L := fq (iL L1 k c) k) (N := N) g4 (by omega) k
     split
     ·exact g5.c g6.1 g6.2
     ·exact g5.c g7.1 g7.2
    split
    ·exact h1 _ (by rw [oR]; exact hl) (qu h.ok (by omega) hc) (by rw [oS (by omega) (by omega)]; exact hA)
    ·exact h1 _ hl h.ok hA
theorem qo {m n : Int} {N : Nat} {x : aa} (h : RS m N x) (hn : n ∈ pgs) {c : Int} (hc : By c) (B : ah) : dg B (prog x) ⟨n⟩ c = some (prog (gj n B x c).1, ⟨n⟩, (gj n B x c).2.1, (gj n B x c).2.2) := by
 obtain ⟨hk, hkN⟩ := h.n
 have hl := h.len
 have hle := h.dim.dim.le
 have hS := h.lk.ss
 unfold dg aW gj
 have hcur : (prog x).cursor = x.Cursor := rfl
 simp only [Option.bind_some, hcur]
 generalize x.Cursor.toNat = k at hk hkN
 have hcell : (prog x).cells = x.L := rfl
 rw [hk]; simp only [pfof hS (aS hkN) hkN, qY hS (aS hkN) hkN, hcell, Option.bind_some]
 cases ho : ft x.L k with
 | false => rfl
 | true =>
  have hA := j1 ho
  rw [if_neg (show ¬ (true = false) by simp)]
  simp only [Bool.not_true, cond_false]
  have hnum : ((cond (if stI x.L k < 0 then ((⟨false, false, 0, false⟩ : bT), false) else (fld (faI x.L k), true)).2 (cond (if stI x.L k < 0 then ((⟨false, false, 0, false⟩ : bT), false) else (fld (faI x.L k), true)).1.Numeric ((fu ⟨n⟩ c).bind fun (d8 : Bool) => some (!d8)) (some false)) (some false)) : Option Bool) = some (decide (¬ (stI x.L k < 0) ∧ (fld (faI x.L k)).Numeric = true ∧ oO n c = false)) := by
   rw [pnum hn hc]
   by_cases hs : stI x.L k < 0
   ·rw [if_pos hs, decide_eq_false (fun e => e.1 hs)]; rfl
   ·rw [if_neg hs]
    cases (fld (faI x.L k)).Numeric <;> cases oO n c <;> simp [hs]
  rw [hnum]; simp only [Option.bind_some]
  by_cases hq : ¬ (stI x.L k < 0) ∧ (fld (faI x.L k)).Numeric = true ∧ oO n c = false
  ·rw [decide_eq_true hq, if_pos hq]; rfl
  ·rw [decide_eq_false hq, if_neg hq]; simp only [cond_false]
   have hins : ((cond B.inserts (some (c != 28)) (some false)) : Option Bool) = some (decide (B.inserts = true ∧ c ≠ 28)) := by
    cases B.inserts with
    | false => simp
    | true => by_cases h28 : c = 28 <;> simp [h28]
   rw [hins]; simp only [Option.bind_some]
   -- behind the insertion
   have tail : ∀ L1 : List ae, L1.length = N → (∀ c ∈ L1, COk c) → bm L1 k = false → ∀ d5 : T7, d5 = t7' (wS (prog x) L1) → ((aN (⟨d5.1, d5.2.1, (⟨d5.2.2.1, d5.2.2.2.1⟩ : ak), d5.2.2.2.2.1, d5.2.2.2.2.2.1, d5.2.2.2.2.2.2⟩ : ad) (k : Int)).bind fun (d13 : ae) =>
     (ck (⟨d5.1, d5.2.1, (⟨d5.2.2.1, d5.2.2.2.1⟩ : ak), d5.2.2.2.2.1, d5.2.2.2.2.2.1, d5.2.2.2.2.2.2⟩ : ad) (k : Int) (⟨c, d13.Attr, d13.FA, d13.High, d13.Color, 0⟩ : ae)).bind fun (d15 : ad) =>
     (bL d15 (k : Int)).bind fun (d16 : ad × Bool) =>
     (cond (c == 28) ((eZ d16.1).bind fun (d18 : ad) => some (d18.model, d18.alternate, d18.size.Rows, d18.size.Cols, d18.cells, d18.cursor, d18.attrs)) ((fm d16.1).bind fun (d19 : ad) => some (d19.model, d19.alternate, d19.size.Rows, d19.size.Cols, d19.cells, d19.cursor, d19.attrs))).bind fun (d17 : T7) =>
     some ((⟨d17.1, d17.2.1, (⟨d17.2.2.1, d17.2.2.2.1⟩ : ak), d17.2.2.2.2.1, d17.2.2.2.2.2.1, d17.2.2.2.2.2.2⟩ : ad), (⟨n⟩ : az), B, (0 : Int))) = some (prog (rC (wL x (fq (iL L1 k c) k)) (if c = 28 then kC (fq (iL L1 k c) k) k else jU (fq (iL L1 k c) k) k)), ⟨n⟩, B, 0) := by
    intro L1 g1 g2 g3 d5 hd5; subst hd5
    have hS1 := hS.w g1 g2
    change ((aN (wS (prog x) L1) (k : Int)).bind _) = _; simp only [iC hS1, aS hkN, Option.bind_some]
    have hset := pset hS1 hkN g3 hc
    change ((ck (wS (prog x) L1) (k : Int) (ent (rd L1 (k : Int)) c)).bind _) = _; rw [show rd L1 (k : Int) = rd (wS (prog x) L1).cells (k : Int) from rfl, hset]; simp only [Option.bind_some]
    have g4 : (fq (iL L1 k c) k).length = N := by rw [iF, jp]; exact g1
    have hS2 := hS.w (L := iL L1 k c) (by rw [jp]; exact g1) (nf g2 (by omega) g3 hc)
    have hS3 := hS.w g4 (jC (nf g2 (by omega) g3 hc) (by rw [jp]; omega))
    have hm := tB hS2 (aS hkN) hkN
    change ((bL (wS (prog x) (iL L1 k c)) (k : Int)).bind _) = _; rw [hm]; simp only [Option.bind_some]; obtain ⟨rn, cn, r1, r2, r3, _⟩ := h.dim.dim.cn
    by_cases h28 : c = 28
    ·rw [jA h28, if_pos h28]
     have ht := ptab hS3 (k := k) hk hkN
     simp only [cond_true]; change (((eZ (wS (prog x) (fq (iL L1 k c) k))).bind _).bind _) = _; rw [ht]; rfl
    ·rw [cN h28, if_neg h28]
     have ht := pafter hS3 r1 r2 r3 (k := k) hk hkN
     simp only [cond_false]; change (((fm (wS (prog x) (fq (iL L1 k c) k))).bind _).bind _) = _; rw [ht]; rfl
   by_cases hi : B.inserts = true ∧ c ≠ 28
   ·rw [decide_eq_true hi]; simp only [cond_true, pins hS (n := (k : Int)) rfl hkN hc, hcell, Option.bind_some]
    by_cases hj : im x.L k < rl x.L k true
    ·rw [if_pos ⟨ho, hj⟩, if_neg (fun e => e.2 hj), if_pos hi]; simp only [Bool.not_true, cond_false, jn]
     exact tail (lX x.L k c) (by rw [oR]; exact hl) (qu h.ok (by omega) hc) (by rw [oS (by omega) (by omega)]; exact hA) _ rfl
    ·rw [if_neg (fun e => hj e.2), if_pos ⟨hi, hj⟩]; rfl
   ·rw [decide_eq_false hi, if_neg (fun e => hi e.1), if_neg hi]; simp only [cond_false, jn]
    exact tail x.L hl h.ok hA ((prog x).model, (prog x).alternate, (prog x).size.Rows, (prog x).size.Cols, x.L, (k : Int), (prog x).attrs) (by unfold t7' wS prog; simp only [hk])
theorem qh {m n : Int} {N : Nat} {x : aa} (h : RS m N x) (hn : n ∈ pgs) {c : Int} (hc : By c) (B : ah) : cC ⟨n, B.lock, B.inserts, B.aid⟩ x c = some ((gj n B x c).1, ⟨n, (gj n B x c).2.1.lock, (gj n B x c).2.1.inserts, (gj n B x c).2.1.aid⟩, false, (gj n B x c).2.2) := by
 obtain ⟨hk, hkN⟩ := h.n
 have hl := h.len
 have hle := h.dim.dim.le
 unfold cC gj
 generalize x.Cursor.toNat = k at hk hkN
 have hx : (⟨x.Model, x.Alt, x.Size, x.L, x.Cursor⟩ : aa) = x := rfl
 rw [hk]; simp only [qV h (aS hkN) hkN, oF h (aS hkN) hkN, Option.bind_some]
 have hxk : (⟨x.Model, x.Alt, x.Size, x.L, (k : Int)⟩ : aa) = x := by rw [← hk]
 cases ho : ft x.L k with
 | false =>
  simp only [Bool.not_false, cond_true, bA, Option.bind_some, hxk]
  rfl
 | true =>
  have hA := j1 ho
  rw [if_neg (show ¬ (true = false) by simp)]
  simp only [Bool.not_true, cond_false]
  have hnum : ((cond (decide (stI x.L k ≥ 0)) ((bj x (stI x.L k)).bind fun (d6 : bi) => cond d6.Numeric ((dn n c).bind fun (d7 : Bool) => some (!d7)) (some false)) (some false)) : Option Bool) = some (decide (¬ (stI x.L k < 0) ∧ (fld (faI x.L k)).Numeric = true ∧ oO n c = false)) := by
   rw [rnum hn hc]
   by_cases hs : stI x.L k < 0
   ·rw [decide_eq_false (show ¬ (stI x.L k ≥ 0) by omega), decide_eq_false (fun e => e.1 hs)]; rfl
   ·have hf : Fmt x.L := by
     by_cases hf : Fmt x.L
     ·exact hf
     ·rw [ir hf (by omega)] at hs; exact absurd (by omega) hs
    obtain ⟨b, h1, h2, h3⟩ := iW hf (n := k) (by omega)
    rw [decide_eq_true (show stI x.L k ≥ 0 by omega)]
    have hfa : faI x.L k = (rd x.L (b : Int)).FA := by unfold faI; rw [h1]
    rw [hfa, h1]
    simp only [cond_true, ms h (show b < N by omega), Option.bind_some]
    have hb0 : ¬ ((b : Int) < 0) := by omega
    cases (fld (rd x.L (b : Int)).FA).Numeric <;> cases oO n c <;> simp [hb0]
  rw [hnum]; simp only [Option.bind_some]
  by_cases hq : ¬ (stI x.L k < 0) ∧ (fld (faI x.L k)).Numeric = true ∧ oO n c = false
  ·rw [decide_eq_true hq, if_pos hq]; simp only [cond_true, bA, Option.bind_some, hxk]
  ·rw [decide_eq_false hq, if_neg hq]; simp only [cond_false]
   have tail : ∀ L1 : List ae, L1.length = N → (∀ c ∈ L1, COk c) → bm L1 k = false → ∀ d10 : Int × Bool × Int × Int × List ae × Int, d10 = (x.Model, x.Alt, x.Size.Rows, x.Size.Cols, L1, (k : Int)) → (gd ((0 : Int) ≤ (k : Int) ∧ (k : Int) < (d10.2.2.2.2.1.length : Int)) <|
     (bI (⟨d10.1, d10.2.1, (⟨d10.2.2.1, d10.2.2.2.1⟩ : ag), d10.2.2.2.2.1, d10.2.2.2.2.2⟩ : aa) (k : Int) { (rd d10.2.2.2.2.1 (k : Int)) with Char := c, f_Set := 0 }).bind fun (d14 : aa) =>
     (bF d14 (k : Int)).bind fun (d15 : aa × Bool) =>
     (cond (c == 28) ((ba d15.1 (⟨0, 0, 0⟩ : bu)).bind fun (d17 : aa) => some (d17.Model, d17.Alt, d17.Size.Rows, d17.Size.Cols, d17.L, d17.Cursor)) ((ba d15.1 (⟨5, 0, 0⟩ : bu)).bind fun (d18 : aa) => some (d18.Model, d18.Alt, d18.Size.Rows, d18.Size.Cols, d18.L, d18.Cursor))).bind fun (d16 : Int × Bool × Int × Int × List ae × Int) =>
     some ((⟨d16.1, d16.2.1, (⟨d16.2.2.1, d16.2.2.2.1⟩ : ag), d16.2.2.2.2.1, d16.2.2.2.2.2⟩ : aa), (⟨n, B.lock, B.inserts, B.aid⟩ : am), false, (0 : Int))) = some (rC (wL x (fq (iL L1 k c) k)) (if c = 28 then kC (fq (iL L1 k c) k) k else jU (fq (iL L1 k c) k) k), ⟨n, B.lock, B.inserts, B.aid⟩, false, 0) := by
    intro L1 g1 g2 g3 d10 hd; subst hd
    have hR1 := h.w g1 g2
    rw [aX (by simp only; omega)]
    have hset := rset hR1 hkN g3 hc
    have hw : (⟨x.Model, x.Alt, ⟨x.Size.Rows, x.Size.Cols⟩, L1, (k : Int)⟩ : aa) = wL x L1 := by unfold wL; rw [hk]
    simp only [hw]; change ((bI (wL x L1) (k : Int) (ent (rd (wL x L1).L (k : Int)) c)).bind _) = _; rw [hset]; simp only [Option.bind_some]
    have g4 : (fq (iL L1 k c) k).length = N := by rw [iF, jp]; exact g1
    have hR2 := h.w (L := iL L1 k c) (by rw [jp]; exact g1) (nf g2 (by omega) g3 hc)
    have hR3 := h.w g4 (jC (nf g2 (by omega) g3 hc) (by rw [jp]; omega))
    have hm := rmod hR2 (aS hkN) hkN
    change ((bF (wL x (iL L1 k c)) (k : Int)).bind _) = _; rw [hm]; simp only [Option.bind_some]; obtain ⟨rn, cn, r1, r2, r3, _⟩ := h.dim.dim.cn
    by_cases h28 : c = 28
    ·rw [jA h28, if_pos h28]
     have ht := rdo0 hR3 r1 r2 r3 (k := k) hk hkN
     simp only [cond_true]; change (((ba (wL x (fq (iL L1 k c) k)) _).bind _).bind _) = _; rw [ht]; rfl
    ·rw [cN h28, if_neg h28]
     have ht := rdo5 hR3 r1 r2 r3 (k := k) hk hkN
     simp only [cond_false]; change (((ba (wL x (fq (iL L1 k c) k)) _).bind _).bind _) = _; rw [ht]; rfl
   have hxx := rins h (n := (k : Int)) (aS hkN) hkN hc
   cases hB : B.inserts with
   | false =>
    rw [if_neg (by rintro ⟨⟨e, _⟩, _⟩; cases e), if_neg (by rintro ⟨e, _⟩; cases e)]
    simp only [cond_false, Option.bind_some]
    have := tail x.L hl h.ok hA _ rfl
    rw [hB] at this
    exact this.trans (by simp only [hB])
   | true =>
    simp only [cond_true]
    by_cases h28 : c = 28
    ·rw [nw h28, if_neg (by rintro ⟨⟨_, e⟩, _⟩; exact e h28), if_neg (by rintro ⟨_, e⟩; exact e h28)]
     simp only [cond_false, Option.bind_some]
     have := tail x.L hl h.ok hA _ rfl
     rw [hB] at this
     exact this.trans (by simp only [hB])
    ·rw [nv h28]; simp only [cond_true, hxx, Option.bind_some]
     by_cases hj : im x.L k < rl x.L k true
     ·rw [if_pos ⟨ho, hj⟩, if_neg (fun e => e.2 hj), if_pos ⟨trivial, h28⟩]; simp only [Bool.not_true, cond_false]
      have := tail (lX x.L k c) (by rw [oR]; exact hl) (qu h.ok (by omega) hc) (by rw [oS (by omega) (by omega)]; exact hA) (x.Model, x.Alt, x.Size.Rows, x.Size.Cols, lX x.L k c, (k : Int)) rfl
      rw [hB] at this
      have hwc : (wL x (lX x.L k c)).Cursor = (k : Int) := hk
      simp only [hwc]
      exact this.trans (by simp only [hB])
     ·rw [if_neg (fun e => hj e.2), if_pos ⟨⟨trivial, h28⟩, hj⟩]; simp only [Bool.not_false, cond_true, bA, Option.bind_some]
end Go.Vt
set_option linter.unusedVariables false
set_option linter.unusedSimpArgs false
set_option maxRecDepth 100000
namespace Go.Vt
theorem sX {n : Int} (h : n ∈ pgs) : (62 : Int) ∈ rK n ∧ (63 : Int) ∈ rK n := by
 simp only [pgs, List.mem_cons, List.not_mem_nil, or_false] at h
 rcases h with rfl | rfl | rfl | rfl | rfl | rfl <;> exact ⟨by decide +kernel, by decide +kernel⟩
theorem cd_pos {n z : Int} (h : n ∈ pgs) (hz : z ∈ sgT n) : 0 ≤ cdI n z := by
 have hlen := rS h
 obtain ⟨i, hi, hv⟩ := List.getElem_of_mem hz
 have hle : cdN n z ≤ 256 := jY _ _
 have : cdN n z < 256 := by
  rcases Nat.lt_or_ge (cdN n z) 256 with h1 | h1
  ·exact h1
  ·exfalso
   have h2 : (!(sgI n (i : Int) == z)) = true := jI (p := fun i : Nat => !(sgI n (i : Int) == z)) (n := 256) (by unfold cdN at h1; omega)
   unfold sgI at h2; rw [rdn hi, hv] at h2
   simp at h2
 unfold cdI; rw [if_pos this]; omega
theorem cd62 {n : Int} (h : n ∈ pgs) : 0 ≤ cdI n 62 := cd_pos h (by rw [(jb h).1]; exact (sX h).1)
theorem cd63 {n : Int} (h : n ∈ pgs) : 0 ≤ cdI n 63 := cd_pos h (by rw [(jb h).1]; exact (sX h).2)
theorem nZ {n z : Int} (h : 0 ≤ cdI n z) : By (cdI n z) := ⟨h, (cdI_lt n z).2⟩
theorem qW {L : List ae} {k p : Nat} {z : Int} (hk : k < L.length) (hp : p < L.length) (hne : stI L k ≠ (p : Int)) : gv (fq L k) p z = fq (gv L p z) k := by
 have hl1 : (gv L p z).length = L.length := iE _ _ _
 have hst : stI (gv L p z) k = stI L k := stI_isA hl1 (fun q hq => oK hp hq) hk
 by_cases hf : Fmt L
 ·obtain ⟨b, h1, h2, h3⟩ := iW hf hk
  have hbp : b ≠ p := fun e => hne (by rw [h1, e])
  unfold fq
  rw [hst, h1, if_neg (by omega), if_neg (by omega), Int.toNat_natCast]
  have hA : bm (L.set b (mdf (rd L (b : Int)))) p = bm L p := by
   unfold bm; rw [jK h2 hp, if_neg hbp]
  have hrb : rd (gv L p z) (b : Int) = rd L (b : Int) := by
   unfold gv
   split
   ·rfl
   ·rw [jK hp h2, if_neg (fun e => hbp e.symm)]
  rw [hrb]; unfold gv; rw [hA, jK h2 hp, if_neg hbp]
  cases bm L p with
  | true => rfl
  | false =>
   simp only [Bool.false_eq_true, if_false]; exact List.set_comm _ _ hbp
 ·unfold fq; rw [hst, ir hf hk]; rfl
def atN (L : List ae) (k : Nat) : Nat := ((stI L k).toNat + 1) % L.length
/-- what is answered: the screen, the board, whether it was sent, an error -/
def gk (n : Int) (B : ah) (x : aa) : aa × ah × Bool × Int :=
 let L := x.L
 let k := x.Cursor.toNat
 if stI L k < 0 ∨ bm L k = true ∨ ¬ ((fld (faI L k)).Display = 1 ∨ (fld (faI L k)).Display = 2) then (x, { B with lock := 2 }, false, 13)
 else
  let d := nG n (rd L (atN L k : Int)).Char
  if d = 0 ∨ (d < 3 ∧ (fld (faI L k)).Protected = true) then (x, { B with lock := 2 }, false, 13)
  else if d = 1 then (wL x (fq (gv L (atN L k) (cdI n 62)) k), B, false, 0)
  else if d = 2 then (wL x (gv L (atN L k) (cdI n 63)), B, false, 0)
  else if d = 3 then (wL x (fq L k), ⟨1, false, 126⟩, true, 0)
  else (wL x (fq L k), ⟨1, false, 125⟩, true, 0)
theorem tQ {m n : Int} {N : Nat} {x : aa} (h : RS m N x) (hn : n ∈ pgs) (B : ah) : RS m N (gk n B x).1 := by
 obtain ⟨hk, hkN⟩ := h.n
 have hl := h.len
 have hp : atN x.L x.Cursor.toNat < x.L.length := Nat.mod_lt _ (by omega)
 have w1 : RS m N (wL x (fq x.L x.Cursor.toNat)) := h.w (by rw [iF]; exact hl) (jC h.ok (by omega))
 unfold gk; simp only
 split
 ·exact h
 ·split
  ·exact h
  ·split
   ·exact h.w (by rw [iF, iE]; exact hl) (jC (oi h.ok hp (nZ (cd62 hn))) (by rw [iE]; omega))
   ·split
    ·exact h.w (by rw [iE]; exact hl) (oi h.ok hp (nZ (cd63 hn)))
    ·split
     ·exact w1
     ·exact w1
theorem o9 (n c : Int) : nG n c = 0 ∨ nG n c = 1 ∨ nG n c = 2 ∨ nG n c = 3 ∨ nG n c = 4 := by
 unfold nG; repeat' split
 all_goals simp
theorem pchoose {m n : Int} {N : Nat} {x : aa} (h : RS m N x) (hn : n ∈ pgs) (B : ah) : eT B (prog x) ⟨n⟩ = some (prog (gk n B x).1, ⟨n⟩, (gk n B x).2.1, (gk n B x).2.2.1, (gk n B x).2.2.2) := by
 obtain ⟨hk, hkN⟩ := h.n
 have hl := h.len
 have hle := h.dim.dim.le
 have hS := h.lk.ss
 unfold eT aW gk
 have hcur : (prog x).cursor = x.Cursor := rfl
 have hcell : (prog x).cells = x.L := rfl
 simp only [Option.bind_some, hcur]
 generalize x.Cursor.toNat = k at hk hkN
 rw [hk]; simp only [qk hS (aS hkN) hkN, pfof hS (aS hkN) hkN, hcell, Option.bind_some]
 have hA : (rd x.L (k : Int)).Attr = bm x.L k := rfl
 by_cases hs : stI x.L k < 0
 ·rw [if_pos hs, if_pos (.inl hs)]; rfl
 ·rw [if_neg hs]
  have hf : Fmt x.L := by
   by_cases hf : Fmt x.L
   ·exact hf
   ·rw [ir hf (by omega)] at hs; exact absurd (by omega) hs
  obtain ⟨b, h1, h2, h3⟩ := iW hf (n := k) (by omega)
  have hd4 : ((cond (!true) (some true) ((aN (prog x) (k : Int)).bind fun (d5 : ae) => cond d5.Attr (some true) ((dL (fld (faI x.L k))).bind fun (d6 : Bool) => some (!d6)))) : Option Bool) = some (decide (bm x.L k = true ∨ ¬ ((fld (faI x.L k)).Display = 1 ∨ (fld (faI x.L k)).Display = 2))) := by
   simp only [Bool.not_true, cond_false, iC hS, aS hkN, hcell, Option.bind_some, hA]
   cases bm x.L k with
   | true => simp
   | false =>
    unfold dL
    by_cases e1 : (fld (faI x.L k)).Display = 1
    ·simp [e1]
    ·by_cases e2 : (fld (faI x.L k)).Display = 2
     ·simp [e2]
     ·rw [cN e1, cN e2]; simp [e1, e2]
  rw [hd4]; simp only [Option.bind_some]
  by_cases hr : bm x.L k = true ∨ ¬ ((fld (faI x.L k)).Display = 1 ∨ (fld (faI x.L k)).Display = 2)
  ·rw [decide_eq_true hr, if_pos (.inr hr)]; rfl
  ·rw [decide_eq_false hr, if_neg (by rintro (e | e); exact hs e; exact hr e)]
   have hp : (b + 1) % N < N := Nat.mod_lt _ (by omega)
   have w1 : w64 ((b : Int) + 1) = ((b + 1 : Nat) : Int) := mT (b := 1) (by omega)
   have hmod : ((b + 1 : Nat) : Int) % (N : Int) = (((b + 1) % N : Nat) : Int) := (Int.natCast_emod _ _).symm
   have hat : atN x.L k = (b + 1) % N := by unfold atN; rw [h1, hl, Int.toNat_natCast]
   rw [hat, h1]
   have hby : By (rd x.L (((b + 1) % N : Nat) : Int)).Char := (h.ok _ (fS (by omega))).char
   simp only [cond_false, w1, iC hS, hmod, hcell, Option.bind_some, pdes hn hby]
   generalize hdd : nG n (rd x.L (((b + 1) % N : Nat) : Int)).Char = d
   have hcs := o9 n (rd x.L (((b + 1) % N : Nat) : Int)).Char
   rw [hdd] at hcs
   have hne : stI x.L k ≠ (((b + 1) % N : Nat) : Int) := by
    rw [h1]; intro e
    have e' : b = (b + 1) % N := by omega
    by_cases h9 : b + 1 < N
    ·rw [Nat.mod_eq_of_lt h9] at e'; omega
    ·rw [show b + 1 = N by omega, Nat.mod_self] at e'; omega
   have hm0 := tB hS (aS hkN) hkN
   have hput : ∀ z, bs (prog x) ((b + 1 : Nat) : Int) z = some (wS (prog x) (gv x.L ((b + 1) % N) z)) := fun z => pput hS hmod hp z
   have hmp : ∀ z, By z → bL (wS (prog x) (gv x.L ((b + 1) % N) z)) (k : Int) = some (wS (prog x) (fq (gv x.L ((b + 1) % N) z) k), decide (0 ≤ stI (gv x.L ((b + 1) % N) z) k)) := fun z hz => by
    have hS2 := hS.w (L := gv x.L ((b + 1) % N) z) (by rw [iE]; exact hl) (oi h.ok (by omega) hz)
    exact tB hS2 (aS hkN) hkN
   have c62 : es ⟨n⟩ 62 = some (cdI n 62, true) := by rw [pcode hn, if_neg (by have := cd62 hn; omega)]
   have c63 : es ⟨n⟩ 63 = some (cdI n 63, true) := by rw [pcode hn, if_neg (by have := cd63 hn; omega)]
   rcases hcs with rfl | rfl | rfl | rfl | rfl
   ·rfl
   ·cases hpr : (fld (faI x.L k)).Protected with
    | true => rw [if_pos (.inr ⟨by omega, rfl⟩)]; rfl
    | false =>
     rw [if_neg (by rintro (e | ⟨_, e⟩); omega; cases e)]
     simp only [cN (show (1 : Int) ≠ 0 by omega), show decide ((1 : Int) < 3) = true from rfl, cond_false, cond_true, Option.bind_some, show ((1 : Int) == 1) = true from rfl, dp, c62, w1, hput, jn, if_true]
     change ((bL (wS (prog x) (gv x.L ((b + 1) % N) (cdI n 62))) (k : Int)).bind _) = _; rw [hmp _ (nZ (cd62 hn))]; rfl
   ·cases hpr : (fld (faI x.L k)).Protected with
    | true => rw [if_pos (.inr ⟨by omega, rfl⟩)]; rfl
    | false =>
     rw [if_neg (by rintro (e | ⟨_, e⟩); omega; cases e)]
     simp only [cN (show (2 : Int) ≠ 0 by omega), show decide ((2 : Int) < 3) = true from rfl, cond_false, cond_true, Option.bind_some, show ((2 : Int) == 1) = false from rfl, show ((2 : Int) == 2) = true from rfl, dp, c63, w1, hput, jn, esc, if_neg (show ¬ (2 : Int) = 1 by omega), if_true]
     rfl
   ·rw [if_neg (by rintro (e | ⟨e, _⟩) <;> omega), if_neg (by omega), if_neg (by omega), if_pos rfl]
    simp only [cN (show (3 : Int) ≠ 0 by omega), show decide ((3 : Int) < 3) = false from rfl, cond_false, cond_true, Option.bind_some, show ((3 : Int) == 1) = false from rfl, show ((3 : Int) == 2) = false from rfl, show ((3 : Int) == 3) = true from rfl, dQ, jn]
    have hmm : bL ⟨(prog x).model, (prog x).alternate, ⟨(prog x).size.Rows, (prog x).size.Cols⟩, x.L, (k : Int), (prog x).attrs⟩ (k : Int) = some (wS (prog x) (fq x.L k), decide (0 ≤ stI x.L k)) := by rw [← hk] at hm0 ⊢; exact hm0
    rw [hmm]; rfl
   ·rw [if_neg (by rintro (e | ⟨e, _⟩) <;> omega), if_neg (by omega), if_neg (by omega), if_neg (by omega)]
    simp only [cN (show (4 : Int) ≠ 0 by omega), show decide ((4 : Int) < 3) = false from rfl, cond_false, cond_true, Option.bind_some, show ((4 : Int) == 1) = false from rfl, show ((4 : Int) == 2) = false from rfl, show ((4 : Int) == 3) = false from rfl, dQ, jn]
    have hmm : bL ⟨(prog x).model, (prog x).alternate, ⟨(prog x).size.Rows, (prog x).size.Cols⟩, x.L, (k : Int), (prog x).attrs⟩ (k : Int) = some (wS (prog x) (fq x.L k), decide (0 ≤ stI x.L k)) := by rw [← hk] at hm0 ⊢; exact hm0
    rw [hmm]; rfl
theorem rchoose {m n : Int} {N : Nat} {x : aa} (h : RS m N x) (hn : n ∈ pgs) (B : ah) : eb ⟨n, B.lock, B.inserts, B.aid⟩ x = some ((gk n B x).1, ⟨n, (gk n B x).2.1.lock, (gk n B x).2.1.inserts, (gk n B x).2.1.aid⟩, (gk n B x).2.2.1, (gk n B x).2.2.2) := by
 obtain ⟨hk, hkN⟩ := h.n
 have hl := h.len
 have hle := h.dim.dim.le
 unfold eb gk
 generalize x.Cursor.toNat = k at hk hkN
 rw [hk]; simp only [oF h (aS hkN) hkN, Option.bind_some]
 have hA : (rd x.L (k : Int)).Attr = bm x.L k := rfl
 by_cases hs : stI x.L k < 0
 ·rw [decide_eq_true hs, if_pos (.inl hs)]; rfl
 ·rw [decide_eq_false hs]
  have hf : Fmt x.L := by
   by_cases hf : Fmt x.L
   ·exact hf
   ·rw [ir hf (by omega)] at hs; exact absurd (by omega) hs
  obtain ⟨b, h1, h2, h3⟩ := iW hf (n := k) (by omega)
  simp only [cond_false]
  rw [aX (by omega), hA]
  simp only [Option.bind_some]
  cases hAA : bm x.L k with
  | true => rw [if_pos (.inr (.inl rfl))]; rfl
  | false =>
   have hp : (b + 1) % N < N := Nat.mod_lt _ (by omega)
   have w1 : w64 ((b : Int) + 1) = ((b + 1 : Nat) : Int) := mT (b := 1) (by omega)
   have hmod : ((b + 1 : Nat) : Int) % (N : Int) = (((b + 1) % N : Nat) : Int) := (Int.natCast_emod _ _).symm
   have hat : atN x.L k = (b + 1) % N := by unfold atN; rw [h1, hl, Int.toNat_natCast]
   have hfa : faI x.L k = (rd x.L (b : Int)).FA := by unfold faI; rw [h1]
   have hby : By (rd x.L (((b + 1) % N : Nat) : Int)).Char := (h.ok _ (fS (by omega))).char
   rw [hat, h1]
   simp only [cond_false, ms h (show b < N by omega), w1, f5 h, hmod, Option.bind_some]
   rw [aX (by omega)]
   simp only [rdes hn hby, Option.bind_some, hfa]
   generalize hdd : nG n (rd x.L (((b + 1) % N : Nat) : Int)).Char = d
   have hcs := o9 n (rd x.L (((b + 1) % N : Nat) : Int)).Char
   rw [hdd] at hcs
   generalize hF : fld (rd x.L (b : Int)).FA = F
   have hq : ((cond (F.Display != 1) (cond (F.Display != 2) (some true) (cond (d == 0) (some true) (cond (decide (d < 3)) (some F.Protected) (some false)))) (cond (d == 0) (some true) (cond (decide (d < 3)) (some F.Protected) (some false)))) : Option Bool) = some (decide (¬ (F.Display = 1 ∨ F.Display = 2) ∨ d = 0 ∨ (d < 3 ∧ F.Protected = true))) := by
    by_cases e1 : F.Display = 1
    ·rw [nw e1]; rcases hcs with rfl | rfl | rfl | rfl | rfl <;> cases F.Protected <;> simp [e1]
    ·rw [nv e1]
     by_cases e2 : F.Display = 2
     ·rw [nw e2]; rcases hcs with rfl | rfl | rfl | rfl | rfl <;> cases F.Protected <;> simp [e2]
     ·rw [nv e2]; simp [e1, e2]
   rw [hq]; simp only [Option.bind_some]
   have hb0 : ¬ ((b : Int) < 0) := by omega
   by_cases hD : ¬ (F.Display = 1 ∨ F.Display = 2)
   ·rw [decide_eq_true (.inl hD), if_pos (.inr (.inr hD))]; simp only [cond_true, bA, Option.bind_some]
   ·rw [if_neg (by rintro (e | e | e); exact hb0 e; cases e; exact hD e)]
    by_cases hZ : d = 0 ∨ (d < 3 ∧ F.Protected = true)
    ·rw [decide_eq_true (.inr hZ), if_pos hZ]; simp only [cond_true, bA, Option.bind_some]
    ·rw [decide_eq_false (by rintro (e | e); exact hD e; exact hZ e), if_neg hZ]
     simp only [cond_false]
     have hne : stI x.L k ≠ (((b + 1) % N : Nat) : Int) := by
      rw [h1]; intro e
      have e' : b = (b + 1) % N := by omega
      by_cases h9 : b + 1 < N
      ·rw [Nat.mod_eq_of_lt h9] at e'; omega
      ·rw [show b + 1 = N by omega, Nat.mod_self] at e'; omega
     have hm0 := rmod h (aS hkN) hkN
     have hput : ∀ z, By z → bn x ((b + 1 : Nat) : Int) z = some (wL x (gv x.L ((b + 1) % N) z)) := fun z hz => rput h hmod hp hz
     have hR2 := h.w (L := fq x.L k) (by rw [iF]; exact hl) (jC h.ok (by omega))
     have hput2 : ∀ z, By z → bn (wL x (fq x.L k)) ((b + 1 : Nat) : Int) z = some (wL x (gv (fq x.L k) ((b + 1) % N) z)) := fun z hz => rput hR2 hmod hp hz
     have y62 := nZ (cd62 hn)
     have y63 := nZ (cd63 hn)
     rcases hcs with rfl | rfl | rfl | rfl | rfl
     ·exact absurd (.inl rfl) hZ
     ·simp only [show ((1 : Int) == 2) = false from rfl, show ((1 : Int) == 1) = true from rfl, cond_false, cond_true, hm0, Option.bind_some, rcode hn, nR y62, hput2 _ y62, if_true]
      rw [qW (by omega) (by omega) hne]
     ·simp only [show ((2 : Int) == 2) = true from rfl, cond_true, Option.bind_some, rcode hn, nR y63, hput _ y63, if_neg (show ¬ (2 : Int) = 1 by omega), if_true]
     ·simp only [show ((3 : Int) == 2) = false from rfl, show ((3 : Int) == 1) = false from rfl, show ((3 : Int) == 3) = true from rfl, cond_false, cond_true, hm0, Option.bind_some, ct, if_neg (show ¬ (3 : Int) = 1 by omega), if_neg (show ¬ (3 : Int) = 2 by omega), if_true]
     ·simp only [show ((4 : Int) == 2) = false from rfl, show ((4 : Int) == 1) = false from rfl, show ((4 : Int) == 3) = false from rfl, cond_false, hm0, Option.bind_some, ct, if_neg (show ¬ (4 : Int) = 1 by omega), if_neg (show ¬ (4 : Int) = 2 by omega), if_neg (show ¬ (4 : Int) = 3 by omega)]
end Go.Vt
set_option linter.unusedVariables false
set_option linter.unusedSimpArgs false
set_option maxRecDepth 100000
namespace Go.Vt
def fnA : List Int := [241, 242, 243, 244, 245, 246, 247, 248, 249, 122, 123, 124, 193, 194, 195, 196, 197, 198, 199, 200, 201, 74, 75, 76]
def paA : List Int := [108, 110, 107]
def cX (k : bR) : Bool := k.Kind == 19 || k.Kind == 22 || (k.Kind == 20 && (decide (1 ≤ k.N) && decide (k.N ≤ 24))) || (k.Kind == 21 && (decide (1 ≤ k.N) && decide (k.N ≤ 3)))
def rH (k : bR) : Int := if k.Kind = 19 then 125 else if k.Kind = 22 then 109 else if k.Kind = 20 then rd fnA (k.N - 1) else rd paA (k.N - 1)
theorem aid20 : ∀ i : Fin 24, ge ⟨20, 0, (i.val : Int) + 1⟩ = some (rd fnA (i.val : Int), true) ∧ cL ⟨20, 0, (i.val : Int) + 1⟩ = some (rd fnA (i.val : Int)) ∧ rd fnA (i.val : Int) ≠ 0 := by decide +kernel
theorem aid21 : ∀ i : Fin 3, ge ⟨21, 0, (i.val : Int) + 1⟩ = some (rd paA (i.val : Int), true) ∧ cL ⟨21, 0, (i.val : Int) + 1⟩ = some (rd paA (i.val : Int)) ∧ rd paA (i.val : Int) ≠ 0 := by decide +kernel
/-- both keys' AIDs -/
theorem sr (k : bR) : ge k = some (if cX k then (rH k, true) else (0, false)) ∧ cL ⟨k.Kind, k.Sign, k.N⟩ = some (if cX k then rH k else 0) ∧ (cX k = true → rH k ≠ 0) := by
 obtain ⟨kind, sg, N⟩ := k
 by_cases h19 : kind = 19
 ·subst h19; exact ⟨rfl, rfl, fun _ => by simp [rH]⟩
 by_cases h22 : kind = 22
 ·subst h22; exact ⟨rfl, rfl, fun _ => by simp [rH]⟩
 by_cases h20 : kind = 20
 ·subst h20
  by_cases hN : 1 ≤ N ∧ N ≤ 24
  ·obtain ⟨g1, g2, g3⟩ := aid20 ⟨(N - 1).toNat, by omega⟩
   have e : (((N - 1).toNat : Nat) : Int) = N - 1 := by omega
   simp only [e, Int.sub_add_cancel] at g1 g2 g3
   have hs : cX ⟨20, sg, N⟩ = true := by unfold cX; simp [hN]
   have ha : rH ⟨20, sg, N⟩ = rd fnA (N - 1) := rfl
   rw [if_pos hs, if_pos hs, ha]; exact ⟨g1, g2, fun _ => g3⟩
  ·have hs : cX ⟨20, sg, N⟩ = false := by
    unfold cX; simp only [Int.reduceBEq, Bool.false_or, Bool.true_and, Bool.false_and, Bool.or_false]
    by_cases h1 : 1 ≤ N
    ·rw [decide_eq_true h1, decide_eq_false (fun h2 => hN ⟨h1, h2⟩)]; rfl
    ·rw [decide_eq_false h1]; rfl
   have hq : ((cond (decide (N ≥ 1)) (some (decide (N ≤ 24))) (some false)) : Option Bool) = some false := by
    by_cases h1 : N ≥ 1
    ·rw [decide_eq_true h1, decide_eq_false (fun h2 => hN ⟨h1, h2⟩)]; rfl
    ·rw [decide_eq_false h1]; rfl
   rw [hs]
   refine ⟨?_, ?_, fun e => by cases e⟩
   ·unfold ge; simp only [Int.reduceBEq, cond_true, cond_false, hq, Option.bind_some, Bool.false_eq_true, if_false]
   ·unfold cL; simp only [Int.reduceBEq, cond_true, cond_false, hq, Option.bind_some, Bool.false_eq_true, if_false, jn]
 by_cases h21 : kind = 21
 ·subst h21
  by_cases hN : 1 ≤ N ∧ N ≤ 3
  ·obtain ⟨g1, g2, g3⟩ := aid21 ⟨(N - 1).toNat, by omega⟩
   have e : (((N - 1).toNat : Nat) : Int) = N - 1 := by omega
   simp only [e, Int.sub_add_cancel] at g1 g2 g3
   have hs : cX ⟨21, sg, N⟩ = true := by unfold cX; simp [hN]
   have ha : rH ⟨21, sg, N⟩ = rd paA (N - 1) := rfl
   rw [if_pos hs, if_pos hs, ha]; exact ⟨g1, g2, fun _ => g3⟩
  ·have hs : cX ⟨21, sg, N⟩ = false := by
    unfold cX; simp only [Int.reduceBEq, Bool.false_or, Bool.true_and, Bool.false_and, Bool.or_false]
    by_cases h1 : 1 ≤ N
    ·rw [decide_eq_true h1, decide_eq_false (fun h2 => hN ⟨h1, h2⟩)]; rfl
    ·rw [decide_eq_false h1]; rfl
   have hq : ((cond (decide (N ≥ 1)) (some (decide (N ≤ 3))) (some false)) : Option Bool) = some false := by
    by_cases h1 : N ≥ 1
    ·rw [decide_eq_true h1, decide_eq_false (fun h2 => hN ⟨h1, h2⟩)]; rfl
    ·rw [decide_eq_false h1]; rfl
   rw [hs]
   refine ⟨?_, ?_, fun e => by cases e⟩
   ·unfold ge; simp only [Int.reduceBEq, cond_true, cond_false, hq, Option.bind_some, Bool.false_eq_true, if_false]
   ·unfold cL; simp only [Int.reduceBEq, cond_true, cond_false, hq, Option.bind_some, Bool.false_eq_true, if_false, jn]
 have hs : cX ⟨kind, sg, N⟩ = false := by unfold cX; simp [h19, h20, h21, h22]
 rw [hs]
 refine ⟨?_, ?_, fun e => by cases e⟩
 ·unfold ge; simp only [cN h19, cN h20, cN h21, cN h22, cond_false, Option.bind_some, Bool.false_eq_true, if_false]
 ·unfold cL; simp only [cN h19, cN h20, cN h21, cN h22, cond_false, Option.bind_some, Bool.false_eq_true, if_false, jn]
/-- where a key takes the cursor -/
def nh (x : aa) (kind : Int) : Int :=
 let k := x.Cursor.toNat; let rn := x.Size.Rows.toNat; let cn := x.Size.Cols.toNat
 if kind = 5 then kC x.L k else if kind = 6 then pu x.L k else if kind = 7 then iY x.L (atI rn cn (k / cn + 1) 0) else if kind = 8 then iY x.L 0
 else if kind = 9 then ((mvI rn cn k (rn - 1) 0 : Nat) : Int) else if kind = 10 then ((mvI rn cn k 1 0 : Nat) : Int) else if kind = 11 then ((mvI rn cn k 0 (x.L.length - 1) : Nat) : Int) else ((mvI rn cn k 0 1 : Nat) : Int)
def jq (n : Int) (B : ah) (x : aa) (k : bR) : aa × ah × Int :=
 if k.Kind = 1 then (if cdI n k.Sign < 0 ∨ jP (cdI n k.Sign) = false then (x, B, 12) else gj n B x (cdI n k.Sign))
 else if k.Kind = 2 then (if k.N < 64 ∨ k.N > 254 then (x, B, 1) else gj n B x k.N)
 else if k.Kind = 3 then gj n B x 28
 else if k.Kind = 4 then gj n B x 30
 else if k.Kind = 13 then (if ft x.L x.Cursor.toNat then (wL x (tM x.L x.Size.Cols.toNat x.Cursor.toNat), B, 0) else (x, { B with lock := 2 }, 13))
 else if k.Kind = 14 then (if ft x.L x.Cursor.toNat then (wL x (endI x.L x.Cursor.toNat), B, 0) else (x, { B with lock := 2 }, 13))
 else if k.Kind = 15 then (rC (wL x (iA x.L)) (kC (iA x.L) (x.L.length - 1)), B, 0)
 else (x, { B with inserts := !B.inserts }, 0)
/-- a key pressed: the screen, the board, whether it was sent, an error -/
def f6 (n : Int) (B : ah) (x : aa) (k : bR) : aa × ah × Bool × Int :=
 if k.Kind < 1 ∨ k.Kind > 22 then (x, B, false, 1)
 else if k.Kind = 17 then (x, ⟨if B.lock = 1 then 1 else 0, false, B.aid⟩, false, 0)
 else if B.lock ≠ 0 then (x, B, false, 8)
 else if k.Kind = 18 then gk n B x
 else if cX k = true then (if k.Kind = 22 then clr x.Model false else x, ⟨1, false, rH k⟩, true, 0)
 else if k.Kind = 20 ∨ k.Kind = 21 then (x, B, false, 1)
 else if 5 ≤ k.Kind ∧ k.Kind ≤ 12 then (rC x (nh x k.Kind), B, false, 0)
 else ((jq n B x k).1, (jq n B x k).2.1, false, (jq n B x k).2.2)
theorem curI_lt {m : Int} {N : Nat} {x : aa} (h : RS m N x) (kind : Int) : 0 ≤ nh x kind ∧ nh x kind < N := by
 obtain ⟨hk, hkN⟩ := h.n
 have hl := h.len
 have hle := h.dim.dim.le
 obtain ⟨rn, cn, r1, r2, r3, b1, b2, b3, b4⟩ := h.dim.dim.cn
 have e1 : x.Size.Rows.toNat = rn := by rw [r1]; rfl
 have e2 : x.Size.Cols.toNat = cn := by rw [r2]; rfl
 have hm : ∀ a b c, mvI rn cn a b c < N := fun a b c => by rw [r3]; exact mvI_lt (by omega) (by omega)
 have hat : ∀ a b, atI rn cn a b < N := fun a b => by rw [r3]; exact qJ (by omega) (by omega)
 unfold nh; simp only [e1, e2]
 split
 ·exact kB hl (by omega)
 split
 ·exact rF hl (by omega)
 split
 ·exact lR hl (hat _ _)
 split
 ·exact lR hl (by omega)
 split
 ·have := hm x.Cursor.toNat (rn - 1) 0; omega
 split
 ·have := hm x.Cursor.toNat 1 0; omega
 split
 ·have := hm x.Cursor.toNat 0 (x.L.length - 1); omega
 ·have := hm x.Cursor.toNat 0 1; omega
theorem edit_rs {m n : Int} {N : Nat} {x : aa} (h : RS m N x) (hn : n ∈ pgs) (B : ah) (k : bR) : RS m N (jq n B x k).1 := by
 obtain ⟨hk, hkN⟩ := h.n
 have hl := h.len
 have hle := h.dim.dim.le
 obtain ⟨rn, cn, r1, r2, r3, b1, b2, b3, b4⟩ := h.dim.dim.cn
 have e2 : x.Size.Cols.toNat = cn := by rw [r2]; rfl
 have hf : ∀ i, pl x.L x.Cursor.toNat i < x.L.length := fun i => j0 (by omega) i
 unfold jq
 split
 ·split
  ·exact h
  ·rename_i h1
   exact ne h hn (nZ (by omega)) B
 split
 ·split
  ·exact h
  ·exact ne h hn ⟨by omega, by omega⟩ B
 split
 ·exact ne h hn ⟨by decide, by decide⟩ B
 split
 ·exact ne h hn ⟨by decide, by decide⟩ B
 split
 ·split
  ·exact h.w (by unfold tM; rw [iF, db]; exact hl) (jC (lP h.ok hf _ fun i _ => qD h.ok (by omega)) (by rw [db]; omega))
  ·exact h
 split
 ·split
  ·exact h.w (by unfold endI; rw [iF, db]; exact hl) (jC (lP h.ok hf _ fun i _ => by0) (by rw [db]; omega))
  ·exact h
 split
 ·have hE := h.w (L := iA x.L) (by rw [gr]; exact hl) (qC h.ok)
  have hb := kB (L := iA x.L) (N := N) (k := x.L.length - 1) (by rw [gr]; exact hl) (by omega)
  exact hE.c hb.1 hb.2
 ·exact h
theorem oL {m n : Int} {N : Nat} {x : aa} (hm : kT m) (h : RS m N x) (hn : n ∈ pgs) (B : ah) (k : bR) : ∃ N', RS m N' (f6 n B x k).1 ∧ (¬ (k.Kind = 22 ∧ (f6 n B x k).2.2.1 = true) → N' = N) := by
 unfold f6
 split
 ·exact ⟨N, h, fun _ => rfl⟩
 split
 ·exact ⟨N, h, fun _ => rfl⟩
 split
 ·exact ⟨N, h, fun _ => rfl⟩
 split
 ·exact ⟨N, tQ h hn B, fun _ => rfl⟩
 split
 ·by_cases h22 : k.Kind = 22
  ·rw [if_pos h22, h.model]; exact ⟨nOf m false, rL hm false, fun e => absurd ⟨h22, rfl⟩ e⟩
  ·rw [if_neg h22]; exact ⟨N, h, fun _ => rfl⟩
 split
 ·exact ⟨N, h, fun _ => rfl⟩
 split
 ·have hb := curI_lt h k.Kind
  exact ⟨N, h.c hb.1 hb.2, fun _ => rfl⟩
 ·exact ⟨N, edit_rs h hn B k, fun _ => rfl⟩
theorem pmovek {m n : Int} {N : Nat} {x : aa} (h : RS m N x) (B : ah) (kind : Int) : eL B (prog x) ⟨n⟩ kind = some (if 5 ≤ kind ∧ kind ≤ 12 then (prog (rC x (nh x kind)), ⟨n⟩, B, true) else (prog x, ⟨n⟩, B, false)) := by
 obtain ⟨hk, hkN⟩ := h.n
 have hl := h.len
 have hle := h.dim.dim.le
 have hS := h.lk.ss
 obtain ⟨rn, cn, r1, r2, r3, b1, b2, b3, b4⟩ := h.dim.dim.cn
 have e1 : x.Size.Rows.toNat = rn := by rw [r1]; rfl
 have e2 : x.Size.Cols.toNat = cn := by rw [r2]; rfl
 have hcur : (prog x).cursor = x.Cursor := rfl
 have z0 : (0 : Int) % (rn : Int) = ((0 : Nat) : Int) := Int.zero_emod _
 have z0' : (0 : Int) % (N : Int) = ((0 : Nat) : Int) := Int.zero_emod _
 have z1 : (1 : Int) % (rn : Int) = ((1 : Nat) : Int) := aS (k := 1) (by omega)
 have z1' : (1 : Int) % (N : Int) = ((1 : Nat) : Int) := aS (k := 1) (by omega)
 have zm : (-1 : Int) % (rn : Int) = ((rn - 1 : Nat) : Int) := by rw [show (-1 : Int) = ((rn - 1 : Nat) : Int) - rn by omega, Int.sub_emod_right, aS (by omega)]
 have zm' : (-1 : Int) % (N : Int) = ((N - 1 : Nat) : Int) := by rw [show (-1 : Int) = ((N - 1 : Nat) : Int) - N by omega, Int.sub_emod_right, aS (by omega)]
 by_cases hr : 5 ≤ kind ∧ kind ≤ 12
 ·rw [if_pos hr]; unfold eL nh; simp only [e1, e2, hl]
  generalize hkk : x.Cursor.toNat = k at hk hkN
  have hc : kind = 5 ∨ kind = 6 ∨ kind = 7 ∨ kind = 8 ∨ kind = 9 ∨ kind = 10 ∨ kind = 11 ∨ kind = 12 := by omega
  have hck : (prog x).cursor = (k : Int) := by rw [hcur, hk]
  have t5 := ptab hS hck hkN
  have t6 := pbtab hS hck hkN
  have t7_ := pline hS r1 r2 r3 hck hkN
  have t8 := phome hS r1 r2 r3
  have t9 := nB hS r1 r2 r3 hck hkN zm z0'
  have t10 := nB hS r1 r2 r3 hck hkN z1 z0'
  have t11 := nB hS r1 r2 r3 hck hkN z0 zm'
  have t12 := nB hS r1 r2 r3 hck hkN z0 z1'
  rcases hc with rfl | rfl | rfl | rfl | rfl | rfl | rfl | rfl
  ·simp only [Int.reduceLT, Int.reduceGT, Int.reduceLE, Int.reduceGE, Int.reduceBEq, Int.reduceBNe, Int.reduceEq, Int.reduceNe, decide_true, decide_false, cond_true, cond_false, Option.bind_some, gt_iff_lt, ge_iff_le, t5]; rfl
  ·simp only [Int.reduceLT, Int.reduceGT, Int.reduceLE, Int.reduceGE, Int.reduceBEq, Int.reduceBNe, Int.reduceEq, Int.reduceNe, decide_true, decide_false, cond_true, cond_false, Option.bind_some, gt_iff_lt, ge_iff_le, t6]; rfl
  ·simp only [Int.reduceLT, Int.reduceGT, Int.reduceLE, Int.reduceGE, Int.reduceBEq, Int.reduceBNe, Int.reduceEq, Int.reduceNe, decide_true, decide_false, cond_true, cond_false, Option.bind_some, gt_iff_lt, ge_iff_le, t7_]; rfl
  ·simp only [Int.reduceLT, Int.reduceGT, Int.reduceLE, Int.reduceGE, Int.reduceBEq, Int.reduceBNe, Int.reduceEq, Int.reduceNe, decide_true, decide_false, cond_true, cond_false, Option.bind_some, gt_iff_lt, ge_iff_le, t8]; rfl
  ·simp only [Int.reduceLT, Int.reduceGT, Int.reduceLE, Int.reduceGE, Int.reduceBEq, Int.reduceBNe, Int.reduceEq, Int.reduceNe, decide_true, decide_false, cond_true, cond_false, Option.bind_some, gt_iff_lt, ge_iff_le, t9]; rfl
  ·simp only [Int.reduceLT, Int.reduceGT, Int.reduceLE, Int.reduceGE, Int.reduceBEq, Int.reduceBNe, Int.reduceEq, Int.reduceNe, decide_true, decide_false, cond_true, cond_false, Option.bind_some, gt_iff_lt, ge_iff_le, t10]; rfl
  ·simp only [Int.reduceLT, Int.reduceGT, Int.reduceLE, Int.reduceGE, Int.reduceBEq, Int.reduceBNe, Int.reduceEq, Int.reduceNe, decide_true, decide_false, cond_true, cond_false, Option.bind_some, gt_iff_lt, ge_iff_le, t11]; rfl
  ·simp only [Int.reduceLT, Int.reduceGT, Int.reduceLE, Int.reduceGE, Int.reduceBEq, Int.reduceBNe, Int.reduceEq, Int.reduceNe, decide_true, decide_false, cond_true, cond_false, Option.bind_some, gt_iff_lt, ge_iff_le, t12]; rfl
 ·rw [if_neg hr]; unfold eL
  simp only [cN (show kind ≠ 5 by omega), cN (show kind ≠ 6 by omega), cN (show kind ≠ 7 by omega), cN (show kind ≠ 8 by omega), cN (show kind ≠ 9 by omega), cN (show kind ≠ 10 by omega), cN (show kind ≠ 11 by omega), cN (show kind ≠ 12 by omega), cond_false]
  rfl
end Go.Vt
set_option linter.unusedVariables false
set_option linter.unusedSimpArgs false
set_option maxRecDepth 100000
namespace Go.Vt
theorem edge1 (K : Int) : ((cond (decide (K < 1)) (some true) (some (decide (K > 22)))) : Option Bool) = some (decide (K < 1 ∨ K > 22)) := by
 by_cases h : K < 1
 ·rw [decide_eq_true h, decide_eq_true (show K < 1 ∨ K > 22 from .inl h)]; rfl
 ·rw [decide_eq_false h]
  by_cases h2 : K > 22
  ·rw [decide_eq_true h2, decide_eq_true (show K < 1 ∨ K > 22 from .inr h2)]; rfl
  ·rw [decide_eq_false h2, decide_eq_false (show ¬ (K < 1 ∨ K > 22) by omega)]; rfl
theorem ti (N : Int) : ((cond (decide (N < 64)) (some true) (some (decide (N > 254)))) : Option Bool) = some (decide (N < 64 ∨ N > 254)) := by
 by_cases h : N < 64
 ·rw [decide_eq_true h, decide_eq_true (show N < 64 ∨ N > 254 from .inl h)]; rfl
 ·rw [decide_eq_false h]
  by_cases h2 : N > 254
  ·rw [decide_eq_true h2, decide_eq_true (show N < 64 ∨ N > 254 from .inr h2)]; rfl
  ·rw [decide_eq_false h2, decide_eq_false (show ¬ (N < 64 ∨ N > 254) by omega)]; rfl
theorem dataN {c : Int} : jP c = !decide (c < 64 ∨ c > 254) := by
 unfold jP
 by_cases h1 : c < 64
 ·rw [decide_eq_false (show ¬ (c ≥ 64) by omega), decide_eq_true (show c < 64 ∨ c > 254 from .inl h1)]; rfl
 ·rw [decide_eq_true (show c ≥ 64 by omega)]
  by_cases h2 : c > 254
  ·rw [decide_eq_false (show ¬ (c < 255) by omega), decide_eq_true (show c < 64 ∨ c > 254 from .inr h2)]; rfl
  ·rw [decide_eq_true (show c < 255 by omega), decide_eq_false (show ¬ (c < 64 ∨ c > 254) by omega)]; rfl
theorem edge3 (N : Int) : ((cond (decide (N < 0)) (some true) (cond (decide (N > 255)) (some true) ((fG (IntKind.wrap .u8 N)).bind fun (d6 : Bool) => some (!d6)))) : Option Bool) = some (decide (N < 64 ∨ N > 254)) := by
 by_cases h : N < 0
 ·rw [decide_eq_true h, decide_eq_true (show N < 64 ∨ N > 254 by omega)]; rfl
 ·rw [decide_eq_false h]
  by_cases h2 : N > 255
  ·rw [decide_eq_true h2, decide_eq_true (show N < 64 ∨ N > 254 by omega)]; rfl
  ·rw [decide_eq_false h2, nR ⟨by omega, by omega⟩, pdata, dataN]; simp
theorem cdI_data (n z : Int) : decide (cdI n z < 0 ∨ jP (cdI n z) = false) = decide (cdI n z < 64 ∨ cdI n z > 254) := by
 rw [dataN]
 by_cases h : cdI n z < 64 ∨ cdI n z > 254
 ·rw [decide_eq_true h]; simp
 ·have := not_or.1 h
  rw [decide_eq_false h]; simp; omega
theorem pchar {m n : Int} {N : Nat} {x : aa} (h : RS m N x) (hn : n ∈ pgs) (B : ah) (z : Int) : fE B (prog x) ⟨n⟩ z = some (if cdI n z < 0 ∨ jP (cdI n z) = false then (prog x, ⟨n⟩, B, 12) else (prog (gj n B x (cdI n z)).1, ⟨n⟩, (gj n B x (cdI n z)).2.1, (gj n B x (cdI n z)).2.2)) := by
 unfold fE; rw [pcode hn]
 by_cases h0 : cdI n z < 0
 ·rw [if_pos h0, if_pos (.inl h0)]; rfl
 ·rw [if_neg h0]; simp only [Option.bind_some, Bool.not_true, cond_false, pdata]
  cases hd : jP (cdI n z) with
  | false => rw [if_pos (.inr rfl)]; rfl
  | true =>
   rw [if_neg (by rintro (e | e); exact h0 e; cases e)]
   simp only [Bool.not_true, cond_false]
   rw [qo h hn (nZ (by omega))]; rfl
theorem pentered {m n : Int} {N : Nat} {x : aa} (h : RS m N x) (hn : n ∈ pgs) (B : ah) (k : bR) (hk : (1 ≤ k.Kind ∧ k.Kind ≤ 4) ∨ (13 ≤ k.Kind ∧ k.Kind ≤ 16)) : eF B (prog x) ⟨n⟩ k = some (prog (jq n B x k).1, ⟨n⟩, (jq n B x k).2.1, (jq n B x k).2.2) := by
 obtain ⟨K, S, Nn⟩ := k; obtain ⟨hc, hcN⟩ := h.n
 have hl := h.len
 have hle := h.dim.dim.le
 have hS := h.lk.ss
 have hcur : (prog x).cursor = x.Cursor := rfl
 have hcell : (prog x).cells = x.L := rfl
 obtain ⟨rn, cn, r1, r2, r3, b1, b2, b3, b4⟩ := h.dim.dim.cn
 have e2 : x.Size.Cols.toNat = cn := by rw [r2]; rfl
 have hi : I64 x.Cursor := by have := h.cur; constructor <;> omega
 have hm' : x.Cursor % (N : Int) = ((x.Cursor.toNat : Nat) : Int) := by
  have := h.cur
  rw [Int.emod_eq_of_lt this.1 (by omega)]; exact hc
 have hBe : (⟨B.lock, B.inserts, B.aid⟩ : ah) = B := rfl
 have hK : K = 1 ∨ K = 2 ∨ K = 3 ∨ K = 4 ∨ K = 13 ∨ K = 14 ∨ K = 15 ∨ K = 16 := by simp only at hk; omega
 unfold eF aW jq; rcases hK with rfl | rfl | rfl | rfl | rfl | rfl | rfl | rfl
 ·simp only [Int.reduceLT, Int.reduceGT, Int.reduceLE, Int.reduceGE, Int.reduceBEq, Int.reduceBNe, Int.reduceEq, Int.reduceNe, decide_true, decide_false, cond_true, cond_false, Option.bind_some, gt_iff_lt, ge_iff_le, pchar h hn, if_true]
  by_cases hq : cdI n S < 0 ∨ jP (cdI n S) = false
  ·rw [if_pos hq, if_pos hq]; rfl
  ·rw [if_neg hq, if_neg hq]; rfl
 ·simp only [Int.reduceLT, Int.reduceGT, Int.reduceLE, Int.reduceGE, Int.reduceBEq, Int.reduceBNe, Int.reduceEq, Int.reduceNe, decide_true, decide_false, cond_true, cond_false, Option.bind_some, gt_iff_lt, ge_iff_le, edge3, if_false, if_true]
  by_cases hq : Nn < 64 ∨ Nn > 254
  ·rw [decide_eq_true hq, if_pos hq]; rfl
  ·have hb : By Nn := ⟨by omega, by omega⟩
   rw [decide_eq_false hq, if_neg hq]; simp only [cond_false, nR hb]; rw [qo h hn hb]; rfl
 ·simp only [Int.reduceLT, Int.reduceGT, Int.reduceLE, Int.reduceGE, Int.reduceBEq, Int.reduceBNe, Int.reduceEq, Int.reduceNe, decide_true, decide_false, cond_true, cond_false, Option.bind_some, gt_iff_lt, ge_iff_le, if_false, if_true]
  rw [qo h hn ⟨by decide, by decide⟩]; rfl
 ·simp only [Int.reduceLT, Int.reduceGT, Int.reduceLE, Int.reduceGE, Int.reduceBEq, Int.reduceBNe, Int.reduceEq, Int.reduceNe, decide_true, decide_false, cond_true, cond_false, Option.bind_some, gt_iff_lt, ge_iff_le, if_false, if_true]
  rw [qo h hn ⟨by decide, by decide⟩]; rfl
 ·simp only [Int.reduceLT, Int.reduceGT, Int.reduceLE, Int.reduceGE, Int.reduceBEq, Int.reduceBNe, Int.reduceEq, Int.reduceNe, decide_true, decide_false, cond_true, cond_false, Option.bind_some, gt_iff_lt, ge_iff_le, if_false, if_true]; rw [show (prog x).cursor = x.Cursor from rfl, pdel hS (cn := cn) r2 hm' hcN hi]; rw [show (prog x).cells = x.L from rfl, e2]
  cases ft x.L x.Cursor.toNat <;> rfl
 ·simp only [Int.reduceLT, Int.reduceGT, Int.reduceLE, Int.reduceGE, Int.reduceBEq, Int.reduceBNe, Int.reduceEq, Int.reduceNe, decide_true, decide_false, cond_true, cond_false, Option.bind_some, gt_iff_lt, ge_iff_le, if_false, if_true]; rw [show (prog x).cursor = x.Cursor from rfl, pend hS hm' hcN]; rw [show (prog x).cells = x.L from rfl]
  cases ft x.L x.Cursor.toNat <;> rfl
 ·simp only [Int.reduceLT, Int.reduceGT, Int.reduceLE, Int.reduceGE, Int.reduceBEq, Int.reduceBNe, Int.reduceEq, Int.reduceNe, decide_true, decide_false, cond_true, cond_false, Option.bind_some, gt_iff_lt, ge_iff_le, if_false, if_true]; rw [pera hS, show (prog x).cells = x.L from rfl, hl]; rfl
 ·simp only [Int.reduceLT, Int.reduceGT, Int.reduceLE, Int.reduceGE, Int.reduceBEq, Int.reduceBNe, Int.reduceEq, Int.reduceNe, decide_true, decide_false, cond_true, cond_false, Option.bind_some, gt_iff_lt, ge_iff_le, if_false]; rfl
theorem ql {m n : Int} {N : Nat} {x : aa} (hm : kT m) (h : RS m N x) (hn : n ∈ pgs) (B : ah) (k : bR) : bB B (prog x) ⟨n⟩ k = some (prog (f6 n B x k).1, ⟨n⟩, (f6 n B x k).2.1, (f6 n B x k).2.2.1, (f6 n B x k).2.2.2) := by
 unfold bB f6; rw [(sr k).1, edge1]; simp only [Option.bind_some]
 by_cases hr : k.Kind < 1 ∨ k.Kind > 22
 ·rw [decide_eq_true hr, if_pos hr]; rfl
 rw [decide_eq_false hr, if_neg hr]; simp only [cond_false]
 by_cases h17 : k.Kind = 17
 ·rw [jA h17, if_pos h17]; unfold gc; simp only [cond_true]
  by_cases hl : B.lock = 1
  ·rw [if_pos hl, nw hl]; simp only [cond_false, Option.bind_some]; rw [hl]
  ·rw [if_neg hl, nv hl]; rfl
 rw [cN h17, if_neg h17]; simp only [cond_false]
 by_cases hl : B.lock = 0
 ·rw [nw hl, if_neg (show ¬ (B.lock ≠ 0) from fun e => e hl)]; simp only [cond_false]
  by_cases h18 : k.Kind = 18
  ·rw [jA h18, if_pos h18]; simp only [cond_true, pchoose h hn, Option.bind_some]
  rw [cN h18, if_neg h18]; simp only [cond_false]
  cases hs : cX k with
  | true =>
   simp only [cond_true, if_true]
   by_cases h22 : k.Kind = 22
   ·rw [jA h22, if_pos h22]; simp only [cond_true, (pi hm (s := prog x) h.model false).1, Option.bind_some, h.model]
    rfl
   ·rw [cN h22, if_neg h22]
    rfl
  | false =>
   simp only [cond_false, Bool.false_eq_true, if_false]
   have hq : ((cond (k.Kind == 20) (some true) (some (k.Kind == 21))) : Option Bool) = some (decide (k.Kind = 20 ∨ k.Kind = 21)) := by
    by_cases h20 : k.Kind = 20
    ·rw [jA h20, decide_eq_true (.inl h20)]; rfl
    ·rw [cN h20]
     by_cases h21 : k.Kind = 21
     ·rw [jA h21, decide_eq_true (.inr h21)]; rfl
     ·rw [cN h21, decide_eq_false (by rintro (e | e); exact h20 e; exact h21 e)]; rfl
   rw [hq]; simp only [Option.bind_some]
   by_cases h2 : k.Kind = 20 ∨ k.Kind = 21
   ·rw [decide_eq_true h2, if_pos h2]; rfl
   ·rw [decide_eq_false h2, if_neg h2]; simp only [cond_false, pmovek h]
    by_cases h5 : 5 ≤ k.Kind ∧ k.Kind ≤ 12
    ·rw [if_pos h5, if_pos h5]; rfl
    ·rw [if_neg h5, if_neg h5]; simp only [Option.bind_some, cond_false]
     have h19 : k.Kind ≠ 19 := by
      intro e; unfold cX at hs; rw [e] at hs
      simp at hs
     have h22 : k.Kind ≠ 22 := by
      intro e; unfold cX at hs; rw [e] at hs
      simp at hs
     rw [pentered h hn B k (by omega)]
     rfl
 ·rw [nv hl, if_pos hl]; rfl
theorem rpress {m n : Int} {N : Nat} {x : aa} (hm : kT m) (h : RS m N x) (hn : n ∈ pgs) (B : ah) (k : bR) : dF ⟨n, B.lock, B.inserts, B.aid⟩ x ⟨k.Kind, k.Sign, k.N⟩ = some ((f6 n B x k).1, ⟨n, (f6 n B x k).2.1.lock, (f6 n B x k).2.1.inserts, (f6 n B x k).2.1.aid⟩, (f6 n B x k).2.2.1, (f6 n B x k).2.2.2) := by
 have haid := (sr k).2.1
 have haid2 := (sr k).2.2
 obtain ⟨K, S, Nn⟩ := k; obtain ⟨hc, hcN⟩ := h.n
 have hl := h.len
 have hle := h.dim.dim.le
 obtain ⟨rn, cn, r1, r2, r3, b1, b2, b3, b4⟩ := h.dim.dim.cn
 have e1 : x.Size.Rows.toNat = rn := by rw [r1]; rfl
 have e2 : x.Size.Cols.toNat = cn := by rw [r2]; rfl
 have hm' : x.Cursor % (N : Int) = ((x.Cursor.toNat : Nat) : Int) := by
  have := h.cur
  rw [Int.emod_eq_of_lt this.1 (by omega)]; exact hc
 have hx : (⟨x.Model, x.Alt, x.Size, x.L, x.Cursor⟩ : aa) = x := rfl
 have z0 : (0 : Int) % (rn : Int) = ((0 : Nat) : Int) := Int.zero_emod _
 have z0' : (0 : Int) % (N : Int) = ((0 : Nat) : Int) := Int.zero_emod _
 have z1 : (1 : Int) % (rn : Int) = ((1 : Nat) : Int) := aS (k := 1) (by omega)
 have z1' : (1 : Int) % (N : Int) = ((1 : Nat) : Int) := aS (k := 1) (by omega)
 have zm : (-1 : Int) % (rn : Int) = ((rn - 1 : Nat) : Int) := by rw [show (-1 : Int) = ((rn - 1 : Nat) : Int) - rn by omega, Int.sub_emod_right, aS (by omega)]
 have zm' : (-1 : Int) % (N : Int) = ((N - 1 : Nat) : Int) := by rw [show (-1 : Int) = ((N - 1 : Nat) : Int) - N by omega, Int.sub_emod_right, aS (by omega)]
 have t5 := rdo0 h r1 r2 r3 hc hcN
 have t6 := rdo1 h r1 r2 r3 hc hcN
 have t7_ := rdo2 h r1 r2 r3 hc hcN
 have t8 := rdo3 h r1 r2 r3 hc hcN
 have t9 := rdo4 h r1 r2 r3 hc hcN zm z0'
 have t10 := rdo4 h r1 r2 r3 hc hcN z1 z0'
 have t11 := rdo4 h r1 r2 r3 hc hcN z0 zm'
 have t12 := rdo4 h r1 r2 r3 hc hcN z0 z1'
 have hBe : (⟨B.lock, B.inserts, B.aid⟩ : ah) = B := rfl
 unfold dF f6; rw [edge1]; simp only [Option.bind_some]
 by_cases hr : K < 1 ∨ K > 22
 ·rw [decide_eq_true hr, if_pos hr]; rfl
 rw [decide_eq_false hr, if_neg hr]; simp only [cond_false]
 by_cases h17 : K = 17
 ·subst h17; simp only [Int.reduceLT, Int.reduceGT, Int.reduceLE, Int.reduceGE, Int.reduceBEq, Int.reduceBNe, Int.reduceEq, Int.reduceNe, decide_true, decide_false, cond_true, cond_false, Option.bind_some, gt_iff_lt, ge_iff_le, if_true]
  by_cases hl : B.lock = 1
  ·rw [if_pos hl, nw hl]; simp only [cond_false, Option.bind_some]; rw [hl]
  ·rw [if_neg hl, nv hl]; rfl
 rw [cN h17, if_neg h17]; simp only [cond_false]
 by_cases hl0 : B.lock = 0
 case neg => rw [nv hl0, if_pos hl0]; rfl
 rw [nw hl0, if_neg (show ¬ (B.lock ≠ 0) from fun e => e hl0)]; simp only [cond_false, hx]
 have hK : K = 1 ∨ K = 2 ∨ K = 3 ∨ K = 4 ∨ K = 5 ∨ K = 6 ∨ K = 7 ∨ K = 8 ∨ K = 9 ∨ K = 10 ∨ K = 11 ∨ K = 12 ∨ K = 13 ∨ K = 14 ∨ K = 15 ∨ K = 16 ∨ K = 18 ∨ K = 19 ∨ K = 20 ∨ K = 21 ∨ K = 22 := by omega
 rcases hK with rfl | rfl | rfl | rfl | rfl | rfl | rfl | rfl | rfl | rfl | rfl | rfl | rfl | rfl | rfl | rfl | rfl | rfl | rfl | rfl | rfl
 ·have hsb : cX ⟨1, S, Nn⟩ = false := rfl
  simp only [Int.reduceLT, Int.reduceGT, Int.reduceLE, Int.reduceGE, Int.reduceBEq, Int.reduceBNe, Int.reduceEq, Int.reduceNe, decide_true, decide_false, cond_true, cond_false, Option.bind_some, gt_iff_lt, ge_iff_le, hsb, if_false, if_true, Bool.false_eq_true, false_or, or_false, false_and, and_false, rcode hn, ti, jq]
  have hd := cdI_data n S
  by_cases hq : cdI n S < 0 ∨ jP (cdI n S) = false
  ·rw [decide_eq_true hq] at hd; rw [← hd, if_pos hq]; rfl
  ·rw [decide_eq_false hq] at hd
   have hb : By (cdI n S) := nZ (by have := not_or.1 hq; omega)
   rw [← hd, if_neg hq]; simp only [cond_false, nR hb]; rw [qh h hn hb]; rfl
 ·have hsb : cX ⟨2, S, Nn⟩ = false := rfl
  simp only [Int.reduceLT, Int.reduceGT, Int.reduceLE, Int.reduceGE, Int.reduceBEq, Int.reduceBNe, Int.reduceEq, Int.reduceNe, decide_true, decide_false, cond_true, cond_false, Option.bind_some, gt_iff_lt, ge_iff_le, hsb, if_false, if_true, Bool.false_eq_true, false_or, or_false, false_and, and_false, ti, jq]
  by_cases hq : Nn < 64 ∨ Nn > 254
  ·rw [decide_eq_true hq, if_pos hq]; rfl
  ·have hb : By Nn := ⟨by omega, by omega⟩
   rw [decide_eq_false hq, if_neg hq]; simp only [cond_false, nR hb]; rw [qh h hn hb]; rfl
 ·have hsb : cX ⟨3, S, Nn⟩ = false := rfl
  simp only [Int.reduceLT, Int.reduceGT, Int.reduceLE, Int.reduceGE, Int.reduceBEq, Int.reduceBNe, Int.reduceEq, Int.reduceNe, decide_true, decide_false, cond_true, cond_false, Option.bind_some, gt_iff_lt, ge_iff_le, hsb, if_false, if_true, Bool.false_eq_true, false_or, or_false, false_and, and_false, ti, jq]
  rw [qh h hn ⟨by decide, by decide⟩]; rfl
 ·have hsb : cX ⟨4, S, Nn⟩ = false := rfl
  simp only [Int.reduceLT, Int.reduceGT, Int.reduceLE, Int.reduceGE, Int.reduceBEq, Int.reduceBNe, Int.reduceEq, Int.reduceNe, decide_true, decide_false, cond_true, cond_false, Option.bind_some, gt_iff_lt, ge_iff_le, hsb, if_false, if_true, Bool.false_eq_true, false_or, or_false, false_and, and_false, ti, jq]
  rw [qh h hn ⟨by decide, by decide⟩]; rfl
 ·have hsb : cX ⟨5, S, Nn⟩ = false := rfl
  simp only [Int.reduceLT, Int.reduceGT, Int.reduceLE, Int.reduceGE, Int.reduceBEq, Int.reduceBNe, Int.reduceEq, Int.reduceNe, decide_true, decide_false, cond_true, cond_false, Option.bind_some, gt_iff_lt, ge_iff_le, hsb, if_false, if_true, Bool.false_eq_true, false_or, or_false, false_and, and_false, and_self, true_and, nh, e1, e2, hl, show IntKind.wrap .u8 (w64 (5 - 5)) = 0 from by decide, t5, jn, Bool.not_true]
 ·have hsb : cX ⟨6, S, Nn⟩ = false := rfl
  simp only [Int.reduceLT, Int.reduceGT, Int.reduceLE, Int.reduceGE, Int.reduceBEq, Int.reduceBNe, Int.reduceEq, Int.reduceNe, decide_true, decide_false, cond_true, cond_false, Option.bind_some, gt_iff_lt, ge_iff_le, hsb, if_false, if_true, Bool.false_eq_true, false_or, or_false, false_and, and_false, and_self, true_and, nh, e1, e2, hl, show IntKind.wrap .u8 (w64 (6 - 5)) = 1 from by decide, t6, jn, Bool.not_true]
 ·have hsb : cX ⟨7, S, Nn⟩ = false := rfl
  simp only [Int.reduceLT, Int.reduceGT, Int.reduceLE, Int.reduceGE, Int.reduceBEq, Int.reduceBNe, Int.reduceEq, Int.reduceNe, decide_true, decide_false, cond_true, cond_false, Option.bind_some, gt_iff_lt, ge_iff_le, hsb, if_false, if_true, Bool.false_eq_true, false_or, or_false, false_and, and_false, and_self, true_and, nh, e1, e2, hl, show IntKind.wrap .u8 (w64 (7 - 5)) = 2 from by decide, t7_, jn, Bool.not_true]
 ·have hsb : cX ⟨8, S, Nn⟩ = false := rfl
  simp only [Int.reduceLT, Int.reduceGT, Int.reduceLE, Int.reduceGE, Int.reduceBEq, Int.reduceBNe, Int.reduceEq, Int.reduceNe, decide_true, decide_false, cond_true, cond_false, Option.bind_some, gt_iff_lt, ge_iff_le, hsb, if_false, if_true, Bool.false_eq_true, false_or, or_false, false_and, and_false, and_self, true_and, nh, e1, e2, hl, show IntKind.wrap .u8 (w64 (8 - 5)) = 3 from by decide, t8, jn, Bool.not_true]
 ·have hsb : cX ⟨9, S, Nn⟩ = false := rfl
  simp only [Int.reduceLT, Int.reduceGT, Int.reduceLE, Int.reduceGE, Int.reduceBEq, Int.reduceBNe, Int.reduceEq, Int.reduceNe, decide_true, decide_false, cond_true, cond_false, Option.bind_some, gt_iff_lt, ge_iff_le, hsb, if_false, if_true, Bool.false_eq_true, false_or, or_false, false_and, and_false, and_self, true_and, nh, e1, e2, hl, t9, jn, Bool.not_true]
 ·have hsb : cX ⟨10, S, Nn⟩ = false := rfl
  simp only [Int.reduceLT, Int.reduceGT, Int.reduceLE, Int.reduceGE, Int.reduceBEq, Int.reduceBNe, Int.reduceEq, Int.reduceNe, decide_true, decide_false, cond_true, cond_false, Option.bind_some, gt_iff_lt, ge_iff_le, hsb, if_false, if_true, Bool.false_eq_true, false_or, or_false, false_and, and_false, and_self, true_and, nh, e1, e2, hl, t10, jn, Bool.not_true]
 ·have hsb : cX ⟨11, S, Nn⟩ = false := rfl
  simp only [Int.reduceLT, Int.reduceGT, Int.reduceLE, Int.reduceGE, Int.reduceBEq, Int.reduceBNe, Int.reduceEq, Int.reduceNe, decide_true, decide_false, cond_true, cond_false, Option.bind_some, gt_iff_lt, ge_iff_le, hsb, if_false, if_true, Bool.false_eq_true, false_or, or_false, false_and, and_false, and_self, true_and, nh, e1, e2, hl, t11, jn, Bool.not_true]
 ·have hsb : cX ⟨12, S, Nn⟩ = false := rfl
  simp only [Int.reduceLT, Int.reduceGT, Int.reduceLE, Int.reduceGE, Int.reduceBEq, Int.reduceBNe, Int.reduceEq, Int.reduceNe, decide_true, decide_false, cond_true, cond_false, Option.bind_some, gt_iff_lt, ge_iff_le, hsb, if_false, if_true, Bool.false_eq_true, false_or, or_false, false_and, and_false, and_self, true_and, nh, e1, e2, hl, t12, jn, Bool.not_true]
 ·have hsb : cX ⟨13, S, Nn⟩ = false := rfl
  simp only [Int.reduceLT, Int.reduceGT, Int.reduceLE, Int.reduceGE, Int.reduceBEq, Int.reduceBNe, Int.reduceEq, Int.reduceNe, decide_true, decide_false, cond_true, cond_false, Option.bind_some, gt_iff_lt, ge_iff_le, hsb, if_false, if_true, Bool.false_eq_true, false_or, or_false, false_and, and_false, and_self, true_and, jq, e2, rdel h r2 hm' hcN]
  cases ft x.L x.Cursor.toNat <;> rfl
 ·have hsb : cX ⟨14, S, Nn⟩ = false := rfl
  simp only [Int.reduceLT, Int.reduceGT, Int.reduceLE, Int.reduceGE, Int.reduceBEq, Int.reduceBNe, Int.reduceEq, Int.reduceNe, decide_true, decide_false, cond_true, cond_false, Option.bind_some, gt_iff_lt, ge_iff_le, hsb, if_false, if_true, Bool.false_eq_true, false_or, or_false, false_and, and_false, and_self, true_and, jq, e2, rend h hm' hcN]
  cases ft x.L x.Cursor.toNat <;> rfl
 ·have hsb : cX ⟨15, S, Nn⟩ = false := rfl
  simp only [Int.reduceLT, Int.reduceGT, Int.reduceLE, Int.reduceGE, Int.reduceBEq, Int.reduceBNe, Int.reduceEq, Int.reduceNe, decide_true, decide_false, cond_true, cond_false, Option.bind_some, gt_iff_lt, ge_iff_le, hsb, if_false, if_true, Bool.false_eq_true, false_or, or_false, false_and, and_false, and_self, true_and, jq, rera h, hl]
  rfl
 ·have hsb : cX ⟨16, S, Nn⟩ = false := rfl
  simp only [Int.reduceLT, Int.reduceGT, Int.reduceLE, Int.reduceGE, Int.reduceBEq, Int.reduceBNe, Int.reduceEq, Int.reduceNe, decide_true, decide_false, cond_true, cond_false, Option.bind_some, gt_iff_lt, ge_iff_le, hsb, if_false, if_true, Bool.false_eq_true, false_or, or_false, false_and, and_false, and_self, true_and, jq]
  rfl
 ·simp only [Int.reduceLT, Int.reduceGT, Int.reduceLE, Int.reduceGE, Int.reduceBEq, Int.reduceBNe, Int.reduceEq, Int.reduceNe, decide_true, decide_false, cond_true, cond_false, Option.bind_some, gt_iff_lt, ge_iff_le, if_true, rchoose h hn]
  rfl
 ·have hsb : cX ⟨19, S, Nn⟩ = true := rfl
  rw [if_pos hsb] at haid; simp only [Int.reduceLT, Int.reduceGT, Int.reduceLE, Int.reduceGE, Int.reduceBEq, Int.reduceBNe, Int.reduceEq, Int.reduceNe, decide_true, decide_false, cond_true, cond_false, Option.bind_some, gt_iff_lt, ge_iff_le, hsb, if_false, if_true, haid]
  rfl
 ·simp only [Int.reduceLT, Int.reduceGT, Int.reduceLE, Int.reduceGE, Int.reduceBEq, Int.reduceBNe, Int.reduceEq, Int.reduceNe, decide_true, decide_false, cond_true, cond_false, Option.bind_some, gt_iff_lt, ge_iff_le, if_false, haid]
  cases hsb : cX ⟨20, S, Nn⟩ with
  | true =>
   simp only [if_true, if_neg (show ¬ ((20 : Int) = 22) by decide), cN (haid2 hsb), cond_false, ct, Option.bind_some]
   try rfl
  | false =>
   simp only [Bool.false_eq_true, if_false]
   rfl
 ·simp only [Int.reduceLT, Int.reduceGT, Int.reduceLE, Int.reduceGE, Int.reduceBEq, Int.reduceBNe, Int.reduceEq, Int.reduceNe, decide_true, decide_false, cond_true, cond_false, Option.bind_some, gt_iff_lt, ge_iff_le, if_false, haid]
  cases hsb : cX ⟨21, S, Nn⟩ with
  | true =>
   simp only [if_true, if_neg (show ¬ ((20 : Int) = 22) by decide), cN (haid2 hsb), cond_false, ct, Option.bind_some]
   try rfl
  | false =>
   simp only [Bool.false_eq_true, if_false]
   rfl
 ·have hsb : cX ⟨22, S, Nn⟩ = true := rfl
  rw [if_pos hsb] at haid; simp only [Int.reduceLT, Int.reduceGT, Int.reduceLE, Int.reduceGE, Int.reduceBEq, Int.reduceBNe, Int.reduceEq, Int.reduceNe, decide_true, decide_false, cond_true, cond_false, Option.bind_some, gt_iff_lt, ge_iff_le, hsb, if_false, if_true, haid, (ny hm h.model false).1, h.model]
  rfl
end Go.Vt
set_option linter.unusedVariables false
set_option linter.unusedSimpArgs false
set_option maxRecDepth 100000
namespace Go.Vt
theorem tS (c : ae) : ((c.Char == c.Char) && ((c.Attr == c.Attr) && ((c.FA == c.FA) && ((c.High == c.High) && ((c.Color == c.Color) && ((c.f_Set == c.f_Set) && true)))))) = true := by
 simp only [beq_self_eq_true, Bool.and_self]
theorem same18 {m n : Int} {N : Nat} {x : aa} (h : RS m N x) (B : ah) (p : az) : dB B (prog x) p ⟨n, B.lock, B.inserts, B.aid⟩ x = some true := by
 have hl := h.len
 have hle := h.dim.dim.le
 have hS := h.lk.ss
 have key : da (prog x) x bw 0 = some (.inl ()) := by
  refine cw (fun i => (i : Int)) N (by omega) (fun k i hi => ?_) (fun k => ?_)
  ·rw [da.eq_2]
   have d1 : decide ((i : Int) < (x.L.length : Int)) = true := decide_eq_true (by omega)
   simp only [d1, cond_true]
   rw [aX (by omega), iC hS, aS hi, gp (by omega)]
   have hc : (prog x).cells = x.L := rfl
   simp only [Option.bind_some, hc, tS, Bool.not_true, cond_false]
  ·rw [da.eq_2]
   have d1 : decide ((N : Int) < (x.L.length : Int)) = false := decide_eq_false (by omega)
   simp only [d1, cond_false]
 unfold dB aW eK dR dK eu; rw [key]
 have h1 : (prog x).cursor = x.Cursor := rfl
 have h2 : (prog x).alternate = x.Alt := rfl
 simp only [jn, Option.bind_some, h1, h2, beq_self_eq_true, cond_true]
theorem copy18 {s : ad} (hl : s.cells.length ≤ 68719476736) : ep s = some s := by
 unfold ep iG
 rw [aX (by simpa using hl)]
 rfl
def keyP (k : bh) : bR := ⟨k.Kind, k.Sign, k.N⟩
def oz (n : Int) (s : ah × aa) (k : bh) : ah × aa :=
 if k.Kind = -1 then (⟨0, s.1.inserts, 96⟩, s.2) else if k.Kind = -2 then ({ s.1 with lock := 1 }, s.2) else ((f6 n s.1 s.2 (keyP k)).2.1, (f6 n s.1 s.2 (keyP k)).1)
theorem stepK_rs {m n : Int} (hm : kT m) (hn : n ∈ pgs) {s : ah × aa} (h : ∃ N, RS m N s.2) (k : bh) : ∃ N, RS m N (oz n s k).2 := by
 unfold oz
 split
 ·exact h
 split
 ·exact h
 ·obtain ⟨N, h⟩ := h; obtain ⟨N', h', _⟩ := oL hm h hn s.1 (keyP k); exact ⟨N', h'⟩
def mg (n : Int) (s : ah × aa) (l : List bh) (i : Nat) : ah × aa := (l.take i).foldl (oz n) s
theorem tb {n : Int} {s : ah × aa} {l : List bh} {i : Nat} (hi : i < l.length) : mg n s l (i + 1) = oz n (mg n s l i) l[i] := by
 unfold mg; rw [List.take_succ_eq_append_getElem hi, List.foldl_append]; rfl
theorem o4 {m n : Int} (hm : kT m) (hn : n ∈ pgs) {s : ah × aa} (h : ∃ N, RS m N s.2) (l : List bh) : ∀ i, i ≤ l.length → ∃ N, RS m N (mg n s l i).2
 | 0, _ => h
 | i + 1, hi => by
  rw [tb (by omega)]
  exact stepK_rs hm hn (o4 hm hn h l i (by omega)) _
abbrev T21 := Int × Int × Bool × Int × Int × Bool × Int × Int × (List ae) × Int × Int × Int × Bool × Int × Int × Bool × Int × Int × (List ae) × Int × Int
def tK (n : Int) (B : ah) (x : aa) : T21 := (n, B.lock, B.inserts, B.aid, (prog x).model, (prog x).alternate, (prog x).size.Rows, (prog x).size.Cols, (prog x).cells, (prog x).cursor, (prog x).attrs, B.lock, B.inserts, B.aid, x.Model, x.Alt, x.Size.Rows, x.Size.Cols, x.L, x.Cursor, n)
theorem tC {m n : Int} {N : Nat} (hm : kT m) (hn : n ∈ pgs) {x : aa} (h : RS m N x) (B : ah) {l : List bh} {i : Nat} (hi : i < l.length) (h30 : i < 30) (k : Nat) :
  bH l (k + 1) ((i : Int), tK n B x) = bH l k (((i + 1 : Nat) : Int), tK n (oz n (B, x) l[i]).1 (oz n (B, x) l[i]).2) := by
 rw [bH.eq_2]
 have d1 : decide ((i : Int) < (l.length : Int)) = true := decide_eq_true (by omega)
 have d2 : decide ((i : Int) ≥ 30) = false := decide_eq_false (by omega)
 simp only [d1, d2, cond_true, cond_false]
 rw [aX (by omega), gp (by omega), rdn hi]
 unfold oz
 by_cases h1 : l[i].Kind = -1
 ·rw [jA h1, if_pos h1]; rfl
 rw [cN h1, if_neg h1]
 by_cases h2 : l[i].Kind = -2
 ·rw [jA h2, if_pos h2]; rfl
 rw [cN h2, if_neg h2]
 have hP := ql hm h hn B (keyP l[i])
 have hR := rpress hm h hn B (keyP l[i])
 have hP' : bB ⟨B.lock, B.inserts, B.aid⟩ ⟨(prog x).model, (prog x).alternate, ⟨(prog x).size.Rows, (prog x).size.Cols⟩, (prog x).cells, (prog x).cursor, (prog x).attrs⟩ ⟨n⟩ ⟨l[i].Kind, l[i].Sign, l[i].N⟩ = _ := hP
 have hR' : dF ⟨n, B.lock, B.inserts, B.aid⟩ ⟨x.Model, x.Alt, ⟨x.Size.Rows, x.Size.Cols⟩, x.L, x.Cursor⟩ l[i] = _ := hR
 have hc : ∀ y : aa, (prog y).cursor = y.Cursor := fun _ => rfl
 simp only [cond_false, tK, hP', hR', Option.bind_some]; simp only [Option.bind_some, dR, dK, eu, aW, hc, beq_self_eq_true, bne_self_eq_false, Bool.not_true, cond_false, jn]
theorem tD {m n : Int} (hm : kT m) (hn : n ∈ pgs) {x : aa} (h : ∃ N, RS m N x) (B : ah) (l : List bh) :
  bH l bw (0, tK n B x) = some (.inl (tK n (mg n (B, x) l (min l.length 30)).1 (mg n (B, x) l (min l.length 30)).2)) := by
 refine cw (fun i => ((i : Int), tK n (mg n (B, x) l i).1 (mg n (B, x) l i).2)) (min l.length 30) (by omega) (fun k i hi => ?_) (fun k => ?_)
 ·obtain ⟨N, hr⟩ := o4 hm hn (s := (B, x)) h l i (by omega)
  have := tC hm hn hr (mg n (B, x) l i).1 (l := l) (i := i) (by omega) (by omega) k
  rw [this, tb (show i < l.length by omega)]
 ·rw [bH.eq_2]
  by_cases h3 : l.length ≤ 30
  ·rw [Nat.min_eq_left h3]
   have d1 : decide ((l.length : Int) < (l.length : Int)) = false := decide_eq_false (by omega)
   simp only [d1, cond_false]
   try rfl
  ·rw [Nat.min_eq_right (by omega)]
   have d1 : decide (((30 : Nat) : Int) < (l.length : Int)) = true := decide_eq_true (by omega)
   have d2 : decide (((30 : Nat) : Int) ≥ 30) = true := by decide
   simp only [d1, d2, cond_true]
   rw [aX (by omega)]; rfl
theorem pB (p0 p1 : Int) (p2 : List aM) (p3 : List bh) (h0 : By p0) (h1 : By p1) (h2 : ∀ a ∈ p2, AOk a) (l2 : p2.length ≤ 9223372036854775807) : dJ p0 p1 p2 p3 = some true := by
 obtain ⟨N, x, hx, hr, hlay⟩ := jv h0 h1 h2 l2; obtain ⟨_, hm⟩ := sT h0
 have hn := sM p1
 generalize 2 + p0 % 4 = m at hr hm
 generalize pgN p1 = n at hlay hn
 unfold dJ; rw [awake18, hlay]; simp only [Option.bind_some, Bool.not_true, cond_false]
 have hloop := tD hm hn ⟨N, hr⟩ ⟨0, false, 96⟩ p3
 change (jn (bH p3 bw (0, tK n ⟨0, false, 96⟩ x)) _) = _; rw [hloop]
 obtain ⟨N', hr'⟩ := o4 hm hn (s := (⟨0, false, 96⟩, x)) ⟨N, hr⟩ p3 (min p3.length 30) (by omega)
 generalize mg n (⟨0, false, 96⟩, x) p3 (min p3.length 30) = s at hr' ⊢
 obtain ⟨B, y⟩ := s; clear hx hr hlay hloop; simp only at hr'
 have hl := hr'.len
 have hle := hr'.dim.dim.le
 have c1 : ep ⟨(prog y).model, (prog y).alternate, ⟨(prog y).size.Rows, (prog y).size.Cols⟩, (prog y).cells, (prog y).cursor, (prog y).attrs⟩ = some (prog y) := copy18 (s := prog y) (by show y.L.length ≤ _; omega)
 simp only [jn, tK, c1, Option.bind_some, gD, fR]
 have s1 : ∀ p, dB ⟨B.lock, B.inserts, B.aid⟩ ⟨(prog y).model, (prog y).alternate, ⟨(prog y).size.Rows, (prog y).size.Cols⟩, (prog y).cells, (prog y).cursor, (prog y).attrs⟩ p ⟨n, B.lock, B.inserts, B.aid⟩ ⟨y.Model, y.Alt, ⟨y.Size.Rows, y.Size.Cols⟩, y.L, y.Cursor⟩ = some true := fun p => same18 hr' B p
 have k1 := ql hm hr' hn B ⟨17, 0, 0⟩
 obtain ⟨N1, g1, _⟩ := oL hm hr' hn B ⟨17, 0, 0⟩
 have k1' : bB ⟨B.lock, B.inserts, B.aid⟩ ⟨(prog y).model, (prog y).alternate, ⟨(prog y).size.Rows, (prog y).size.Cols⟩, (prog y).cells, (prog y).cursor, (prog y).attrs⟩ ⟨n⟩ ⟨17, 0, 0⟩ = _ := k1
 simp only [s1, Option.bind_some, Bool.not_true, cond_false, k1']
 generalize f6 n B y ⟨17, 0, 0⟩ = q1 at g1 ⊢
 obtain ⟨y1, B1, b1, e1⟩ := q1; simp only at g1 ⊢
 have k2 := ql hm g1 hn B1 ⟨12, 0, 0⟩
 obtain ⟨N2, g2, _⟩ := oL hm g1 hn B1 ⟨12, 0, 0⟩
 have k2' : bB B1 ⟨(prog y1).model, (prog y1).alternate, (prog y1).size, (prog y1).cells, (prog y1).cursor, (prog y1).attrs⟩ ⟨n⟩ ⟨12, 0, 0⟩ = _ := k2
 simp only [k2', Option.bind_some]
 generalize f6 n B1 y1 ⟨12, 0, 0⟩ = q2 at g2 ⊢
 obtain ⟨y2, B2, b2, e2⟩ := q2; simp only at g2 ⊢
 have k3 := ql hm g2 hn B2 ⟨16, 0, 0⟩
 have k3' : bB B2 ⟨(prog y2).model, (prog y2).alternate, (prog y2).size, (prog y2).cells, (prog y2).cursor, (prog y2).attrs⟩ ⟨n⟩ ⟨16, 0, 0⟩ = _ := k3
 simp only [k3', Option.bind_some]
end Go.Vt
