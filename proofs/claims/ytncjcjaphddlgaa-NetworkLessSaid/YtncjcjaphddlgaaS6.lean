/-
  The evaluator Sx and its seat table, several parts in one text. No condition beyond those that each theorem names.
-/
import Derived.Test.YtncjcjaphddlgaaS1
set_option linter.unusedVariables false
namespace Go.Sx
open Go

def skL : List (Nat × EK) := [
  (22, .isl), (23, .strc 3), (24, .int), (37, .isl), (45, .int), (81, .strc 3), (85, .strc 4), (95, .bool), (108, .strc 3), (151, .strc 2), (152, .strc 2)]
def vsL : List (Nat × Bool × Nat) := [
  (1, false, 1), (2, false, 1), (3, false, 1), (4, false, 1), (5, false, 1), (6, false, 1), (7, true, 4), (8, true, 4), (9, false, 1), (10, false, 1), (11, false, 1),
  (12, false, 1), (13, true, 2), (14, true, 2), (15, false, 1), (16, false, 1), (17, false, 1), (18, true, 1), (19, true, 1), (21, false, 1), (22, false, 1), (23, false, 1),
  (24, false, 1), (25, true, 6), (26, true, 6), (27, false, 1), (28, false, 1), (29, false, 1), (30, false, 1), (31, false, 1), (32, false, 1), (33, false, 1), (34, false, 1),
  (35, false, 1), (36, false, 1), (37, false, 1), (39, false, 1), (40, true, 2), (41, true, 2), (43, false, 1), (44, false, 1), (45, false, 1), (46, false, 1), (47, false, 1),
  (49, false, 1), (50, false, 1), (51, false, 1), (52, false, 1), (53, false, 1), (54, true, 3), (55, true, 3), (56, false, 1), (57, false, 1), (59, false, 1), (60, false, 1),
  (61, false, 1), (62, false, 1), (64, false, 1), (65, false, 1), (66, false, 1), (67, false, 1), (68, false, 1), (69, false, 1), (70, false, 1), (71, false, 1), (72, false, 1),
  (73, false, 1), (74, false, 1), (75, false, 1), (76, false, 1), (77, false, 1), (78, false, 1), (80, false, 1), (81, false, 1), (82, false, 1), (84, false, 1), (85, false, 1),
  (86, true, 2), (87, true, 2), (88, false, 1), (89, false, 1), (90, false, 1), (91, false, 1), (92, true, 3), (93, true, 3), (94, false, 1), (95, false, 1), (96, false, 1),
  (97, false, 1), (98, false, 1), (99, false, 1), (100, false, 1), (101, false, 1), (102, false, 1), (103, false, 1), (104, false, 1), (106, false, 1), (107, true, 3),
  (108, false, 1), (109, false, 1), (110, false, 1), (111, false, 1), (112, false, 1), (113, false, 1), (114, false, 1), (115, false, 1), (116, false, 1), (117, false, 1),
  (118, false, 1), (119, false, 1), (120, true, 4), (121, true, 4), (122, false, 1), (123, false, 1), (124, false, 1), (125, false, 1), (126, false, 1), (127, false, 1),
  (128, false, 1), (129, false, 1), (130, false, 1), (131, false, 1), (132, false, 1), (133, false, 1), (134, false, 1), (136, false, 1), (137, false, 1), (138, false, 1),
  (139, false, 1), (141, false, 1), (142, false, 1), (143, false, 1), (144, false, 1), (145, false, 1), (146, false, 1), (147, false, 1), (148, false, 1), (149, true, 2),
  (150, true, 2), (151, false, 1), (152, false, 1), (153, false, 1), (155, false, 1), (156, false, 1), (158, false, 1), (160, false, 1), (161, false, 1), (162, false, 1),
  (163, false, 1), (164, false, 1), (165, false, 1), (166, false, 1), (169, false, 1), (170, false, 1), (171, false, 1), (172, false, 1), (173, false, 1), (174, false, 1),
  (176, false, 1), (177, false, 1), (178, true, 4), (179, true, 4), (180, true, 0), (181, true, 0), (182, true, 0), (183, false, 1), (184, false, 1), (185, false, 1),
  (186, false, 1), (187, false, 1), (188, false, 1), (189, true, 11), (190, true, 11), (191, false, 1)]
def foL : List (Nat × List Nat) := [
  (7, [0, 1, 2, 3]), (8, [0, 1, 2, 3]), (13, [0, 1]), (14, [0, 1]), (18, [0]), (19, [0]), (25, [0, 1, 2, 3, 4, 5]), (26, [0, 1, 2, 3, 4, 5]), (40, [0, 1]), (41, [0, 1]),
  (54, [0, 1, 2]), (55, [0, 1, 2]), (86, [0, 1]), (87, [0, 1]), (92, [0, 1, 2]), (93, [0, 1, 2]), (120, [0, 1, 2, 3]), (121, [0, 1, 2, 3]), (149, [0, 1]), (150, [0, 1])]
def zrL : List (Nat × List AV) := [
  (1, [.c .nilFunc]), (2, [.int .i64 0]), (3, [.int .i64 0]), (4, [.bool false]), (5, [.int .u8 0]), (6, [.int .u8 0]), (7, [.int .i64 0, .int .i64 0, .bool false, .int .u8 0]),
  (8, [.int .i64 0, .int .i64 0, .bool false, .int .u8 0]), (12, [.int .u64 0]), (15, [.c (.pointer none)]), (16, [.c (.pointer none)]), (17, [.c (.pointer none)]),
  (18, [.c (.pointer none)]), (19, [.c (.pointer none)]), (20, [.c .nilIface]), (21, [.int .i32 0]), (22, [.nils]), (23, [.nils]), (24, [.nils]),
  (25, [.int .i64 0, .nils, .int .i64 0, .int .i64 0, .nils, .nils]), (26, [.int .i64 0, .nils, .int .i64 0, .int .i64 0, .nils, .nils]), (27, [.c .nilFunc]), (28, [.c .nilFunc]),
  (29, [.int .i64 0]), (30, [.c .nilFunc]), (31, [.c .nilFunc]), (32, [.c .nilFunc]), (33, [.c .nilFunc]), (34, [.c .nilFunc]), (35, [.int .u32 0]), (36, [.c .nilFunc]),
  (37, [.nils]), (39, [.c .nilFunc]), (40, [.nils, .nils]), (41, [.nils, .nils]), (43, [.c .nilFunc]), (44, [.c .nilFunc]), (45, [.nils]), (46, [.c .nilFunc]), (47, [.c .nilFunc]),
  (49, [.c .nilFunc]), (50, [.c .nilFunc]), (51, [.c .nilFunc]), (52, [.c .nilFunc]), (53, [.c .nilFunc]), (54, [.int .i64 0, .int .i64 0, .int .i64 0]),
  (55, [.int .i64 0, .int .i64 0, .int .i64 0]), (56, [.c .nilFunc]), (57, [.c .nilFunc]), (59, [.c .nilFunc]), (60, [.c .nilFunc]), (61, [.c .nilFunc]), (62, [.c .nilFunc]),
  (64, [.c .nilFunc]), (65, [.c .nilFunc]), (66, [.c .nilFunc]), (67, [.c .nilFunc]), (68, [.c .nilFunc]), (69, [.c .nilFunc]), (70, [.c .nilFunc]), (71, [.c .nilFunc]),
  (72, [.c .nilFunc]), (73, [.c .nilFunc]), (74, [.c .nilFunc]), (75, [.c .nilFunc]), (76, [.c .nilFunc]), (77, [.c .nilFunc]), (78, [.c (.pointer none)]), (80, [.c .nilFunc]),
  (81, [.nils]), (82, [.c .nilFunc]), (84, [.c .nilFunc]), (85, [.nils]), (86, [.int .i64 0, .nils]), (87, [.int .i64 0, .nils]), (88, [.c .nilFunc]), (89, [.c .nilFunc]),
  (90, [.c .nilFunc]), (91, [.c .nilFunc]), (92, [.int .i64 0, .int .i64 0, .int .i64 0]), (93, [.int .i64 0, .int .i64 0, .int .i64 0]), (94, [.c .nilFunc]), (95, [.nils]),
  (96, [.c .nilFunc]), (97, [.c .nilFunc]), (98, [.c .nilFunc]), (99, [.c .nilFunc]), (100, [.c .nilFunc]), (101, [.c .nilFunc]), (102, [.c .nilFunc]), (103, [.c .nilFunc]),
  (104, [.c .nilFunc]), (106, [.c .nilFunc]), (107, [.int .i64 0, .int .i64 0, .int .i64 0]), (108, [.nils]), (109, [.c .nilFunc]), (110, [.c .nilFunc]), (111, [.c .nilFunc]),
  (112, [.c .nilFunc]), (113, [.c .nilFunc]), (114, [.c .nilFunc]), (115, [.c .nilFunc]), (116, [.ms []]), (117, [.c .nilFunc]), (118, [.c .nilFunc]), (119, [.c .nilFunc]),
  (120, [.int .i64 0, .int .i64 0, .int .i64 0, .int .i64 0]), (121, [.int .i64 0, .int .i64 0, .int .i64 0, .int .i64 0]), (122, [.c .nilFunc]), (123, [.c .nilFunc]),
  (124, [.c .nilFunc]), (125, [.int .u64 0]), (126, [.c .nilFunc]), (127, [.c .nilFunc]), (128, [.c .nilFunc]), (129, [.c .nilFunc]), (130, [.c .nilFunc]), (131, [.c .nilFunc]),
  (132, [.c .nilFunc]), (133, [.c .nilFunc]), (134, [.c .nilFunc]), (136, [.c .nilFunc]), (137, [.c .nilFunc]), (138, [.c .nilFunc]), (139, [.int .i64 0]), (141, [.c .nilFunc]),
  (142, [.c .nilFunc]), (143, [.c .nilFunc]), (144, [.c .nilFunc]), (145, [.c .nilFunc]), (146, [.c .nilFunc]), (147, [.int .u64 0]), (148, [.c (.pointer none)]),
  (149, [.int .i64 0, .int .i64 0]), (150, [.int .i64 0, .int .i64 0]), (151, [.nils]), (152, [.nils]), (153, [.c .nilFunc]), (155, [.c .nilFunc]), (156, [.c .nilFunc]),
  (158, [.c .nilFunc]), (160, [.c .nilFunc]), (161, [.int .u64 0]), (162, [.c .nilFunc]), (163, [.c .nilFunc]), (164, [.c .nilFunc]), (165, [.c (.pointer none)]),
  (166, [.c .nilFunc]), (167, [.c .nilIface]), (168, [.c .nilIface]), (169, [.c .nilFunc]), (170, [.c .nilFunc]), (171, [.c .nilFunc]), (172, [.c .nilFunc]), (173, [.c .nilFunc]),
  (174, [.c (.pointer none)]), (176, [.c .nilFunc]), (177, [.c .nilFunc]), (180, []), (181, []), (182, []), (183, [.int .u8 0]), (184, [.int .u8 0]), (185, [.c .nilFunc]),
  (186, [.c (.pointer none)]), (187, [.int .i32 0]), (188, [.int .i32 0]),
  (189, [.int .u64 0, .int .u64 0, .int .u32 0, .int .u8 0, .int .u8 0, .int .u8 0, .int .u8 0, .c .nilFunc, .c (.pointer none), .int .i32 0, .int .i32 0]),
  (190, [.int .u64 0, .int .u64 0, .int .u32 0, .int .u8 0, .int .u8 0, .int .u8 0, .int .u8 0, .c .nilFunc, .c (.pointer none), .int .i32 0, .int .i32 0]),
  (191, [.c (.pointer none)])]
def zkL : List (Nat × List (Option EK)) := [
  (22, [some .isl]), (23, [some (.strc 3)]), (24, [some .int]), (25, [none, some .isl, none, none, some (.strc 3), some .int]),
  (26, [none, some .isl, none, none, some (.strc 3), some .int]), (37, [some .isl]), (40, [some .int, some .int]), (41, [some .int, some .int]), (45, [some .int]),
  (81, [some (.strc 3)]), (85, [some (.strc 4)]), (86, [none, some (.strc 4)]), (87, [none, some (.strc 4)]), (95, [some .bool]), (108, [some (.strc 3)]), (151, [some (.strc 2)]), (152, [some (.strc 2)])]
def ikL : List (Nat × IntKind) := [
  (2, .i64), (3, .i64), (5, .u8), (6, .u8), (12, .u64), (21, .i32), (29, .i64), (35, .u32), (125, .u64), (139, .i64), (147, .u64), (161, .u64), (183, .u8), (184, .u8), (187, .i32),
  (188, .i32)]
def alL : List (Nat × Nat) := [
  (107, 3)]
def bdL : List (Nat × Nat) := [
  (7, 4), (8, 4), (13, 2), (14, 2), (18, 1), (19, 1), (25, 6), (26, 6), (40, 2), (41, 2), (54, 3), (55, 3), (86, 2), (87, 2), (92, 3), (93, 3), (107, 3), (120, 4), (121, 4), (149, 2),
  (150, 2), (178, 4), (179, 4), (189, 11), (190, 11)]
def mtL : List (Nat × String × Nat × Bool) := [(148, "Len", 151, false), (148, "Less", 181, false), (148, "Swap", 184, false), (148, "Push", 183, true), (148, "Pop", 182, true)]
def fsL : List Nat := [3, 4, 5, 6, 7, 8, 9, 10, 11, 12, 13, 14, 15, 16, 17, 18, 19, 20, 21, 22, 23, 24, 25, 26, 27, 28, 29, 30, 31, 32, 33, 34, 35, 36, 37, 38, 39, 40, 41, 42, 43, 44, 45, 46, 47, 48, 49, 50, 51, 52, 53, 54, 55, 56, 57, 58, 59, 60, 61, 62, 63, 64, 65, 66, 67, 68, 69, 70, 71, 72, 73, 74, 75, 76, 77, 78, 79, 80, 81, 82, 83, 84, 85, 86, 87, 88, 89, 90, 91, 92, 93, 94, 95, 96, 97, 98, 99, 100, 101, 102, 103, 104, 105, 106, 107, 108, 109, 110, 111, 112, 113, 114, 115, 116, 117, 118, 119, 120, 121, 122, 123, 124, 125, 126, 127, 128, 129, 130, 131, 132, 133, 134, 135, 136, 137, 138, 139, 140, 141, 142, 143, 144, 145, 146, 147, 148, 149, 150, 151, 152, 153, 154, 155, 156, 157, 158, 159, 160, 161, 162, 163, 164, 181, 182, 183, 184]
def muL : List (Nat × List Nat) := [(87, [0]), (123, [0]), (141, [0]), (142, [0]), (143, [0]), (145, [0]), (146, [0]), (147, [0]), (148, [0]), (157, [0]), (98, [0]), (99, [0]), (113, [0]), (79, [1]), (117, [0]), (138, [0]), (127, [3]), (152, [0]), (153, [0]), (162, [0]), (163, [0]), (182, [0]), (183, [0]), (184, [0]), (159, [0])]
def coL : List (Nat × List Nat) := [(98, [0]), (99, [0]), (113, [0]), (79, [1]), (127, [3])]
def stL : List Nat := [9]
def mpL : List Nat := [116]
def tab : Tab := ⟨skL, vsL, foL, zrL, zkL, ikL, alL, bdL, mtL, muL, coL, [(55, 3)], fsL, stL, mpL, [4]⟩
def cx : Ctx := tab.cx
def cxs (fs : List Nat) : Ctx := { cx with fs := fs }
end Go.Sx

set_option linter.unusedVariables false
namespace Go.Sx
open Go

/-! ### networks -/
structure Net where
  nd : Int
  pw : List (List Int)
  ns : Int
  th : Int
  ls : List (List Int)
  mg : List Int
def Net.cells (n : Net) (k1 k2 k3 : Option Bool) : List AV := [.int .i64 n.nd, .sl k1 (.rows n.pw), .int .i64 n.ns, .int .i64 n.th, .sl k2 (.st 3 n.ls), .sl k3 (.i1 n.mg)]
def Net.av (n : Net) (k1 k2 k3 : Option Bool) : AV := .agg (n.cells k1 k2 k3)
def netC : List AV → Option Net
  | [.int .i64 nd, .sl _ (.rows pw), .int .i64 ns, .int .i64 th, .sl _ (.st w ls), .sl _ (.i1 mg)] => bif Nat.beq w 3 then some ⟨nd, pw, ns, th, ls, mg⟩ else none
  | _ => none
def netA : AV → Option Net
  | .agg cs => netC cs
  | _ => none

/-! ### first of a row -/
/-- the first of the numbers i, i + 1, .. (k of them) at which p holds; -1 if there is none -/
def scan (p : Int → Bool) : Nat → Int → Int
  | 0, _ => -1
  | k + 1, i => match p i with
    | true => i
    | false => scan p k (i + 1)
def Net.fr (n : Net) (i : Int) : Int := getN (getL n.ls i) 0
def Net.to (n : Net) (i : Int) : Int := getN (getL n.ls i) 1
def Net.lo (n : Net) (i : Int) : Int := getN (getL n.ls i) 2
def Net.pow (n : Net) (a b : Int) : Int := getI (getL n.pw a) b
-- leaf
def inB (x lo hi : Int) : Bool := andB (leI lo x) (leI x hi)
/-- the comparison of two numbers -/
-- leaf
def cmpI (x y : Int) : Int := bif ltI x y then -1 else bif ltI y x then 1 else 0
/-- the comparison of two links -/
-- leaf
def cmpL (a b c d : Int) : Int := bif ltI a c then -1 else bif ltI c a then 1 else cmpI b d
-- leaf
def orJ (xs : List Int) : Int := scan (fun i => neI (getI xs i) 0) xs.length 0
-- leaf
def orL (xs : List Int) : Int := bif leI 0 (orJ xs) then getI xs (orJ xs) else 0
-- leaf
def rowsP (pw : List (List Int)) : Bool := eqI (scan (fun i => ltI 40 (lenZ (getL pw i))) pw.length 0) (-1)
-- leaf
def few (n : Net) : Bool := andB (rowsP n.pw) (andB (leI (lenZ n.pw) 8) (andB (leI (lenZ n.ls) 60) (leI (lenZ n.mg) 60)))
-- leaf
def fnd (n : Net) (f t : Int) : Int := scan (fun i => andB (eqI (n.fr i) f) (eqI (n.to i) t)) n.ls.length 0
-- leaf
def outB (x : Int) : Bool := orB (ltI x 0) (ltI 68719476736 x)
-- leaf
def badLen (pw : List (List Int)) (nd : Int) : Int := scan (fun a => neI (lenZ (getL pw a)) nd) pw.length 0
-- leaf
def outP (xs : List Int) : Int := scan (fun b => outB (getI xs b)) xs.length 0
-- leaf
def badPow (pw : List (List Int)) : Int := scan (fun a => leI 0 (outP (getL pw a))) pw.length 0
-- leaf
def tbl (n : Net) : Int :=
  bif neI (lenZ n.pw) n.nd then 1 else
  bif leI 0 (badLen n.pw n.nd) then 1 else
  bif leI 0 (badPow n.pw) then 2 else 0
-- leaf
def nodeB (n : Net) (a : Int) : Bool := andB (leI 0 a) (ltI a n.nd)
-- leaf
def lnk (n : Net) (i : Int) : Int :=
  bif orB (notB (nodeB n (n.fr i))) (orB (notB (nodeB n (n.to i))) (orB (eqI (n.fr i) (n.to i)) (notB (inB (n.lo i) 0 7)))) then 2 else
  bif andB (ltI 0 i) (leI 0 (cmpL (n.fr (i - 1)) (n.to (i - 1)) (n.fr i) (n.to i))) then 5 else
  bif notB (inB (getI n.mg i) 0 (n.pow (n.fr i) (n.to i))) then 2 else 0
/-- the first faulty link -/
-- leaf
def badLnk (n : Net) : Int := scan (fun i => neI (lnk n i) 0) n.ls.length 0
-- leaf
def chk (n : Net) : Int :=
  bif notB (inB n.nd 2 32) then 2 else
  bif neI (tbl n) 0 then tbl n else
  bif orB (notB (inB n.ns 0 68719476736)) (notB (inB n.th 1000 100000)) then 2 else
  bif ltI 128 (lenZ n.ls) then 8 else
  bif neI (lenZ n.mg) (lenZ n.ls) then 11 else bif leI 0 (badLnk n) then lnk n (badLnk n) else 0
-- leaf
def idx (n : Net) (f t : Int) : Int := bif eqI (chk n) 0 then fnd n f t else -1
-- leaf
def heard (n : Net) (s d : Int) : Bool := leI (mulI .i64 n.th (addI .i64 n.ns d)) (mulI .i64 s 1000)
-- leaf
def good (n : Net) (f t : Int) : Bool := andB (leI 0 (fnd n f t)) (andB (leI 0 (fnd n t f)) (andB (heard n (getI n.mg (fnd n f t)) 0) (heard n (getI n.mg (fnd n t f)) 0)))
-- leaf
def hrs (n : Net) (s d : Int) : Bool := andB (eqI (chk n) 0) (andB (inB s 0 8796093022208) (andB (inB d 0 8796093022208) (heard n s d)))
-- leaf
def usb (n : Net) (i : Int) : Bool := andB (eqI (chk n) 0) (andB (leI 0 i) (andB (ltI i (lenZ n.ls)) (good n (n.fr i) (n.to i))))
/-- links in their order -/
-- leaf
def srtd (ls : List (List Int)) : Bool := eqI (scan (fun i => leI 0 (cmpL (getN (getL ls i) 0) (getN (getL ls i) 1) (getN (getL ls (i + 1)) 0) (getN (getL ls (i + 1)) 1))) (ls.length - 1) 0) (-1)
/-- where a binary search ends -/
-- leaf
def bsI (ls : List (List Int)) (f t : Int) : Int :=
  bif leI 0 (scan (fun i => leI 0 (cmpL (getN (getL ls i) 0) (getN (getL ls i) 1) f t)) ls.length 0) then scan (fun i => leI 0 (cmpL (getN (getL ls i) 0) (getN (getL ls i) 1) f t)) ls.length 0 else lenZ ls

/-! ### the answers' tables -/
def on1 (f : Net → Option Res) : List AV → Option Res
  | [a] => match netA a with
    | some n => f n
    | none => none
  | _ => none
def on2 (f : Net → Int → Option Res) : List AV → Option Res
  | [a, .int .i64 x] => match netA a with
    | some n => f n x
    | none => none
  | _ => none
def on3 (f : Net → Int → Int → Option Res) : List AV → Option Res
  | [a, .int .i64 x, .int .i64 y] => match netA a with
    | some n => f n x y
    | none => none
  | _ => none
def s64 : List AV → Option Res
  | [.int .i64 x, .int .i64 y, .int .i64 z] => some ⟨[], .bool (inB x y z), [.junk, .junk, .junk]⟩
  | _ => none
def s18 : List AV → Option Res := on1 fun n => some ⟨[leI (lenZ n.pw) 9223372036854775807], .bool (few n), [.junk]⟩
def s68 : List AV → Option Res := on3 fun n f t => some ⟨[few n], .int .i64 (fnd n f t), [.junk, .junk, .junk]⟩
def s65 : List AV → Option Res := on1 fun n => some ⟨[few n, inB n.nd 2 32], .int .i64 (tbl n), [.junk]⟩
def s66 : List AV → Option Res := on2 fun n i => some ⟨[few n, inB n.nd 2 32, eqI (tbl n) 0, leI 0 i, ltI i (lenZ n.ls), ltI i (lenZ n.mg)], .int .i64 (lnk n i), [.junk, .junk]⟩
def s20 : List AV → Option Res := on1 fun n => some ⟨[few n], .int .i64 (chk n), [.junk]⟩
def s22 : List AV → Option Res := on3 fun n f t => some ⟨[few n], .int .i64 (idx n f t), [.junk, .junk, .junk]⟩
def s70 : List AV → Option Res := on3 fun n s d => some ⟨[], .bool (heard n s d), [.junk, .junk, .junk]⟩
def s24 : List AV → Option Res := on3 fun n s d => some ⟨[few n], .bool (hrs n s d), [.junk, .junk, .junk]⟩
def s72 : List AV → Option Res := on3 fun n f t => some ⟨[few n, eqI (chk n) 0], .bool (good n f t), [.junk, .junk, .junk]⟩
def s26 : List AV → Option Res := on2 fun n i => some ⟨[few n], .bool (usb n i), [.junk, .junk]⟩
def s119 : List AV → Option Res
  | [.int .i64 x] => some ⟨[], .bool false, [.junk]⟩
  | _ => none
def s81 : List AV → Option Res
  | [.int .i64 x, .int .i64 y] => some ⟨[], .int .i64 (cmpI x y), [.junk, .junk]⟩
  | _ => none
def s132 : List AV → Option Res
  | [.sl _ (.i1 xs)] => some ⟨[leI (lenZ xs) 1000], .int .i64 (orL xs), [.junk]⟩
  | _ => none
def s107 : List AV → Option Res
  | [.agg [.int .i64 a, .int .i64 b, .int .i64 _], .agg [.int .i64 c, .int .i64 d, .int .i64 _]] => some ⟨[], .int .i64 (cmpL a b c d), [.junk, .junk]⟩
  | _ => none
def s103 : List AV → Option Res
  | [.sl _ (.i1 xs), .snap cs 0] => match netC cs with
    | some n => some ⟨[], .bool (neI (lenZ xs) n.nd), [.junk, .junk]⟩
    | none => none
  | _ => none
def s104 : List AV → Option Res
  | [.int .i64 x] => some ⟨[], .bool (outB x), [.junk]⟩
  | _ => none
def s105 : List AV → Option Res
  | [.sl _ (.i1 xs), .snap [.clo 104 []] 0] => some ⟨[leI (lenZ xs) 1000], .bool (leI 0 (outP xs)), [.junk, .junk]⟩
  | _ => none
def s106 : List AV → Option Res
  | [.int .i64 a, .snap cs 0] => match netC cs with
    | some n => some ⟨[], .bool (nodeB n a), [.junk, .junk]⟩
    | none => none
  | _ => none
def s100o : List AV → Option Res
  | [.sl _ (.i1 xs), .clo 104 []] => some ⟨[leI (lenZ xs) 1000], .int .i64 (outP xs), [.junk, .junk]⟩
  | _ => none
def s57o : List AV → Option Res
  | [.sl _ (.i1 xs), .clo 104 []] => some ⟨[leI (lenZ xs) 1000], .bool (leI 0 (outP xs)), [.junk, .junk]⟩
  | _ => none
def s131a : List AV → Option Res
  | [.sl _ (.rows pw), .clo 103 [.snap cs 0]] => match netC cs with
    | some n => some ⟨[leI (lenZ pw) 1000], .int .i64 (badLen pw n.nd), [.junk, .junk]⟩
    | none => none
  | _ => none
def s131b : List AV → Option Res
  | [.sl _ (.rows pw), .clo 105 [.snap [.clo 104 []] 0]] => some ⟨[leI (lenZ pw) 1000, rowsP pw], .int .i64 (badPow pw), [.junk, .junk]⟩
  | _ => none
def orF (a b : List AV → Option Res) (bs : List AV) : Option Res :=
  match a bs with
  | some r => some r
  | none => b bs
def s131 : List AV → Option Res := orF s131a s131b
def s102a : List AV → Option Res
  | [.sl _ (.rows pw), .clo 103 [.snap cs 0]] => match netC cs with
    | some n => some ⟨[leI (lenZ pw) 1000], .bool (leI 0 (badLen pw n.nd)), [.junk, .junk]⟩
    | none => none
  | _ => none
def s102b : List AV → Option Res
  | [.sl _ (.rows pw), .clo 105 [.snap [.clo 104 []] 0]] => some ⟨[leI (lenZ pw) 1000, rowsP pw], .bool (leI 0 (badPow pw)), [.junk, .junk]⟩
  | _ => none
def s102 : List AV → Option Res := orF s102a s102b
def s62 : List AV → Option Res := on1 fun n => some ⟨[few n], .int .i64 (tbl n), [.junk]⟩
def s63 : List AV → Option Res := on2 fun n i => some ⟨[few n, inB n.nd 2 32, eqI (tbl n) 0, leI 0 i, ltI i (lenZ n.ls), ltI i (lenZ n.mg)], .int .i64 (lnk n i), [.junk, .junk]⟩
def s19 : List AV → Option Res := on1 fun n => some ⟨[few n], .int .i64 (chk n), [.junk]⟩
def s108 : List AV → Option Res
  | [.sl _ (.st w ls), .agg [.int .i64 f, .int .i64 t, .int .i64 l], .clo 107 []] => bif Nat.beq w 3 then
      some ⟨[srtd ls, leI (lenZ ls) 1000], .tup [.int .i64 (bsI ls f t), .bool (andB (ltI (bsI ls f t) (lenZ ls)) (eqI (cmpL (getN (getL ls (bsI ls f t)) 0) (getN (getL ls (bsI ls f t)) 1) f t) 0))], [.junk, .junk, .junk]⟩ else none
  | _ => none
def s67 : List AV → Option Res := on3 fun n f t => some ⟨[few n, eqI (chk n) 0], .int .i64 (fnd n f t), [.junk, .junk, .junk]⟩
def s21 : List AV → Option Res := on3 fun n f t => some ⟨[few n], .int .i64 (idx n f t), [.junk, .junk, .junk]⟩
def s69 : List AV → Option Res := on3 fun n s d => some ⟨[], .bool (heard n s d), [.junk, .junk, .junk]⟩
def s71 : List AV → Option Res := on2 fun n i => some ⟨[few n, eqI (chk n) 0, leI 0 i, ltI i (lenZ n.ls)], .bool (good n (n.fr i) (n.to i)), [.junk, .junk]⟩
def s23 : List AV → Option Res := on3 fun n s d => some ⟨[few n], .bool (hrs n s d), [.junk, .junk, .junk]⟩
def s25 : List AV → Option Res := on2 fun n i => some ⟨[few n], .bool (usb n i), [.junk, .junk]⟩

/-! ### loops -/
def ls18 : LSpec := ⟨34, [1, 3], [1], fun vs os => match vs, os with
  | [.ref 1 0, .int .i64 0], [.box cs] => match netC cs with
    | some n => .node (rowsP n.pw)
      (.leaf (some ⟨.normal, [(1, .ref 1 0)], [(1, .box cs)], [leI (lenZ n.pw) 9223372036854775807]⟩))
      (.leaf (some ⟨.ret, [(2, .bool false)], [], [leI (lenZ n.pw) 9223372036854775807]⟩))
    | none => .leaf none
  | _, _ => .leaf none⟩
def ls68 : LSpec := ⟨34, [1, 2, 3, 7], [3], fun vs os => match vs, os with
  | [.int .i64 f, .int .i64 t, .ref 3 0, .int .i64 0], [.box cs] => match netC cs with
    | some n => .node (leI 0 (fnd n f t))
      (.leaf (some ⟨.ret, [(6, .int .i64 (fnd n f t))], [], [few n]⟩))
      (.leaf (some ⟨.normal, [], [], [few n]⟩))
    | none => .leaf none
  | _, _ => .leaf none⟩
def ls65a : LSpec := ⟨49, [1, 3], [1], fun vs os => match vs, os with
  | [.ref 1 0, .int .i64 0], [.box cs] => match netC cs with
    | some n => .node (leI 0 (badLen n.pw n.nd))
      (.leaf (some ⟨.ret, [(2, .int .i64 1)], [], [few n, eqI (lenZ n.pw) n.nd]⟩))
      (.leaf (some ⟨.normal, [(1, .ref 1 0)], [(1, .box cs)], [few n, eqI (lenZ n.pw) n.nd]⟩))
    | none => .leaf none
  | _, _ => .leaf none⟩
def ls65c : LSpec := ⟨49, [1, 4, 5], [1], fun vs os => match vs, os with
  | [.ref 1 0, .int .i64 a, .int .i64 0], [.box cs] => match netC cs with
    | some n => .node (leI 0 (outP (getL n.pw a)))
      (.leaf (some ⟨.ret, [(2, .int .i64 2)], [], [few n, leI 0 a, ltI a (lenZ n.pw), eqI (lenZ (getL n.pw a)) n.nd]⟩))
      (.leaf (some ⟨.normal, [(1, .ref 1 0), (4, .int .i64 a)], [(1, .box cs)], [few n, leI 0 a, ltI a (lenZ n.pw), eqI (lenZ (getL n.pw a)) n.nd]⟩))
    | none => .leaf none
  | _, _ => .leaf none⟩
def ls65b : LSpec := ⟨49, [1, 4], [1], fun vs os => match vs, os with
  | [.ref 1 0, .int .i64 0], [.box cs] => match netC cs with
    | some n => .node (leI 0 (badPow n.pw))
      (.leaf (some ⟨.ret, [(2, .int .i64 2)], [], [few n, eqI (lenZ n.pw) n.nd, notB (leI 0 (badLen n.pw n.nd))]⟩))
      (.leaf (some ⟨.normal, [], [], [few n, eqI (lenZ n.pw) n.nd, notB (leI 0 (badLen n.pw n.nd))]⟩))
    | none => .leaf none
  | _, _ => .leaf none⟩
def ls20 : LSpec := ⟨48, [1, 4], [1], fun vs os => match vs, os with
  | [.ref 1 0, .int .i64 0], [.box cs] => match netC cs with
    | some n => .node (leI 0 (badLnk n))
      (.leaf (some ⟨.ret, [(2, .int .i64 (lnk n (badLnk n)))], [], [few n, inB n.nd 2 32, eqI (tbl n) 0, eqI (lenZ n.mg) (lenZ n.ls)]⟩))
      (.leaf (some ⟨.normal, [], [], [few n, inB n.nd 2 32, eqI (tbl n) 0, eqI (lenZ n.mg) (lenZ n.ls)]⟩))
    | none => .leaf none
  | _, _ => .leaf none⟩
def ls19 : LSpec := ⟨64, [1, 53, 54], [1], fun vs os => match vs, os with
  | [.ref 1 0, .int .i64 m, .int .i64 0], [.box cs] => match netC cs with
    | some n => .node (leI 0 (badLnk n))
      (.leaf (some ⟨.ret, [(2, .int .i64 (lnk n (badLnk n)))], [], [eqI m (lenZ n.ls), few n, inB n.nd 2 32, eqI (tbl n) 0, eqI (lenZ n.mg) (lenZ n.ls)]⟩))
      (.leaf (some ⟨.normal, [], [], [eqI m (lenZ n.ls), few n, inB n.nd 2 32, eqI (tbl n) 0, eqI (lenZ n.mg) (lenZ n.ls)]⟩))
    | none => .leaf none
  | _, _ => .leaf none⟩
def ls132 : LSpec := ⟨18, [3, 6, 7, 8], [], fun vs os => match vs, os with
  | [.int .i64 0, .sl k (.i1 xs), .int .i64 m, .int .i64 0], [] => .node (leI 0 (orJ xs))
      (.leaf (some ⟨.ret, [(2, .int .i64 (orL xs))], [], [eqI m (lenZ xs), leI (lenZ xs) 1000]⟩))
      (.leaf (some ⟨.normal, [(3, .int .i64 0)], [], [eqI m (lenZ xs), leI (lenZ xs) 1000]⟩))
  | _, _ => .leaf none⟩
def ls100o : LSpec := ⟨19, [0, 1, 7, 8], [], fun vs os => match vs, os with
  | [.sl k (.i1 xs), .clo 104 [], .int .i64 m, .int .i64 0], [] => .node (leI 0 (outP xs))
      (.leaf (some ⟨.ret, [(4, .int .i64 (outP xs))], [], [eqI m (lenZ xs), leI (lenZ xs) 1000]⟩))
      (.leaf (some ⟨.normal, [], [], [eqI m (lenZ xs), leI (lenZ xs) 1000]⟩))
  | _, _ => .leaf none⟩
def ls131a : LSpec := ⟨19, [0, 1, 7, 8], [], fun vs os => match vs, os with
  | [.sl k (.rows pw), .clo 103 [.snap cs 0], .int .i64 m, .int .i64 0], [] => match netC cs with
    | some n => .node (leI 0 (badLen pw n.nd))
      (.leaf (some ⟨.ret, [(4, .int .i64 (badLen pw n.nd))], [], [eqI m (lenZ pw), leI (lenZ pw) 1000]⟩))
      (.leaf (some ⟨.normal, [], [], [eqI m (lenZ pw), leI (lenZ pw) 1000]⟩))
    | none => .leaf none
  | _, _ => .leaf none⟩
def ls131b : LSpec := ⟨19, [0, 1, 7, 8], [], fun vs os => match vs, os with
  | [.sl k (.rows pw), .clo 105 [.snap [.clo 104 []] 0], .int .i64 m, .int .i64 0], [] => .node (leI 0 (badPow pw))
      (.leaf (some ⟨.ret, [(4, .int .i64 (badPow pw))], [], [eqI m (lenZ pw), leI (lenZ pw) 1000, rowsP pw]⟩))
      (.leaf (some ⟨.normal, [], [], [eqI m (lenZ pw), leI (lenZ pw) 1000, rowsP pw]⟩))
  | _, _ => .leaf none⟩
def ls108 : LSpec := ⟨49, [0, 2, 4, 8, 9, 10], [4], fun vs os => match vs, os with
  | [.sl k (.st w ls), .clo 107 [], .ref 4 0, .int .i64 m, .int .i64 0, .int .i64 m'], [.box [.int .i64 f, .int .i64 t, .int .i64 l]] => bif Nat.beq w 3 then
      .leaf (some ⟨.normal, [(0, .sl k (.st 3 ls)), (2, .clo 107 []), (4, .ref 4 0), (8, .int .i64 m), (9, .int .i64 (bsI ls f t))], [(4, .box [.int .i64 f, .int .i64 t, .int .i64 l])], [srtd ls, leI (lenZ ls) 1000, eqI m (lenZ ls), eqI m' (lenZ ls)]⟩) else .leaf none
  | _, _ => .leaf none⟩
end Go.Sx

namespace Go.Sx
open Go
def s17 : List AV → Option Res
  | [] => some ⟨[], .bool true, []⟩
  | _ => none
end Go.Sx

namespace Go.Sx
open Go
-- leaf
def unZ (ks shut : List Int) : List Int := ks ++ shut
def ls77 : LSpec := ⟨67, [0, 1, 2, 3, 4, 15, 28], [22, 28], fun vs os => match vs, os with
  | [v0, v1, v2, v3, v4, .mp 22, .ref 28 0], [.map shut, .itr ks none] => .leaf (some ⟨.normal, [(0, v0), (1, v1), (2, v2), (3, v3), (4, v4), (15, .mp 22)], [(22, .map (unZ ks shut))], []⟩)
  | _, _ => .leaf none⟩
end Go.Sx

set_option linter.unusedVariables false
namespace Go.Sx
open Go

/-- the numbers g i of those i = i, i + 1, .. (k of them) at which p holds, behind acc -/
def gath (p : Int → Bool) (g : Int → Int) : Nat → Int → List Int → List Int
  | 0, _, acc => acc
  | k + 1, i, acc => match p i with
    | true => gath p g k (i + 1) (acc ++ [g i])
    | false => gath p g k (i + 1) acc
-- leaf
def idxZ (xs : List Int) (x : Int) : Int := scan (fun i => eqI x (getI xs i)) xs.length 0
-- leaf
def difZ (xs ys : List Int) : Int := scan (fun i => neI (getI xs i) (getI ys i)) xs.length 0
/-- what a node leads to -/
-- leaf
def nxs (n : Net) (v : Int) : List Int := gath (fun i => andB (eqI (n.fr i) v) (good n (n.fr i) (n.to i))) n.to n.ls.length 0 []
/-- the same, node by node -/
-- leaf
def rnx (n : Net) (v : Int) : List Int := gath (fun j => good n v j) (fun j => j) n.nd.toNat 0 []

-- leaf
def nx (n : Net) (v : Int) : List Int := bif eqI (chk n) 0 then nxs n v else []
-- leaf
def rx (n : Net) (v : Int) : List Int := bif andB (eqI (chk n) 0) (inB v 0 (n.nd - 1)) then rnx n v else []

def s88 : List AV → Option Res
  | [.sl _ (.i1 xs), .int .i64 x] => some ⟨[leI (lenZ xs) 1000], .int .i64 (idxZ xs x), [.junk, .junk]⟩
  | _ => none
def s42 : List AV → Option Res
  | [.sl _ (.i1 xs), .int .i64 x] => some ⟨[leI (lenZ xs) 1000], .bool (leI 0 (idxZ xs x)), [.junk, .junk]⟩
  | _ => none
def s37 : List AV → Option Res
  | [.sl _ (.i1 xs), .sl _ (.i1 ys)] => some ⟨[leI (lenZ xs) 1000], .bool (andB (eqI (lenZ xs) (lenZ ys)) (notB (leI 0 (difZ xs ys)))), [.junk, .junk]⟩
  | _ => none
def s86 : List AV → Option Res := on2 fun n v => some ⟨[few n, eqI (chk n) 0], .osl (some (nonE (nxs n v))) (.i1 (nxs n v)), [.junk, .junk]⟩

def s38 : List AV → Option Res := on2 fun n v => some ⟨[few n], .osl (some (nonE (nx n v))) (.i1 (nx n v)), [.junk, .junk]⟩
def s39 : List AV → Option Res := on2 fun n v => some ⟨[few n], .osl (some true) (.i1 (rx n v)), [.junk, .junk]⟩

def ls88 : LSpec := ⟨19, [0, 1, 7, 8], [], fun vs os => match vs, os with
  | [.sl k (.i1 xs), .int .i64 x, .int .i64 m, .int .i64 0], [] => .node (leI 0 (idxZ xs x))
      (.leaf (some ⟨.ret, [(4, .int .i64 (idxZ xs x))], [], [eqI m (lenZ xs), leI (lenZ xs) 1000]⟩))
      (.leaf (some ⟨.normal, [], [], [eqI m (lenZ xs), leI (lenZ xs) 1000]⟩))
  | _, _ => .leaf none⟩
def ls37 : LSpec := ⟨26, [0, 1, 12, 13], [], fun vs os => match vs, os with
  | [.sl k (.i1 xs), .sl k' (.i1 ys), .int .i64 m, .int .i64 0], [] => .node (leI 0 (difZ xs ys))
      (.leaf (some ⟨.ret, [(4, .bool false)], [], [eqI m (lenZ xs), eqI (lenZ ys) (lenZ xs), leI (lenZ xs) 1000]⟩))
      (.leaf (some ⟨.normal, [], [], [eqI m (lenZ xs), eqI (lenZ ys) (lenZ xs), leI (lenZ xs) 1000]⟩))
  | _, _ => .leaf none⟩
def ls86 : LSpec := ⟨37, [1, 2, 5, 9, 10], [2, 5], fun vs os => match vs, os with
  | [.int .i64 v, .ref 2 0, .own 5, .int .i64 m, .int .i64 0], [.box cs, .arr (some false) (.i1 [])] => match netC cs with
    | some n => .leaf (some ⟨.normal, [(5, .own 5)], [(5, .arr (some (nonE (nxs n v))) (.i1 (nxs n v)))], [eqI m (lenZ n.ls), few n, eqI (chk n) 0]⟩)
    | none => .leaf none
  | _, _ => .leaf none⟩
def ls39 : LSpec := ⟨35, [1, 2, 5, 6], [2, 7], fun vs os => match vs, os with
  | [.int .i64 v, .ref 2 0, .own 7, .int .i64 0], [.box cs, .arr (some true) (.i1 [])] => match netC cs with
    | some n => .leaf (some ⟨.normal, [(5, .own 7)], [(7, .arr (some true) (.i1 (rnx n v)))], [few n, eqI (chk n) 0]⟩)
    | none => .leaf none
  | _, _ => .leaf none⟩
end Go.Sx

set_option linter.unusedVariables false
namespace Go.Sx
open Go

/-- two neighbours change places -/
-- leaf
def swp (xs : List Int) (j : Int) : List Int := setI (setI xs j (getI xs (j - 1))) (j - 1) (getI xs j)
/-- the number at j goes down to its place -/
-- leaf
def sink (n : Nat) (xs : List Int) : List Int :=
  match n with
  | 0 => xs
  | j + 1 => match ltI (getI xs (j + 1 : Nat)) (getI xs (j : Nat)) with
    | true => sink j (swp xs (j + 1 : Nat))
    | false => xs
-- leaf
def snk (j : Int) (xs : List Int) : List Int := sink j.toNat xs
/-- the numbers at i, i + 1, .. (k of them), one behind another -/
-- leaf
def isrt (k : Nat) (i : Nat) (xs : List Int) : List Int :=
  match k with
  | 0 => xs
  | k + 1 => isrt k (i + 1) (sink i xs)
-- leaf
def srt (xs : List Int) : List Int := isrt (xs.length - 1) 1 xs

def s89 : List AV → Option Res
  | [.int .i64 x, .int .i64 y] => some ⟨[], .bool (ltI x y), [.junk, .junk]⟩
  | _ => none
def s141 : List AV → Option Res
  | [.osl (some b) (.i1 xs), .int .i64 0, .int .i64 n] => some ⟨[eqI n (lenZ xs), leI (lenZ xs) 12], .tup [], [.osl (some b) (.i1 (srt xs)), .junk, .junk]⟩
  | _ => none

def s123 : List AV → Option Res
  | [.osl (some b) (.i1 xs), .int .i64 0, .int .i64 n, .int .i64 m] => some ⟨[eqI n (lenZ xs), leI (lenZ xs) 12], .tup [], [.osl (some b) (.i1 (srt xs)), .junk, .junk, .junk]⟩
  | _ => none
-- leaf
def bitL (x : Int) : Int := getI [0, 1, 2, 2, 3, 3, 3, 3, 4, 4, 4, 4, 4] x
def s124 : List AV → Option Res
  | [.int .u64 x] => some ⟨[leI 0 x, leI x 12], .int .i64 (bitL x), [.junk]⟩
  | _ => none
def s87 : List AV → Option Res
  | [.osl (some b) (.i1 xs)] => some ⟨[leI (lenZ xs) 12], .tup [], [.osl (some b) (.i1 (srt xs))]⟩
  | _ => none
def ls123 : LSpec := ⟨134, [0, 1, 2, 3, 8, 9], [500], fun vs os => match vs, os with
  | [.own 500, .int .i64 0, .int .i64 n, .int .i64 m, .bool true, .bool true], [.arr (some b) (.i1 xs)] => .leaf (some ⟨.ret, [], [(500, .arr (some b) (.i1 (srt xs)))], [eqI n (lenZ xs), leI (lenZ xs) 12]⟩)
  | _, _ => .leaf none⟩

def ls141b : LSpec := ⟨49, [0, 1, 2, 6, 7], [500], fun vs os => match vs, os with
  | [.own 500, .int .i64 0, .int .i64 n, .int .i64 i, .int .i64 j], [.arr (some b) (.i1 xs)] => .leaf (some ⟨.normal, [(0, .own 500), (1, .int .i64 0), (2, .int .i64 n), (6, .int .i64 i)],
      [(500, .arr (some b) (.i1 (snk j xs)))], [leI 0 j, ltI j (lenZ xs), leI (lenZ xs) 12]⟩)
  | _, _ => .leaf none⟩
def ls141 : LSpec := ⟨49, [0, 1, 2, 6], [500], fun vs os => match vs, os with
  | [.own 500, .int .i64 0, .int .i64 n, .int .i64 i], [.arr (some b) (.i1 xs)] => .leaf (some ⟨.normal, [], [(500, .arr (some b) (.i1 (srt xs)))], [eqI i 1, eqI n (lenZ xs), leI (lenZ xs) 12]⟩)
  | _, _ => .leaf none⟩
end Go.Sx

set_option linter.unusedVariables false
namespace Go.Sx
open Go

/-- the numbers of xs that are not in acc yet, behind it -/
-- leaf
def addZ (acc xs : List Int) : List Int :=
  match xs with
  | [] => acc
  | c :: l => match leI 0 (idxZ acc c) with
    | true => addZ acc l
    | false => addZ (acc ++ [c]) l
/-- what is reached: the search from place i on -/
-- leaf
def bfs (n : Net) (k : Nat) (i : Int) (acc : List Int) : List Int :=
  match k with
  | 0 => acc
  | k + 1 => match ltI i (lenZ acc) with
    | true => bfs n k (i + 1) (addZ acc (nxs n (getI acc i)))
    | false => acc
-- leaf
def rch (n : Net) (v : Int) : List Int := bfs n 9 0 [v]
-- leaf
def rchB (n : Net) (v : Int) : Bool := andB (eqI (chk n) 0) (nodeB n v)
-- leaf
def rchL (n : Net) (v : Int) : List Int := bif rchB n v then srt (rch n v) else []

def s40 : List AV → Option Res := on2 fun n v => some ⟨[few n], .osl (some (rchB n v)) (.i1 (rchL n v)), [.junk, .junk]⟩

def ls40b : LSpec := ⟨53, [1, 2, 5, 6, 35, 36, 37], [2, 23, 35], fun vs os => match vs, os with
  | [.int .i64 v, .ref 2 0, .own 23, .int .i64 i, .own 35, .int .i64 m, .int .i64 0], [.box cs, .arr (some true) (.i1 acc), .arr (some b) (.i1 xs)] => match netC cs with
    | some n => .leaf (some ⟨.normal, [(1, .int .i64 v), (2, .ref 2 0), (5, .own 23), (6, .int .i64 i)], [(2, .box cs), (23, .arr (some true) (.i1 (addZ acc xs)))], [eqI m (lenZ xs), leI (lenZ acc) 500, leI (lenZ xs) 500]⟩)
    | none => .leaf none
  | _, _ => .leaf none⟩
def ls40 : LSpec := ⟨53, [1, 2, 5, 6], [2, 23], fun vs os => match vs, os with
  | [.int .i64 v, .ref 2 0, .own 23, .int .i64 0], [.box cs, .arr (some true) (.i1 [v'])] => match netC cs with
    | some n => .leaf (some ⟨.normal, [(5, .own 23)], [(23, .arr (some true) (.i1 (rch n v)))], [eqI v' v, few n, rchB n v]⟩)
    | none => .leaf none
  | _, _ => .leaf none⟩
end Go.Sx

set_option linter.unusedVariables false
namespace Go.Sx
open Go

-- leaf
def rel1 (n : Net) (i : Int) (k : Nat) (j : Int) (bs : List Bool) : List Bool :=
  match k with
  | 0 => bs
  | k + 1 => rel1 n i k (j + 1) (setB bs j (orB (getB bs j) (andB (getB bs i) (good n i j))))
-- leaf
def relA (n : Net) (i : Int) (bs : List Bool) : List Bool := rel1 n i n.nd.toNat 0 bs
-- leaf
def rel2 (n : Net) (k : Nat) (i : Int) (bs : List Bool) : List Bool :=
  match k with
  | 0 => bs
  | k + 1 => rel2 n k (i + 1) (relA n i bs)
-- leaf
def relB (n : Net) (bs : List Bool) : List Bool := rel2 n n.nd.toNat 0 bs
-- leaf
def rel3 (n : Net) (k : Nat) (bs : List Bool) : List Bool :=
  match k with
  | 0 => bs
  | k + 1 => rel3 n k (relB n bs)
-- leaf
def relC (n : Net) (bs : List Bool) : List Bool := rel3 n n.nd.toNat bs
-- leaf
def pick1 (n : Net) (bs : List Bool) : List Int := gath (fun j => getB bs j) (fun j => j) n.nd.toNat 0 []
-- leaf
def rrch (n : Net) (v : Int) : List Int := pick1 n (relC n (setB (repL n.nd false) v true))
-- leaf
def rrchL (n : Net) (v : Int) : List Int := bif rchB n v then rrch n v else []
def s41 : List AV → Option Res := on2 fun n v => some ⟨[few n], .osl (some true) (.i1 (rrchL n v)), [.junk, .junk]⟩

def ls41c : LSpec := ⟨82, [1, 2, 5, 6, 7, 8, 9], [2, 11, 26], fun vs os => match vs, os with
  | [.int .i64 v, .ref 2 0, .own 11, .own 26, .int .i64 r, .int .i64 i, .int .i64 0], [.box cs, .arr (some true) (.i1 []), .arr (some true) (.b1 bs)] => match netC cs with
    | some n => .leaf (some ⟨.normal, [(1, .int .i64 v), (2, .ref 2 0), (5, .own 11), (6, .own 26), (7, .int .i64 r), (8, .int .i64 i)], [(2, .box cs), (11, .arr (some true) (.i1 [])), (26, .arr (some true) (.b1 (relA n i bs)))],
        [few n, eqI (chk n) 0, eqI (lenZ bs) n.nd, leI 0 i, ltI i n.nd]⟩)
    | none => .leaf none
  | _, _ => .leaf none⟩
def ls41b : LSpec := ⟨82, [1, 2, 5, 6, 7, 8], [2, 11, 26], fun vs os => match vs, os with
  | [.int .i64 v, .ref 2 0, .own 11, .own 26, .int .i64 r, .int .i64 0], [.box cs, .arr (some true) (.i1 []), .arr (some true) (.b1 bs)] => match netC cs with
    | some n => .leaf (some ⟨.normal, [(1, .int .i64 v), (2, .ref 2 0), (5, .own 11), (6, .own 26), (7, .int .i64 r)], [(2, .box cs), (11, .arr (some true) (.i1 [])), (26, .arr (some true) (.b1 (relB n bs)))],
        [few n, eqI (chk n) 0, eqI (lenZ bs) n.nd]⟩)
    | none => .leaf none
  | _, _ => .leaf none⟩
def ls41a : LSpec := ⟨82, [1, 2, 5, 6, 7], [2, 11, 26], fun vs os => match vs, os with
  | [.int .i64 v, .ref 2 0, .own 11, .own 26, .int .i64 0], [.box cs, .arr (some true) (.i1 []), .arr (some true) (.b1 bs)] => match netC cs with
    | some n => .leaf (some ⟨.normal, [(1, .int .i64 v), (2, .ref 2 0), (5, .own 11), (6, .own 26)], [(2, .box cs), (11, .arr (some true) (.i1 [])), (26, .arr (some true) (.b1 (relC n bs)))],
        [few n, eqI (chk n) 0, eqI (lenZ bs) n.nd]⟩)
    | none => .leaf none
  | _, _ => .leaf none⟩
def ls41d : LSpec := ⟨82, [1, 2, 5, 6, 10], [2, 11, 26], fun vs os => match vs, os with
  | [.int .i64 v, .ref 2 0, .own 11, .own 26, .int .i64 0], [.box cs, .arr (some true) (.i1 []), .arr (some true) (.b1 bs)] => match netC cs with
    | some n => .leaf (some ⟨.normal, [(5, .own 11)], [(11, .arr (some true) (.i1 (pick1 n bs)))], [inB n.nd 2 32, eqI (lenZ bs) n.nd]⟩)
    | none => .leaf none
  | _, _ => .leaf none⟩
end Go.Sx

set_option linter.unusedVariables false
namespace Go.Sx
open Go

/-- no number is less than the one before it -/
-- leaf
def ordB (xs : List Int) : Bool := eqI (scan (fun i => ltI (getI xs (i + 1)) (getI xs i)) (xs.length - 1) 0) (-1)
-- leaf
def eqLs (xs ys : List (List Int)) : Bool := xs == ys
def s43 : List AV → Option Res
  | [.sl _ (.i1 xs)] => some ⟨[leI (lenZ xs) 1000, ordB xs], .bool true, [.junk]⟩
  | _ => none
def ls43 : LSpec := ⟨21, [0, 3], [], fun vs os => match vs, os with
  | [.sl k (.i1 xs), .int .i64 i], [] => .leaf (some ⟨.normal, [], [], [ltI i (lenZ xs), leI (lenZ xs) 1000, ordB xs]⟩)
  | _, _ => .leaf none⟩

def ls8a : LSpec := ⟨111, [1, 22, 23, 24], [1], fun vs os => match vs, os with
  | [.ref 1 0, .sl k (.st w ls), .int .i64 m, .int .i64 0], [.box cs] => match netC cs with
    | some n => bif Nat.beq w 3 then .leaf (some ⟨.normal, [(1, .ref 1 0)], [(1, .box cs)], [eqLs ls n.ls, eqI m (lenZ n.ls), few n, eqI (chk n) 0]⟩) else .leaf none
    | none => .leaf none
  | _, _ => .leaf none⟩
def ls8b : LSpec := ⟨111, [1, 58, 59], [1], fun vs os => match vs, os with
  | [.ref 1 0, .int .i64 m, .int .i64 0], [.box cs] => match netC cs with
    | some n => .leaf (some ⟨.normal, [], [], [eqI m n.nd, few n, eqI (chk n) 0]⟩)
    | none => .leaf none
  | _, _ => .leaf none⟩
def ls8c : LSpec := ⟨111, [1, 5, 6, 58, 59, 74, 75, 76], [1, 64], fun vs os => match vs, os with
  | [.ref 1 0, .int .i64 a, .own 64, .int .i64 d, .int .i64 i, .own 64, .int .i64 m, .int .i64 0], [.box cs, .arr (some b) (.i1 xs)] => match netC cs with
    | some n => .leaf (some ⟨.normal, [(1, .ref 1 0), (58, .int .i64 d), (59, .int .i64 i)], [(1, .box cs)], [eqLI xs (rchL n a), rchB n a, eqI m (lenZ xs), few n, eqI (chk n) 0]⟩)
    | none => .leaf none
  | _, _ => .leaf none⟩
def ls8d : LSpec := ⟨111, [1, 5, 6, 8, 58, 59, 74, 75, 76, 98, 99, 100], [1, 64, 98], fun vs os => match vs, os with
  | [.ref 1 0, .int .i64 a, .own 64, .int .i64 v, .int .i64 d, .int .i64 i, .own 64, .int .i64 m, .int .i64 j, .own 98, .int .i64 m', .int .i64 0], [.box cs, .arr (some b) (.i1 xs), .arr (some b') (.i1 ys)] => match netC cs with
    | some n => .leaf (some ⟨.normal, [(1, .ref 1 0), (5, .int .i64 a), (6, .own 64), (58, .int .i64 d), (59, .int .i64 i), (74, .own 64), (75, .int .i64 m), (76, .int .i64 j)], [(1, .box cs), (64, .arr (some b) (.i1 xs))],
        [eqLI xs (rchL n a), rchB n a, leI 0 (idxZ xs v), eqLI ys (nx n v), eqI m' (lenZ ys), few n, eqI (chk n) 0]⟩)
    | none => .leaf none
  | _, _ => .leaf none⟩
def s8 : List AV → Option Res := on1 fun n => some ⟨[leI (lenZ n.pw) 9223372036854775807], .bool true, [.junk]⟩
end Go.Sx

set_option linter.unusedVariables false
namespace Go.Sx
open Go

/-- a copy of a list of numbers -/
def s129b : List AV → Option Res
  | [.sl (some b) (.i1 xs)] => bif b then some ⟨[leI (lenZ xs) 1000000000], .osl (some true) (.i1 xs), [.junk]⟩ else some ⟨[eqI (lenZ xs) 0], .osl (some false) (.i1 []), [.junk]⟩
  | _ => none
def s129 : List AV → Option Res
  | [.sl _ (.i1 xs)] => some ⟨[leI (lenZ xs) 1000000000], .osl none (.i1 xs), [.junk]⟩
  | _ => none
/-- a copy of a list of links -/
def s130b : List AV → Option Res
  | [.sl (some b) (.st w xs)] => bif Nat.beq w 3 then (bif b then some ⟨[leI (lenZ xs) 1000000000], .osl (some true) (.st 3 xs), [.junk]⟩ else some ⟨[eqI (lenZ xs) 0], .osl (some false) (.st 3 []), [.junk]⟩) else none
  | _ => none
def s130 : List AV → Option Res
  | [.sl _ (.st w xs)] => bif Nat.beq w 3 then some ⟨[leI (lenZ xs) 1000000000], .osl none (.st 3 xs), [.junk]⟩ else none
  | _ => none
/-- the cells of a network of which nothing is known to be nil or not -/
def netN : List AV → Option Net
  | [.int .i64 nd, .sl none (.rows pw), .int .i64 ns, .int .i64 th, .sl none (.st w ls), .sl none (.i1 mg)] => bif Nat.beq w 3 then some ⟨nd, pw, ns, th, ls, mg⟩ else none
  | _ => none
/-- a network that is the caller's own -/
def Net.oav (n : Net) (k1 k2 k3 : Option Bool) : AV := .agg [.int .i64 n.nd, .osl k1 (.rows n.pw), .int .i64 n.ns, .int .i64 n.th, .osl k2 (.st 3 n.ls), .osl k3 (.i1 n.mg)]
def on1n (f : Net → Option Res) : List AV → Option Res
  | [.agg cs] => match netN cs with
    | some n => f n
    | none => none
  | _ => none
def on3n (f : Net → Int → Int → Option Res) : List AV → Option Res
  | [.agg cs, .int .i64 x, .int .i64 y] => match netN cs with
    | some n => f n x y
    | none => none
  | _ => none
def on4n (f : Net → Int → Int → Int → Option Res) : List AV → Option Res
  | [.agg cs, .int .i64 x, .int .i64 y, .int .i64 z] => match netN cs with
    | some n => f n x y z
    | none => none
  | _ => none
def on4 (f : Net → Int → Int → Int → Option Res) : List AV → Option Res
  | [a, .int .i64 x, .int .i64 y, .int .i64 z] => match netA a with
    | some n => f n x y z
    | none => none
  | _ => none
def a97 (n : Net) : Option Res := some ⟨[few n], n.oav (some true) none none, [.junk]⟩
def s97 : List AV → Option Res := on1 a97
def a51 (n : Net) : Option Res := some ⟨[few n], n.oav (some true) (some true) (some true), [.junk]⟩
def s51 : List AV → Option Res := on1 a51
/-- a list without the one at a place -/
-- leaf
def delS {α : Type} (xs : List α) (i : Int) : List α := xs.take i.toNat ++ xs.drop (i.toNat + 1)
def s98 : List AV → Option Res
  | [.osl none (.st w xs), .int .i64 i, .int .i64 j] => bif Nat.beq w 3 then some ⟨[leI 0 i, ltI i (lenZ xs), eqI j (plZ i 1), leI (lenZ xs) 1000], .osl none (.st 3 (delS xs i)), [.junk, .junk, .junk]⟩ else none
  | _ => none
def s99 : List AV → Option Res
  | [.osl none (.i1 xs), .int .i64 i, .int .i64 j] => some ⟨[leI 0 i, ltI i (lenZ xs), eqI j (plZ i 1), leI (lenZ xs) 1000], .osl none (.i1 (delS xs i)), [.junk, .junk, .junk]⟩
  | _ => none
instance : Inhabited Net := ⟨⟨0, [], 0, 0, [], []⟩⟩
/-- the network without a link, and with a weaker one -/
def zN : Net := ⟨0, [], 0, 0, [], []⟩
-- leaf
def woN (n : Net) (f t : Int) : Net := bif andB (eqI (chk n) 0) (leI 0 (fnd n f t)) then ⟨n.nd, n.pw, n.ns, n.th, delS n.ls (fnd n f t), delS n.mg (fnd n f t)⟩ else zN
-- leaf
def woE (n : Net) (f t : Int) : Int := bif eqI (chk n) 0 then (bif leI 0 (fnd n f t) then 0 else 7) else 1
-- leaf
def weOk (n : Net) (f t m : Int) : Bool := andB (leI 0 m) (leI m (7 - n.lo (fnd n f t)))
-- leaf
def addL (ls : List (List Int)) (i m : Int) : List (List Int) := setL ls i (setN 3 (getL ls i) 2 (getN (getL ls i) 2 + m))
-- leaf
def weN (n : Net) (f t m : Int) : Net := bif andB (eqI (chk n) 0) (andB (leI 0 (fnd n f t)) (weOk n f t m)) then ⟨n.nd, n.pw, n.ns, n.th, addL n.ls (fnd n f t) m, n.mg⟩ else zN
-- leaf
def weE (n : Net) (f t m : Int) : Int := bif eqI (chk n) 0 then (bif leI 0 (fnd n f t) then (bif weOk n f t m then 0 else 2) else 7) else 1
def a52 (n : Net) (f t : Int) : Option Res := some ⟨[few n], .tup [(woN n f t).oav none none none, .int .i64 (woE n f t)], [.junk, .junk, .junk]⟩
def s52 : List AV → Option Res := on3 a52
def s53 : List AV → Option Res := on3 a52
def a54 (n : Net) (f t m : Int) : Option Res := some ⟨[few n], .tup [(weN n f t m).oav none none none, .int .i64 (weE n f t m)], [.junk, .junk, .junk, .junk]⟩
def s54 : List AV → Option Res := on4 a54
def s55 : List AV → Option Res := on4 a54
def s95 : List AV → Option Res
  | [.sl _ (.i1 xs), .sl _ (.i1 ys)] => some ⟨[leI (lenZ xs) 1000], .bool (andB (eqI (lenZ xs) (lenZ ys)) (notB (leI 0 (difZ xs ys)))), [.junk, .junk]⟩
  | _ => none
/-- the same network -/
-- leaf
def eqN (a b : Net) : Bool := andB (eqI a.nd b.nd) (andB (eqLs a.pw b.pw) (andB (eqI a.ns b.ns) (andB (eqI a.th b.th) (andB (eqLs a.ls b.ls) (eqLI a.mg b.mg)))))
def s56 : List AV → Option Res
  | [a, b] => match netA a, netA b with
    | some n, some m => some ⟨[eqN n m, few n], .bool true, [.junk, .junk]⟩
    | _, _ => none
  | _ => none

-- leaf
def lenR (rs : List (List Int)) : Int := lenZ rs
def ls97 : LSpec := ⟨35, [1, 2, 3, 11, 12, 13], [1, 2, 9], fun vs os => match vs, os with
  | [.ref 1 0, .ref 2 0, .own 9, .sl none (.rows pw), .int .i64 m, .int .i64 0], [.box cs, .box [.int .i64 0, .own 2002, .int .i64 0, .int .i64 0, .own 5002, .own 6002], .arr (some true) (.rows rs)] => match netN cs with
    | some n => .leaf (some ⟨.normal, [(1, .ref 1 0), (2, .ref 2 0), (3, .own 9)], [(1, .box cs), (2, .box [.int .i64 0, .own 2002, .int .i64 0, .int .i64 0, .own 5002, .own 6002]), (9, .arr (some true) (.rows n.pw))], [eqLs pw n.pw, eqI m (lenZ n.pw), eqI (lenR rs) (lenZ n.pw), few n]⟩)
    | none => .leaf none
  | _, _ => .leaf none⟩
def ls51 : LSpec := ⟨38, [1, 2, 3, 4], [1, 2, 3, 6], fun vs os => match vs, os with
  | [.ref 1 0, .ref 2 0, .ref 3 0, .int .i64 0], [.box cs, .box [.int .i64 0, .own 2002, .int .i64 0, .int .i64 0, .own 5002, .own 6002], .box [.int .i64 nd, .own 6, .int .i64 ns, .int .i64 th, .sl none (.st w ls), .sl none (.i1 mg)], .arr (some true) (.rows [])] => match netN cs with
    | some n => bif Nat.beq w 3 then .leaf (some ⟨.normal, [(1, .ref 1 0), (2, .ref 2 0), (3, .ref 3 0)], [(1, .box cs), (2, .box [.int .i64 0, .own 2002, .int .i64 0, .int .i64 0, .own 5002, .own 6002]), (3, .box [.int .i64 nd, .own 6, .int .i64 ns, .int .i64 th, .sl none (.st 3 ls), .sl none (.i1 mg)]), (6, .arr (some true) (.rows n.pw))],
        [eqI nd n.nd, eqI ns n.ns, eqI th n.th, eqLs ls n.ls, eqLI mg n.mg, few n]⟩) else .leaf none
    | none => .leaf none
  | _, _ => .leaf none⟩
def ls95 : LSpec := ⟨26, [0, 1, 5], [], fun vs os => match vs, os with
  | [.sl k (.i1 xs), .sl k' (.i1 ys), .int .i64 0], [] => .node (leI 0 (difZ xs ys))
      (.leaf (some ⟨.ret, [(4, .bool false)], [], [eqI (lenZ ys) (lenZ xs), leI (lenZ xs) 1000]⟩))
      (.leaf (some ⟨.normal, [], [], [eqI (lenZ ys) (lenZ xs), leI (lenZ xs) 1000]⟩))
  | _, _ => .leaf none⟩
def ls56a : LSpec := ⟨95, [2, 3, 5], [2, 3], fun vs os => match vs, os with
  | [.ref 2 0, .ref 3 0, .int .i64 0], [.box cs, .box ds] => match netC cs, netC ds with
    | some n, some m => .leaf (some ⟨.normal, [(2, .ref 2 0), (3, .ref 3 0)], [(2, .box cs), (3, .box ds)], [eqN n m, few n]⟩)
    | _, _ => .leaf none
  | _, _ => .leaf none⟩
def ls56b : LSpec := ⟨95, [2, 3, 6], [2, 3], fun vs os => match vs, os with
  | [.ref 2 0, .ref 3 0, .int .i64 0], [.box cs, .box ds] => match netC cs, netC ds with
    | some n, some m => .leaf (some ⟨.normal, [(2, .ref 2 0), (3, .ref 3 0)], [(2, .box cs), (3, .box ds)], [eqN n m, few n]⟩)
    | _, _ => .leaf none
  | _, _ => .leaf none⟩
def s13 : List AV → Option Res := on4 fun n f t m => some ⟨[leI (lenZ n.pw) 9223372036854775807], .bool true, [.junk, .junk, .junk, .junk]⟩
end Go.Sx

set_option linter.unusedVariables false
namespace Go.Sx
open Go

/-- all numbers of one list are in another one -/
-- leaf
def subZ (xs ys : List Int) : Bool := eqI (scan (fun i => notB (leI 0 (idxZ ys (getI xs i)))) xs.length 0) (-1)
def s58 : List AV → Option Res
  | [.int .i64 b, .snap cs 0, .snap [.int .i64 a] 0] => match netC cs with
    | some n => some ⟨[few n], .bool (notB (leI 0 (idxZ (rchL n a) b))), [.junk, .junk, .junk]⟩
    | none => none
  | _ => none
def s100c : List AV → Option Res
  | [.sl _ (.i1 xs), .clo 58 [.snap cs 0, .snap [.int .i64 a] 0]] => match netC cs with
    | some n => some ⟨[few n, leI (lenZ xs) 1000, subZ xs (rchL n a)], .int .i64 (-1), [.junk, .junk]⟩
    | none => none
  | _ => none
def s57c : List AV → Option Res
  | [.sl _ (.i1 xs), .clo 58 [.snap cs 0, .snap [.int .i64 a] 0]] => match netC cs with
    | some n => some ⟨[few n, leI (lenZ xs) 1000, subZ xs (rchL n a)], .bool false, [.junk, .junk]⟩
    | none => none
  | _ => none
def ls100c : LSpec := ⟨19, [0, 1, 7, 8], [], fun vs os => match vs, os with
  | [.sl k (.i1 xs), .clo 58 [.snap cs 0, .snap [.int .i64 a] 0], .int .i64 m, .int .i64 0], [] => match netC cs with
    | some n => .leaf (some ⟨.normal, [], [], [eqI m (lenZ xs), few n, leI (lenZ xs) 1000, subZ xs (rchL n a)]⟩)
    | none => .leaf none
  | _, _ => .leaf none⟩
def netB : List AV → Option (Int × Int × Int)
  | [.int .i64 nd, .own 102049, .int .i64 ns, .int .i64 th, .own 105049, .own 106049] => some (nd, ns, th)
  | _ => none
def ls14a : LSpec := ⟨200, [2, 3, 7, 8, 9, 89, 90], [3, 8, 9, 102049, 105049, 106049], fun vs os => match vs, os with
  | [.int .u8 more, .ref 3 0, .int .i64 i, .ref 8 0, .ref 9 0, .int .i64 d, .int .i64 0], [.box cs, .box [.int .i64 f, .int .i64 t, .int .i64 l], .box bs, .arr none (.rows pw), .arr none (.st w ls), .arr none (.i1 mg)] =>
    match netC cs, netB bs with
    | some n, some (nd, ns, th) => bif Nat.beq w 3 then .leaf (some ⟨.normal, [(2, .int .u8 more), (3, .ref 3 0), (7, .int .i64 i), (8, .ref 8 0), (9, .ref 9 0)],
        [(3, .box cs), (8, .box [.int .i64 f, .int .i64 t, .int .i64 l]), (9, .box bs), (102049, .arr none (.rows pw)), (105049, .arr none (.st 3 ls)), (106049, .arr none (.i1 mg))],
        [few n, eqI (chk n) 0, leI 0 (fnd n f t), eqI d n.nd, eqN ⟨nd, pw, ns, th, ls, mg⟩ (woN n f t)]⟩) else .leaf none
    | _, _ => .leaf none
  | _, _ => .leaf none⟩
def ls14b : LSpec := ⟨200, [2, 3, 7, 8, 9, 100, 101, 102], [3, 8, 9, 102049, 105049, 106049], fun vs os => match vs, os with
  | [.int .u8 more, .ref 3 0, .int .i64 i, .ref 8 0, .ref 9 0, .sl k (.st v xs), .int .i64 d, .int .i64 0], [.box cs, .box [.int .i64 f, .int .i64 t, .int .i64 l], .box bs, .arr none (.rows pw), .arr none (.st w ls), .arr none (.i1 mg)] =>
    match netC cs, netB bs with
    | some n, some (nd, ns, th) => bif andB (Nat.beq w 3) (Nat.beq v 3) then .leaf (some ⟨.normal, [(2, .int .u8 more), (3, .ref 3 0), (7, .int .i64 i), (8, .ref 8 0)],
        [(3, .box cs), (8, .box [.int .i64 f, .int .i64 t, .int .i64 l])],
        [few n, eqI (chk n) 0, leI 0 (fnd n f t), eqI i (fnd n f t), eqLs xs n.ls, eqI d (lenZ n.ls), eqN ⟨nd, pw, ns, th, ls, mg⟩ (woN n f t)]⟩) else .leaf none
    | _, _ => .leaf none
  | _, _ => .leaf none⟩
def s14 : List AV → Option Res
  | [a, .int .u8 x, .int .u8 y] => match netA a with
    | some n => some ⟨[leI (lenZ n.pw) 9223372036854775807, inB x 0 255, inB y 0 255], .bool true, [.junk, .junk, .junk]⟩
    | none => none
  | _ => none
end Go.Sx

set_option linter.unusedVariables false
namespace Go.Sx
open Go

/-! ### a heap of pairs, the second number is its key -/
-- leaf
def rw2 (r : List Int) : List Int := [getN r 0, getN r 1]
-- leaf
def swQ (q : List (List Int)) (i j : Int) : List (List Int) := setL (setL q i (rw2 (getL q j))) j (rw2 (getL q i))
-- leaf
def lsQ (q : List (List Int)) (i j : Int) : Bool := ltI (getN (getL q i) 1) (getN (getL q j) 1)
/-- the lesser one of two children -/
-- leaf
def chQ (q : List (List Int)) (i n : Int) : Int := bif andB (ltI (2 * i + 2) n) (lsQ q (2 * i + 2) (2 * i + 1)) then 2 * i + 2 else 2 * i + 1
-- leaf
def dnQ (k : Nat) (q : List (List Int)) (i n : Int) : List (List Int) :=
  match k with
  | 0 => q
  | k + 1 => match ltI (2 * i + 1) n with
    | false => q
    | true => match lsQ q (chQ q i n) i with
      | false => q
      | true => dnQ k (swQ q i (chQ q i n)) (chQ q i n) n
/-- where it ends -/
-- leaf
def dnI (k : Nat) (q : List (List Int)) (i n : Int) : Int :=
  match k with
  | 0 => i
  | k + 1 => match ltI (2 * i + 1) n with
    | false => i
    | true => match lsQ q (chQ q i n) i with
      | false => i
      | true => dnI k (swQ q i (chQ q i n)) (chQ q i n) n
-- leaf
def dnJ (q : List (List Int)) (n : Int) : Int := dnI n.toNat q 0 n
-- leaf
def dnZ (q : List (List Int)) (n : Int) : List (List Int) := dnQ n.toNat q 0 n
-- leaf
def upQ (k : Nat) (q : List (List Int)) (j : Int) : List (List Int) :=
  match k with
  | 0 => q
  | k + 1 => match orB (eqI j 0) (notB (lsQ q j ((j - 1) / 2))) with
    | true => q
    | false => upQ k (swQ q ((j - 1) / 2) j) ((j - 1) / 2)
-- leaf
def upZ (q : List (List Int)) (j : Int) : List (List Int) := upQ (j.toNat + 1) q j
/-- what is taken from a heap, and what is left -/
-- leaf
def poA (q : List (List Int)) : List (List Int) := dnZ (swQ q 0 (lenZ q - 1)) (lenZ q - 1)
-- leaf
def poX (q : List (List Int)) : List Int := getL (poA q) (lenZ q - 1)
-- leaf
def poQ (q : List (List Int)) : List (List Int) := subL (poA q) 0 (lenZ q - 1)
-- leaf
def puQ (q : List (List Int)) (x d : Int) : List (List Int) := upZ (q ++ [[x, d]]) (lenZ q)

def s151 : List AV → Option Res
  | [.sl _ (.st w q)] => bif Nat.beq w 2 then some ⟨[], .int .i64 (lenZ q), [.junk]⟩ else none
  | _ => none
def s181 : List AV → Option Res
  | [.sl _ (.st w q), .int .i64 i, .int .i64 j] => bif Nat.beq w 2 then some ⟨[leI 0 i, ltI i (lenZ q), leI 0 j, ltI j (lenZ q)], .bool (lsQ q i j), [.junk, .junk, .junk]⟩ else none
  | _ => none
def s184 : List AV → Option Res
  | [.osl (some b) (.st w q), .int .i64 i, .int .i64 j] => bif Nat.beq w 2 then some ⟨[leI 0 i, ltI i (lenZ q), leI 0 j, ltI j (lenZ q)], .tup [], [.osl (some b) (.st 2 (swQ q i j)), .junk, .junk]⟩ else none
  | _ => none
def qA (b : Bool) (q : List (List Int)) : AV := .obx [.osl (some b) (.st 2 q)]
def qI (b : Bool) (q : List (List Int)) : AV := .ifc 148 (qA b q)
def s182 : List AV → Option Res
  | [.obx [.osl (some b) (.st w q)]] => bif Nat.beq w 2 then some ⟨[ltI 0 (lenZ q), leI (lenZ q) 1000000], .ifc 150 (.agg [.int .i64 (getN (getL q (sbI .i64 (lenZ q) 1)) 0), .int .i64 (getN (getL q (sbI .i64 (lenZ q) 1)) 1)]), [qA b (subL q 0 (sbI .i64 (lenZ q) 1))]⟩ else none
  | _ => none
def s183 : List AV → Option Res
  | [.obx [.osl (some b) (.st w q)], .ifc 150 (.agg [.int .i64 x, .int .i64 d])] => bif Nat.beq w 2 then some ⟨[leI (lenZ q) 1000000], .tup [], [qA true (catL q [[x, d]]), .junk]⟩ else none
  | _ => none
def s162 : List AV → Option Res
  | [.ifc 148 (.obx [.osl (some b) (.st w q)]), .int .i64 0, .int .i64 n] => bif Nat.beq w 2 then some ⟨[leI 0 n, leI n (lenZ q), leI (lenZ q) 1000000], .bool (ltI 0 (dnJ q n)), [qI b (dnZ q n), .junk, .junk]⟩ else none
  | _ => none
def s163 : List AV → Option Res
  | [.ifc 148 (.obx [.osl (some b) (.st w q)]), .int .i64 j] => bif Nat.beq w 2 then some ⟨[leI 0 j, ltI j (lenZ q), leI (lenZ q) 1000000], .tup [], [qI b (upZ q j), .junk]⟩ else none
  | _ => none
def s152 : List AV → Option Res
  | [.ifc 148 (.obx [.osl (some b) (.st w q)])] => bif Nat.beq w 2 then some ⟨[ltI 0 (lenZ q), leI (lenZ q) 1000000], .ifc 150 (.agg [.int .i64 (getN (poX q) 0), .int .i64 (getN (poX q) 1)]), [qI b (poQ q)]⟩ else none
  | _ => none
def s153 : List AV → Option Res
  | [.ifc 148 (.obx [.osl (some b) (.st w q)]), .ifc 150 (.agg [.int .i64 x, .int .i64 d])] => bif Nat.beq w 2 then some ⟨[leI (lenZ q) 100000], .tup [], [qI true (puQ q x d), .junk]⟩ else none
  | _ => none
def ls162 : LSpec := ⟨48, [0, 1, 2, 7], [500, 1500], fun vs os => match vs, os with
  | [.ifc 148 (.ref 500 0), .int .i64 0, .int .i64 n, .int .i64 0], [.box [.own 1500], .arr (some b) (.st w q)] => bif Nat.beq w 2 then
      .leaf (some ⟨.normal, [(1, .int .i64 0), (7, .int .i64 (dnJ q n))], [(500, .box [.own 1500]), (1500, .arr (some b) (.st 2 (dnZ q n)))], [leI 0 n, leI n (lenZ q), leI (lenZ q) 1000000]⟩) else .leaf none
  | _, _ => .leaf none⟩
def ls163 : LSpec := ⟨23, [0, 1], [500, 1500], fun vs os => match vs, os with
  | [.ifc 148 (.ref 500 0), .int .i64 j], [.box [.own 1500], .arr (some b) (.st w q)] => bif Nat.beq w 2 then
      .leaf (some ⟨.normal, [], [(500, .box [.own 1500]), (1500, .arr (some b) (.st 2 (upZ q j)))], [leI 0 j, ltI j (lenZ q), leI (lenZ q) 1000000]⟩) else .leaf none
  | _, _ => .leaf none⟩
end Go.Sx
