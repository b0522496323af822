/- The calls of the example, reckoned: part 1. (printed by wip/tools/gen.py) -/
import Derived.Test.YtpophgfjdlkgiaaGreatDoorRmP0
namespace Go.Proofs.YtpophgfjdlkgiaaGreatDoor
namespace Rm
open Go Go.RowKit
open Rk (Orc Kn)
set_option maxRecDepth 100000
def pMadeA : List Value := [.agg ⟨[.slice (some ⟨1, 0, some 0⟩) 1 1, .int .i64 0, .int .i64 0, .bool false, .bool false, .bool false, .bool false, .slice none 0 0, .slice none 0 0, .int .u8 0, .int .u8 0, .int .u8 0, .int .u8 0, .int .u8 0, .int .u8 0, .int .u8 0, .int .u8 0, .int .u8 0, .int .u8 0, .int .i64 49152]⟩]
def pMadeH : Heap := [
    (1, .row [.int .i64 49152, .slice (some ⟨0, 0, some 0⟩) 4 4, .int .u8 0] 36),
    (0, .row [.int .u8 234, .int .u8 76, .int .u8 0, .int .u8 192] 5)]
def pMadeV : Value := .pointer (some ⟨22, 0, some 0⟩)
def pMadeF : Heap := [
    (22, .row [.pointer (some ⟨21, 0, some 0⟩), .int .u8 0, .int .u8 0, .int .u8 0, .int .u8 0, .int .u8 0, .int .u8 0, .int .u8 0, .int .u8 0, .int .u8 0, .int .u8 0, .int .i64 49152, .int .u8 0, .int .u8 0, .int .u8 192, .int .u8 0, .int .u8 0, .int .u8 0, .int .u8 0, .int .u8 0, .int .u8 0, .int .u8 0, .string ⟨#[]⟩, .int .i64 0, .int .i64 0, .bool false, .int .u8 0, .int .u8 0, .slice none 0 0, .int .i64 0, .bool false, .bool false, .int .i64 0, .bool false, .bool false, .int .i64 0, .int .i64 0] 101),
    (21, .row [.pointer (some ⟨18, 0, some 0⟩), .int .i64 0, .int .i64 0, .bool false, .bool false, .bool false, .bool false, .pointer (some ⟨19, 0, some 0⟩), .pointer (some ⟨20, 0, some 0⟩), .int .i64 0] 148),
    (20, .row [.complex .f64 0 0, .complex .f64 4607182418800017408 0, .int .u8 0] 151),
    (19, .row [.slice none 0 0, .slice none 0 0, .slice none 0 0, .slice none 0 0, .slice none 0 0] 141),
    (18, .big 131072 memF 135),
    (17, .snap 131072 memF),
    (16, .row [.int .u8 0, .int .u8 0, .int .u8 0, .int .u8 0, .int .u8 0, .int .u8 0, .int .u8 0, .int .u8 0, .int .u8 0, .int .u8 0, .int .i64 49152] 45),
    (15, .row [.pointer (some ⟨12, 0, some 0⟩), .int .i64 0, .int .i64 0, .bool false, .bool false, .bool false, .bool false, .pointer (some ⟨13, 0, some 0⟩), .pointer (some ⟨14, 0, some 0⟩), .int .i64 0] 148),
    (14, .row [.complex .f64 0 0, .complex .f64 4607182418800017408 0, .int .u8 0] 151),
    (13, .row [.slice none 0 0, .slice none 0 0, .slice none 0 0, .slice none 0 0, .slice none 0 0] 141),
    (12, .big 131072 memF 135),
    (11, .snap 131072 memF),
    (10, .row [.int .i64 0, .int .i64 0, .bool false, .bool false, .bool false, .bool false] 39),
    (9, .row [.int .i64 0, .int .i64 0, .bool false, .bool false, .bool false, .bool false] 39),
    (8, .row [.complex .f64 0 0, .complex .f64 4607182418800017408 0, .int .u8 0] 151),
    (7, .row [.int .i64 49152, .slice (some ⟨0, 0, some 0⟩) 4 4, .int .u8 0] 36),
    (6, .row [.slice none 0 0, .slice none 0 0, .slice none 0 0, .slice none 0 0, .slice none 0 0] 141),
    (5, .big 131072 memF 135),
    (4, .snap 131072 u8z),
    (3, .row [.slice (some ⟨1, 0, some 0⟩) 1 1, .int .i64 0, .int .i64 0, .bool false, .bool false, .bool false, .bool false, .slice none 0 0, .slice none 0 0] 41),
    (2, .row [.slice (some ⟨1, 0, some 0⟩) 1 1, .int .i64 0, .int .i64 0, .bool false, .bool false, .bool false, .bool false, .slice none 0 0, .slice none 0 0, .int .u8 0, .int .u8 0, .int .u8 0, .int .u8 0, .int .u8 0, .int .u8 0, .int .u8 0, .int .u8 0, .int .u8 0, .int .u8 0, .int .i64 49152] 47),
    (1, .row [.int .i64 49152, .slice (some ⟨0, 0, some 0⟩) 4 4, .int .u8 0] 36),
    (0, .row [.int .u8 234, .int .u8 76, .int .u8 0, .int .u8 192] 5)]
def pMadeR : Heap := [
    (22, .row [.pointer (some ⟨21, 0, some 0⟩), .int .u8 0, .int .u8 0, .int .u8 0, .int .u8 0, .int .u8 0, .int .u8 0, .int .u8 0, .int .u8 0, .int .u8 0, .int .u8 0, .int .i64 49152, .int .u8 0, .int .u8 0, .int .u8 192, .int .u8 0, .int .u8 0, .int .u8 0, .int .u8 0, .int .u8 0, .int .u8 0, .int .u8 0, .string ⟨#[]⟩, .int .i64 0, .int .i64 0, .bool false, .int .u8 0, .int .u8 0, .slice none 0 0, .int .i64 0, .bool false, .bool false, .int .i64 0, .bool false, .bool false, .int .i64 0, .int .i64 0] 101),
    (21, .row [.pointer (some ⟨18, 0, some 0⟩), .int .i64 0, .int .i64 0, .bool false, .bool false, .bool false, .bool false, .pointer (some ⟨19, 0, some 0⟩), .pointer (some ⟨20, 0, some 0⟩), .int .i64 0] 148),
    (20, .row [.complex .f64 0 0, .complex .f64 4607182418800017408 0, .int .u8 0] 151),
    (19, .row [.slice none 0 0, .slice none 0 0, .slice none 0 0, .slice none 0 0, .slice none 0 0] 141),
    (18, .big 131072 memF 135),
    (1, .row [.int .i64 49152, .slice (some ⟨0, 0, some 0⟩) 4 4, .int .u8 0] 36),
    (0, .row [.int .u8 234, .int .u8 76, .int .u8 0, .int .u8 192] 5)]
def pMade : Pc := ⟨10, 2, pMadeA, pMadeH, pMadeV, pMadeR, 23⟩
theorem pMade_run (W : World) (j : Js) (K : Value → Heap → Nat → Prop → Prop) : okR (fn Tryz.prog okf (knA W j) bz (sumA j) 400 30 pMade.f pMade.A pMade.H pMade.nx [] True) K = K pMade.V pMadeF pMade.X True := by kernel_rfl
theorem pMade_keep : keep (pk [22, 21, 20, 19, 18, 1, 0]) pMadeF = pMade.R := by kernel_rfl
theorem pMade_ok {W : World} {j : Js} {B : Nat} (hs : Good Tryz.prog B (knA W j) (sumA j)) : PcOk Tryz.prog B (knA W j) pMade := pc_ok mixed bz_ok okf_ok hs _ (pMade_run W j) trivial pMade_keep
def pTabA : List Value := [.agg ⟨[.slice none 0 0, .slice none 0 0, .int .i64 0, .int .i64 100]⟩]
def pTabH : Heap := [
    (22, .row [.pointer (some ⟨21, 0, some 0⟩), .int .u8 0, .int .u8 0, .int .u8 0, .int .u8 0, .int .u8 0, .int .u8 0, .int .u8 0, .int .u8 0, .int .u8 0, .int .u8 0, .int .i64 49152, .int .u8 0, .int .u8 0, .int .u8 192, .int .u8 0, .int .u8 0, .int .u8 0, .int .u8 0, .int .u8 0, .int .u8 0, .int .u8 0, .string ⟨#[]⟩, .int .i64 0, .int .i64 0, .bool false, .int .u8 0, .int .u8 0, .slice none 0 0, .int .i64 0, .bool false, .bool false, .int .i64 0, .bool false, .bool false, .int .i64 0, .int .i64 0] 101),
    (21, .row [.pointer (some ⟨18, 0, some 0⟩), .int .i64 0, .int .i64 0, .bool false, .bool false, .bool false, .bool false, .pointer (some ⟨19, 0, some 0⟩), .pointer (some ⟨20, 0, some 0⟩), .int .i64 0] 148),
    (20, .row [.complex .f64 0 0, .complex .f64 4607182418800017408 0, .int .u8 0] 151),
    (19, .row [.slice none 0 0, .slice none 0 0, .slice none 0 0, .slice none 0 0, .slice none 0 0] 141),
    (18, .big 131072 memF 135),
    (1, .row [.int .i64 49152, .slice (some ⟨0, 0, some 0⟩) 4 4, .int .u8 0] 36),
    (0, .row [.int .u8 234, .int .u8 76, .int .u8 0, .int .u8 192] 5)]
def pTabV : Value := .tuple ⟨[.pointer (some ⟨25, 0, some 0⟩), .int .i64 0]⟩
def pTabF : Heap := [
    (25, .big 131076 tabF 73),
    (24, .snap 131076 tabF),
    (23, .row [.slice none 0 0, .slice none 0 0, .int .i64 0, .int .i64 100] 53),
    (22, .row [.pointer (some ⟨21, 0, some 0⟩), .int .u8 0, .int .u8 0, .int .u8 0, .int .u8 0, .int .u8 0, .int .u8 0, .int .u8 0, .int .u8 0, .int .u8 0, .int .u8 0, .int .i64 49152, .int .u8 0, .int .u8 0, .int .u8 192, .int .u8 0, .int .u8 0, .int .u8 0, .int .u8 0, .int .u8 0, .int .u8 0, .int .u8 0, .string ⟨#[]⟩, .int .i64 0, .int .i64 0, .bool false, .int .u8 0, .int .u8 0, .slice none 0 0, .int .i64 0, .bool false, .bool false, .int .i64 0, .bool false, .bool false, .int .i64 0, .int .i64 0] 101),
    (21, .row [.pointer (some ⟨18, 0, some 0⟩), .int .i64 0, .int .i64 0, .bool false, .bool false, .bool false, .bool false, .pointer (some ⟨19, 0, some 0⟩), .pointer (some ⟨20, 0, some 0⟩), .int .i64 0] 148),
    (20, .row [.complex .f64 0 0, .complex .f64 4607182418800017408 0, .int .u8 0] 151),
    (19, .row [.slice none 0 0, .slice none 0 0, .slice none 0 0, .slice none 0 0, .slice none 0 0] 141),
    (18, .big 131072 memF 135),
    (1, .row [.int .i64 49152, .slice (some ⟨0, 0, some 0⟩) 4 4, .int .u8 0] 36),
    (0, .row [.int .u8 234, .int .u8 76, .int .u8 0, .int .u8 192] 5)]
def pTabR : Heap := [
    (25, .big 131076 tabF 73),
    (22, .row [.pointer (some ⟨21, 0, some 0⟩), .int .u8 0, .int .u8 0, .int .u8 0, .int .u8 0, .int .u8 0, .int .u8 0, .int .u8 0, .int .u8 0, .int .u8 0, .int .u8 0, .int .i64 49152, .int .u8 0, .int .u8 0, .int .u8 192, .int .u8 0, .int .u8 0, .int .u8 0, .int .u8 0, .int .u8 0, .int .u8 0, .int .u8 0, .string ⟨#[]⟩, .int .i64 0, .int .i64 0, .bool false, .int .u8 0, .int .u8 0, .slice none 0 0, .int .i64 0, .bool false, .bool false, .int .i64 0, .bool false, .bool false, .int .i64 0, .int .i64 0] 101),
    (21, .row [.pointer (some ⟨18, 0, some 0⟩), .int .i64 0, .int .i64 0, .bool false, .bool false, .bool false, .bool false, .pointer (some ⟨19, 0, some 0⟩), .pointer (some ⟨20, 0, some 0⟩), .int .i64 0] 148),
    (20, .row [.complex .f64 0 0, .complex .f64 4607182418800017408 0, .int .u8 0] 151),
    (19, .row [.slice none 0 0, .slice none 0 0, .slice none 0 0, .slice none 0 0, .slice none 0 0] 141),
    (18, .big 131072 memF 135),
    (1, .row [.int .i64 49152, .slice (some ⟨0, 0, some 0⟩) 4 4, .int .u8 0] 36),
    (0, .row [.int .u8 234, .int .u8 76, .int .u8 0, .int .u8 192] 5)]
def pTab : Pc := ⟨11, 23, pTabA, pTabH, pTabV, pTabR, 26⟩
theorem pTab_run (W : World) (j : Js) (K : Value → Heap → Nat → Prop → Prop) : okR (fn Tryz.prog okf (knA W j) bz (sumA j) 400 30 pTab.f pTab.A pTab.H pTab.nx [] True) K = K pTab.V pTabF pTab.X True := by kernel_rfl
theorem pTab_keep : keep (pk [25, 22, 21, 20, 19, 18, 1, 0]) pTabF = pTab.R := by kernel_rfl
theorem pTab_ok {W : World} {j : Js} {B : Nat} (hs : Good Tryz.prog B (knA W j) (sumA j)) : PcOk Tryz.prog B (knA W j) pTab := pc_ok mixed bz_ok okf_ok hs _ (pTab_run W j) trivial pTab_keep
def pNewA : List Value := [.pointer (some ⟨22, 0, some 0⟩), .pointer (some ⟨25, 0, some 0⟩)]
def pNewH : Heap := [
    (27, .row [.int .i64 0, .int .i64 0, .slice none 0 0, .slice none 0 0, .slice none 0 0, .slice none 0 0, .bool false] 58),
    (26, .row [.int .i64 10, .slice none 0 0] 24),
    (25, .big 131076 tabF 73),
    (22, .row [.pointer (some ⟨21, 0, some 0⟩), .int .u8 0, .int .u8 0, .int .u8 0, .int .u8 0, .int .u8 0, .int .u8 0, .int .u8 0, .int .u8 0, .int .u8 0, .int .u8 0, .int .i64 49152, .int .u8 0, .int .u8 0, .int .u8 192, .int .u8 0, .int .u8 0, .int .u8 0, .int .u8 0, .int .u8 0, .int .u8 0, .int .u8 0, .string ⟨#[]⟩, .int .i64 0, .int .i64 0, .bool false, .int .u8 0, .int .u8 0, .slice none 0 0, .int .i64 0, .bool false, .bool false, .int .i64 0, .bool false, .bool false, .int .i64 0, .int .i64 0] 101),
    (21, .row [.pointer (some ⟨18, 0, some 0⟩), .int .i64 0, .int .i64 0, .bool false, .bool false, .bool false, .bool false, .pointer (some ⟨19, 0, some 0⟩), .pointer (some ⟨20, 0, some 0⟩), .int .i64 0] 148),
    (20, .row [.complex .f64 0 0, .complex .f64 4607182418800017408 0, .int .u8 0] 151),
    (19, .row [.slice none 0 0, .slice none 0 0, .slice none 0 0, .slice none 0 0, .slice none 0 0] 141),
    (18, .big 131072 memF 135),
    (1, .row [.int .i64 49152, .slice (some ⟨0, 0, some 0⟩) 4 4, .int .u8 0] 36),
    (0, .row [.int .u8 234, .int .u8 76, .int .u8 0, .int .u8 192] 5)]
def pNewV : Value := .tuple ⟨[.pointer (some ⟨41, 0, some 0⟩), .int .i64 0]⟩
def pNewF : Heap := [
    (41, .row [.pointer (some ⟨30, 0, some 0⟩), .pointer (some ⟨28, 0, some 0⟩), .pointer (some ⟨29, 0, some 0⟩), .int .i64 0, .int .i64 0, .int .i64 0, .bool false] 119),
    (40, .row [.pointer (some ⟨37, 0, some 0⟩), .int .i64 0, .int .i64 0, .bool false, .bool false, .bool false, .bool false, .pointer (some ⟨38, 0, some 0⟩), .pointer (some ⟨39, 0, some 0⟩), .int .i64 0] 148),
    (39, .row [.complex .f64 0 0, .complex .f64 4607182418800017408 0, .int .u8 0] 151),
    (38, .row [.slice none 0 0, .slice none 0 0, .slice none 0 0, .slice none 0 0, .slice none 0 0] 141),
    (37, .big 131072 memF 135),
    (36, .snap 131072 memF),
    (35, .row [.pointer (some ⟨32, 0, some 0⟩), .int .i64 0, .int .i64 0, .bool false, .bool false, .bool false, .bool false, .pointer (some ⟨33, 0, some 0⟩), .pointer (some ⟨34, 0, some 0⟩), .int .i64 0] 148),
    (34, .row [.complex .f64 0 0, .complex .f64 4607182418800017408 0, .int .u8 0] 151),
    (33, .row [.slice none 0 0, .slice none 0 0, .slice none 0 0, .slice none 0 0, .slice none 0 0] 141),
    (32, .big 131072 memF 135),
    (31, .snap 131072 memF),
    (30, .row [.pointer (some ⟨35, 0, some 0⟩), .int .u8 0, .int .u8 0, .int .u8 0, .int .u8 0, .int .u8 0, .int .u8 0, .int .u8 0, .int .u8 0, .int .u8 0, .int .u8 0, .int .i64 49152, .int .u8 0, .int .u8 0, .int .u8 192, .int .u8 0, .int .u8 0, .int .u8 0, .int .u8 0, .int .u8 0, .int .u8 0, .int .u8 0, .string ⟨#[]⟩, .int .i64 0, .int .i64 0, .bool false, .int .u8 0, .int .u8 0, .slice none 0 0, .int .i64 0, .bool false, .bool false, .int .i64 0, .bool false, .bool false, .int .i64 0, .int .i64 0] 101),
    (29, .row [.slice none 0 0, .int .i64 100, .bool false] 162),
    (28, .row [.pointer (some ⟨25, 0, some 0⟩), .int .i64 0, .int .i64 0, .int .i64 0, .int .i64 0, .int .u8 0, .int .i64 0, .int .i64 0] 160),
    (27, .row [.int .i64 0, .int .i64 0, .slice none 0 0, .slice none 0 0, .slice none 0 0, .slice none 0 0, .bool false] 58),
    (26, .row [.int .i64 10, .slice none 0 0] 24),
    (25, .big 131076 tabF 73),
    (22, .row [.pointer (some ⟨21, 0, some 0⟩), .int .u8 0, .int .u8 0, .int .u8 0, .int .u8 0, .int .u8 0, .int .u8 0, .int .u8 0, .int .u8 0, .int .u8 0, .int .u8 0, .int .i64 49152, .int .u8 0, .int .u8 0, .int .u8 192, .int .u8 0, .int .u8 0, .int .u8 0, .int .u8 0, .int .u8 0, .int .u8 0, .int .u8 0, .string ⟨#[]⟩, .int .i64 0, .int .i64 0, .bool false, .int .u8 0, .int .u8 0, .slice none 0 0, .int .i64 0, .bool false, .bool false, .int .i64 0, .bool false, .bool false, .int .i64 0, .int .i64 0] 101),
    (21, .row [.pointer (some ⟨18, 0, some 0⟩), .int .i64 0, .int .i64 0, .bool false, .bool false, .bool false, .bool false, .pointer (some ⟨19, 0, some 0⟩), .pointer (some ⟨20, 0, some 0⟩), .int .i64 0] 148),
    (20, .row [.complex .f64 0 0, .complex .f64 4607182418800017408 0, .int .u8 0] 151),
    (19, .row [.slice none 0 0, .slice none 0 0, .slice none 0 0, .slice none 0 0, .slice none 0 0] 141),
    (18, .big 131072 memF 135),
    (1, .row [.int .i64 49152, .slice (some ⟨0, 0, some 0⟩) 4 4, .int .u8 0] 36),
    (0, .row [.int .u8 234, .int .u8 76, .int .u8 0, .int .u8 192] 5)]
def pNewR : Heap := [
    (41, .row [.pointer (some ⟨30, 0, some 0⟩), .pointer (some ⟨28, 0, some 0⟩), .pointer (some ⟨29, 0, some 0⟩), .int .i64 0, .int .i64 0, .int .i64 0, .bool false] 119),
    (35, .row [.pointer (some ⟨32, 0, some 0⟩), .int .i64 0, .int .i64 0, .bool false, .bool false, .bool false, .bool false, .pointer (some ⟨33, 0, some 0⟩), .pointer (some ⟨34, 0, some 0⟩), .int .i64 0] 148),
    (34, .row [.complex .f64 0 0, .complex .f64 4607182418800017408 0, .int .u8 0] 151),
    (33, .row [.slice none 0 0, .slice none 0 0, .slice none 0 0, .slice none 0 0, .slice none 0 0] 141),
    (32, .big 131072 memF 135),
    (30, .row [.pointer (some ⟨35, 0, some 0⟩), .int .u8 0, .int .u8 0, .int .u8 0, .int .u8 0, .int .u8 0, .int .u8 0, .int .u8 0, .int .u8 0, .int .u8 0, .int .u8 0, .int .i64 49152, .int .u8 0, .int .u8 0, .int .u8 192, .int .u8 0, .int .u8 0, .int .u8 0, .int .u8 0, .int .u8 0, .int .u8 0, .int .u8 0, .string ⟨#[]⟩, .int .i64 0, .int .i64 0, .bool false, .int .u8 0, .int .u8 0, .slice none 0 0, .int .i64 0, .bool false, .bool false, .int .i64 0, .bool false, .bool false, .int .i64 0, .int .i64 0] 101),
    (29, .row [.slice none 0 0, .int .i64 100, .bool false] 162),
    (28, .row [.pointer (some ⟨25, 0, some 0⟩), .int .i64 0, .int .i64 0, .int .i64 0, .int .i64 0, .int .u8 0, .int .i64 0, .int .i64 0] 160),
    (27, .row [.int .i64 0, .int .i64 0, .slice none 0 0, .slice none 0 0, .slice none 0 0, .slice none 0 0, .bool false] 58),
    (26, .row [.int .i64 10, .slice none 0 0] 24),
    (25, .big 131076 tabF 73),
    (22, .row [.pointer (some ⟨21, 0, some 0⟩), .int .u8 0, .int .u8 0, .int .u8 0, .int .u8 0, .int .u8 0, .int .u8 0, .int .u8 0, .int .u8 0, .int .u8 0, .int .u8 0, .int .i64 49152, .int .u8 0, .int .u8 0, .int .u8 192, .int .u8 0, .int .u8 0, .int .u8 0, .int .u8 0, .int .u8 0, .int .u8 0, .int .u8 0, .string ⟨#[]⟩, .int .i64 0, .int .i64 0, .bool false, .int .u8 0, .int .u8 0, .slice none 0 0, .int .i64 0, .bool false, .bool false, .int .i64 0, .bool false, .bool false, .int .i64 0, .int .i64 0] 101),
    (21, .row [.pointer (some ⟨18, 0, some 0⟩), .int .i64 0, .int .i64 0, .bool false, .bool false, .bool false, .bool false, .pointer (some ⟨19, 0, some 0⟩), .pointer (some ⟨20, 0, some 0⟩), .int .i64 0] 148),
    (20, .row [.complex .f64 0 0, .complex .f64 4607182418800017408 0, .int .u8 0] 151),
    (19, .row [.slice none 0 0, .slice none 0 0, .slice none 0 0, .slice none 0 0, .slice none 0 0] 141),
    (18, .big 131072 memF 135),
    (1, .row [.int .i64 49152, .slice (some ⟨0, 0, some 0⟩) 4 4, .int .u8 0] 36),
    (0, .row [.int .u8 234, .int .u8 76, .int .u8 0, .int .u8 192] 5)]
def pNew : Pc := ⟨19, 28, pNewA, pNewH, pNewV, pNewR, 42⟩
theorem pNew_run (W : World) (j : Js) (K : Value → Heap → Nat → Prop → Prop) : okR (fn Tryz.prog okf (knA W j) bz (sumA j) 400 30 pNew.f pNew.A pNew.H pNew.nx [] True) K = K pNew.V pNewF pNew.X True := by kernel_rfl
theorem pNew_keep : keep (pk [41, 35, 34, 33, 32, 30, 29, 28, 27, 26, 25, 22, 21, 20, 19, 18, 1, 0]) pNewF = pNew.R := by kernel_rfl
theorem pNew_ok {W : World} {j : Js} {B : Nat} (hs : Good Tryz.prog B (knA W j) (sumA j)) : PcOk Tryz.prog B (knA W j) pNew := pc_ok mixed bz_ok okf_ok hs _ (pNew_run W j) trivial pNew_keep
def pS0A : List Value := [.pointer (some ⟨41, 0, some 0⟩), .bool false]
def pS0H : Heap := [
    (42, .row [.slice none 0 0] 82),
    (41, .row [.pointer (some ⟨30, 0, some 0⟩), .pointer (some ⟨28, 0, some 0⟩), .pointer (some ⟨29, 0, some 0⟩), .int .i64 0, .int .i64 0, .int .i64 0, .bool false] 119),
    (35, .row [.pointer (some ⟨32, 0, some 0⟩), .int .i64 0, .int .i64 0, .bool false, .bool false, .bool false, .bool false, .pointer (some ⟨33, 0, some 0⟩), .pointer (some ⟨34, 0, some 0⟩), .int .i64 0] 148),
    (34, .row [.complex .f64 0 0, .complex .f64 4607182418800017408 0, .int .u8 0] 151),
    (33, .row [.slice none 0 0, .slice none 0 0, .slice none 0 0, .slice none 0 0, .slice none 0 0] 141),
    (32, .big 131072 memF 135),
    (30, .row [.pointer (some ⟨35, 0, some 0⟩), .int .u8 0, .int .u8 0, .int .u8 0, .int .u8 0, .int .u8 0, .int .u8 0, .int .u8 0, .int .u8 0, .int .u8 0, .int .u8 0, .int .i64 49152, .int .u8 0, .int .u8 0, .int .u8 192, .int .u8 0, .int .u8 0, .int .u8 0, .int .u8 0, .int .u8 0, .int .u8 0, .int .u8 0, .string ⟨#[]⟩, .int .i64 0, .int .i64 0, .bool false, .int .u8 0, .int .u8 0, .slice none 0 0, .int .i64 0, .bool false, .bool false, .int .i64 0, .bool false, .bool false, .int .i64 0, .int .i64 0] 101),
    (29, .row [.slice none 0 0, .int .i64 100, .bool false] 162),
    (28, .row [.pointer (some ⟨25, 0, some 0⟩), .int .i64 0, .int .i64 0, .int .i64 0, .int .i64 0, .int .u8 0, .int .i64 0, .int .i64 0] 160),
    (27, .row [.int .i64 0, .int .i64 0, .slice none 0 0, .slice none 0 0, .slice none 0 0, .slice none 0 0, .bool false] 58),
    (26, .row [.int .i64 10, .slice none 0 0] 24),
    (25, .big 131076 tabF 73),
    (22, .row [.pointer (some ⟨21, 0, some 0⟩), .int .u8 0, .int .u8 0, .int .u8 0, .int .u8 0, .int .u8 0, .int .u8 0, .int .u8 0, .int .u8 0, .int .u8 0, .int .u8 0, .int .i64 49152, .int .u8 0, .int .u8 0, .int .u8 192, .int .u8 0, .int .u8 0, .int .u8 0, .int .u8 0, .int .u8 0, .int .u8 0, .int .u8 0, .string ⟨#[]⟩, .int .i64 0, .int .i64 0, .bool false, .int .u8 0, .int .u8 0, .slice none 0 0, .int .i64 0, .bool false, .bool false, .int .i64 0, .bool false, .bool false, .int .i64 0, .int .i64 0] 101),
    (21, .row [.pointer (some ⟨18, 0, some 0⟩), .int .i64 0, .int .i64 0, .bool false, .bool false, .bool false, .bool false, .pointer (some ⟨19, 0, some 0⟩), .pointer (some ⟨20, 0, some 0⟩), .int .i64 0] 148),
    (20, .row [.complex .f64 0 0, .complex .f64 4607182418800017408 0, .int .u8 0] 151),
    (19, .row [.slice none 0 0, .slice none 0 0, .slice none 0 0, .slice none 0 0, .slice none 0 0] 141),
    (18, .big 131072 memF 135),
    (1, .row [.int .i64 49152, .slice (some ⟨0, 0, some 0⟩) 4 4, .int .u8 0] 36),
    (0, .row [.int .u8 234, .int .u8 76, .int .u8 0, .int .u8 192] 5)]
def pS0V : Value := .int .i64 0
def pS0F : Heap := [
    (49, .room [.int .i64 49152, .bool false, .int .u8 234, .int .u8 0] 62 4),
    (48, .row [.int .i64 49152, .bool false, .int .u8 234, .int .u8 0] 62),
    (47, .row [.int .i64 49152, .bool false, .int .u8 234, .int .u8 0] 62),
    (46, .row [.func (.func 45) ⟨[]⟩ ⟨[.pointer (some ⟨43, 0, some 0⟩), .pointer (some ⟨44, 0, some 0⟩)]⟩, .func (.func 48) ⟨[]⟩ ⟨[.pointer (some ⟨43, 0, some 0⟩), .pointer (some ⟨45, 0, some 0⟩), .pointer (some ⟨44, 0, some 0⟩)]⟩, .func (.func 50) ⟨[]⟩ ⟨[.pointer (some ⟨44, 0, some 0⟩), .pointer (some ⟨43, 0, some 0⟩)]⟩] 28),
    (45, .row [.int .i64 0] 3),
    (44, .row [.int .i64 49152, .bool false, .int .u8 234, .int .u8 0] 62),
    (43, .row [.pointer (some ⟨41, 0, some 0⟩)] 77),
    (42, .row [.slice none 0 0] 82),
    (41, .row [.pointer (some ⟨30, 0, some 0⟩), .pointer (some ⟨28, 0, some 0⟩), .pointer (some ⟨29, 0, some 0⟩), .int .i64 0, .int .i64 1, .int .i64 0, .bool false] 119),
    (35, .row [.pointer (some ⟨32, 0, some 0⟩), .int .i64 0, .int .i64 0, .bool false, .bool false, .bool false, .bool false, .pointer (some ⟨33, 0, some 0⟩), .pointer (some ⟨34, 0, some 0⟩), .int .i64 1] 148),
    (34, .row [.complex .f64 0 0, .complex .f64 4607182418800017408 0, .int .u8 0] 151),
    (33, .row [.slice none 0 0, .slice none 0 0, .slice none 0 0, .slice none 0 0, .slice none 0 0] 141),
    (32, .big 131072 memF 135),
    (30, .row [.pointer (some ⟨35, 0, some 0⟩), .int .u8 0, .int .u8 0, .int .u8 0, .int .u8 0, .int .u8 0, .int .u8 0, .int .u8 0, .int .u8 0, .int .u8 0, .int .u8 0, .int .i64 49152, .int .u8 1, .int .u8 0, .int .u8 192, .int .u8 0, .int .u8 0, .int .u8 0, .int .u8 0, .int .u8 0, .int .u8 0, .int .u8 0, .string ⟨#[]⟩, .int .i64 0, .int .i64 0, .bool true, .int .u8 234, .int .u8 0, .slice none 0 0, .int .i64 0, .bool false, .bool false, .int .i64 0, .bool false, .bool false, .int .i64 0, .int .i64 0] 101),
    (29, .row [.slice (some ⟨49, 0, some 1⟩) 1 0, .int .i64 100, .bool false] 162),
    (28, .row [.pointer (some ⟨25, 0, some 0⟩), .int .i64 0, .int .i64 0, .int .i64 0, .int .i64 0, .int .u8 0, .int .i64 0, .int .i64 1] 160),
    (27, .row [.int .i64 0, .int .i64 0, .slice none 0 0, .slice none 0 0, .slice none 0 0, .slice none 0 0, .bool false] 58),
    (26, .row [.int .i64 10, .slice none 0 0] 24),
    (25, .big 131076 tabF 73),
    (22, .row [.pointer (some ⟨21, 0, some 0⟩), .int .u8 0, .int .u8 0, .int .u8 0, .int .u8 0, .int .u8 0, .int .u8 0, .int .u8 0, .int .u8 0, .int .u8 0, .int .u8 0, .int .i64 49152, .int .u8 0, .int .u8 0, .int .u8 192, .int .u8 0, .int .u8 0, .int .u8 0, .int .u8 0, .int .u8 0, .int .u8 0, .int .u8 0, .string ⟨#[]⟩, .int .i64 0, .int .i64 0, .bool false, .int .u8 0, .int .u8 0, .slice none 0 0, .int .i64 0, .bool false, .bool false, .int .i64 0, .bool false, .bool false, .int .i64 0, .int .i64 0] 101),
    (21, .row [.pointer (some ⟨18, 0, some 0⟩), .int .i64 0, .int .i64 0, .bool false, .bool false, .bool false, .bool false, .pointer (some ⟨19, 0, some 0⟩), .pointer (some ⟨20, 0, some 0⟩), .int .i64 0] 148),
    (20, .row [.complex .f64 0 0, .complex .f64 4607182418800017408 0, .int .u8 0] 151),
    (19, .row [.slice none 0 0, .slice none 0 0, .slice none 0 0, .slice none 0 0, .slice none 0 0] 141),
    (18, .big 131072 memF 135),
    (1, .row [.int .i64 49152, .slice (some ⟨0, 0, some 0⟩) 4 4, .int .u8 0] 36),
    (0, .row [.int .u8 234, .int .u8 76, .int .u8 0, .int .u8 192] 5)]
def pS0R : Heap := [
    (49, .room [.int .i64 49152, .bool false, .int .u8 234, .int .u8 0] 62 4),
    (42, .row [.slice none 0 0] 82),
    (41, .row [.pointer (some ⟨30, 0, some 0⟩), .pointer (some ⟨28, 0, some 0⟩), .pointer (some ⟨29, 0, some 0⟩), .int .i64 0, .int .i64 1, .int .i64 0, .bool false] 119),
    (35, .row [.pointer (some ⟨32, 0, some 0⟩), .int .i64 0, .int .i64 0, .bool false, .bool false, .bool false, .bool false, .pointer (some ⟨33, 0, some 0⟩), .pointer (some ⟨34, 0, some 0⟩), .int .i64 1] 148),
    (34, .row [.complex .f64 0 0, .complex .f64 4607182418800017408 0, .int .u8 0] 151),
    (33, .row [.slice none 0 0, .slice none 0 0, .slice none 0 0, .slice none 0 0, .slice none 0 0] 141),
    (32, .big 131072 memF 135),
    (30, .row [.pointer (some ⟨35, 0, some 0⟩), .int .u8 0, .int .u8 0, .int .u8 0, .int .u8 0, .int .u8 0, .int .u8 0, .int .u8 0, .int .u8 0, .int .u8 0, .int .u8 0, .int .i64 49152, .int .u8 1, .int .u8 0, .int .u8 192, .int .u8 0, .int .u8 0, .int .u8 0, .int .u8 0, .int .u8 0, .int .u8 0, .int .u8 0, .string ⟨#[]⟩, .int .i64 0, .int .i64 0, .bool true, .int .u8 234, .int .u8 0, .slice none 0 0, .int .i64 0, .bool false, .bool false, .int .i64 0, .bool false, .bool false, .int .i64 0, .int .i64 0] 101),
    (29, .row [.slice (some ⟨49, 0, some 1⟩) 1 0, .int .i64 100, .bool false] 162),
    (28, .row [.pointer (some ⟨25, 0, some 0⟩), .int .i64 0, .int .i64 0, .int .i64 0, .int .i64 0, .int .u8 0, .int .i64 0, .int .i64 1] 160),
    (27, .row [.int .i64 0, .int .i64 0, .slice none 0 0, .slice none 0 0, .slice none 0 0, .slice none 0 0, .bool false] 58),
    (26, .row [.int .i64 10, .slice none 0 0] 24),
    (25, .big 131076 tabF 73),
    (22, .row [.pointer (some ⟨21, 0, some 0⟩), .int .u8 0, .int .u8 0, .int .u8 0, .int .u8 0, .int .u8 0, .int .u8 0, .int .u8 0, .int .u8 0, .int .u8 0, .int .u8 0, .int .i64 49152, .int .u8 0, .int .u8 0, .int .u8 192, .int .u8 0, .int .u8 0, .int .u8 0, .int .u8 0, .int .u8 0, .int .u8 0, .int .u8 0, .string ⟨#[]⟩, .int .i64 0, .int .i64 0, .bool false, .int .u8 0, .int .u8 0, .slice none 0 0, .int .i64 0, .bool false, .bool false, .int .i64 0, .bool false, .bool false, .int .i64 0, .int .i64 0] 101),
    (21, .row [.pointer (some ⟨18, 0, some 0⟩), .int .i64 0, .int .i64 0, .bool false, .bool false, .bool false, .bool false, .pointer (some ⟨19, 0, some 0⟩), .pointer (some ⟨20, 0, some 0⟩), .int .i64 0] 148),
    (20, .row [.complex .f64 0 0, .complex .f64 4607182418800017408 0, .int .u8 0] 151),
    (19, .row [.slice none 0 0, .slice none 0 0, .slice none 0 0, .slice none 0 0, .slice none 0 0] 141),
    (18, .big 131072 memF 135),
    (1, .row [.int .i64 49152, .slice (some ⟨0, 0, some 0⟩) 4 4, .int .u8 0] 36),
    (0, .row [.int .u8 234, .int .u8 76, .int .u8 0, .int .u8 192] 5)]
def pS0 : Pc := ⟨22, 43, pS0A, pS0H, pS0V, pS0R, 50⟩
theorem pS0_run (W : World) (j : Js) (K : Value → Heap → Nat → Prop → Prop) : okR (fn Tryz.prog okf (knA W j) bz (sumA j) 400 30 pS0.f pS0.A pS0.H pS0.nx [] True) K = K pS0.V pS0F pS0.X True := by kernel_rfl
theorem pS0_keep : keep (pk [49, 42, 41, 35, 34, 33, 32, 30, 29, 28, 27, 26, 25, 22, 21, 20, 19, 18, 1, 0]) pS0F = pS0.R := by kernel_rfl
theorem pS0_ok {W : World} {j : Js} {B : Nat} (hs : Good Tryz.prog B (knA W j) (sumA j)) : PcOk Tryz.prog B (knA W j) pS0 := pc_ok mixed bz_ok okf_ok hs _ (pS0_run W j) trivial pS0_keep
def pS1A : List Value := [.pointer (some ⟨41, 0, some 0⟩), .bool false]
def pS1H : Heap := [
    (49, .room [.int .i64 49152, .bool false, .int .u8 234, .int .u8 0] 62 4),
    (42, .row [.slice none 0 0] 82),
    (41, .row [.pointer (some ⟨30, 0, some 0⟩), .pointer (some ⟨28, 0, some 0⟩), .pointer (some ⟨29, 0, some 0⟩), .int .i64 0, .int .i64 1, .int .i64 0, .bool false] 119),
    (35, .row [.pointer (some ⟨32, 0, some 0⟩), .int .i64 0, .int .i64 0, .bool false, .bool false, .bool false, .bool false, .pointer (some ⟨33, 0, some 0⟩), .pointer (some ⟨34, 0, some 0⟩), .int .i64 1] 148),
    (34, .row [.complex .f64 0 0, .complex .f64 4607182418800017408 0, .int .u8 0] 151),
    (33, .row [.slice none 0 0, .slice none 0 0, .slice none 0 0, .slice none 0 0, .slice none 0 0] 141),
    (32, .big 131072 memF 135),
    (30, .row [.pointer (some ⟨35, 0, some 0⟩), .int .u8 0, .int .u8 0, .int .u8 0, .int .u8 0, .int .u8 0, .int .u8 0, .int .u8 0, .int .u8 0, .int .u8 0, .int .u8 0, .int .i64 49152, .int .u8 1, .int .u8 0, .int .u8 192, .int .u8 0, .int .u8 0, .int .u8 0, .int .u8 0, .int .u8 0, .int .u8 0, .int .u8 0, .string ⟨#[]⟩, .int .i64 0, .int .i64 0, .bool true, .int .u8 234, .int .u8 0, .slice none 0 0, .int .i64 0, .bool false, .bool false, .int .i64 0, .bool false, .bool false, .int .i64 0, .int .i64 0] 101),
    (29, .row [.slice (some ⟨49, 0, some 1⟩) 1 0, .int .i64 100, .bool false] 162),
    (28, .row [.pointer (some ⟨25, 0, some 0⟩), .int .i64 0, .int .i64 0, .int .i64 0, .int .i64 0, .int .u8 0, .int .i64 0, .int .i64 1] 160),
    (27, .row [.int .i64 0, .int .i64 0, .slice none 0 0, .slice none 0 0, .slice none 0 0, .slice none 0 0, .bool false] 58),
    (26, .row [.int .i64 10, .slice none 0 0] 24),
    (25, .big 131076 tabF 73),
    (22, .row [.pointer (some ⟨21, 0, some 0⟩), .int .u8 0, .int .u8 0, .int .u8 0, .int .u8 0, .int .u8 0, .int .u8 0, .int .u8 0, .int .u8 0, .int .u8 0, .int .u8 0, .int .i64 49152, .int .u8 0, .int .u8 0, .int .u8 192, .int .u8 0, .int .u8 0, .int .u8 0, .int .u8 0, .int .u8 0, .int .u8 0, .int .u8 0, .string ⟨#[]⟩, .int .i64 0, .int .i64 0, .bool false, .int .u8 0, .int .u8 0, .slice none 0 0, .int .i64 0, .bool false, .bool false, .int .i64 0, .bool false, .bool false, .int .i64 0, .int .i64 0] 101),
    (21, .row [.pointer (some ⟨18, 0, some 0⟩), .int .i64 0, .int .i64 0, .bool false, .bool false, .bool false, .bool false, .pointer (some ⟨19, 0, some 0⟩), .pointer (some ⟨20, 0, some 0⟩), .int .i64 0] 148),
    (20, .row [.complex .f64 0 0, .complex .f64 4607182418800017408 0, .int .u8 0] 151),
    (19, .row [.slice none 0 0, .slice none 0 0, .slice none 0 0, .slice none 0 0, .slice none 0 0] 141),
    (18, .big 131072 memF 135),
    (1, .row [.int .i64 49152, .slice (some ⟨0, 0, some 0⟩) 4 4, .int .u8 0] 36),
    (0, .row [.int .u8 234, .int .u8 76, .int .u8 0, .int .u8 192] 5)]
def pS1V : Value := .int .i64 0
def pS1F : Heap := [
    (63, .room [.int .i64 49152, .bool false, .int .u8 234, .int .u8 0, .int .i64 49153, .bool false, .int .u8 76, .int .u8 0] 62 4),
    (62, .row [.int .i64 49153, .bool false, .int .u8 76, .int .u8 0] 62),
    (61, .row [.int .i64 49153, .bool false, .int .u8 76, .int .u8 0] 62),
    (60, .row [.func (.func 45) ⟨[]⟩ ⟨[.pointer (some ⟨50, 0, some 0⟩), .pointer (some ⟨58, 0, some 0⟩)]⟩, .func (.func 48) ⟨[]⟩ ⟨[.pointer (some ⟨50, 0, some 0⟩), .pointer (some ⟨59, 0, some 0⟩), .pointer (some ⟨58, 0, some 0⟩)]⟩, .func (.func 50) ⟨[]⟩ ⟨[.pointer (some ⟨58, 0, some 0⟩), .pointer (some ⟨50, 0, some 0⟩)]⟩] 28),
    (59, .row [.int .i64 1] 3),
    (58, .row [.int .i64 49153, .bool false, .int .u8 76, .int .u8 0] 62),
    (57, .row [.int .i64 49153, .bool false, .int .u8 76, .int .u8 0] 62),
    (56, .row [.int .u8 1, .int .u8 0] 43),
    (55, .row [.int .u8 192, .int .u8 0] 43),
    (54, .row [.int .i64 0] 3),
    (53, .row [.string ⟨#[78, 79, 80]⟩, .int .i64 0, .int .i64 0] 99),
    (52, .row [.string ⟨#[78, 79, 80]⟩, .int .i64 0, .int .i64 0] 99),
    (51, .row [.int .i64 49153, .bool false, .int .u8 76, .int .u8 0] 62),
    (50, .row [.pointer (some ⟨41, 0, some 0⟩)] 77),
    (42, .row [.slice none 0 0] 82),
    (41, .row [.pointer (some ⟨30, 0, some 0⟩), .pointer (some ⟨28, 0, some 0⟩), .pointer (some ⟨29, 0, some 0⟩), .int .i64 0, .int .i64 2, .int .i64 0, .bool false] 119),
    (35, .row [.pointer (some ⟨32, 0, some 0⟩), .int .i64 0, .int .i64 0, .bool false, .bool false, .bool false, .bool false, .pointer (some ⟨33, 0, some 0⟩), .pointer (some ⟨34, 0, some 0⟩), .int .i64 2] 148),
    (34, .row [.complex .f64 0 0, .complex .f64 4607182418800017408 0, .int .u8 0] 151),
    (33, .row [.slice none 0 0, .slice none 0 0, .slice none 0 0, .slice none 0 0, .slice none 0 0] 141),
    (32, .big 131072 memF 135),
    (30, .row [.pointer (some ⟨35, 0, some 0⟩), .int .u8 0, .int .u8 0, .int .u8 0, .int .u8 0, .int .u8 0, .int .u8 0, .int .u8 0, .int .u8 0, .int .u8 0, .int .u8 0, .int .i64 49152, .int .u8 1, .int .u8 0, .int .u8 192, .int .u8 0, .int .u8 0, .int .u8 0, .int .u8 0, .int .u8 0, .int .u8 0, .int .u8 0, .string ⟨#[78, 79, 80]⟩, .int .i64 0, .int .i64 0, .bool false, .int .u8 234, .int .u8 0, .slice (some ⟨54, 0, some 0⟩) 1 1, .int .i64 1, .bool false, .bool false, .int .i64 65534, .bool false, .bool false, .int .i64 0, .int .i64 0] 101),
    (29, .row [.slice (some ⟨63, 0, some 1⟩) 2 0, .int .i64 100, .bool false] 162),
    (28, .row [.pointer (some ⟨25, 0, some 0⟩), .int .i64 0, .int .i64 0, .int .i64 0, .int .i64 0, .int .u8 0, .int .i64 1, .int .i64 2] 160),
    (27, .row [.int .i64 0, .int .i64 0, .slice none 0 0, .slice none 0 0, .slice none 0 0, .slice none 0 0, .bool false] 58),
    (26, .row [.int .i64 10, .slice none 0 0] 24),
    (25, .big 131076 tabF 73),
    (22, .row [.pointer (some ⟨21, 0, some 0⟩), .int .u8 0, .int .u8 0, .int .u8 0, .int .u8 0, .int .u8 0, .int .u8 0, .int .u8 0, .int .u8 0, .int .u8 0, .int .u8 0, .int .i64 49152, .int .u8 0, .int .u8 0, .int .u8 192, .int .u8 0, .int .u8 0, .int .u8 0, .int .u8 0, .int .u8 0, .int .u8 0, .int .u8 0, .string ⟨#[]⟩, .int .i64 0, .int .i64 0, .bool false, .int .u8 0, .int .u8 0, .slice none 0 0, .int .i64 0, .bool false, .bool false, .int .i64 0, .bool false, .bool false, .int .i64 0, .int .i64 0] 101),
    (21, .row [.pointer (some ⟨18, 0, some 0⟩), .int .i64 0, .int .i64 0, .bool false, .bool false, .bool false, .bool false, .pointer (some ⟨19, 0, some 0⟩), .pointer (some ⟨20, 0, some 0⟩), .int .i64 0] 148),
    (20, .row [.complex .f64 0 0, .complex .f64 4607182418800017408 0, .int .u8 0] 151),
    (19, .row [.slice none 0 0, .slice none 0 0, .slice none 0 0, .slice none 0 0, .slice none 0 0] 141),
    (18, .big 131072 memF 135),
    (1, .row [.int .i64 49152, .slice (some ⟨0, 0, some 0⟩) 4 4, .int .u8 0] 36),
    (0, .row [.int .u8 234, .int .u8 76, .int .u8 0, .int .u8 192] 5)]
def pS1R : Heap := [
    (63, .room [.int .i64 49152, .bool false, .int .u8 234, .int .u8 0, .int .i64 49153, .bool false, .int .u8 76, .int .u8 0] 62 4),
    (54, .row [.int .i64 0] 3),
    (42, .row [.slice none 0 0] 82),
    (41, .row [.pointer (some ⟨30, 0, some 0⟩), .pointer (some ⟨28, 0, some 0⟩), .pointer (some ⟨29, 0, some 0⟩), .int .i64 0, .int .i64 2, .int .i64 0, .bool false] 119),
    (35, .row [.pointer (some ⟨32, 0, some 0⟩), .int .i64 0, .int .i64 0, .bool false, .bool false, .bool false, .bool false, .pointer (some ⟨33, 0, some 0⟩), .pointer (some ⟨34, 0, some 0⟩), .int .i64 2] 148),
    (34, .row [.complex .f64 0 0, .complex .f64 4607182418800017408 0, .int .u8 0] 151),
    (33, .row [.slice none 0 0, .slice none 0 0, .slice none 0 0, .slice none 0 0, .slice none 0 0] 141),
    (32, .big 131072 memF 135),
    (30, .row [.pointer (some ⟨35, 0, some 0⟩), .int .u8 0, .int .u8 0, .int .u8 0, .int .u8 0, .int .u8 0, .int .u8 0, .int .u8 0, .int .u8 0, .int .u8 0, .int .u8 0, .int .i64 49152, .int .u8 1, .int .u8 0, .int .u8 192, .int .u8 0, .int .u8 0, .int .u8 0, .int .u8 0, .int .u8 0, .int .u8 0, .int .u8 0, .string ⟨#[78, 79, 80]⟩, .int .i64 0, .int .i64 0, .bool false, .int .u8 234, .int .u8 0, .slice (some ⟨54, 0, some 0⟩) 1 1, .int .i64 1, .bool false, .bool false, .int .i64 65534, .bool false, .bool false, .int .i64 0, .int .i64 0] 101),
    (29, .row [.slice (some ⟨63, 0, some 1⟩) 2 0, .int .i64 100, .bool false] 162),
    (28, .row [.pointer (some ⟨25, 0, some 0⟩), .int .i64 0, .int .i64 0, .int .i64 0, .int .i64 0, .int .u8 0, .int .i64 1, .int .i64 2] 160),
    (27, .row [.int .i64 0, .int .i64 0, .slice none 0 0, .slice none 0 0, .slice none 0 0, .slice none 0 0, .bool false] 58),
    (26, .row [.int .i64 10, .slice none 0 0] 24),
    (25, .big 131076 tabF 73),
    (22, .row [.pointer (some ⟨21, 0, some 0⟩), .int .u8 0, .int .u8 0, .int .u8 0, .int .u8 0, .int .u8 0, .int .u8 0, .int .u8 0, .int .u8 0, .int .u8 0, .int .u8 0, .int .i64 49152, .int .u8 0, .int .u8 0, .int .u8 192, .int .u8 0, .int .u8 0, .int .u8 0, .int .u8 0, .int .u8 0, .int .u8 0, .int .u8 0, .string ⟨#[]⟩, .int .i64 0, .int .i64 0, .bool false, .int .u8 0, .int .u8 0, .slice none 0 0, .int .i64 0, .bool false, .bool false, .int .i64 0, .bool false, .bool false, .int .i64 0, .int .i64 0] 101),
    (21, .row [.pointer (some ⟨18, 0, some 0⟩), .int .i64 0, .int .i64 0, .bool false, .bool false, .bool false, .bool false, .pointer (some ⟨19, 0, some 0⟩), .pointer (some ⟨20, 0, some 0⟩), .int .i64 0] 148),
    (20, .row [.complex .f64 0 0, .complex .f64 4607182418800017408 0, .int .u8 0] 151),
    (19, .row [.slice none 0 0, .slice none 0 0, .slice none 0 0, .slice none 0 0, .slice none 0 0] 141),
    (18, .big 131072 memF 135),
    (1, .row [.int .i64 49152, .slice (some ⟨0, 0, some 0⟩) 4 4, .int .u8 0] 36),
    (0, .row [.int .u8 234, .int .u8 76, .int .u8 0, .int .u8 192] 5)]
def pS1 : Pc := ⟨22, 50, pS1A, pS1H, pS1V, pS1R, 64⟩
theorem pS1_run (W : World) (j : Js) (K : Value → Heap → Nat → Prop → Prop) : okR (fn Tryz.prog okf (knA W j) bz (sumA j) 400 30 pS1.f pS1.A pS1.H pS1.nx [] True) K = K pS1.V pS1F pS1.X True := by kernel_rfl
theorem pS1_keep : keep (pk [63, 54, 42, 41, 35, 34, 33, 32, 30, 29, 28, 27, 26, 25, 22, 21, 20, 19, 18, 1, 0]) pS1F = pS1.R := by kernel_rfl
theorem pS1_ok {W : World} {j : Js} {B : Nat} (hs : Good Tryz.prog B (knA W j) (sumA j)) : PcOk Tryz.prog B (knA W j) pS1 := pc_ok mixed bz_ok okf_ok hs _ (pS1_run W j) trivial pS1_keep
def pS2A : List Value := [.pointer (some ⟨41, 0, some 0⟩), .bool false]
def pS2H : Heap := [
    (63, .room [.int .i64 49152, .bool false, .int .u8 234, .int .u8 0, .int .i64 49153, .bool false, .int .u8 76, .int .u8 0] 62 4),
    (54, .row [.int .i64 0] 3),
    (42, .row [.slice none 0 0] 82),
    (41, .row [.pointer (some ⟨30, 0, some 0⟩), .pointer (some ⟨28, 0, some 0⟩), .pointer (some ⟨29, 0, some 0⟩), .int .i64 0, .int .i64 2, .int .i64 0, .bool false] 119),
    (35, .row [.pointer (some ⟨32, 0, some 0⟩), .int .i64 0, .int .i64 0, .bool false, .bool false, .bool false, .bool false, .pointer (some ⟨33, 0, some 0⟩), .pointer (some ⟨34, 0, some 0⟩), .int .i64 2] 148),
    (34, .row [.complex .f64 0 0, .complex .f64 4607182418800017408 0, .int .u8 0] 151),
    (33, .row [.slice none 0 0, .slice none 0 0, .slice none 0 0, .slice none 0 0, .slice none 0 0] 141),
    (32, .big 131072 memF 135),
    (30, .row [.pointer (some ⟨35, 0, some 0⟩), .int .u8 0, .int .u8 0, .int .u8 0, .int .u8 0, .int .u8 0, .int .u8 0, .int .u8 0, .int .u8 0, .int .u8 0, .int .u8 0, .int .i64 49152, .int .u8 1, .int .u8 0, .int .u8 192, .int .u8 0, .int .u8 0, .int .u8 0, .int .u8 0, .int .u8 0, .int .u8 0, .int .u8 0, .string ⟨#[78, 79, 80]⟩, .int .i64 0, .int .i64 0, .bool false, .int .u8 234, .int .u8 0, .slice (some ⟨54, 0, some 0⟩) 1 1, .int .i64 1, .bool false, .bool false, .int .i64 65534, .bool false, .bool false, .int .i64 0, .int .i64 0] 101),
    (29, .row [.slice (some ⟨63, 0, some 1⟩) 2 0, .int .i64 100, .bool false] 162),
    (28, .row [.pointer (some ⟨25, 0, some 0⟩), .int .i64 0, .int .i64 0, .int .i64 0, .int .i64 0, .int .u8 0, .int .i64 1, .int .i64 2] 160),
    (27, .row [.int .i64 0, .int .i64 0, .slice none 0 0, .slice none 0 0, .slice none 0 0, .slice none 0 0, .bool false] 58),
    (26, .row [.int .i64 10, .slice none 0 0] 24),
    (25, .big 131076 tabF 73),
    (22, .row [.pointer (some ⟨21, 0, some 0⟩), .int .u8 0, .int .u8 0, .int .u8 0, .int .u8 0, .int .u8 0, .int .u8 0, .int .u8 0, .int .u8 0, .int .u8 0, .int .u8 0, .int .i64 49152, .int .u8 0, .int .u8 0, .int .u8 192, .int .u8 0, .int .u8 0, .int .u8 0, .int .u8 0, .int .u8 0, .int .u8 0, .int .u8 0, .string ⟨#[]⟩, .int .i64 0, .int .i64 0, .bool false, .int .u8 0, .int .u8 0, .slice none 0 0, .int .i64 0, .bool false, .bool false, .int .i64 0, .bool false, .bool false, .int .i64 0, .int .i64 0] 101),
    (21, .row [.pointer (some ⟨18, 0, some 0⟩), .int .i64 0, .int .i64 0, .bool false, .bool false, .bool false, .bool false, .pointer (some ⟨19, 0, some 0⟩), .pointer (some ⟨20, 0, some 0⟩), .int .i64 0] 148),
    (20, .row [.complex .f64 0 0, .complex .f64 4607182418800017408 0, .int .u8 0] 151),
    (19, .row [.slice none 0 0, .slice none 0 0, .slice none 0 0, .slice none 0 0, .slice none 0 0] 141),
    (18, .big 131072 memF 135),
    (1, .row [.int .i64 49152, .slice (some ⟨0, 0, some 0⟩) 4 4, .int .u8 0] 36),
    (0, .row [.int .u8 234, .int .u8 76, .int .u8 0, .int .u8 192] 5)]
def pS2V : Value := .int .i64 0
def pS2F : Heap := [
    (70, .room [.int .i64 49152, .bool false, .int .u8 234, .int .u8 0, .int .i64 49153, .bool false, .int .u8 76, .int .u8 0, .int .i64 49153, .bool false, .int .u8 76, .int .u8 0] 62 4),
    (69, .row [.int .i64 49153, .bool false, .int .u8 76, .int .u8 0] 62),
    (68, .row [.int .i64 49153, .bool false, .int .u8 76, .int .u8 0] 62),
    (67, .row [.func (.func 45) ⟨[]⟩ ⟨[.pointer (some ⟨64, 0, some 0⟩), .pointer (some ⟨65, 0, some 0⟩)]⟩, .func (.func 48) ⟨[]⟩ ⟨[.pointer (some ⟨64, 0, some 0⟩), .pointer (some ⟨66, 0, some 0⟩), .pointer (some ⟨65, 0, some 0⟩)]⟩, .func (.func 50) ⟨[]⟩ ⟨[.pointer (some ⟨65, 0, some 0⟩), .pointer (some ⟨64, 0, some 0⟩)]⟩] 28),
    (66, .row [.int .i64 2] 3),
    (65, .row [.int .i64 49153, .bool false, .int .u8 76, .int .u8 0] 62),
    (64, .row [.pointer (some ⟨41, 0, some 0⟩)] 77),
    (54, .row [.int .i64 0] 3),
    (42, .row [.slice none 0 0] 82),
    (41, .row [.pointer (some ⟨30, 0, some 0⟩), .pointer (some ⟨28, 0, some 0⟩), .pointer (some ⟨29, 0, some 0⟩), .int .i64 0, .int .i64 3, .int .i64 0, .bool false] 119),
    (35, .row [.pointer (some ⟨32, 0, some 0⟩), .int .i64 0, .int .i64 0, .bool false, .bool false, .bool false, .bool false, .pointer (some ⟨33, 0, some 0⟩), .pointer (some ⟨34, 0, some 0⟩), .int .i64 3] 148),
    (34, .row [.complex .f64 0 0, .complex .f64 4607182418800017408 0, .int .u8 0] 151),
    (33, .row [.slice none 0 0, .slice none 0 0, .slice none 0 0, .slice none 0 0, .slice none 0 0] 141),
    (32, .big 131072 memF 135),
    (30, .row [.pointer (some ⟨35, 0, some 0⟩), .int .u8 0, .int .u8 0, .int .u8 0, .int .u8 0, .int .u8 0, .int .u8 0, .int .u8 0, .int .u8 0, .int .u8 0, .int .u8 0, .int .i64 49152, .int .u8 2, .int .u8 0, .int .u8 192, .int .u8 0, .int .u8 0, .int .u8 0, .int .u8 0, .int .u8 0, .int .u8 0, .int .u8 0, .string ⟨#[]⟩, .int .i64 0, .int .i64 0, .bool true, .int .u8 76, .int .u8 0, .slice none 0 0, .int .i64 0, .bool false, .bool false, .int .i64 0, .bool false, .bool false, .int .i64 0, .int .i64 0] 101),
    (29, .row [.slice (some ⟨70, 0, some 1⟩) 3 0, .int .i64 100, .bool false] 162),
    (28, .row [.pointer (some ⟨25, 0, some 0⟩), .int .i64 0, .int .i64 0, .int .i64 0, .int .i64 0, .int .u8 0, .int .i64 2, .int .i64 3] 160),
    (27, .row [.int .i64 0, .int .i64 0, .slice none 0 0, .slice none 0 0, .slice none 0 0, .slice none 0 0, .bool false] 58),
    (26, .row [.int .i64 10, .slice none 0 0] 24),
    (25, .big 131076 tabF 73),
    (22, .row [.pointer (some ⟨21, 0, some 0⟩), .int .u8 0, .int .u8 0, .int .u8 0, .int .u8 0, .int .u8 0, .int .u8 0, .int .u8 0, .int .u8 0, .int .u8 0, .int .u8 0, .int .i64 49152, .int .u8 0, .int .u8 0, .int .u8 192, .int .u8 0, .int .u8 0, .int .u8 0, .int .u8 0, .int .u8 0, .int .u8 0, .int .u8 0, .string ⟨#[]⟩, .int .i64 0, .int .i64 0, .bool false, .int .u8 0, .int .u8 0, .slice none 0 0, .int .i64 0, .bool false, .bool false, .int .i64 0, .bool false, .bool false, .int .i64 0, .int .i64 0] 101),
    (21, .row [.pointer (some ⟨18, 0, some 0⟩), .int .i64 0, .int .i64 0, .bool false, .bool false, .bool false, .bool false, .pointer (some ⟨19, 0, some 0⟩), .pointer (some ⟨20, 0, some 0⟩), .int .i64 0] 148),
    (20, .row [.complex .f64 0 0, .complex .f64 4607182418800017408 0, .int .u8 0] 151),
    (19, .row [.slice none 0 0, .slice none 0 0, .slice none 0 0, .slice none 0 0, .slice none 0 0] 141),
    (18, .big 131072 memF 135),
    (1, .row [.int .i64 49152, .slice (some ⟨0, 0, some 0⟩) 4 4, .int .u8 0] 36),
    (0, .row [.int .u8 234, .int .u8 76, .int .u8 0, .int .u8 192] 5)]
def pS2R : Heap := [
    (70, .room [.int .i64 49152, .bool false, .int .u8 234, .int .u8 0, .int .i64 49153, .bool false, .int .u8 76, .int .u8 0, .int .i64 49153, .bool false, .int .u8 76, .int .u8 0] 62 4),
    (54, .row [.int .i64 0] 3),
    (42, .row [.slice none 0 0] 82),
    (41, .row [.pointer (some ⟨30, 0, some 0⟩), .pointer (some ⟨28, 0, some 0⟩), .pointer (some ⟨29, 0, some 0⟩), .int .i64 0, .int .i64 3, .int .i64 0, .bool false] 119),
    (35, .row [.pointer (some ⟨32, 0, some 0⟩), .int .i64 0, .int .i64 0, .bool false, .bool false, .bool false, .bool false, .pointer (some ⟨33, 0, some 0⟩), .pointer (some ⟨34, 0, some 0⟩), .int .i64 3] 148),
    (34, .row [.complex .f64 0 0, .complex .f64 4607182418800017408 0, .int .u8 0] 151),
    (33, .row [.slice none 0 0, .slice none 0 0, .slice none 0 0, .slice none 0 0, .slice none 0 0] 141),
    (32, .big 131072 memF 135),
    (30, .row [.pointer (some ⟨35, 0, some 0⟩), .int .u8 0, .int .u8 0, .int .u8 0, .int .u8 0, .int .u8 0, .int .u8 0, .int .u8 0, .int .u8 0, .int .u8 0, .int .u8 0, .int .i64 49152, .int .u8 2, .int .u8 0, .int .u8 192, .int .u8 0, .int .u8 0, .int .u8 0, .int .u8 0, .int .u8 0, .int .u8 0, .int .u8 0, .string ⟨#[]⟩, .int .i64 0, .int .i64 0, .bool true, .int .u8 76, .int .u8 0, .slice none 0 0, .int .i64 0, .bool false, .bool false, .int .i64 0, .bool false, .bool false, .int .i64 0, .int .i64 0] 101),
    (29, .row [.slice (some ⟨70, 0, some 1⟩) 3 0, .int .i64 100, .bool false] 162),
    (28, .row [.pointer (some ⟨25, 0, some 0⟩), .int .i64 0, .int .i64 0, .int .i64 0, .int .i64 0, .int .u8 0, .int .i64 2, .int .i64 3] 160),
    (27, .row [.int .i64 0, .int .i64 0, .slice none 0 0, .slice none 0 0, .slice none 0 0, .slice none 0 0, .bool false] 58),
    (26, .row [.int .i64 10, .slice none 0 0] 24),
    (25, .big 131076 tabF 73),
    (22, .row [.pointer (some ⟨21, 0, some 0⟩), .int .u8 0, .int .u8 0, .int .u8 0, .int .u8 0, .int .u8 0, .int .u8 0, .int .u8 0, .int .u8 0, .int .u8 0, .int .u8 0, .int .i64 49152, .int .u8 0, .int .u8 0, .int .u8 192, .int .u8 0, .int .u8 0, .int .u8 0, .int .u8 0, .int .u8 0, .int .u8 0, .int .u8 0, .string ⟨#[]⟩, .int .i64 0, .int .i64 0, .bool false, .int .u8 0, .int .u8 0, .slice none 0 0, .int .i64 0, .bool false, .bool false, .int .i64 0, .bool false, .bool false, .int .i64 0, .int .i64 0] 101),
    (21, .row [.pointer (some ⟨18, 0, some 0⟩), .int .i64 0, .int .i64 0, .bool false, .bool false, .bool false, .bool false, .pointer (some ⟨19, 0, some 0⟩), .pointer (some ⟨20, 0, some 0⟩), .int .i64 0] 148),
    (20, .row [.complex .f64 0 0, .complex .f64 4607182418800017408 0, .int .u8 0] 151),
    (19, .row [.slice none 0 0, .slice none 0 0, .slice none 0 0, .slice none 0 0, .slice none 0 0] 141),
    (18, .big 131072 memF 135),
    (1, .row [.int .i64 49152, .slice (some ⟨0, 0, some 0⟩) 4 4, .int .u8 0] 36),
    (0, .row [.int .u8 234, .int .u8 76, .int .u8 0, .int .u8 192] 5)]
def pS2 : Pc := ⟨22, 64, pS2A, pS2H, pS2V, pS2R, 71⟩
theorem pS2_run (W : World) (j : Js) (K : Value → Heap → Nat → Prop → Prop) : okR (fn Tryz.prog okf (knA W j) bz (sumA j) 400 30 pS2.f pS2.A pS2.H pS2.nx [] True) K = K pS2.V pS2F pS2.X True := by kernel_rfl
theorem pS2_keep : keep (pk [70, 54, 42, 41, 35, 34, 33, 32, 30, 29, 28, 27, 26, 25, 22, 21, 20, 19, 18, 1, 0]) pS2F = pS2.R := by kernel_rfl
theorem pS2_ok {W : World} {j : Js} {B : Nat} (hs : Good Tryz.prog B (knA W j) (sumA j)) : PcOk Tryz.prog B (knA W j) pS2 := pc_ok mixed bz_ok okf_ok hs _ (pS2_run W j) trivial pS2_keep
end Rm
end Go.Proofs.YtpophgfjdlkgiaaGreatDoor
