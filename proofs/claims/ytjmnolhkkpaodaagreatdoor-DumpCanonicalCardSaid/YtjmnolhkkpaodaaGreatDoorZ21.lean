/- A part of the proof: the reference is safe, both packages write and read alike. Several texts in one; printed by slim28.py out of the texts of wip. -/
import Derived.Test.YtjmnolhkkpaodaaGreatDoorZ20
set_option linter.all false
namespace Go.Proofs.YtjmnolhkkpaodaaGreatDoor
open Go Go.Sx Go.Ty
def s15 : Sp := ⟨[.one .fix], none, .one (.ptr 81), [], 0, [], 10000000000⟩
def s24 : Sp := ⟨[.one (.ptr 81)], none, .one pI64, [], 1, [(false, 81)], 9900000000⟩
def s87 : Sp := ⟨[.one (.ptr 81)], none, .one pU16, [], 4, [(false, 81)], 9900000000⟩
def s54 : Sp := ⟨[.one (.ptr 81), .one (.int .i64 (2) (2))], none, .one (.slc 132 0 (some 2)), [], 200, [(false, 81), (true, 132)], 9800000000⟩
def s25 : Sp := ⟨[.one (.ptr 81)], none, .one (.slc 132 0 (some 3)), [], 250, [(false, 81), (true, 132)], 9700000000⟩
def s27 : Sp := ⟨[.one (.ptr 81)], none, .one pU8, [], 1, [(false, 81)], 9900000000⟩
def s31a : Sp := ⟨[.one (.slc 97 0 (some 3))], none, .one (.slc 97 0 (some 3)), [], 3, [(true, 97)], 9900000000⟩
def s31b : Sp := ⟨[.one (.slc 97 0 (some 144))], none, .one (.slc 97 0 (some 144)), [], 144, [(true, 97)], 9900000000⟩
def s31c : Sp := ⟨[.one (.slc 97 0 none)], none, .one (.slc 97 0 none), [], 0, [(true, 97)], 9900000000⟩
def s28a : Sp := ⟨[.one pU16, .one (.slc 5 0 (some 144))], none, .one (.slc 97 0 (some 144)), [], 144, [(true, 97)], 9800000000⟩
def s28b : Sp := ⟨[.one pU16, .one (.slc 5 0 (some 3))], none, .one (.slc 97 0 (some 3)), [], 3, [(true, 97)], 9800000000⟩
def s30 : Sp := ⟨[.one (.ptr 81)], none, .one pU8, [], 3, [(false, 81)], 9900000000⟩
def s29 : Sp := ⟨[.one (.ptr 81), .one (.int .i64 (12) (12))], none, .one (.slc 5 0 (some 144)), [], 1000, [(false, 81), (true, 5)], 9800000000⟩
def s16 : Sp := ⟨[.one (.ptr 81)], none, .agg (pS 46), [], 3000, [(false, 81), (true, 5), (true, 97), (true, 132)], 9600000000⟩
def s55 : Sp := ⟨[.one (.slc 97 0 none)], none, .one .bool, [], 0, [], 10000000000⟩
def s88 : Sp := ⟨[.one (.slc 132 0 none)], none, .one pI64, [], 0, [], 10000000000⟩
def s57 : Sp := ⟨[.agg (pS 46)], none, .one pI64, [], 0, [], 9900000000⟩
def s114 : Sp := ⟨[.one pI64], none, .one .bool, [], 0, [], 9900000000⟩
def s89 : Sp := ⟨[.agg (pS 56)], none, .agg (pS 56), [], 0, [], 9800000000⟩
def s139 : Sp := ⟨[.one pU8], none, .tup [(true, (pS 198)), (false, [.bool])], [], 0, [], 9900000000⟩
def s140 : Sp := ⟨[.one (.int .i64 (0) (7)), .one (.int .i64 (0) (7)), .one (.int .i64 (0) (3)), .one (.int .i64 (0) (1))], none, .agg (pS 198), [], 0, [], 9900000000⟩
def s141 : Sp := ⟨[.one (.int .i64 (0) (7)), .one (.int .i64 (0) (7)), .one (.int .i64 (0) (3)), .one (.int .i64 (0) (1))], none, .agg (pS 198), [], 0, [], 9900000000⟩
def s113 : Sp := ⟨[.one pI64, .one pU8], none, .agg (pS 198), [], 0, [], 9800000000⟩
def s117 : Sp := ⟨[.one pI64], none, .one .bool, [], 0, [], 9900000000⟩
def s161 : Sp := ⟨[.one (.ptr 220), .one pI64, .one pU16, .one pU8], (some (0, mk1)), .tup [], mk1, 1, [(false, 220), (true, 58)], 9900000000⟩
def s142 : Sp := ⟨[.one (.ptr 220), .one pU16], (some (0, mk1)), .tup [], mk1, 2, [(false, 220), (true, 58)], 9800000000⟩
def s145 : Sp := ⟨[.one (.ptr 220), .one (.int .i64 (0) (100))], none, .one pU8, [], 0, [], 9900000000⟩
def s149 : Sp := ⟨[.one (.ptr 220), .one pI64], none, .one pU16, [], 0, [], 9900000000⟩
def s162 : Sp := ⟨[.agg (pS 54), .one pI64], none, .one pU8, [], 0, [], 9900000000⟩
def s171 : Sp := ⟨[.one pU8, .one pU8], none, .one pU16, [], 0, [], 9900000000⟩
def s150 : Sp := ⟨[.agg (pS 54), .one pI64], none, .one pU16, [], 0, [], 9800000000⟩
def s163 : Sp := ⟨[.one (.ptr 220), .one (.int .i64 (0) (2))], (some (0, mk1)), .tup [], mk1, 4, [(false, 220), (true, 58)], 9800000000⟩
def s164 : Sp := ⟨[.one (.ptr 220), .one (.int .i64 (0) (99))], none, .one pU16, [], 0, [], 9800000000⟩
def s200 : Sp := ⟨[.one .bool], none, .one (.int .i64 (0) (1)), [], 0, [], 9900000000⟩
def s201 : Sp := ⟨[.one pU8], none, .one pI64, [], 0, [], 9900000000⟩
def s193 : Sp := ⟨[.one pU8, .one pU8, .one .bool], none, .tup [(false, [pU8]), (false, [.bool]), (false, [.bool]), (false, [.bool])], [], 0, [], 9800000000⟩
def s199 : Sp := ⟨[.one pU8], none, .one .bool, [], 0, [], 9900000000⟩
def s195 : Sp := ⟨[.one pU8], none, .agg (pS 52), [], 0, [], 9800000000⟩
def s196 : Sp := ⟨[.one pI64, .agg (pS 52), .one .bool, .one .bool], none, .agg (pS 52), [], 0, [], 9800000000⟩
def s197 : Sp := ⟨[.one .bool, .one .bool, .one .bool], none, .one .bool, [], 0, [], 9900000000⟩
def s188 : Sp := ⟨[.one pI64, .one pU8, .agg (pS 52)], none, .tup [(false, [pU8]), (true, (pS 52))], [], 0, [], 9700000000⟩
def s194 : Sp := ⟨[.one pU8, .one pU8, .one .bool], none, .tup [(false, [pU8]), (false, [.bool]), (false, [.bool]), (false, [.bool])], [], 0, [], 9800000000⟩
def s189 : Sp := ⟨[.one pI64, .one pU8, .agg (pS 52)], none, .tup [(false, [pU8]), (true, (pS 52))], [], 0, [], 9700000000⟩
def s165 : Sp := ⟨[.agg (pS 56), .agg (pS 198), .one pU8], none, .tup [(false, [pU8]), (true, (pS 52))], [], 0, [], 9600000000⟩
def s166 : Sp := ⟨[.one (.ptr 220), .one (.int .i64 (0) (2))], (some (0, mk1)), .tup [], mk1, 4, [(false, 220), (true, 58)], 9800000000⟩
def s190 : Sp := ⟨[.one pI64, .agg (pS 52)], none, .one .bool, [], 0, [], 9900000000⟩
def s168 : Sp := ⟨[.one (.ptr 220), .agg (pS 198)], none, .one .bool, [], 0, [], 9800000000⟩
def s167 : Sp := ⟨[.one (.ptr 220), .agg (pS 198)], (some (0, mk1)), .tup [], mk1, 8, [(false, 220), (true, 58)], 9700000000⟩
def s169 : Sp := ⟨[.one (.ptr 220)], (some (0, mk1)), .tup [], mk1, 2, [(false, 220), (true, 58)], 9800000000⟩
def s198 : Sp := ⟨[.one .bool, .one (.int .i64 (0) (7))], none, .one pU8, [], 0, [], 9900000000⟩
def s191 : Sp := ⟨[.one pI64, .agg (pS 52)], none, .one pU8, [], 0, [], 9800000000⟩
def s170 : Sp := ⟨[.one pI64, .agg (pS 54)], none, .one pU16, [], 0, [], 9700000000⟩
def s143 : Sp := ⟨[.one (.ptr 220), .agg (pS 198)], (some (0, mk1)), .tup [], mk1, 210, [(false, 220), (true, 58)], 9500000000⟩
def s115 : Sp := ⟨[.agg (pS 56), .one pI64, .one (.slc 5 0 none)], none, .tup [(true, (pS 58)), (false, [.bool])], [], 424, [(false, 220), (true, 58)], 9400000000⟩
def s90 : Sp := ⟨[.agg (pS 56), .one pI64], none, .agg (pS 58), [], 424, [(false, 220), (true, 58)], 9300000000⟩
def s58 : Sp := ⟨[.one pI64], none, .agg ((pS 60).take 34 ++ (.int .i64 (1) (1) :: (pS 60).drop 35)), [], 848, [(false, 220), (true, 58)], 9200000000⟩
def s59 : Sp := ⟨[], none, .agg (pS 62), [], 0, [], 9900000000⟩
def s32 : Sp := ⟨[.agg (pS 46)], none, .tup [(true, (pS 67).take 34 ++ (.int .i64 0 1 :: (pS 67).drop 35)), (false, [pI64])], [], 1696, [(false, 220), (true, 58), (true, 97)], 9100000000⟩
def s60 : Sp := ⟨[.one pU8, .one pU8, .one pU8], none, .one pU8, [], 0, [], 9900000000⟩
def s61 : Sp := ⟨[], none, .agg (pS 93), [], 0, [], 9900000000⟩
def s33 : Sp := ⟨[.one (.slc 5 0 (some 96))], none, .one (.slc 93 0 (some 24)), [], 0, [(true, 93)], 9800000000⟩
def s35a : Sp := ⟨[.agg ((pS 60).take 34 ++ (.int .i64 (0) (1) :: (pS 60).drop 35))], none, .one (.int .i64 (1) (1)), [], 0, [], 9900000000⟩
def s35b : Sp := ⟨[.agg (pS 60)], none, .one (.int .i64 (1) (9)), [], 0, [], 9900000000⟩
def s62 : Sp := ⟨[.agg (pS 62), .one pU8], none, .agg (pS 62), [], 0, [], 9900000000⟩
def s63 : Sp := ⟨[.agg (pS 46), .agg (pS 67), .agg (pS 93)], none, .agg (pS 95), [], 0, [], 9800000000⟩
def s64 : Sp := ⟨[.agg (pS 67)], none, .one pI64, [], 0, [], 9800000000⟩
def s71 : Sp := ⟨[.one pI64], none, .one .bool, [], 0, [], 9900000000⟩
def s94 : Sp := ⟨[.agg (pS 46), .one pU8], none, .tup [(false, [.bool]), (false, [.bool])], [], 0, [], 10000000000⟩
def s95 : Sp := ⟨[.agg (pS 46), .one pU8], none, .tup [(false, [pI64]), (false, [.bool])], [], 0, [], 9900000000⟩
def s96 : Sp := ⟨[.one pI64], none, .one .bool, [], 0, [], 9900000000⟩
def s129 : Sp := ⟨[.one (.slc 97 0 none), .one pU16], none, .one pU8, [], 0, [], 10000000000⟩
def s97 : Sp := ⟨[.one (.slc 132 0 none), .one (.slc 97 0 none), .one pU16], none, .one pU8, [], 0, [], 9900000000⟩
def s132 : Sp := ⟨[.agg (pS 62)], none, .one pU8, [], 0, [], 9900000000⟩
def s186 : Sp := ⟨[.one pI64, .one pI64], none, .one pI64, [], 0, [], 9900000000⟩
def s187 : Sp := ⟨[.one pU8, .one (.int .i64 (0) (7))], none, .one .bool, [], 0, [], 9900000000⟩
def s159 : Sp := ⟨[.one pU8, .one pI64], none, .one (.int .i64 (-1) (7)), [], 0, [], 9800000000⟩
def s160 : Sp := ⟨[.one pU8, .one pU8, .one .bool], none, .one pU8, [], 0, [], 9900000000⟩
def s158 : Sp := ⟨[.one pU8, .one pU8, .one pU8, .one pI64, .one .bool], none, .one (.int .i64 (-1) (7)), [], 0, [], 9700000000⟩
def s126 : Sp := ⟨[.agg (pS 62)], none, .one (.int .i64 (-1) (7)), [], 0, [], 9600000000⟩
def s130 : Sp := ⟨[.agg (pS 62), .one (.int .i64 (0) (7))], none, .agg (pS 62), [], 0, [], 9900000000⟩
def s131 : Sp := ⟨[.agg (pS 62), .one (.int .i64 (0) (7))], none, .agg (pS 62), [], 0, [], 9900000000⟩
def s98 : Sp := ⟨[.agg (pS 62)], none, .tup [(true, (pS 62)), (false, [pU8])], [], 0, [], 9500000000⟩
def s99 : Sp := ⟨[.agg (pS 62), .one .bool], none, .tup [(true, (pS 62)), (false, [pU8])], [], 0, [], 9500000000⟩
def s100 : Sp := ⟨[.agg (pS 64), .one pI64], none, .one pU8, [], 0, [], 9900000000⟩
def s65 : Sp := ⟨[.agg (pS 46), .agg (pS 67), .agg (pS 93)], none, .tup [(true, (pS 67)), (false, [pU8])], [], 0, [], 9400000000⟩
def s78 : Sp := ⟨[.agg (pS 56), .agg (pS 95)], none, .agg (pS 56), [], 0, [], 9800000000⟩
def s67 : Sp := ⟨[.one pI64], none, .one .bool, [], 0, [], 9900000000⟩
def s133 : Sp := ⟨[.one pI64], none, .tup [(false, [.bool]), (false, [.bool]), (false, [.bool])], [], 0, [], 9900000000⟩
def s134 : Sp := ⟨[.one pI64], none, .one pU8, [], 0, [], 9900000000⟩
def s101 : Sp := ⟨[.one pI64, .one (.int .i64 (1) (10)), .agg (pS 58), .one pU8, .one .bool, .one .bool], none, .agg pinsR, [], 0, [], 9800000000⟩
def s102 : Sp := ⟨[.one pI64], none, .one .bool, [], 0, [], 9900000000⟩
def s103 : Sp := ⟨[.agg (pS 60)], none, .one .bool, [], 0, [], 9900000000⟩
def s104 : Sp := ⟨[.agg (pS 56), .agg (pS 95)], none, .one pI64, [], 0, [], 9800000000⟩
def s135 : Sp := ⟨[.agg (pS 56), .one pI64], none, .agg (pS 56), [], 0, [], 9900000000⟩
def s105 : Sp := ⟨[.agg (pS 60), .one pI64], none, .agg (pS 60), [], 424, [(false, 220), (true, 58)], 9200000000⟩
def s72 : Sp := ⟨[.one pI64, .one pU8], none, .one (.int .i64 (4) (6)), [], 0, [], 9700000000⟩
def s106 : Sp := ⟨[.agg (pS 60), .one pI64, .one pU8], none, .tup [(true, (pS 58)), (false, [(.slc 5 0 none)])], [], 4, [(true, 5)], 9600000000⟩
def s107 : Sp := ⟨[.one pI64, .agg (pS 58)], none, .one .bool, [], 0, [], 9900000000⟩
def s144 : Sp := ⟨[.one pI64], none, .one pU16, [], 0, [], 9900000000⟩
def s146 : Sp := ⟨[.one (.ptr 220), .agg (pS 198)], none, .agg (pS 56), [], 0, [], 9700000000⟩
def s172 : Sp := ⟨[.agg (pS 54), .one pI64, .one pU8], none, .agg (pS 54), [], 0, [], 9900000000⟩
def s173 : Sp := ⟨[.agg (pS 54), .one pI64, .one pU16], none, .agg (pS 54), [], 0, [], 9800000000⟩
def s192 : Sp := ⟨[.one pI64, .one pU8], none, .agg (pS 52), [], 0, [], 9800000000⟩
def s174 : Sp := ⟨[.one pI64, .agg (pS 54), .one pU16], none, .agg (pS 54), [], 0, [], 9700000000⟩
def s147 : Sp := ⟨[.one (.ptr 220), .agg (pS 198)], none, .tup [(true, (pS 54)), (false, [.bool])], [], 0, [], 9600000000⟩
def s175 : Sp := ⟨[.one pI64, .one pI64, .one pU8, .one pU8, .agg (pS 52)], none, .tup [(false, [pU8]), (true, (pS 52))], [], 0, [], 9700000000⟩
def s176 : Sp := ⟨[.one pI64, .one pU16, .agg (pS 52)], none, .tup [(false, [pU16]), (true, (pS 52))], [], 0, [], 9800000000⟩
def s177 : Sp := ⟨[.one pI64, .one pU16, .agg (pS 52)], none, .tup [(false, [pU16]), (true, (pS 52))], [], 0, [], 9800000000⟩
def s178 : Sp := ⟨[.one pI64, .one pU16, .one pU16, .agg (pS 52)], none, .tup [(false, [pU16]), (true, (pS 52))], [], 0, [], 9800000000⟩
def s179 : Sp := ⟨[.one pI64, .one pU8, .agg (pS 52)], none, .tup [(false, [pU8]), (true, (pS 52))], [], 0, [], 9700000000⟩
def s180 : Sp := ⟨[.one pI64, .one pU8, .one .bool], none, .tup [(false, [pU8]), (false, [.bool])], [], 0, [], 9800000000⟩
def s181 : Sp := ⟨[.one pU16, .one pU16], none, .tup [(false, [pU16]), (true, (pS 52))], [], 0, [], 9700000000⟩
def s182 : Sp := ⟨[.one pU16], none, .tup [(false, [pU16]), (false, [.bool])], [], 0, [], 9900000000⟩
def s183 : Sp := ⟨[.one pU16, .one .bool], none, .tup [(false, [pU16]), (false, [.bool]), (false, [.bool])], [], 0, [], 9800000000⟩
def s148 : Sp := ⟨[.one (.ptr 220), .agg (pS 198)], none, .agg (pS 54), [], 0, [], 9500000000⟩
def s184 : Sp := ⟨[.one .bool, .one (.int .i64 (0) (7))], none, .one pU8, [], 0, [], 9800000000⟩
def s151 : Sp := ⟨[.agg (pS 56), .agg (pS 95)], none, .tup [(false, [pU8]), (true, (pS 56))], [], 0, [], 9700000000⟩
def s152 : Sp := ⟨[.agg (pS 56), .one pU8], none, .agg (pS 56), [], 0, [], 9900000000⟩
def s116 : Sp := ⟨[.agg (pS 56), .one pI64, .one (.slc 5 0 none), .agg (pS 95)], none, .agg (pS 56), [], 0, [], 9400000000⟩
def s108 : Sp := ⟨[.agg (pS 60), .agg (pS 95)], none, .agg (pS 60), [], 1696, [(false, 220), (true, 58)], 9100000000⟩
def s66 : Sp := ⟨[.agg (pS 60), .agg (pS 95), .one pU8], none, .tup [(true, pS 60), (true, pinsR)], [], 6794, [(false, 220), (true, 5), (true, 58)], 9000000000⟩
def s112 : Sp := ⟨[.one (.slc 97 0 none), .one pU16, .one pU8], none, .one (.slc 97 0 none), [], 1, [(true, 97)], 9800000000⟩
def s70 : Sp := ⟨[.one (.slc 132 0 none), .one (.slc 97 0 none), .one pU16, .one pU8], none, .one (.slc 97 0 none), [], 1, [(true, 97)], 9700000000⟩
def s136 : Sp := ⟨[.agg (pS 62), .one pU8], none, .agg (pS 62), [], 0, [], 9900000000⟩
def s137 : Sp := ⟨[.agg (pS 62), .one pU8], none, .agg (pS 62), [], 0, [], 9800000000⟩
def s138 : Sp := ⟨[.agg (pS 62), .one pU8], none, .agg (pS 62), [], 0, [], 9700000000⟩
def s109 : Sp := ⟨[.agg (pS 62), .one .bool, .one pU8], none, .agg (pS 62), [], 0, [], 9600000000⟩
def s110 : Sp := ⟨[.agg (pS 64), .one pI64, .one pU8], none, .agg (pS 64), [], 0, [], 9900000000⟩
def s68 : Sp := ⟨[.agg (pS 46), .agg (pS 67), .agg (pS 58)], none, .agg (pS 67), [], 6, [(true, 97), (true, 192)], 9500000000⟩
def s93 : Sp := ⟨[.agg (pS 64)], none, .one .bool, [], 0, [], 9900000000⟩
def s69 : Sp := ⟨[.agg (pS 64)], none, .tup [(true, (pS 64)), (true, (pS 97)), (false, [.bool])], [], 0, [], 9800000000⟩
def s34 : Sp := ⟨[.agg (pS 46), .agg (pS 67), .agg (pS 93)], none, .tup [(true, pS 67), (true, pinsR), (true, pS 99)], [], 13602, [(false, 220), (true, 5), (true, 58), (true, 97), (true, 192)], 8900000000⟩
def s36a : Sp := ⟨[.one (.slc 153 1 none), .agg (pS 60), .agg (pS 58), .one pI64, .one .bool, .one .bool], none, .one (.slc 153 1 none), [], 4, [(true, 153)], 9900000000⟩
def s36b : Sp := ⟨[.one (.slc 153 0 none), .agg (pS 60), .agg (pS 58), .one (.int .i64 (1) (1)), .one .bool, .one .bool], none, .one (.slc 153 1 none), [], 4, [(true, 153)], 9900000000⟩
def s36c : Sp := ⟨[.one (.slc 153 0 none), .agg (pS 60), .agg (pS 58), .one (.int .i64 (8) (10)), .one .bool, .one .bool], none, .one (.slc 153 1 none), [], 4, [(true, 153)], 9900000000⟩
def s37 : Sp := ⟨[.agg (pS 60), .one pI64, .one pU8], none, .agg (pS 58), [], 0, [], 9600000000⟩
def s39 : Sp := ⟨[.agg (pS 60)], none, .one .bool, [], 0, [], 9900000000⟩
def s73 : Sp := ⟨[.one (.ptr 69), .agg (pS 109), .agg (pS 56)], (some (0, rRun)), .tup [], rRun, 4, [(false, 69), (true, 56), (true, 109)], 9900000000⟩
def s74 : Sp := ⟨[.agg (pS 109), .agg (pS 56), .agg (pS 95)], none, .agg (pS 109), [], 0, [], 9900000000⟩
def s75 : Sp := ⟨[.agg (pS 60), .agg (pS 95), .one pU8], none, .tup [(true, (pS 56)), (false, [.bool])], [], 428, [(false, 220), (true, 5), (true, 58)], 9300000000⟩
def s76 : Sp := ⟨[.one pI64], none, .one pI64, [], 0, [], 9800000000⟩
def s77 : Sp := ⟨[.agg (pS 60), .one pI64, .one pU8], none, .one (.slc 5 0 none), [], 2, [(true, 5)], 9500000000⟩
def s38 : Sp := ⟨[.one (.ptr 69), .agg (pS 60), .agg (pS 67), .agg (pS 99), .agg (pS 56)], (some (0, rRun)), .tup [], rRun, 894, [(false, 69), (false, 220), (true, 5), (true, 56), (true, 58), (true, 109)], 9200000000⟩
def s17 : Sp := ⟨[.agg (pS 46), .one (.slc 5 0 (some 96))], none, .tup [(true, (pS 69)), (false, [pI64])], [], 2000000, [(false, 69), (false, 220), (true, 5), (true, 34), (true, 56), (true, 58), (true, 93), (true, 97), (true, 109), (true, 153), (true, 192)], 8800000000⟩
def s79 : Sp := ⟨[.one .bool, .one (.int .i64 (0) (7))], none, .one pU8, [], 0, [], 9900000000⟩
def s40 : Sp := ⟨[.one (.slc 93 0 (some 24))], none, .one (.slc 5 0 (some 96)), [], 0, [(true, 5)], 9800000000⟩
def s118 : Sp := ⟨[.one (.ptr 81)], none, .one .bool, [], 1, [(false, 81)], 9900000000⟩
def s80 : Sp := ⟨[.one (.ptr 81)], none, .agg (pS 93), [], 12, [(false, 81)], 9800000000⟩
def s41 : Sp := ⟨[.one (.ptr 81), .one (.int .i64 (24) (24))], none, .one (.slc 93 0 (some 24)), [], 400, [(false, 81), (true, 93)], 9700000000⟩
def s18 : Sp := ⟨[.one (.ptr 81), .one (.int .i64 (24) (24))], none, .one (.slc 5 0 (some 96)), [], 3000, [(false, 81), (true, 5), (true, 93)], 9600000000⟩
def s8 : Sp := ⟨[.one .fix], none, .one (.slc 34 0 none), [], 5000000, [(false, 69), (false, 81), (false, 220), (true, 5), (true, 34), (true, 56), (true, 58), (true, 93), (true, 97), (true, 109), (true, 132), (true, 153), (true, 192)], 8700000000⟩
end Go.Proofs.YtjmnolhkkpaodaaGreatDoor
namespace Go.Ty
open Go Go.Sx
section
variable {E : Env} {G : Nat → Option Con} {p : Par} {D : Drw} {sq : Rs → Rs} {cl : St → St} {S0 : SB'} {w0 : World}
def nrmS : Rs → List St
 | [] => []
 | (.nrm, s) :: r => s :: nrmS r
 | _ :: r => nrmS r
def othS : Rs → Rs
 | [] => []
 | (.nrm, _) :: r => othS r
 | x :: r => x :: othS r
def roundT (E : Env) (G : Nat → Option Con) (D : Drw) (sq sqh : Rs → Rs) (cl : St → St) (n : Nat) (body : Code) (st : St) : Option (St × Rs) :=
 match runT E G D sq cl n body st with
 | some rs => match nrmS (sqh (sq rs)) with
  | [s] => frcS (cl s) fun s => some (s, othS (sqh (sq rs)))
  | _ => none
 | none => none
def LoopOk (E : Env) (p : Par) (body : Code) (st : St) (rs : Rs) (n : Nat) : Prop := ∀ (S0 : SB') (w0 : World) (a : Act) (w : World), Good E p S0 w0 st a w → Code.rounds E.P body (PostT E p S0 w0 rs) n a w
theorem loop_last (hE : EnvOk E G p) (hD : DrwOk E p D) (hsq : SqOk sq) (hcl : ClOk cl) {n : Nat} {body : Code} {st : St} {rs : Rs} (h : runT E G D sq cl n (.loop body) st = some rs) : LoopOk E p body st rs n :=
 fun S0 w0 a w hg => (runT_sound (S0 := S0) (w0 := w0) hE hD hsq hcl n).2 body st rs a w h hg
theorem nrmS_mem {s : St} : ∀ {rs : Rs}, (.nrm, s) ∈ rs → s ∈ nrmS rs
 | [], h => by simp at h
 | (ex, t) :: r, h => by
  rcases List.mem_cons.1 h with h1 | h1
  · simp only [Prod.mk.injEq] at h1
    rw [← h1.1, ← h1.2]
    simp [nrmS]
  · cases ex with
    | nrm => exact List.mem_cons_of_mem _ (nrmS_mem h1)
    | _ => exact nrmS_mem (rs := r) h1
theorem othS_mem {ex : Ex} {s : St} (hne : ex ≠ .nrm) : ∀ {rs : Rs}, (ex, s) ∈ rs → (ex, s) ∈ othS rs
 | [], h => by simp at h
 | (ex', t) :: r, h => by
  rcases List.mem_cons.1 h with h1 | h1
  · simp only [Prod.mk.injEq] at h1
    obtain ⟨rfl, rfl⟩ := h1
    cases ex with
    | nrm => exact absurd rfl hne
    | _ => simp [othS]
  · cases ex' with
    | nrm => exact othS_mem hne (rs := r) h1
    | _ => exact List.mem_cons_of_mem _ (othS_mem hne (rs := r) h1)
theorem loop_round {sqh : Rs → Rs} (hE : EnvOk E G p) (hD : DrwOk E p D) (hsq : SqOk sq) (hsqh : SqOk sqh) (hcl : ClOk cl) {n m : Nat} {body : Code} {st s : St} {rs o : Rs} (h : roundT E G D sq sqh cl m body st = some (s, o)) (hl : LoopOk E p body s rs n) : LoopOk E p body st (o ++ rs) (n + 1) := by
 intro S0 w0 a w hg
 unfold roundT at h
 split at h <;> try contradiction
 rename_i rs1 h1
 split at h <;> try contradiction
 rename_i t h2
 rw [frcS_eq] at h
 simp only [Option.some.injEq, Prod.mk.injEq] at h
 obtain ⟨rfl, rfl⟩ := h
 rw [rounds_succ]
 refine wp_mono ((runT_sound (S0 := S0) (w0 := w0) hE hD hsq hcl m).1 body st rs1 a w h1 hg) ?_
 intro e a1 w1 hp
 have hp := postSq hsqh (postSq hsq hp)
 obtain ⟨ex, s, h3, h4, h5⟩ := hp
 have other : ex ≠ .nrm → PostT E p S0 w0 (othS (sqh (sq rs1)) ++ rs) e a1 w1 := fun hne => ⟨ex, s, List.mem_append_left _ (othS_mem hne h3), h4, h5⟩
 cases e with
 | normal =>
  have := exOf_nrm h4
  subst this
  have h6 := nrmS_mem h3
  rw [h2] at h6
  simp only [List.mem_singleton] at h6
  subst h6
  exact rounds_mono (fun e a w hq => postSub (fun x hx => List.mem_append_right _ hx) hq) n a1 w1 (hl S0 w0 a1 w1 (hcl _ _ _ _ _ _ _ h5))
 | _ => exact other (by rintro rfl; simp [exOf] at h4)
abbrev RsP := Rs × List St
def catP : Option RsP → Option RsP → Option RsP
 | some (a, x), some (b, y) => some (a ++ b, x ++ y)
 | _, _ => none
def onNrmH (f : St → Option RsP) : Rs → Option RsP
 | [] => some ([], [])
 | (.nrm, st) :: r => catP (f st) (onNrmH f r)
 | x :: r => match onNrmH f r with
  | some (l, ps) => some (x :: l, ps)
  | none => none
def runH (E : Env) (G : Nat → Option Con) (D : Drw) (sq : Rs → Rs) (cl : St → St) (n : Nat) (rl : Rs) : Code → St → Option RsP
 | .seq x y, st => match runH E G D sq cl n rl x st with
  | some (rs, ps) => match onNrmH (runH E G D sq cl n rl y) rs with
   | some (l, ps') => some (sq l, ps ++ ps')
   | none => none
  | none => none
 | .block id body, st => match runH E G D sq cl n rl body st with
  | some (rs, ps) => some (sq (unblk id rs), ps)
  | none => none
 | .loop _, st => some (rl, [st])
 | c, st => match runT E G D sq cl n c st with
  | some rs => some (rs, [])
  | none => none
def loopsOf : Code → List Code
 | .seq x y => loopsOf x ++ loopsOf y
 | .block _ b => loopsOf b
 | .loop b => [b]
 | _ => []
theorem catP_some {x y : Option RsP} {z : RsP} (h : catP x y = some z) : ∃ a b, x = some a ∧ y = some b ∧ z = (a.1 ++ b.1, a.2 ++ b.2) := by
 unfold catP at h
 split at h <;> try contradiction
 simp only [Option.some.injEq] at h
 exact ⟨_, _, rfl, rfl, h.symm⟩
theorem onNrmH_sub {f : St → Option RsP} : ∀ {rs : Rs} {z : RsP}, onNrmH f rs = some z → (∀ ex s, (ex, s) ∈ rs → ex ≠ .nrm → (ex, s) ∈ z.1) ∧ ∀ s, (.nrm, s) ∈ rs → ∃ l', f s = some l' ∧ (∀ x ∈ l'.1, x ∈ z.1) ∧ ∀ x ∈ l'.2, x ∈ z.2
 | [], z, h => by simp
 | (ex, s) :: r, z, h => by
  have other : ∀ {x : Ex × St}, (match onNrmH f r with | some (l, ps) => some (x :: l, ps) | none => none) = some z → x = (ex, s) → ex ≠ .nrm → (∀ ex' s', (ex', s') ∈ (ex, s) :: r → ex' ≠ .nrm → (ex', s') ∈ z.1) ∧ ∀ s', (.nrm, s') ∈ (ex, s) :: r → ∃ l', f s' = some l' ∧ (∀ x ∈ l'.1, x ∈ z.1) ∧ ∀ x ∈ l'.2, x ∈ z.2 := by
   rintro x h rfl hne
   split at h <;> try contradiction
   rename_i l1 ps1 h1
   simp only [Option.some.injEq] at h
   subst h
   obtain ⟨h2, h3⟩ := onNrmH_sub h1
   refine ⟨fun ex' s' hm hn => ?_, fun s' hm => ?_⟩
   · rcases List.mem_cons.1 hm with hm | hm
     · rw [hm]; simp
     · exact List.mem_cons_of_mem _ (h2 _ _ hm hn)
   · rcases List.mem_cons.1 hm with hm | hm
     · simp only [Prod.mk.injEq] at hm; exact absurd hm.1.symm hne
     · obtain ⟨l', k1, k2, k3⟩ := h3 _ hm
       exact ⟨l', k1, fun x hx => List.mem_cons_of_mem _ (k2 x hx), k3⟩
  cases ex with
  | nrm =>
   simp only [onNrmH] at h
   obtain ⟨a, b, h1, h2, rfl⟩ := catP_some h
   obtain ⟨h3, h4⟩ := onNrmH_sub h2
   refine ⟨fun ex' s' hm hn => ?_, fun s' hm => ?_⟩
   · rcases List.mem_cons.1 hm with hm | hm
     · simp only [Prod.mk.injEq] at hm; exact absurd hm.1 hn
     · exact List.mem_append_right _ (h3 _ _ hm hn)
   · rcases List.mem_cons.1 hm with hm | hm
     · simp only [Prod.mk.injEq] at hm
       rw [hm.2]
       exact ⟨a, h1, fun x hx => List.mem_append_left _ hx, fun x hx => List.mem_append_left _ hx⟩
     · obtain ⟨l', k1, k2, k3⟩ := h4 _ hm
       exact ⟨l', k1, fun x hx => List.mem_append_right _ (k2 x hx), fun x hx => List.mem_append_right _ (k3 x hx)⟩
  | exit i => exact other h rfl (by simp)
  | ret => exact other h rfl (by simp)
  | res v => exact other h rfl (by simp)
theorem runH_sound (hE : EnvOk E G p) (hD : DrwOk E p D) (hsq : SqOk sq) (hcl : ClOk cl) {n : Nat} {rl : Rs} : ∀ (c : Code) (st : St) (z : RsP) (a : Act) (w : World), runH E G D sq cl n rl c st = some z → (∀ b ∈ loopsOf c, ∀ s ∈ z.2, ∃ m, LoopOk E p b s rl m) → Good E p S0 w0 st a w → c.wp E.P (PostT E p S0 w0 z.1) a w := by
 intro c
 have plain : ∀ (c : Code) (st : St) (z : RsP) (a : Act) (w : World), (match runT E G D sq cl n c st with | some rs => some (rs, []) | none => none) = some z → Good E p S0 w0 st a w → c.wp E.P (PostT E p S0 w0 z.1) a w := by
  intro c st z a w h hg
  split at h <;> try contradiction
  rename_i rs hrs
  simp only [Option.some.injEq] at h
  subst h
  exact (runT_sound (S0 := S0) (w0 := w0) hE hD hsq hcl n).1 c st rs a w hrs hg
 induction c with
 | seq x y ihx ihy =>
  intro st z a w h hl hg
  simp only [runH] at h
  split at h <;> try contradiction
  rename_i rs1 ps1 h1
  split at h <;> try contradiction
  rename_i l ps2 hl2
  simp only [Option.some.injEq] at h
  subst h
  obtain ⟨k1, k2⟩ := onNrmH_sub hl2
  refine wp_seq (wp_mono (ihx st _ a w h1 (fun b hb s hs => hl b (List.mem_append_left _ hb) s (List.mem_append_left _ hs)) hg) ?_)
  intro e a1 w1 hp
  cases e with
  | normal =>
   obtain ⟨ex, s, h2, h3, h4⟩ := hp
   have := exOf_nrm h3
   subst this
   obtain ⟨l', h5, h6, h7⟩ := k2 s h2
   exact wp_mono (ihy s l' a1 w1 h5 (fun b hb s hs => hl b (List.mem_append_right _ hb) s (List.mem_append_right _ (h7 _ hs))) h4) (fun e a w hq => postSq hsq (postSub h6 hq))
  | _ =>
   obtain ⟨ex, s, h2, h3, h4⟩ := hp
   exact postSq hsq ⟨ex, s, k1 _ _ h2 (by rintro rfl; simp [exOf] at h3), h3, h4⟩
 | block id body ih =>
  intro st z a w h hl hg
  simp only [runH] at h
  split at h <;> try contradiction
  rename_i rs1 ps1 h1
  simp only [Option.some.injEq] at h
  subst h
  refine wp_block (wp_mono (ih st _ a w h1 hl hg) ?_)
  intro e a1 w1 hp
  obtain ⟨ex, s, h2, h3, h4⟩ := hp
  have hm := unblk_mem (id := id) h2
  cases ex with
  | nrm => simp only [exOf, Option.some.injEq] at h3; subst h3; exact postSq hsq ⟨.nrm, s, hm, rfl, h4⟩
  | ret => simp only [exOf, Option.some.injEq] at h3; subst h3; exact postSq hsq ⟨.ret, s, hm, rfl, h4⟩
  | res v => simp [exOf] at h3
  | exit i =>
   simp only [exOf, Option.some.injEq] at h3
   subst h3
   simp only [Exit.inBlock]
   simp only at hm
   split
   · rename_i hi
     rw [show Nat.beq i id = true from by simp [hi]] at hm
     exact postSq hsq ⟨.nrm, s, hm, rfl, h4⟩
   · rename_i hi
     rw [show Nat.beq i id = false from by cases hh : Nat.beq i id <;> simp_all] at hm
     exact postSq hsq ⟨.exit i, s, hm, rfl, h4⟩
 | loop body _ =>
  intro st z a w h hl hg
  simp only [runH, Option.some.injEq] at h
  subst h
  obtain ⟨m, hm⟩ := hl body (by simp [loopsOf]) st (by simp)
  exact wp_loop_rounds m (hm S0 w0 a w hg)
 | _ =>
  intro st z a w h _ hg
  exact plain _ st z a w h hg
end
end Go.Ty
namespace Go.Ty
open Go Go.Sx
theorem spOk_rounds {P : Program} {p : Par} {T : Bool → TypeId → Option (List CT)} {G : Nat → Option Con} {D : Env → Drw} {sq : Rs → Rs} {cl : St → St} {sp : Sp} {n : Nat} {g : FuncId} {fn : Func} {c B : Code} {st h0 : St} {rl rs : Rs} {E : Env}
  (hT : T = p.T) (hv0 : p.v0.oneCell' = true ∧ p.v0.cells = #[p.v0]) (hTp : ∀ r t ts, p.T r t = some ts → 0 < ts.length)
  (hG0 : ∀ q : Par, q.T = p.T → q.v0 = p.v0 → q.W = p.W → ∀ g con, G g = some con → ConOk P sp.mx q g con)
  (hD : ∀ q : Par, q.T = p.T → q.v0 = p.v0 → q.W = p.W → ∀ nt, q.M ≤ sp.mx → DrwOk (envOf P T sp nt) q (D (envOf P T sp nt))) (hsq : SqOk sq) (hcl : ClOk cl)
  (hfn : P.funcs[g]? = some fn) (hc : fn.body = some c) (hst : init sp = some st) (hhd : chkHd sp fn st = true) (hE : E = envOf P T sp fn.ntmps)
  (hB : loopsOf c = [B]) (hrun : runH E G (D E) sq cl n rl c st = some (rs, [h0]))
  (hloop : ∀ q : Par, EnvOk E G q → DrwOk E q (D E) → ∃ N, LoopOk E q B h0 rl N) (hfin : finAll P sp.mx sp fn.results.toList rs = true) : SpOk P p g sp := by
 subst hE
 refine spOk_sem hT hv0 hTp hfn hc hst hhd ?_ hfin
 intro M pin hM S0 w0 a w hE hg
 have hE' : EnvOk (envOf P T sp fn.ntmps) G (p.at M pin) := ⟨hE.T, hE.M, hE.v0, hE.Tp, hG0 (p.at M pin) rfl rfl rfl⟩
 have hD' : DrwOk (envOf P T sp fn.ntmps) (p.at M pin) (D (envOf P T sp fn.ntmps)) := hD (p.at M pin) rfl rfl rfl _ hM
 obtain ⟨N, hN⟩ := hloop _ hE' hD'
 have := runH_sound (S0 := S0) (w0 := w0) hE' hD' hsq hcl c st (rs, [h0]) a w hrun (fun b hb s hs => by
  rw [hB, List.mem_singleton] at hb
  rw [List.mem_singleton] at hs
  subst hb hs
  exact ⟨N, hN⟩) hg
 exact this
end Go.Ty
namespace Go.Proofs.YtjmnolhkkpaodaaGreatDoor
open Go Go.Sx Go.Ty
abbrev iI := AC.int
abbrev aB := AC.anyB
noncomputable def codeOf (g : Nat) : Code := match Tryz.prog.funcs[g]? with
 | some fn => match fn.body with
  | some c => c
  | none => .skip
 | none => .skip
noncomputable def loopOf (g : Nat) : Code := match loopsOf (codeOf g) with
 | [b] => b
 | _ => .skip
def st0 (sp : Sp) : St := match init sp with
 | some s => s
 | none => ⟨[], [], [], [], [], [], 0, 0, 0⟩
noncomputable def envX (sp : Sp) (nt : Nat) : Ty.Env := Ty.envOf Tryz.prog T28 sp nt
noncomputable def gX (sp : Sp) (L : List (Nat × Sp)) : Nat → Option Con := conL sp.mx L
noncomputable def dX (sp : Sp) (L : List (Nat × Sp)) (nt : Nat) : Drw := drw (gX sp L) (envX sp nt)
noncomputable def roundX (sp : Sp) (L : List (Nat × Sp)) (nt g : Nat) (sq : Rs → Rs) (s : St) : Option (St × Rs) := roundT (envX sp nt) (gX sp L) (dX sp L nt) sq (sqL 0) cl2 4000 (loopOf g) s
def sqD : Rs → Rs := fun rs => sqL 1 (mapR cl1 rs)
def L17 : List (Nat × Sp) := [(32,s32),(33,s33),(34,s34),(35,s35a),(35,s35b),(36,s36a),(36,s36b),(36,s36c),(37,s37),(38,s38),(39,s39)]
noncomputable def round17 (s : St) : Option (St × Rs) := roundX s17 L17 119 17 sqD s
def L41 : List (Nat × Sp) := [(80, s80)]
noncomputable def round41 (s : St) : Option (St × Rs) := roundX s41 L41 39 41 (sqE 1) s
end Go.Proofs.YtjmnolhkkpaodaaGreatDoor
