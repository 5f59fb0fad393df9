/- Chapter 11: what its functions compute. -/
import Derived.Test.YtmlfcgmiaapffaaGreatDoorC11a
namespace Go.Vm.Ch11.Aw
open _root_.Ch11 (T11 c22)
set_option maxRecDepth 100000
set_option maxHeartbeats 4000000
def src1 : List UInt8 := [119, 97, 108, 108, 32, 32, 115, 111, 117, 116, 104, 32, 58, 10, 32, 32, 106, 111, 105, 110, 116, 32, 40, 32, 53, 32, 44, 32, 49, 48, 32, 41, 32, 32, 35, 32, 109, 109]
def m0 : Mem := []
def v1 : AV := (.tup [(.row (.mem 2) 0 1), (.agg [(AV.int .i64 (0)), (AV.int .i64 (0)), (AV.int .i64 (0))])])
def m1 : Mem := m0 ++ [(some (LObj.cells false [(.str [119, 97, 108, 108, 32, 32, 115, 111, 117, 116, 104, 32, 58]), (.str [32, 32, 106, 111, 105, 110, 116, 32, 40, 32, 53, 32, 44, 32, 49, 48, 32, 41, 32, 32, 35, 32, 109, 109])])), (some (LObj.cells false [(.vec none false []), (.bool true), (.orow 4 2 1), (AV.int .i64 (0))])), (some (LObj.cells false [(.vec none true [(.agg [(AV.int .i64 (1)), (.str [119, 97, 108, 108]), (AV.int .i64 (0)), (AV.int .i64 (1))]), (.agg [(AV.int .i64 (1)), (.str [115, 111, 117, 116, 104]), (AV.int .i64 (0)), (AV.int .i64 (7))])]), (.bool true), (.orow 4 3 1), (AV.int .i64 (1))])), (some (LObj.cells false [(.vec none true [(.agg [(AV.int .i64 (1)), (.str [106, 111, 105, 110, 116]), (AV.int .i64 (0)), (AV.int .i64 (3))]), (.agg [(AV.int .i64 (4)), (.str [40]), (AV.int .i64 (0)), (AV.int .i64 (9))]), (.agg [(AV.int .i64 (2)), (.str []), (AV.int .i64 (5)), (AV.int .i64 (11))]), (.agg [(AV.int .i64 (4)), (.str [44]), (AV.int .i64 (0)), (AV.int .i64 (13))]), (.agg [(AV.int .i64 (2)), (.str []), (AV.int .i64 (10)), (AV.int .i64 (15))]), (.agg [(AV.int .i64 (4)), (.str [41]), (AV.int .i64 (0)), (AV.int .i64 (18))])]), (.bool false), (.vec none false []), (AV.int .i64 (2))]))]
def v2 : AV := (.tup [(.str [119, 97, 108, 108, 32, 115, 111, 117, 116, 104, 58, 10, 32, 32, 106, 111, 105, 110, 116, 32, 40, 53, 44, 32, 49, 48, 41, 10]), (AV.int .i64 (0))])
def m2 : Mem := m1 ++ [(some (LObj.cells false [(.vec (some 1) true [(.str [119, 97, 108, 108, 32, 115, 111, 117, 116, 104, 58]), (.str [32, 32, 106, 111, 105, 110, 116, 32, 40, 53, 44, 32, 49, 48, 41])])])), (some (LObj.cells false [(.fn (.func 91) [(.ptr (.mem 4) 0), (.ptr (.mem 5) 0)])])), (some (LObj.cells false [(.ptr (.mem 6) 0), (.typed 1 5 0 10 28)])), none, none, none, (some (LObj.cells true []))]
def v3 : AV := (.str [119, 97, 108, 108, 32, 115, 111, 117, 116, 104, 58, 10, 32, 32, 106, 111, 105, 110, 116, 32, 40, 53, 44, 32, 49, 48, 41])
def m3 : Mem := m2
def v4 : AV := (.row (.mem 11) 0 2)
def m4 : Mem := m2 ++ [(some (LObj.cells false [(.str [119, 97, 108, 108, 32, 115, 111, 117, 116, 104, 58]), (.str [32, 32, 106, 111, 105, 110, 116, 32, 40, 53, 44, 32, 49, 48, 41])]))]
def v22 : AV := (.tup [(.row (.mem 11) 0 2), (AV.int .i64 (0))])
def m22 : Mem := m4
def v5 : AV := (.tup [(.vec none true [(.agg [(AV.int .i64 (1)), (.str [97])]), (.agg [(AV.int .i64 (0)), (.str [98])]), (.agg [(AV.int .i64 (0)), (.str [99])]), (.agg [(AV.int .i64 (2)), (.str [100])])]), (AV.int .i64 (0))])
def m5 : Mem := m4 ++ [(some (LObj.cells false [(.row (.mem 16) 0 4), (.row (.mem 15) 0 4), (.row (.mem 14) 0 4), (.row (.mem 13) 0 4)])), (some (LObj.cells false [(AV.int .i64 (3)), (AV.int .i64 (2)), (AV.int .i64 (1)), (AV.int .i64 (0))])), (some (LObj.cells false [(AV.int .i64 (2)), (AV.int .i64 (1)), (AV.int .i64 (2)), (AV.int .i64 (1))])), (some (LObj.cells false [(AV.int .i64 (1)), (AV.int .i64 (2)), (AV.int .i64 (3)), (AV.int .i64 (2))])), (some (LObj.cells false [(AV.int .i64 (2)), (AV.int .i64 (3)), (AV.int .i64 (4)), (AV.int .i64 (3))]))]
def v6 : AV := (.tup [(.vec none true [(.str [98]), (.str [99]), (.str [100])]), (AV.int .i64 (0))])
def m6 : Mem := m0
def v7 : AV := (.tup [(.row (.mem 19) 0 1), (.agg [(AV.int .i64 (0)), (AV.int .i64 (0)), (AV.int .i64 (0))])])
def m7 : Mem := m5 ++ [(some (LObj.cells false [(.str [97, 32, 53])])), (some (LObj.cells false [(.vec none false []), (.bool true), (.orow 4 19 1), (AV.int .i64 (0))])), (some (LObj.cells false [(.vec none true [(.agg [(AV.int .i64 (1)), (.str [97]), (AV.int .i64 (0)), (AV.int .i64 (1))]), (.agg [(AV.int .i64 (2)), (.str []), (AV.int .i64 (5)), (AV.int .i64 (3))])]), (.bool false), (.vec none false []), (AV.int .i64 (1))]))]
def v8 : AV := (.tup [(.str [97, 32, 53, 10]), (AV.int .i64 (0))])
def m8 : Mem := m7 ++ [(some (LObj.cells false [(.vec (some 1) true [(.str [97, 32, 53])])])), (some (LObj.cells false [(.fn (.func 91) [(.ptr (.mem 20) 0), (.ptr (.mem 21) 0)])])), (some (LObj.cells false [(.ptr (.mem 22) 0), (.typed 1 5 0 24 4)])), none, (some (LObj.cells true []))]
def v9 : AV := (.tup [(.vec none true [(.agg [(.vec none true [(.agg [(AV.int .i64 (1)), (.str [97]), (AV.int .i64 (0)), (AV.int .i64 (1))]), (.agg [(AV.int .i64 (2)), (.str []), (AV.int .i64 (5)), (AV.int .i64 (3))])]), (.bool false), (.vec none false []), (AV.int .i64 (1))])]), (AV.int .i64 (0))])
def m9 : Mem := m8 ++ [(some (LObj.cells false [(.vec (some 1) true [(.str [97, 32, 53])])])), (some (LObj.cells false [(.fn (.func 91) [(.ptr (.mem 25) 0), (.ptr (.mem 26) 0)])])), (some (LObj.cells false [(.ptr (.mem 27) 0), (.typed 1 5 0 29 4)])), none, (some (LObj.cells true []))]
def v10 : AV := (.tup [(.str [34, 120, 32, 121, 34]), (AV.int .i64 (0))])
def m10 : Mem := m0
def v11 : AV := (.bool true)
def m11 : Mem := m9
def v12 : AV := (.bool true)
def m12 : Mem := m11
def v13 : AV := (AV.int .i64 (0))
def m13 : Mem := m12 ++ [(some (LObj.cells false [(.vec (some 1) true [(.str [97, 32, 53])])])), (some (LObj.cells false [(.fn (.func 91) [(.ptr (.mem 30) 0), (.ptr (.mem 31) 0)])])), (some (LObj.cells false [(.ptr (.mem 32) 0), (.typed 1 5 0 34 4)])), none, (some (LObj.cells true []))]
theorem h1 : callL T11 37 [.str src1] [] = some (v1, m1) := callL_of (k := 400) (by kernel_rfl)
theorem h7 : callL T11 37 [.str [97, 32, 53]] m5 = some (v7, m7) := callL_of (k := 400) (by kernel_rfl)
def kv1 : AV := .row (.mem 2) 0 1
def kv7 : AV := .row (.mem 19) 0 1
def ss (l : List (List UInt8)) : AV := .vec none true (l.map AV.str)
def st2 : List UInt8 := [119, 97, 108, 108, 32, 115, 111, 117, 116, 104, 58, 10, 32, 32, 106, 111, 105, 110, 116, 32, 40, 53, 44, 32, 49, 48, 41, 10]
def st3 : List UInt8 := [119, 97, 108, 108, 32, 115, 111, 117, 116, 104, 58, 10, 32, 32, 106, 111, 105, 110, 116, 32, 40, 53, 44, 32, 49, 48, 41]
theorem h2 : callL T11 14 [kv1] m1 = some (v2, m2) := callL_of (k := 400) (by kernel_rfl)
theorem h3 : callL T11 47 [.str st2, .str [10]] [] = some (v3, []) := callL_of (k := 400) (by kernel_rfl)
theorem h4 : callL T11 46 [.str st3, .str [10]] m2 = some (v4, m4) := callL_of (k := 400) (by kernel_rfl)
theorem h5 : callL T11 28 [ss [[97], [98], [99]], ss [[98], [99], [100]]] m4 = some (v5, m5) := callL_of (k := 400) (by kernel_rfl)
def d5 : AV := .vec none true [(.agg [(AV.int .i64 (1)), (.str [97])]), (.agg [(AV.int .i64 (0)), (.str [98])]), (.agg [(AV.int .i64 (0)), (.str [99])]), (.agg [(AV.int .i64 (2)), (.str [100])])]
theorem h6 : callL T11 32 [ss [[97], [98], [99]], d5] [] = some (v6, []) := callL_of (k := 400) (by kernel_rfl)
theorem h6b : callL T11 32 [ss [[97]], .vec none true [.agg [AV.int .i64 0, .str [98]]]] [] = some (.tup [.vec none false [], AV.int .i64 10], []) := callL_of (k := 400) (by kernel_rfl)
theorem h8 : callL T11 14 [kv7] m7 = some (v8, m8) := callL_of (k := 400) (by kernel_rfl)
def nv : AV := .vec none true [(.agg [(.vec none true [(.agg [(AV.int .i64 (1)), (.str [97]), (AV.int .i64 (0)), (AV.int .i64 (1))]), (.agg [(AV.int .i64 (2)), (.str []), (AV.int .i64 (5)), (AV.int .i64 (3))])]), (.bool false), (.vec none false []), (AV.int .i64 (1))])]
theorem h9 : callL T11 15 [kv7] m8 = some (v9, m9) := callL_of (k := 400) (by kernel_rfl)
theorem h10 : callL T11 20 [.agg [AV.int .i64 3, .str [120, 32, 121], AV.int .i64 0, AV.int .i64 1]] [] = some (v10, []) := callL_of (k := 400) (by kernel_rfl)
theorem h11 : callL T11 26 [.row (.mem 11) 0 2, ss [[119, 97, 108, 108, 32, 115, 111, 117, 116, 104, 58], [32, 32, 106, 111, 105, 110, 116, 32, 40, 53, 44, 32, 49, 48, 41]]] m9 = some (.bool true, m9) := callL_of (k := 400) (by kernel_rfl)
theorem h12 : callL T11 24 [kv7, nv] m9 = some (.bool true, m9) := callL_of (k := 400) (by kernel_rfl)
theorem h13 : callL T11 16 [kv7] m9 = some (v13, m13) := callL_of (k := 400) (by kernel_rfl)
theorem h14 : callL T11 35 [d5] [] = some (.vec none true [(.agg [(AV.int .i64 (2)), (.str [97])]), (.agg [(AV.int .i64 (0)), (.str [98])]), (.agg [(AV.int .i64 (0)), (.str [99])]), (.agg [(AV.int .i64 (1)), (.str [100])])], []) := callL_of (k := 400) (by kernel_rfl)
theorem h15 : callL T11 29 [d5, d5] [] = some (.bool true, []) := callL_of (k := 400) (by kernel_rfl)
theorem h16 : callL T11 26 [ss [[98], [99], [100]], ss [[98], [99], [100]]] [] = some (.bool true, []) := callL_of (k := 400) (by kernel_rfl)
end Go.Vm.Ch11.Aw
