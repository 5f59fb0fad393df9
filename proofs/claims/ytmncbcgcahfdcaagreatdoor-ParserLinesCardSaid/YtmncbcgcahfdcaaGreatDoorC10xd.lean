/- Chapter 10: what its functions compute. -/
import Derived.Test.YtmncbcgcahfdcaaGreatDoorC10xc
namespace Go.Vm.Ch10.Aw
open _root_.Ch10 (T10 c9)
set_option maxRecDepth 100000
set_option maxHeartbeats 4000000
/-! ### the runs of awake, one by one -/
def src1 : List UInt8 := [119, 97, 108, 108, 32, 115, 111, 117, 116, 104, 58, 10, 32, 32, 115, 116, 111, 110, 101, 32, 97, 32, 49, 48, 48, 10, 32, 32, 115, 116, 111, 110, 101, 32, 98, 32, 49, 50, 48, 10, 110, 111, 116, 101, 10]
def src2 : List UInt8 := [110, 111, 116, 101, 10, 32, 32, 115, 116, 111, 110, 101, 32, 97, 10]
def kv : AV := .row (.mem 5) 0 2
def v1 : AV := (.tup [(.row (.mem 5) 0 2), (.agg [(.int .i64 0), (.int .i64 0), (.int .i64 0)])])
def m1 : Mem := [(some (LObj.cells false [(.str [119, 97, 108, 108, 32, 115, 111, 117, 116, 104, 58]), (.str [32, 32, 115, 116, 111, 110, 101, 32, 97, 32, 49, 48, 48]), (.str [32, 32, 115, 116, 111, 110, 101, 32, 98, 32, 49, 50, 48]), (.str [110, 111, 116, 101]), (.str [])])), (some (LObj.cells false [(.vec none false []), (.bool true), (.orow 4 5 2), (.int .i64 0)])), none, none, (some (LObj.cells false [(.vec none true [(.agg [(.int .i64 1), (.str [115, 116, 111, 110, 101]), (.int .i64 0), (.int .i64 3)]), (.agg [(.int .i64 1), (.str [97]), (.int .i64 0), (.int .i64 9)]), (.agg [(.int .i64 2), (.str []), (.int .i64 100), (.int .i64 11)])]), (.bool false), (.vec none false []), (.int .i64 2), (.vec none true [(.agg [(.int .i64 1), (.str [115, 116, 111, 110, 101]), (.int .i64 0), (.int .i64 3)]), (.agg [(.int .i64 1), (.str [98]), (.int .i64 0), (.int .i64 9)]), (.agg [(.int .i64 2), (.str []), (.int .i64 120), (.int .i64 11)])]), (.bool false), (.vec none false []), (.int .i64 3)])), (some (LObj.cells false [(.vec none true [(.agg [(.int .i64 1), (.str [119, 97, 108, 108]), (.int .i64 0), (.int .i64 1)]), (.agg [(.int .i64 1), (.str [115, 111, 117, 116, 104]), (.int .i64 0), (.int .i64 6)])]), (.bool true), (.row (.mem 4) 0 2), (.int .i64 1), (.vec none true [(.agg [(.int .i64 1), (.str [110, 111, 116, 101]), (.int .i64 0), (.int .i64 1)])]), (.bool false), (.vec none false []), (.int .i64 4)]))]
def v2 : AV := (.tup [(.vec none false []), (.agg [(.int .i64 2), (.int .i64 2), (.int .i64 3)])])
def m2 : Mem := m1 ++ [(some (LObj.cells false [(.str [110, 111, 116, 101]), (.str [32, 32, 115, 116, 111, 110, 101, 32, 97]), (.str [])])), (some (LObj.cells false [(.vec none false []), (.bool true), (.orow 4 8 1), (.int .i64 0)])), (some (LObj.cells false [(.vec none true [(.agg [(.int .i64 1), (.str [110, 111, 116, 101]), (.int .i64 0), (.int .i64 1)])]), (.bool false), (.vec none false []), (.int .i64 1)]))]
def v3 : AV := (.agg [(.int .i64 4), (.int .i64 9), (.int .i64 2)])
def m3 : Mem := m2 ++ [(some (LObj.cells false [(.int .i64 4), (.int .i64 9), (.int .i64 2)]))]
def v4 : AV := (.int .i64 0)
def m4 : Mem := m3
def v5 : AV := (.bool true)
def m5 : Mem := m4
def v6 : AV := (.bool false)
def m6 : Mem := m5
def l0 : AV := (.agg [(.vec none true [(.agg [(.int .i64 1), (.str [119, 97, 108, 108]), (.int .i64 0), (.int .i64 1)]), (.agg [(.int .i64 1), (.str [115, 111, 117, 116, 104]), (.int .i64 0), (.int .i64 6)])]), (.bool true), (.row (.mem 4) 0 2), (.int .i64 1)])
def ln : AV := (.agg [(.vec none true [(.agg [(.int .i64 1), (.str [115, 116, 111, 110, 101]), (.int .i64 0), (.int .i64 3)]), (.agg [(.int .i64 1), (.str [97]), (.int .i64 0), (.int .i64 9)]), (.agg [(.int .i64 2), (.str []), (.int .i64 100), (.int .i64 11)])]), (.bool false), (.vec none false []), (.int .i64 2)])
def v7 : AV := (.vec none true [(.agg [(.vec none true [(.agg [(.int .i64 1), (.str [110, 111, 116, 101]), (.int .i64 0), (.int .i64 1)])]), (.bool false), (.vec none false []), (.int .i64 4)])])
def m7 : Mem := m6
def v8 : AV := (.agg [(.int .i64 2), (.int .i64 4), (.int .i64 1)])
def m8 : Mem := m7
def v9 : AV := (.agg [(.int .i64 0), (.int .i64 0), (.int .i64 0)])
def m9 : Mem := m8 ++ [(some (LObj.cells false [(.str [115, 116, 111, 110, 101]), (.str [78, 65, 77, 69]), (.str [78, 85, 77, 66, 69, 82])])), (some (LObj.mp [((.str [87, 79, 82, 68]), (.int .i64 1)), ((.str [78, 65, 77, 69]), (.int .i64 1)), ((.str [78, 85, 77, 66, 69, 82]), (.int .i64 2)), ((.str [84, 69, 88, 84]), (.int .i64 3))])), (some (LObj.mp [((.str [87, 79, 82, 68]), (.int .i64 1)), ((.str [78, 65, 77, 69]), (.int .i64 1)), ((.str [78, 85, 77, 66, 69, 82]), (.int .i64 2)), ((.str [84, 69, 88, 84]), (.int .i64 3))])), (some (LObj.mp [((.str [87, 79, 82, 68]), (.int .i64 1)), ((.str [78, 65, 77, 69]), (.int .i64 1)), ((.str [78, 85, 77, 66, 69, 82]), (.int .i64 2)), ((.str [84, 69, 88, 84]), (.int .i64 3))]))]
def v10 : AV := (.agg [(.int .i64 2), (.int .i64 2), (.int .i64 11)])
def m10 : Mem := m9 ++ [(some (LObj.cells false [(.str [115, 116, 111, 110, 101]), (.str [78, 65, 77, 69])])), (some (LObj.mp [((.str [87, 79, 82, 68]), (.int .i64 1)), ((.str [78, 65, 77, 69]), (.int .i64 1)), ((.str [78, 85, 77, 66, 69, 82]), (.int .i64 2)), ((.str [84, 69, 88, 84]), (.int .i64 3))])), (some (LObj.mp [((.str [87, 79, 82, 68]), (.int .i64 1)), ((.str [78, 65, 77, 69]), (.int .i64 1)), ((.str [78, 85, 77, 66, 69, 82]), (.int .i64 2)), ((.str [84, 69, 88, 84]), (.int .i64 3))]))]
def isOk : Par → Bool | .ok _ => true | _ => false
theorem fin1 : finM src1 [] = m1 := by kernel_rfl
theorem ok1 : isOk (parR src1) = true := by kernel_rfl
theorem fin2 : finM src2 m1 = m2 := by kernel_rfl
theorem par2 : parR src2 = .fault 2 2 3 := by kernel_rfl
theorem h1 : callL T10 10 [.str src1] [] = some (v1, m1) := by
  obtain ⟨v, m', h, rfl, -, -, hp⟩ := q10 src1 []
  rw [fin1] at h hp
  have ho := ok1
  cases hr : parR src1 with
  | fault e l c => rw [hr] at ho; cases ho
  | ok acc =>
    rw [hr] at hp
    obtain ⟨kv, rfl, -, cs, x, h1, h2, rfl⟩ := hp
    have h3 : m1[1]? = some (some (LObj.cells false [(.vec none false []), (.bool true), (.orow 4 5 2), (.int .i64 0)])) := rfl
    rw [show ([] : Mem).length + 1 = 1 from rfl, h3] at h1
    cases h1
    cases h2
    exact h
theorem h2 : callL T10 10 [.str src2] m1 = some (v2, m2) := by
  obtain ⟨v, m', h, rfl, -, -, hp⟩ := q10 src2 m1
  rw [par2] at hp
  subst hp
  rw [fin2] at h
  exact h
theorem h3 : callL T10 23 [kv] m2 = some (v3, m3) := callL_of (k := 400) (by kernel_rfl)
theorem h4 : callL T10 24 [kv] m3 = some (v4, m4) := callL_of (k := 400) (by kernel_rfl)
theorem h5 : callL T10 27 [kv, kv] m4 = some (v5, m5) := callL_of (k := 400) (by kernel_rfl)
theorem h6 : callL T10 27 [kv, .vec none false []] m5 = some (v6, m6) := callL_of (k := 400) (by kernel_rfl)
theorem h7 : callL T10 16 [kv, .str [110, 111, 116, 101]] m6 = some (v7, m7) := callL_of (k := 400) (by kernel_rfl)
theorem h8 : callL T10 18 [kv, .vec none true [.str [119, 97, 108, 108]]] m7 = some (v8, m8) := callL_of (k := 400) (by kernel_rfl)
theorem h9 : callL T10 29 [ln, .vec none true [.str [115, 116, 111, 110, 101], .str [78, 65, 77, 69], .str [78, 85, 77, 66, 69, 82]]] m8 = some (v9, m9) := callL_of (k := 400) (by kernel_rfl)
theorem h10 : callL T10 29 [ln, .vec none true [.str [115, 116, 111, 110, 101], .str [78, 65, 77, 69]]] m9 = some (v10, m10) := callL_of (k := 400) (by kernel_rfl)
theorem h11 : callL T10 14 [ln] [] = some (.str [115, 116, 111, 110, 101], []) := callL_of (k := 400) (by kernel_rfl)
theorem h12 : callL T10 30 [AV.int IntKind.i64 6, ln, AV.int IntKind.i64 2] [] = some (.agg [AV.int IntKind.i64 6, AV.int IntKind.i64 2, AV.int IntKind.i64 11], []) := callL_of (k := 400) (by kernel_rfl)
end Go.Vm.Ch10.Aw
