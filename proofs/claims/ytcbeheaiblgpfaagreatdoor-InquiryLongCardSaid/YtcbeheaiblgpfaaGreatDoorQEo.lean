/- The law InquiryLong: part Eo. -/
import Derived.Test.YtcbeheaiblgpfaaGreatDoorQEk
set_option linter.unusedVariables false
set_option linter.unusedSimpArgs false
noncomputable section
namespace Go.Ev
noncomputable section
abbrev zi (n : Nat) : V := .int .i64 (.ofNat n)
abbrev zu (n : Nat) : V := .int .u8 (.ofNat n)
abbrev zs0 : V := .str [115, 101, 97, 32, 50, 32, 49, 10, 104, 101, 105, 103, 104, 116, 115, 32, 48, 32, 48, 10, 116, 105, 100, 101, 32, 48, 32, 48, 10, 108, 111, 115, 115, 32, 49, 32, 48, 32, 48, 32, 49, 32, 49, 32, 48, 32, 48, 10]
abbrev zs1 : V := .str [112, 97, 112, 101, 114, 32, 112, 97, 99, 107, 97, 103, 101, 32, 49, 32, 49, 32, 48, 32, 97, 98, 32, 111, 105, 108, 32, 52, 48, 32, 54, 48, 32, 50, 32, 55]
abbrev zs2 : V := .str [112, 97, 112, 101, 114, 32, 112, 97, 99, 107, 97, 103, 101, 32, 49, 32, 50, 32, 48, 32, 99, 100, 32, 111, 105, 108, 32, 53, 32, 57, 32, 49, 32, 56]
abbrev zs3 : V := .str [114, 97, 116, 101, 32, 114, 97, 116, 101, 32, 48, 32, 97, 108, 108, 32, 49, 32, 53, 32, 48, 32, 48]
abbrev zs4 : V := .str [115, 97, 108, 101, 32, 50, 48, 32, 115, 97, 108, 101, 32, 54, 48, 32, 49, 48, 48, 32, 48, 32, 48, 32, 48]
abbrev zs5 : V := .str [114, 101, 112, 111, 114, 116, 32, 51, 32, 102, 111, 117, 110, 100, 32, 49, 32, 97, 63, 32, 111, 105, 108, 32, 49, 48, 32, 50, 48, 32, 52]
abbrev zs6 : V := .str [114, 101, 112, 111, 114, 116, 32, 53, 32, 102, 111, 117, 110, 100, 32, 48, 32, 63, 63, 32, 111, 105, 108, 32, 51, 48, 32, 51, 48, 32, 53]
abbrev zs7 : V := .str [97, 98]
abbrev zs8 : V := .str [111, 105, 108]
abbrev zs9 : V := .str [97, 63]
abbrev qA : V := .str [99, 100]
abbrev yn : V := .str [63, 63]
abbrev zs12 : V := .str [97, 116, 32, 50, 48, 32, 97, 115, 115, 105, 103, 110, 32, 61, 32, 49, 32, 124, 32, 48, 32, 48]
abbrev zs13 : V := .str [32, 61, 32]
abbrev zs14 : V := .str [97, 116, 32, 50, 48, 32, 115, 117, 114, 101, 32, 54, 48, 32, 50, 48, 32, 61, 32, 49, 32, 55, 32, 49, 32, 50, 32, 124, 32, 48, 32, 48, 32, 124, 32, 49, 32, 48, 32, 48]
abbrev hp : Option Ob := some (.cells [.int .u64 (.ofNat 1), .int .u64 (.ofNat 10), .int .u64 (.ofNat 100), .int .u64 (.ofNat 1000), .int .u64 (.ofNat 10000), .int .u64 (.ofNat 100000), .int .u64 (.ofNat 1000000), .int .u64 (.ofNat 10000000), .int .u64 (.ofNat 100000000), .int .u64 (.ofNat 1000000000), .int .u64 (.ofNat 10000000000), .int .u64 (.ofNat 100000000000), .int .u64 (.ofNat 1000000000000), .int .u64 (.ofNat 10000000000000), .int .u64 (.ofNat 100000000000000), .int .u64 (.ofNat 1000000000000000), .int .u64 (.ofNat 10000000000000000), .int .u64 (.ofNat 100000000000000000), .int .u64 (.ofNat 1000000000000000000), .int .u64 (.ofNat 10000000000000000000)] 744 false true 0 0 false)
def e0 : Ent := ⟨81, [.agg [zi 2, zi 1, .sl 8 0 2 .none, .sl 9 0 1 .none]],
 [.none, .none, .none, hp, .none, .none, .none, .none, some (.cells [zi 0, zi 0] 3 true true 0 0 false), some (.cells [zi 0, zi 0] 194 true true 0 0 false)],
 zi 0, []⟩
def e1 : Ent := ⟨85, [.agg [zi 2, zi 1, .sl 8 0 2 .none, .sl 9 0 1 .none], .agg [zi 1, zi 0, zi 0, zi 1, zi 1, zi 0, zi 0]],
 [.none, .none, .none, hp, .none, .none, .none, .none, some (.cells [zi 0, zi 0] 3 true true 0 0 false), some (.cells [zi 0, zi 0] 194 true true 0 0 false)],
 zi 0, []⟩
def e2 : Ent := ⟨9, [zs0],
 [.none, .none, .none, hp, .none, .none, .none, .none],
 .tup [.agg [zi 2, zi 1, .sl 8 0 2 .none, .sl 9 0 1 .none, .sl 10 0 1 .none, .nilsl], .agg [zi 0, zi 0]], [.cells [zi 0, zi 0] 3 true false 0 0 false, .cells [zi 0, zi 0] 194 true false 0 0 false, .cells [zi 1, zi 0, zi 0, zi 1, zi 1, zi 0, zi 0] 132 true false 0 0 false]⟩
def e3 : Ent := ⟨88, [zi 2, .sl 8 0 6 (.some 6)],
 [.none, .none, .none, hp, .none, .none, .none, .none, some (.cells [zi 0, zi 1, zi 0, zs1, zi 0, zi 2, zi 0, zs2, zi 0, zi 3, zi 10, zs3, zi 0, zi 4, zi 20, zs4, zi 1, zi 1, zi 5, zs5, zi 1, zi 2, zi 6, zs6] 126 false true 0 0 false)],
 .tup [.sl 9 0 6 .none, zi 0], [.cells [zi 0, zi 1, zi 0, zs1, zi 0, zi 2, zi 0, zs2, zi 1, zi 1, zi 5, zs5, zi 1, zi 2, zi 6, zs6, zi 0, zi 3, zi 10, zs3, zi 0, zi 4, zi 20, zs4] 126 true false 0 0 false]⟩
def e4 : Ent := ⟨120, [.nilsl],
 [.none, .none, .none, hp, .none, .none, .none, .none],
 .tup [zi 0, zi 0], []⟩
def e5 : Ent := ⟨120, [.sl 8 0 1 .none],
 [.none, .none, .none, hp, .none, .none, .none, .none, some (.cells [zi 5, zi 0, zu 1, zi 1, zi 1, zi 0, zs7, zs8, zi 40, zi 60, zi 2, zi 7, zi 0, zi 0] 203 true true 0 0 false)],
 .tup [zi 0, zi 0], []⟩
def e6 : Ent := ⟨124, [.nilsl],
 [.none, .none, .none, hp, .none, .none, .none, .none],
 .tup [zi 0, zi 0], []⟩
def e7 : Ent := ⟨124, [.sl 8 0 1 .none],
 [.none, .none, .none, hp, .none, .none, .none, .none, some (.cells [zi 6, zi 5, zi 3, zu 1, zi 0, zi 0, .nilsl, zi 1, zs9, zs8, zi 10, zi 20, zi 4, zi 0, zi 0] 200 true true 0 0 false)],
 .tup [zi 0, zi 0], []⟩
def e8 : Ent := ⟨10, [.agg [zi 2, zi 1, .sl 8 0 2 .none, .sl 9 0 1 .none, .sl 10 0 1 .none, .nilsl], zi 2, .sl 11 0 6 (.some 6)],
 [.none, .none, .none, hp, .none, .none, .none, .none, some (.cells [zi 0, zi 0] 3 true true 0 0 false), some (.cells [zi 0, zi 0] 194 true true 0 0 false), some (.cells [zi 1, zi 0, zi 0, zi 1, zi 1, zi 0, zi 0] 132 true true 0 0 false), some (.cells [zi 0, zi 1, zi 0, zs1, zi 0, zi 2, zi 0, zs2, zi 0, zi 3, zi 10, zs3, zi 0, zi 4, zi 20, zs4, zi 1, zi 1, zi 5, zs5, zi 1, zi 2, zi 6, zs6] 126 false true 0 0 false)],
 .tup [.agg [zi 2, zi 1, .sl 12 0 2 .none, .sl 13 0 1 .none, .sl 14 0 1 .none, .nilsl, .sl 15 0 2 .none, .nilsl, .sl 16 0 2 .none, .nilsl, .sl 17 0 1 .none, .sl 18 0 1 .none, .nilsl], .sl 19 0 6 .none, zi 0], [.cells [zi 0, zi 0] 3 true false 0 0 false, .cells [zi 0, zi 0] 194 true false 0 0 false, .cells [zi 1, zi 0, zi 0, zi 1, zi 1, zi 0, zi 0] 132 true false 0 0 false, .cells [zi 5, zi 0, zu 1, zi 1, zi 1, zi 0, zs7, zs8, zi 40, zi 60, zi 2, zi 7, zi 0, zi 0, zi 10, zi 0, zu 1, zi 1, zi 2, zi 0, qA, zs8, zi 5, zi 9, zi 1, zi 8, zi 0, zi 0] 203 true false 0 0 false, .cells [zi 6, zi 5, zi 3, zu 1, zi 0, zi 0, .nilsl, zi 1, zs9, zs8, zi 10, zi 20, zi 4, zi 0, zi 0, zi 11, zi 6, zi 5, zu 1, zi 0, zi 0, .nilsl, zi 0, yn, zs8, zi 30, zi 30, zi 5, zi 0, zi 0] 200 true false 0 0 false, .cells [zi 15, zi 10, zi 0, .str [], zi 1, zi 5, zi 0, zi 0, zi 0] 212 true false 0 0 false, .cells [zi 20, zi 20, zi 20, zi 60, zi 100, zi 0, zi 0, zi 0, zi 0] 215 true false 0 0 false, .cells [zi 0, zi 0, zi 0, zi 0, zi 0, zi 0] 27 true false 0 0 false]⟩
def e9 : Ent := ⟨12, [.agg [zi 2, zi 1, .sl 8 0 2 .none, .sl 9 0 1 .none, .sl 10 0 1 .none, .nilsl]],
 [.none, .none, .none, hp, .none, .none, .none, .none, some (.cells [zi 0, zi 0] 3 true true 0 0 false), some (.cells [zi 0, zi 0] 194 true true 0 0 false), some (.cells [zi 1, zi 0, zi 0, zi 1, zi 1, zi 0, zi 0] 132 true true 0 0 false)],
 zs0, []⟩
def e10 : Ent := ⟨120, [.sl 8 0 2 .none],
 [.none, .none, .none, hp, .none, .none, .none, .none, some (.cells [zi 5, zi 0, zu 1, zi 1, zi 1, zi 0, zs7, zs8, zi 40, zi 60, zi 2, zi 7, zi 0, zi 0, zi 10, zi 0, zu 1, zi 1, zi 2, zi 0, qA, zs8, zi 5, zi 9, zi 1, zi 8, zi 0, zi 0] 203 true true 0 0 false)],
 .tup [zi 0, zi 0], []⟩
def e11 : Ent := ⟨122, [.nilsl],
 [.none, .none, .none, hp, .none, .none, .none, .none],
 .tup [zi 0, zi 0], []⟩
def e12 : Ent := ⟨124, [.sl 8 0 2 .none],
 [.none, .none, .none, hp, .none, .none, .none, .none, some (.cells [zi 6, zi 5, zi 3, zu 1, zi 0, zi 0, .nilsl, zi 1, zs9, zs8, zi 10, zi 20, zi 4, zi 0, zi 0, zi 11, zi 6, zi 5, zu 1, zi 0, zi 0, .nilsl, zi 0, yn, zs8, zi 30, zi 30, zi 5, zi 0, zi 0] 200 true true 0 0 false)],
 .tup [zi 0, zi 0], []⟩
def e13 : Ent := ⟨126, [.nilsl],
 [.none, .none, .none, hp, .none, .none, .none, .none],
 .tup [zi 0, zi 0], []⟩
def e14 : Ent := ⟨63, [.agg [zi 2, zi 1, .sl 8 0 2 .none, .sl 9 0 1 .none, .sl 10 0 1 .none, .nilsl, .sl 11 0 2 .none, .nilsl, .sl 12 0 2 .none, .nilsl, .sl 13 0 1 .none, .sl 14 0 1 .none, .nilsl]],
 [.none, .none, .none, hp, .none, .none, .none, .none, some (.cells [zi 0, zi 0] 3 true true 0 0 false), some (.cells [zi 0, zi 0] 194 true true 0 0 false), some (.cells [zi 1, zi 0, zi 0, zi 1, zi 1, zi 0, zi 0] 132 true true 0 0 false), some (.cells [zi 5, zi 0, zu 1, zi 1, zi 1, zi 0, zs7, zs8, zi 40, zi 60, zi 2, zi 7, zi 0, zi 0, zi 10, zi 0, zu 1, zi 1, zi 2, zi 0, qA, zs8, zi 5, zi 9, zi 1, zi 8, zi 0, zi 0] 203 true true 0 0 false), some (.cells [zi 6, zi 5, zi 3, zu 1, zi 0, zi 0, .nilsl, zi 1, zs9, zs8, zi 10, zi 20, zi 4, zi 0, zi 0, zi 11, zi 6, zi 5, zu 1, zi 0, zi 0, .nilsl, zi 0, yn, zs8, zi 30, zi 30, zi 5, zi 0, zi 0] 200 true true 0 0 false), some (.cells [zi 15, zi 10, zi 0, .str [], zi 1, zi 5, zi 0, zi 0, zi 0] 212 true true 0 0 false), some (.cells [zi 20, zi 20, zi 20, zi 60, zi 100, zi 0, zi 0, zi 0, zi 0] 215 true true 0 0 false)],
 zi 0, []⟩
def e15 : Ent := ⟨598, [.sl 8 0 2 .none, zi 6, zi 1],
 [.none, .none, .none, hp, .none, .none, .none, .none, some (.cells [zi 5, zi 0, zu 1, zi 1, zi 1, zi 0, zs7, zs8, zi 40, zi 60, zi 2, zi 7, zi 0, zi 0, zi 10, zi 0, zu 1, zi 1, zi 2, zi 0, qA, zs8, zi 5, zi 9, zi 1, zi 8, zi 0, zi 0] 203 true true 0 0 false)],
 .agg [.sl 9 0 2 .none, .nilsl], [.cells [zi 5, zi 0, zu 1, zi 1, zi 1, zi 0, zs7, zs8, zi 40, zi 60, zi 2, zi 7, zi 0, zi 0, zi 10, zi 0, zu 1, zi 1, zi 2, zi 0, qA, zs8, zi 5, zi 9, zi 1, zi 8, zi 0, zi 0] 203 true false 0 0 false]⟩
def e16 : Ent := ⟨178, [.sl 8 0 2 .none, zi 6, .nilsl],
 [.none, .none, .none, hp, .none, .none, .none, .none, some (.cells [zi 6, zi 5, zi 3, zu 1, zi 0, zi 0, .nilsl, zi 1, zs9, zs8, zi 10, zi 20, zi 4, zi 0, zi 0, zi 11, zi 6, zi 5, zu 1, zi 0, zi 0, .nilsl, zi 0, yn, zs8, zi 30, zi 30, zi 5, zi 0, zi 0] 200 true true 0 0 false)],
 .tup [.ptr 9 0, zi 0], [.cells [.ptr 10 0, .sl 11 0 2 .none, .map 12] 309 false false 0 0 false, .cells [.sl 13 0 2 .none, .map 14, .map 15, .map 16] 420 false false 0 0 false, .cells [zi 60, zi 110] 3 true false 0 0 false, .map [(zi 60, .agg [zi 60, zi 6, zi 0, zs9, zs8, zi 10, zi 20, zi 4, zi 1, zi 3, .bool true, .bool false], 0), (zi 110, .agg [zi 110, zi 11, zi 0, yn, zs8, zi 30, zi 30, zi 5, zi 0, zi 5, .bool true, .bool false], 1)] 2 false, .cells [zi 6, zi 5, zi 3, zu 1, zi 0, zi 0, .nilsl, zi 1, zs9, zs8, zi 10, zi 20, zi 4, zi 0, zi 0, zi 11, zi 6, zi 5, zu 1, zi 0, zi 0, .nilsl, zi 0, yn, zs8, zi 30, zi 30, zi 5, zi 0, zi 0] 200 true false 0 0 false, .map [(zi 60, .agg [zi 6, zi 5, zi 3, zu 1, zi 0, zi 0, .nilsl, zi 1, zs9, zs8, zi 10, zi 20, zi 4, zi 0, zi 0], 0), (zi 110, .agg [zi 11, zi 6, zi 5, zu 1, zi 0, zi 0, .nilsl, zi 0, yn, zs8, zi 30, zi 30, zi 5, zi 0, zi 0], 1)] 2 false, .map [] 0 false, .map [] 0 false]⟩
def e17 : Ent := ⟨345, [.sl 8 0 2 .none, zi 6],
 [.none, .none, .none, hp, .none, .none, .none, .none, some (.cells [zi 6, zi 5, zi 3, zu 1, zi 0, zi 0, .nilsl, zi 1, zs9, zs8, zi 10, zi 20, zi 4, zi 0, zi 0, zi 11, zi 6, zi 5, zu 1, zi 0, zi 0, .nilsl, zi 0, yn, zs8, zi 30, zi 30, zi 5, zi 0, zi 0] 200 true true 0 0 false)],
 .tup [.sl 9 0 2 .none, zi 0], [.cells [zi 60, zi 6, zi 0, zs9, zs8, zi 10, zi 20, zi 4, zi 1, zi 3, .bool true, .bool false, zi 110, zi 11, zi 0, yn, zs8, zi 30, zi 30, zi 5, zi 0, zi 5, .bool true, .bool false] 232 true false 0 0 false]⟩
def e18 : Ent := ⟨178, [.sl 8 0 2 .none, zi 6, .sl 9 0 1 (.some 1)],
 [.none, .none, .none, hp, .none, .none, .none, .none, some (.cells [zi 6, zi 5, zi 3, zu 1, zi 0, zi 0, .nilsl, zi 1, zs9, zs8, zi 10, zi 20, zi 4, zi 0, zi 0, zi 11, zi 6, zi 5, zu 1, zi 0, zi 0, .nilsl, zi 0, yn, zs8, zi 30, zi 30, zi 5, zi 0, zi 0] 200 true true 0 0 false), some (.cells [zi 60] 3 false true 0 0 false)],
 .tup [.ptr 10 0, zi 0], [.cells [.ptr 11 0, .sl 12 0 2 .none, .map 13] 309 false false 0 0 false, .cells [.sl 14 0 2 .none, .map 15, .map 16, .map 17] 420 false false 0 0 false, .cells [zi 60, zi 110] 3 true false 0 0 false, .map [(zi 60, .agg [zi 60, zi 6, zi 0, zs9, zs8, zi 10, zi 20, zi 4, zi 1, zi 3, .bool true, .bool false], 0), (zi 110, .agg [zi 110, zi 11, zi 0, yn, zs8, zi 30, zi 30, zi 5, zi 0, zi 5, .bool true, .bool false], 1)] 2 false, .cells [zi 6, zi 5, zi 3, zu 1, zi 0, zi 0, .nilsl, zi 1, zs9, zs8, zi 10, zi 20, zi 4, zi 0, zi 0, zi 11, zi 6, zi 5, zu 1, zi 0, zi 0, .nilsl, zi 0, yn, zs8, zi 30, zi 30, zi 5, zi 0, zi 0] 200 true false 0 0 false, .map [(zi 60, .agg [zi 6, zi 5, zi 3, zu 1, zi 0, zi 0, .nilsl, zi 1, zs9, zs8, zi 10, zi 20, zi 4, zi 0, zi 0], 0), (zi 110, .agg [zi 11, zi 6, zi 5, zu 1, zi 0, zi 0, .nilsl, zi 0, yn, zs8, zi 30, zi 30, zi 5, zi 0, zi 0], 1)] 2 false, .map [] 0 false, .map [] 0 false]⟩
def e19 : Ent := ⟨178, [.sl 8 0 2 .none, zi 6, .sl 9 0 1 (.some 1)],
 [.none, .none, .none, hp, .none, .none, .none, .none, some (.cells [zi 6, zi 5, zi 3, zu 1, zi 0, zi 0, .nilsl, zi 1, zs9, zs8, zi 10, zi 20, zi 4, zi 0, zi 0, zi 11, zi 6, zi 5, zu 1, zi 0, zi 0, .nilsl, zi 0, yn, zs8, zi 30, zi 30, zi 5, zi 0, zi 0] 200 true true 0 0 false), some (.cells [zi 110] 3 false true 0 0 false)],
 .tup [.ptr 10 0, zi 0], [.cells [.ptr 11 0, .sl 12 0 2 .none, .map 13] 309 false false 0 0 false, .cells [.sl 14 0 2 .none, .map 15, .map 16, .map 17] 420 false false 0 0 false, .cells [zi 60, zi 110] 3 true false 0 0 false, .map [(zi 60, .agg [zi 60, zi 6, zi 0, zs9, zs8, zi 10, zi 20, zi 4, zi 1, zi 3, .bool true, .bool false], 0), (zi 110, .agg [zi 110, zi 11, zi 0, yn, zs8, zi 30, zi 30, zi 5, zi 0, zi 5, .bool true, .bool false], 1)] 2 false, .cells [zi 6, zi 5, zi 3, zu 1, zi 0, zi 0, .nilsl, zi 1, zs9, zs8, zi 10, zi 20, zi 4, zi 0, zi 0, zi 11, zi 6, zi 5, zu 1, zi 0, zi 0, .nilsl, zi 0, yn, zs8, zi 30, zi 30, zi 5, zi 0, zi 0] 200 true false 0 0 false, .map [(zi 60, .agg [zi 6, zi 5, zi 3, zu 1, zi 0, zi 0, .nilsl, zi 1, zs9, zs8, zi 10, zi 20, zi 4, zi 0, zi 0], 0), (zi 110, .agg [zi 11, zi 6, zi 5, zu 1, zi 0, zi 0, .nilsl, zi 0, yn, zs8, zi 30, zi 30, zi 5, zi 0, zi 0], 1)] 2 false, .map [] 0 false, .map [] 0 false]⟩
def e20 : Ent := ⟨673, [.agg [zi 2, zi 1, .sl 8 0 2 .none, .sl 9 0 1 .none], .nilsl, zi 6, .agg [zi 1, zi 0, zi 0, zi 1, zi 1, zi 0, zi 0], zu 1, zi 3],
 [.none, .none, .none, hp, .none, .none, .none, .none, some (.cells [zi 0, zi 0] 3 true true 0 0 false), some (.cells [zi 0, zi 0] 194 true true 0 0 false)],
 .tup [.sl 10 0 2 .none, zi 0], [.cells [zi 0, zi 1] 3 true false 0 0 false]⟩
def e21 : Ent := ⟨673, [.agg [zi 2, zi 1, .sl 8 0 2 .none, .sl 9 0 1 .none], .nilsl, zi 6, .agg [zi 1, zi 0, zi 0, zi 1, zi 1, zi 0, zi 0], zu 1, zi 5],
 [.none, .none, .none, hp, .none, .none, .none, .none, some (.cells [zi 0, zi 0] 3 true true 0 0 false), some (.cells [zi 0, zi 0] 194 true true 0 0 false)],
 .tup [.sl 10 0 2 .none, zi 0], [.cells [zi 0, zi 1] 3 true false 0 0 false]⟩
def e22 : Ent := ⟨176, [.agg [zi 2, zi 1, .sl 8 0 2 .none, .sl 9 0 1 .none, .sl 10 0 1 .none, .nilsl], .nilsl, .sl 11 0 2 .none, .sl 12 0 2 .none, zi 6],
 [.none, .none, .none, hp, .none, .none, .none, .none, some (.cells [zi 0, zi 0] 3 true true 0 0 false), some (.cells [zi 0, zi 0] 194 true true 0 0 false), some (.cells [zi 1, zi 0, zi 0, zi 1, zi 1, zi 0, zi 0] 132 true true 0 0 false), some (.cells [zi 5, zi 0, zu 1, zi 1, zi 1, zi 0, zs7, zs8, zi 40, zi 60, zi 2, zi 7, zi 0, zi 0, zi 10, zi 0, zu 1, zi 1, zi 2, zi 0, qA, zs8, zi 5, zi 9, zi 1, zi 8, zi 0, zi 0] 203 true true 0 0 false), some (.cells [zi 6, zi 5, zi 3, zu 1, zi 0, zi 0, .nilsl, zi 1, zs9, zs8, zi 10, zi 20, zi 4, zi 0, zi 0, zi 11, zi 6, zi 5, zu 1, zi 0, zi 0, .nilsl, zi 0, yn, zs8, zi 30, zi 30, zi 5, zi 0, zi 0] 200 true true 0 0 false)],
 .tup [.agg [.sl 13 0 2 .none, .sl 14 0 2 .none, .sl 15 0 2 .none], zi 0], [.cells [zi 60, zi 110] 3 true false 0 0 false, .cells [zi 1, zi 1, zi 2, zi 1, zi 2, zi 1] 228 true false 0 0 false, .cells [.sl 16 0 1 .none, .sl 17 0 1 .none] 23 true false 0 0 false, .cells [zi 0] 3 true false 0 0 false, .cells [zi 0] 3 true false 0 0 false]⟩
def e23 : Ent := ⟨13, [.agg [zi 2, zi 1, .sl 8 0 2 .none, .sl 9 0 1 .none, .sl 10 0 1 .none, .nilsl, .sl 11 0 2 .none, .nilsl, .sl 12 0 2 .none, .nilsl, .sl 13 0 1 .none, .sl 14 0 1 .none, .nilsl], zi 6],
 [.none, .none, .none, hp, .none, .none, .none, .none, some (.cells [zi 0, zi 0] 3 true true 0 0 false), some (.cells [zi 0, zi 0] 194 true true 0 0 false), some (.cells [zi 1, zi 0, zi 0, zi 1, zi 1, zi 0, zi 0] 132 true true 0 0 false), some (.cells [zi 5, zi 0, zu 1, zi 1, zi 1, zi 0, zs7, zs8, zi 40, zi 60, zi 2, zi 7, zi 0, zi 0, zi 10, zi 0, zu 1, zi 1, zi 2, zi 0, qA, zs8, zi 5, zi 9, zi 1, zi 8, zi 0, zi 0] 203 true true 0 0 false), some (.cells [zi 6, zi 5, zi 3, zu 1, zi 0, zi 0, .nilsl, zi 1, zs9, zs8, zi 10, zi 20, zi 4, zi 0, zi 0, zi 11, zi 6, zi 5, zu 1, zi 0, zi 0, .nilsl, zi 0, yn, zs8, zi 30, zi 30, zi 5, zi 0, zi 0] 200 true true 0 0 false), some (.cells [zi 15, zi 10, zi 0, .str [], zi 1, zi 5, zi 0, zi 0, zi 0] 212 true true 0 0 false), some (.cells [zi 20, zi 20, zi 20, zi 60, zi 100, zi 0, zi 0, zi 0, zi 0] 215 true true 0 0 false)],
 .tup [.agg [.sl 15 0 2 .none, .sl 16 0 2 .none, .sl 17 0 2 .none], zi 0], [.cells [zi 60, zi 110] 3 true false 0 0 false, .cells [zi 1, zi 1, zi 2, zi 1, zi 2, zi 1] 228 true false 0 0 false, .cells [.sl 18 0 1 .none, .sl 19 0 1 .none] 23 true false 0 0 false, .cells [zi 0] 3 true false 0 0 false, .cells [zi 0] 3 true false 0 0 false]⟩
def e24 : Ent := ⟨14, [.agg [zi 2, zi 1, .sl 8 0 2 .none, .sl 9 0 1 .none, .sl 10 0 1 .none, .nilsl, .sl 11 0 2 .none, .nilsl, .sl 12 0 2 .none, .nilsl, .sl 13 0 1 .none, .sl 14 0 1 .none, .nilsl], zi 6, zi 1, zi 1],
 [.none, .none, .none, hp, .none, .none, .none, .none, some (.cells [zi 0, zi 0] 3 true true 0 0 false), some (.cells [zi 0, zi 0] 194 true true 0 0 false), some (.cells [zi 1, zi 0, zi 0, zi 1, zi 1, zi 0, zi 0] 132 true true 0 0 false), some (.cells [zi 5, zi 0, zu 1, zi 1, zi 1, zi 0, zs7, zs8, zi 40, zi 60, zi 2, zi 7, zi 0, zi 0, zi 10, zi 0, zu 1, zi 1, zi 2, zi 0, qA, zs8, zi 5, zi 9, zi 1, zi 8, zi 0, zi 0] 203 true true 0 0 false), some (.cells [zi 6, zi 5, zi 3, zu 1, zi 0, zi 0, .nilsl, zi 1, zs9, zs8, zi 10, zi 20, zi 4, zi 0, zi 0, zi 11, zi 6, zi 5, zu 1, zi 0, zi 0, .nilsl, zi 0, yn, zs8, zi 30, zi 30, zi 5, zi 0, zi 0] 200 true true 0 0 false), some (.cells [zi 15, zi 10, zi 0, .str [], zi 1, zi 5, zi 0, zi 0, zi 0] 212 true true 0 0 false), some (.cells [zi 20, zi 20, zi 20, zi 60, zi 100, zi 0, zi 0, zi 0, zi 0] 215 true true 0 0 false)],
 .tup [zi 8787, zi 0], []⟩
def e25 : Ent := ⟨178, [.sl 8 0 2 .none, zi 20, .sl 9 0 1 (.some 1)],
 [.none, .none, .none, hp, .none, .none, .none, .none, some (.cells [zi 6, zi 5, zi 3, zu 1, zi 0, zi 0, .nilsl, zi 1, zs9, zs8, zi 10, zi 20, zi 4, zi 0, zi 0, zi 11, zi 6, zi 5, zu 1, zi 0, zi 0, .nilsl, zi 0, yn, zs8, zi 30, zi 30, zi 5, zi 0, zi 0] 200 true true 0 0 false), some (.cells [zi 60] 3 false true 0 0 false)],
 .tup [.ptr 10 0, zi 0], [.cells [.ptr 11 0, .sl 12 0 2 .none, .map 13] 309 false false 0 0 false, .cells [.sl 14 0 2 .none, .map 15, .map 16, .map 17] 420 false false 0 0 false, .cells [zi 60, zi 110] 3 true false 0 0 false, .map [(zi 60, .agg [zi 60, zi 6, zi 0, zs9, zs8, zi 10, zi 20, zi 4, zi 1, zi 3, .bool true, .bool false], 0), (zi 110, .agg [zi 110, zi 11, zi 0, yn, zs8, zi 30, zi 30, zi 5, zi 0, zi 5, .bool true, .bool false], 1)] 2 false, .cells [zi 6, zi 5, zi 3, zu 1, zi 0, zi 0, .nilsl, zi 1, zs9, zs8, zi 10, zi 20, zi 4, zi 0, zi 0, zi 11, zi 6, zi 5, zu 1, zi 0, zi 0, .nilsl, zi 0, yn, zs8, zi 30, zi 30, zi 5, zi 0, zi 0] 200 true false 0 0 false, .map [(zi 60, .agg [zi 6, zi 5, zi 3, zu 1, zi 0, zi 0, .nilsl, zi 1, zs9, zs8, zi 10, zi 20, zi 4, zi 0, zi 0], 0), (zi 110, .agg [zi 11, zi 6, zi 5, zu 1, zi 0, zi 0, .nilsl, zi 0, yn, zs8, zi 30, zi 30, zi 5, zi 0, zi 0], 1)] 2 false, .map [] 0 false, .map [] 0 false]⟩
def e26 : Ent := ⟨179, [.sl 8 0 2 .none, zi 20, zi 60],
 [.none, .none, .none, hp, .none, .none, .none, .none, some (.cells [zi 6, zi 5, zi 3, zu 1, zi 0, zi 0, .nilsl, zi 1, zs9, zs8, zi 10, zi 20, zi 4, zi 0, zi 0, zi 11, zi 6, zi 5, zu 1, zi 0, zi 0, .nilsl, zi 0, yn, zs8, zi 30, zi 30, zi 5, zi 0, zi 0] 200 true true 0 0 false)],
 .tup [.sl 9 0 1 .none, zi 0], [.cells [zi 60] 3 true false 0 0 false]⟩
def e27 : Ent := ⟨598, [.sl 8 0 2 .none, zi 20, zi 1],
 [.none, .none, .none, hp, .none, .none, .none, .none, some (.cells [zi 5, zi 0, zu 1, zi 1, zi 1, zi 0, zs7, zs8, zi 40, zi 60, zi 2, zi 7, zi 0, zi 0, zi 10, zi 0, zu 1, zi 1, zi 2, zi 0, qA, zs8, zi 5, zi 9, zi 1, zi 8, zi 0, zi 0] 203 true true 0 0 false)],
 .agg [.sl 9 0 2 .none, .nilsl], [.cells [zi 5, zi 0, zu 1, zi 1, zi 1, zi 0, zs7, zs8, zi 40, zi 60, zi 2, zi 7, zi 0, zi 0, zi 10, zi 0, zu 1, zi 1, zi 2, zi 0, qA, zs8, zi 5, zi 9, zi 1, zi 8, zi 0, zi 0] 203 true false 0 0 false]⟩
def e28 : Ent := ⟨178, [.sl 8 0 2 .none, zi 20, .nilsl],
 [.none, .none, .none, hp, .none, .none, .none, .none, some (.cells [zi 6, zi 5, zi 3, zu 1, zi 0, zi 0, .nilsl, zi 1, zs9, zs8, zi 10, zi 20, zi 4, zi 0, zi 0, zi 11, zi 6, zi 5, zu 1, zi 0, zi 0, .nilsl, zi 0, yn, zs8, zi 30, zi 30, zi 5, zi 0, zi 0] 200 true true 0 0 false)],
 .tup [.ptr 9 0, zi 0], [.cells [.ptr 10 0, .sl 11 0 2 .none, .map 12] 309 false false 0 0 false, .cells [.sl 13 0 2 .none, .map 14, .map 15, .map 16] 420 false false 0 0 false, .cells [zi 60, zi 110] 3 true false 0 0 false, .map [(zi 60, .agg [zi 60, zi 6, zi 0, zs9, zs8, zi 10, zi 20, zi 4, zi 1, zi 3, .bool true, .bool false], 0), (zi 110, .agg [zi 110, zi 11, zi 0, yn, zs8, zi 30, zi 30, zi 5, zi 0, zi 5, .bool true, .bool false], 1)] 2 false, .cells [zi 6, zi 5, zi 3, zu 1, zi 0, zi 0, .nilsl, zi 1, zs9, zs8, zi 10, zi 20, zi 4, zi 0, zi 0, zi 11, zi 6, zi 5, zu 1, zi 0, zi 0, .nilsl, zi 0, yn, zs8, zi 30, zi 30, zi 5, zi 0, zi 0] 200 true false 0 0 false, .map [(zi 60, .agg [zi 6, zi 5, zi 3, zu 1, zi 0, zi 0, .nilsl, zi 1, zs9, zs8, zi 10, zi 20, zi 4, zi 0, zi 0], 0), (zi 110, .agg [zi 11, zi 6, zi 5, zu 1, zi 0, zi 0, .nilsl, zi 0, yn, zs8, zi 30, zi 30, zi 5, zi 0, zi 0], 1)] 2 false, .map [] 0 false, .map [] 0 false]⟩
def e29 : Ent := ⟨345, [.sl 8 0 2 .none, zi 20],
 [.none, .none, .none, hp, .none, .none, .none, .none, some (.cells [zi 6, zi 5, zi 3, zu 1, zi 0, zi 0, .nilsl, zi 1, zs9, zs8, zi 10, zi 20, zi 4, zi 0, zi 0, zi 11, zi 6, zi 5, zu 1, zi 0, zi 0, .nilsl, zi 0, yn, zs8, zi 30, zi 30, zi 5, zi 0, zi 0] 200 true true 0 0 false)],
 .tup [.sl 9 0 2 .none, zi 0], [.cells [zi 60, zi 6, zi 0, zs9, zs8, zi 10, zi 20, zi 4, zi 1, zi 3, .bool true, .bool false, zi 110, zi 11, zi 0, yn, zs8, zi 30, zi 30, zi 5, zi 0, zi 5, .bool true, .bool false] 232 true false 0 0 false]⟩
def e30 : Ent := ⟨178, [.sl 8 0 2 .none, zi 20, .sl 9 0 1 (.some 1)],
 [.none, .none, .none, hp, .none, .none, .none, .none, some (.cells [zi 6, zi 5, zi 3, zu 1, zi 0, zi 0, .nilsl, zi 1, zs9, zs8, zi 10, zi 20, zi 4, zi 0, zi 0, zi 11, zi 6, zi 5, zu 1, zi 0, zi 0, .nilsl, zi 0, yn, zs8, zi 30, zi 30, zi 5, zi 0, zi 0] 200 true true 0 0 false), some (.cells [zi 110] 3 false true 0 0 false)],
 .tup [.ptr 10 0, zi 0], [.cells [.ptr 11 0, .sl 12 0 2 .none, .map 13] 309 false false 0 0 false, .cells [.sl 14 0 2 .none, .map 15, .map 16, .map 17] 420 false false 0 0 false, .cells [zi 60, zi 110] 3 true false 0 0 false, .map [(zi 60, .agg [zi 60, zi 6, zi 0, zs9, zs8, zi 10, zi 20, zi 4, zi 1, zi 3, .bool true, .bool false], 0), (zi 110, .agg [zi 110, zi 11, zi 0, yn, zs8, zi 30, zi 30, zi 5, zi 0, zi 5, .bool true, .bool false], 1)] 2 false, .cells [zi 6, zi 5, zi 3, zu 1, zi 0, zi 0, .nilsl, zi 1, zs9, zs8, zi 10, zi 20, zi 4, zi 0, zi 0, zi 11, zi 6, zi 5, zu 1, zi 0, zi 0, .nilsl, zi 0, yn, zs8, zi 30, zi 30, zi 5, zi 0, zi 0] 200 true false 0 0 false, .map [(zi 60, .agg [zi 6, zi 5, zi 3, zu 1, zi 0, zi 0, .nilsl, zi 1, zs9, zs8, zi 10, zi 20, zi 4, zi 0, zi 0], 0), (zi 110, .agg [zi 11, zi 6, zi 5, zu 1, zi 0, zi 0, .nilsl, zi 0, yn, zs8, zi 30, zi 30, zi 5, zi 0, zi 0], 1)] 2 false, .map [] 0 false, .map [] 0 false]⟩
def e31 : Ent := ⟨673, [.agg [zi 2, zi 1, .sl 8 0 2 .none, .sl 9 0 1 .none], .nilsl, zi 20, .agg [zi 1, zi 0, zi 0, zi 1, zi 1, zi 0, zi 0], zu 1, zi 3],
 [.none, .none, .none, hp, .none, .none, .none, .none, some (.cells [zi 0, zi 0] 3 true true 0 0 false), some (.cells [zi 0, zi 0] 194 true true 0 0 false)],
 .tup [.sl 10 0 2 .none, zi 0], [.cells [zi 0, zi 1] 3 true false 0 0 false]⟩
def e32 : Ent := ⟨673, [.agg [zi 2, zi 1, .sl 8 0 2 .none, .sl 9 0 1 .none], .nilsl, zi 20, .agg [zi 1, zi 0, zi 0, zi 1, zi 1, zi 0, zi 0], zu 1, zi 5],
 [.none, .none, .none, hp, .none, .none, .none, .none, some (.cells [zi 0, zi 0] 3 true true 0 0 false), some (.cells [zi 0, zi 0] 194 true true 0 0 false)],
 .tup [.sl 10 0 2 .none, zi 0], [.cells [zi 0, zi 1] 3 true false 0 0 false]⟩
def e33 : Ent := ⟨176, [.agg [zi 2, zi 1, .sl 8 0 2 .none, .sl 9 0 1 .none, .sl 10 0 1 .none, .nilsl], .nilsl, .sl 11 0 2 .none, .sl 12 0 2 .none, zi 20],
 [.none, .none, .none, hp, .none, .none, .none, .none, some (.cells [zi 0, zi 0] 3 true true 0 0 false), some (.cells [zi 0, zi 0] 194 true true 0 0 false), some (.cells [zi 1, zi 0, zi 0, zi 1, zi 1, zi 0, zi 0] 132 true true 0 0 false), some (.cells [zi 5, zi 0, zu 1, zi 1, zi 1, zi 0, zs7, zs8, zi 40, zi 60, zi 2, zi 7, zi 0, zi 0, zi 10, zi 0, zu 1, zi 1, zi 2, zi 0, qA, zs8, zi 5, zi 9, zi 1, zi 8, zi 0, zi 0] 203 true true 0 0 false), some (.cells [zi 6, zi 5, zi 3, zu 1, zi 0, zi 0, .nilsl, zi 1, zs9, zs8, zi 10, zi 20, zi 4, zi 0, zi 0, zi 11, zi 6, zi 5, zu 1, zi 0, zi 0, .nilsl, zi 0, yn, zs8, zi 30, zi 30, zi 5, zi 0, zi 0] 200 true true 0 0 false)],
 .tup [.agg [.sl 13 0 2 .none, .sl 14 0 2 .none, .sl 15 0 2 .none], zi 0], [.cells [zi 60, zi 110] 3 true false 0 0 false, .cells [zi 1, zi 1, zi 2, zi 1, zi 2, zi 1] 228 true false 0 0 false, .cells [.sl 16 0 1 .none, .sl 17 0 1 .none] 23 true false 0 0 false, .cells [zi 0] 3 true false 0 0 false, .cells [zi 0] 3 true false 0 0 false]⟩
def e34 : Ent := ⟨280, [.nilsl, zi 1, zi 1, zi 7, zi 20, zi 8788, zi 8787],
 [.none, .none, .none, hp, .none, .none, .none, .none],
 .tup [.sl 8 0 1 .none, zi 0], [.cells [zi 0, zi 1, zi 1] 84 true false 0 0 false]⟩
def e35 : Ent := ⟨281, [.agg [.sl 8 0 2 .none, .sl 9 0 2 .none, .sl 10 0 2 .none]],
 [.none, .none, .none, hp, .none, .none, .none, .none, some (.cells [zi 60, zi 110] 3 true true 0 0 false), some (.cells [zi 1, zi 1, zi 2, zi 1, zi 2, zi 1] 228 true true 0 0 false), some (.cells [.sl 11 0 1 .none, .sl 12 0 1 .none] 23 true true 0 0 false), some (.cells [zi 0] 3 true true 0 0 false), some (.cells [zi 0] 3 true true 0 0 false)],
 zi 0, []⟩
def e36 : Ent := ⟨15, [.agg [zi 2, zi 1, .sl 8 0 2 .none, .sl 9 0 1 .none, .sl 10 0 1 .none, .nilsl, .sl 11 0 2 .none, .nilsl, .sl 12 0 2 .none, .nilsl, .sl 13 0 1 .none, .sl 14 0 1 .none, .nilsl], zi 20, zi 60, zi 8788],
 [.none, .none, .none, hp, .none, .none, .none, .none, some (.cells [zi 0, zi 0] 3 true true 0 0 false), some (.cells [zi 0, zi 0] 194 true true 0 0 false), some (.cells [zi 1, zi 0, zi 0, zi 1, zi 1, zi 0, zi 0] 132 true true 0 0 false), some (.cells [zi 5, zi 0, zu 1, zi 1, zi 1, zi 0, zs7, zs8, zi 40, zi 60, zi 2, zi 7, zi 0, zi 0, zi 10, zi 0, zu 1, zi 1, zi 2, zi 0, qA, zs8, zi 5, zi 9, zi 1, zi 8, zi 0, zi 0] 203 true true 0 0 false), some (.cells [zi 6, zi 5, zi 3, zu 1, zi 0, zi 0, .nilsl, zi 1, zs9, zs8, zi 10, zi 20, zi 4, zi 0, zi 0, zi 11, zi 6, zi 5, zu 1, zi 0, zi 0, .nilsl, zi 0, yn, zs8, zi 30, zi 30, zi 5, zi 0, zi 0] 200 true true 0 0 false), some (.cells [zi 15, zi 10, zi 0, .str [], zi 1, zi 5, zi 0, zi 0, zi 0] 212 true true 0 0 false), some (.cells [zi 20, zi 20, zi 20, zi 60, zi 100, zi 0, zi 0, zi 0, zi 0] 215 true true 0 0 false)],
 .tup [.sl 15 0 1 .none, zi 0], [.cells [zi 0, zi 1, zi 1] 84 true false 0 0 false]⟩
def e37 : Ent := ⟨280, [.nilsl, zi 1, zi 1, zi 7, zi 20, zi 20, zi 8787],
 [.none, .none, .none, hp, .none, .none, .none, .none],
 .tup [.sl 8 0 1 .none, zi 0], [.cells [zi 7, zi 1, zi 1] 84 true false 0 0 false]⟩
def e38 : Ent := ⟨191, [zi 80, .sl 8 0 1 .none],
 [.none, .none, .none, hp, .none, .none, .none, .none, some (.cells [zi 7, zi 1, zi 1] 84 true true 0 0 false)],
 .tup [.sl 9 0 1 .none, zi 0, zi 0], [.cells [zi 7, zi 80] 336 true false 0 0 false]⟩
def e39 : Ent := ⟨16, [.agg [zi 2, zi 1, .sl 8 0 2 .none, .sl 9 0 1 .none, .sl 10 0 1 .none, .nilsl, .sl 11 0 2 .none, .nilsl, .sl 12 0 2 .none, .nilsl, .sl 13 0 1 .none, .sl 14 0 1 .none, .nilsl], zi 20, zi 60, zi 20],
 [.none, .none, .none, hp, .none, .none, .none, .none, some (.cells [zi 0, zi 0] 3 true true 0 0 false), some (.cells [zi 0, zi 0] 194 true true 0 0 false), some (.cells [zi 1, zi 0, zi 0, zi 1, zi 1, zi 0, zi 0] 132 true true 0 0 false), some (.cells [zi 5, zi 0, zu 1, zi 1, zi 1, zi 0, zs7, zs8, zi 40, zi 60, zi 2, zi 7, zi 0, zi 0, zi 10, zi 0, zu 1, zi 1, zi 2, zi 0, qA, zs8, zi 5, zi 9, zi 1, zi 8, zi 0, zi 0] 203 true true 0 0 false), some (.cells [zi 6, zi 5, zi 3, zu 1, zi 0, zi 0, .nilsl, zi 1, zs9, zs8, zi 10, zi 20, zi 4, zi 0, zi 0, zi 11, zi 6, zi 5, zu 1, zi 0, zi 0, .nilsl, zi 0, yn, zs8, zi 30, zi 30, zi 5, zi 0, zi 0] 200 true true 0 0 false), some (.cells [zi 15, zi 10, zi 0, .str [], zi 1, zi 5, zi 0, zi 0, zi 0] 212 true true 0 0 false), some (.cells [zi 20, zi 20, zi 20, zi 60, zi 100, zi 0, zi 0, zi 0, zi 0] 215 true true 0 0 false)],
 .tup [.sl 15 0 2 .none, zi 0], [.cells [zi 4, zi 60, zi 20, zi 7, zi 60, zi 80] 87 true false 0 0 false]⟩
def e40 : Ent := ⟨17, [.agg [zi 2, zi 1, .sl 8 0 2 .none, .sl 9 0 1 .none, .sl 10 0 1 .none, .nilsl], zi 2, .sl 11 0 6 (.some 6), zi 20, zi 20],
 [.none, .none, .none, hp, .none, .none, .none, .none, some (.cells [zi 0, zi 0] 3 true true 0 0 false), some (.cells [zi 0, zi 0] 194 true true 0 0 false), some (.cells [zi 1, zi 0, zi 0, zi 1, zi 1, zi 0, zi 0] 132 true true 0 0 false), some (.cells [zi 0, zi 1, zi 0, zs1, zi 0, zi 2, zi 0, zs2, zi 0, zi 3, zi 10, zs3, zi 0, zi 4, zi 20, zs4, zi 1, zi 1, zi 5, zs5, zi 1, zi 2, zi 6, zs6] 126 false true 0 0 false)],
 .tup [.sl 12 0 1 .none, zi 0], [.cells [zi 60, zi 20, zi 20] 89 true false 0 0 false]⟩
def e41 : Ent := ⟨225, [zs12, zs13],
 [.none, .none, .none, hp, .none, .none, .none, .none],
 zi 12, []⟩
def e42 : Ent := ⟨65, [.str [97, 116, 32, 50, 48, 32, 97, 115, 115, 105, 103, 110]],
 [.none, .none, .none, hp, .none, .none, .none, .none],
 .tup [.agg [zu 4, zi 20, .nilsl], zi 0], []⟩
def e43 : Ent := ⟨7, [.str [49, 32, 124, 32, 48, 32, 48]],
 [.none, .none, .none, hp, .none, .none, .none, .none],
 .tup [.agg [.sl 8 0 1 .none, .sl 9 0 1 .none], zi 0], [.cells [zi 1] 3 true false 0 0 false, .cells [.sl 10 0 2 .none] 23 true false 0 0 false, .cells [zi 0, zi 0] 3 true false 0 0 false]⟩
def e44 : Ent := ⟨374, [.agg [.sl 8 0 2 .none, .sl 9 0 2 .none, .sl 10 0 2 .none], .sl 11 0 2 .none],
 [.none, .none, .none, hp, .none, .none, .none, .none, some (.cells [zi 60, zi 110] 3 true true 0 0 false), some (.cells [zi 1, zi 1, zi 2, zi 1, zi 2, zi 1] 228 true true 0 0 false), some (.cells [.sl 12 0 1 .none, .sl 13 0 1 .none] 23 true true 0 0 false), some (.cells [zi 0, zi 0] 3 true true 0 0 false), some (.cells [zi 0] 3 true true 0 0 false), some (.cells [zi 0] 3 true true 0 0 false)],
 .tup [.bool true, zi 0], []⟩
def e45 : Ent := ⟨66, [.agg [zi 2, zi 1, .sl 8 0 2 .none, .sl 9 0 1 .none, .sl 10 0 1 .none, .nilsl, .sl 11 0 2 .none, .nilsl, .sl 12 0 2 .none, .nilsl, .sl 13 0 1 .none, .sl 14 0 1 .none, .nilsl], .agg [zu 4, zi 20, .nilsl], .agg [.sl 15 0 1 .none, .sl 16 0 1 .none]],
 [.none, .none, .none, hp, .none, .none, .none, .none, some (.cells [zi 0, zi 0] 3 true true 0 0 false), some (.cells [zi 0, zi 0] 194 true true 0 0 false), some (.cells [zi 1, zi 0, zi 0, zi 1, zi 1, zi 0, zi 0] 132 true true 0 0 false), some (.cells [zi 5, zi 0, zu 1, zi 1, zi 1, zi 0, zs7, zs8, zi 40, zi 60, zi 2, zi 7, zi 0, zi 0, zi 10, zi 0, zu 1, zi 1, zi 2, zi 0, qA, zs8, zi 5, zi 9, zi 1, zi 8, zi 0, zi 0] 203 true true 0 0 false), some (.cells [zi 6, zi 5, zi 3, zu 1, zi 0, zi 0, .nilsl, zi 1, zs9, zs8, zi 10, zi 20, zi 4, zi 0, zi 0, zi 11, zi 6, zi 5, zu 1, zi 0, zi 0, .nilsl, zi 0, yn, zs8, zi 30, zi 30, zi 5, zi 0, zi 0] 200 true true 0 0 false), some (.cells [zi 15, zi 10, zi 0, .str [], zi 1, zi 5, zi 0, zi 0, zi 0] 212 true true 0 0 false), some (.cells [zi 20, zi 20, zi 20, zi 60, zi 100, zi 0, zi 0, zi 0, zi 0] 215 true true 0 0 false), some (.cells [zi 1] 3 true true 0 0 false), some (.cells [.sl 17 0 2 .none] 23 true true 0 0 false), some (.cells [zi 0, zi 0] 3 true true 0 0 false)],
 .tup [.bool true, zi 0], []⟩
def e46 : Ent := ⟨225, [zs14, zs13],
 [.none, .none, .none, hp, .none, .none, .none, .none],
 zi 16, []⟩
def e47 : Ent := ⟨65, [.str [97, 116, 32, 50, 48, 32, 115, 117, 114, 101, 32, 54, 48, 32, 50, 48]],
 [.none, .none, .none, hp, .none, .none, .none, .none],
 .tup [.agg [zu 7, zi 20, .sl 8 0 2 .none], zi 0], [.cells [zi 60, zi 20] 3 true false 0 0 false]⟩
def e48 : Ent := ⟨7, [.str [49, 32, 55, 32, 49, 32, 50, 32, 124, 32, 48, 32, 48, 32, 124, 32, 49, 32, 48, 32, 48]],
 [.none, .none, .none, hp, .none, .none, .none, .none],
 .tup [.agg [.sl 8 0 4 .none, .sl 9 0 2 .none], zi 0], [.cells [zi 1, zi 7, zi 1, zi 2] 3 true false 0 0 false, .cells [.sl 10 0 2 .none, .sl 11 0 3 .none] 23 true false 0 0 false, .cells [zi 0, zi 0] 3 true false 0 0 false, .cells [zi 1, zi 0, zi 0] 3 true false 0 0 false]⟩
def e49 : Ent := ⟨374, [.agg [.sl 8 0 2 .none, .sl 9 0 2 .none, .sl 10 0 2 .none], .sl 11 1 2 .none],
 [.none, .none, .none, hp, .none, .none, .none, .none, some (.cells [zi 60, zi 110] 3 true true 0 0 false), some (.cells [zi 1, zi 1, zi 2, zi 1, zi 2, zi 1] 228 true true 0 0 false), some (.cells [.sl 12 0 1 .none, .sl 13 0 1 .none] 23 true true 0 0 false), some (.cells [zi 1, zi 0, zi 0] 3 true true 0 0 false), some (.cells [zi 0] 3 true true 0 0 false), some (.cells [zi 0] 3 true true 0 0 false)],
 .tup [.bool true, zi 0], []⟩
def e50 : Ent := ⟨66, [.agg [zi 2, zi 1, .sl 8 0 2 .none, .sl 9 0 1 .none, .sl 10 0 1 .none, .nilsl, .sl 11 0 2 .none, .nilsl, .sl 12 0 2 .none, .nilsl, .sl 13 0 1 .none, .sl 14 0 1 .none, .nilsl], .agg [zu 7, zi 20, .sl 15 0 2 .none], .agg [.sl 16 0 4 .none, .sl 17 0 2 .none]],
 [.none, .none, .none, hp, .none, .none, .none, .none, some (.cells [zi 0, zi 0] 3 true true 0 0 false), some (.cells [zi 0, zi 0] 194 true true 0 0 false), some (.cells [zi 1, zi 0, zi 0, zi 1, zi 1, zi 0, zi 0] 132 true true 0 0 false), some (.cells [zi 5, zi 0, zu 1, zi 1, zi 1, zi 0, zs7, zs8, zi 40, zi 60, zi 2, zi 7, zi 0, zi 0, zi 10, zi 0, zu 1, zi 1, zi 2, zi 0, qA, zs8, zi 5, zi 9, zi 1, zi 8, zi 0, zi 0] 203 true true 0 0 false), some (.cells [zi 6, zi 5, zi 3, zu 1, zi 0, zi 0, .nilsl, zi 1, zs9, zs8, zi 10, zi 20, zi 4, zi 0, zi 0, zi 11, zi 6, zi 5, zu 1, zi 0, zi 0, .nilsl, zi 0, yn, zs8, zi 30, zi 30, zi 5, zi 0, zi 0] 200 true true 0 0 false), some (.cells [zi 15, zi 10, zi 0, .str [], zi 1, zi 5, zi 0, zi 0, zi 0] 212 true true 0 0 false), some (.cells [zi 20, zi 20, zi 20, zi 60, zi 100, zi 0, zi 0, zi 0, zi 0] 215 true true 0 0 false), some (.cells [zi 60, zi 20] 3 true true 0 0 false), some (.cells [zi 1, zi 7, zi 1, zi 2] 3 true true 0 0 false), some (.cells [.sl 18 0 2 .none, .sl 19 0 3 .none] 23 true true 0 0 false), some (.cells [zi 0, zi 0] 3 true true 0 0 false), some (.cells [zi 1, zi 0, zi 0] 3 true true 0 0 false)],
 .tup [.bool false, zi 0], []⟩
def e51 : Ent := ⟨18, [.agg [zi 2, zi 1, .sl 8 0 2 .none, .sl 9 0 1 .none, .sl 10 0 1 .none, .nilsl, .sl 11 0 2 .none, .nilsl, .sl 12 0 2 .none, .nilsl, .sl 13 0 1 .none, .sl 14 0 1 .none, .nilsl], .sl 15 0 2 (.some 2)],
 [.none, .none, .none, hp, .none, .none, .none, .none, some (.cells [zi 0, zi 0] 3 true true 0 0 false), some (.cells [zi 0, zi 0] 194 true true 0 0 false), some (.cells [zi 1, zi 0, zi 0, zi 1, zi 1, zi 0, zi 0] 132 true true 0 0 false), some (.cells [zi 5, zi 0, zu 1, zi 1, zi 1, zi 0, zs7, zs8, zi 40, zi 60, zi 2, zi 7, zi 0, zi 0, zi 10, zi 0, zu 1, zi 1, zi 2, zi 0, qA, zs8, zi 5, zi 9, zi 1, zi 8, zi 0, zi 0] 203 true true 0 0 false), some (.cells [zi 6, zi 5, zi 3, zu 1, zi 0, zi 0, .nilsl, zi 1, zs9, zs8, zi 10, zi 20, zi 4, zi 0, zi 0, zi 11, zi 6, zi 5, zu 1, zi 0, zi 0, .nilsl, zi 0, yn, zs8, zi 30, zi 30, zi 5, zi 0, zi 0] 200 true true 0 0 false), some (.cells [zi 15, zi 10, zi 0, .str [], zi 1, zi 5, zi 0, zi 0, zi 0] 212 true true 0 0 false), some (.cells [zi 20, zi 20, zi 20, zi 60, zi 100, zi 0, zi 0, zi 0, zi 0] 215 true true 0 0 false), some (.cells [zs12, zs14] 9 false true 0 0 false)],
 .tup [zi 1, zi 91], []⟩
def e52 : Ent := ⟨65, [.str [97, 116, 32, 50, 48, 32, 119, 101, 105, 103, 104, 116, 32, 54, 48]],
 [.none, .none, .none, hp, .none, .none, .none, .none],
 .tup [.agg [zu 1, zi 20, .sl 8 0 1 .none], zi 0], [.cells [zi 60] 3 true false 0 0 false]⟩
def e53 : Ent := ⟨7, [.str [49, 32, 49, 48, 32, 50, 48, 32, 124, 32, 49, 48, 32, 51, 48, 32, 124, 32, 124, 32, 50, 48, 32, 51, 48, 32, 124]],
 [.none, .none, .none, hp, .none, .none, .none, .none],
 .tup [.agg [.sl 8 0 3 .none, .sl 9 0 4 .none], zi 0], [.cells [zi 1, zi 10, zi 20] 3 true false 0 0 false, .cells [.sl 10 0 2 .none, .nilsl, .sl 11 0 2 .none, .nilsl] 23 true false 0 0 false, .cells [zi 10, zi 30] 3 true false 0 0 false, .cells [zi 20, zi 30] 3 true false 0 0 false]⟩
def e54 : Ent := ⟨352, [.sl 8 0 2 .none, zi 20, .sl 9 0 2 .none],
 [.none, .none, .none, hp, .none, .none, .none, .none, some (.cells [zi 6, zi 5, zi 3, zu 1, zi 0, zi 0, .nilsl, zi 1, zs9, zs8, zi 10, zi 20, zi 4, zi 0, zi 0, zi 11, zi 6, zi 5, zu 1, zi 0, zi 0, .nilsl, zi 0, yn, zs8, zi 30, zi 30, zi 5, zi 0, zi 0] 200 true true 0 0 false), some (.cells [zi 10, zi 30] 3 true true 0 0 false)],
 .tup [.bool true, zi 0], []⟩
def e55 : Ent := ⟨352, [.sl 8 0 2 .none, zi 20, .sl 9 0 2 .none],
 [.none, .none, .none, hp, .none, .none, .none, .none, some (.cells [zi 6, zi 5, zi 3, zu 1, zi 0, zi 0, .nilsl, zi 1, zs9, zs8, zi 10, zi 20, zi 4, zi 0, zi 0, zi 11, zi 6, zi 5, zu 1, zi 0, zi 0, .nilsl, zi 0, yn, zs8, zi 30, zi 30, zi 5, zi 0, zi 0] 200 true true 0 0 false), some (.cells [zi 20, zi 30] 3 true true 0 0 false)],
 .tup [.bool true, zi 0], []⟩
def e56 : Ent := ⟨66, [.agg [zi 2, zi 1, .sl 8 0 2 .none, .sl 9 0 1 .none, .sl 10 0 1 .none, .nilsl, .sl 11 0 2 .none, .nilsl, .sl 12 0 2 .none, .nilsl, .sl 13 0 1 .none, .sl 14 0 1 .none, .nilsl], .agg [zu 1, zi 20, .sl 15 0 1 .none], .agg [.sl 16 0 3 .none, .sl 17 0 4 .none]],
 [.none, .none, .none, hp, .none, .none, .none, .none, some (.cells [zi 0, zi 0] 3 true true 0 0 false), some (.cells [zi 0, zi 0] 194 true true 0 0 false), some (.cells [zi 1, zi 0, zi 0, zi 1, zi 1, zi 0, zi 0] 132 true true 0 0 false), some (.cells [zi 5, zi 0, zu 1, zi 1, zi 1, zi 0, zs7, zs8, zi 40, zi 60, zi 2, zi 7, zi 0, zi 0, zi 10, zi 0, zu 1, zi 1, zi 2, zi 0, qA, zs8, zi 5, zi 9, zi 1, zi 8, zi 0, zi 0] 203 true true 0 0 false), some (.cells [zi 6, zi 5, zi 3, zu 1, zi 0, zi 0, .nilsl, zi 1, zs9, zs8, zi 10, zi 20, zi 4, zi 0, zi 0, zi 11, zi 6, zi 5, zu 1, zi 0, zi 0, .nilsl, zi 0, yn, zs8, zi 30, zi 30, zi 5, zi 0, zi 0] 200 true true 0 0 false), some (.cells [zi 15, zi 10, zi 0, .str [], zi 1, zi 5, zi 0, zi 0, zi 0] 212 true true 0 0 false), some (.cells [zi 20, zi 20, zi 20, zi 60, zi 100, zi 0, zi 0, zi 0, zi 0] 215 true true 0 0 false), some (.cells [zi 60] 3 true true 0 0 false), some (.cells [zi 1, zi 10, zi 20] 3 true true 0 0 false), some (.cells [.sl 18 0 2 .none, .nilsl, .sl 19 0 2 .none, .nilsl] 23 true true 0 0 false), some (.cells [zi 10, zi 30] 3 true true 0 0 false), some (.cells [zi 20, zi 30] 3 true true 0 0 false)],
 .tup [.bool true, zi 0], []⟩
def e57 : Ent := ⟨343, [.sl 8 0 2 .none, zi 20, zi 60, .bool false],
 [.none, .none, .none, hp, .none, .none, .none, .none, some (.cells [zi 6, zi 5, zi 3, zu 1, zi 0, zi 0, .nilsl, zi 1, zs9, zs8, zi 10, zi 20, zi 4, zi 0, zi 0, zi 11, zi 6, zi 5, zu 1, zi 0, zi 0, .nilsl, zi 0, yn, zs8, zi 30, zi 30, zi 5, zi 0, zi 0] 200 true true 0 0 false)],
 .tup [zi 10, .sl 9 0 2 (.some 2), .nilsl, zi 0], [.cells [zi 10, zi 30] 3 false false 0 0 false]⟩
def e58 : Ent := ⟨343, [.sl 8 0 2 .none, zi 20, zi 60, .bool true],
 [.none, .none, .none, hp, .none, .none, .none, .none, some (.cells [zi 6, zi 5, zi 3, zu 1, zi 0, zi 0, .nilsl, zi 1, zs9, zs8, zi 10, zi 20, zi 4, zi 0, zi 0, zi 11, zi 6, zi 5, zu 1, zi 0, zi 0, .nilsl, zi 0, yn, zs8, zi 30, zi 30, zi 5, zi 0, zi 0] 200 true true 0 0 false)],
 .tup [zi 20, .sl 9 0 2 (.some 2), .nilsl, zi 0], [.cells [zi 20, zi 30] 3 false false 0 0 false]⟩
def e59 : Ent := ⟨67, [.agg [zi 2, zi 1, .sl 8 0 2 .none, .sl 9 0 1 .none, .sl 10 0 1 .none, .nilsl, .sl 11 0 2 .none, .nilsl, .sl 12 0 2 .none, .nilsl, .sl 13 0 1 .none, .sl 14 0 1 .none, .nilsl], .agg [zu 1, zi 20, .sl 15 0 1 .none]],
 [.none, .none, .none, hp, .none, .none, .none, .none, some (.cells [zi 0, zi 0] 3 true true 0 0 false), some (.cells [zi 0, zi 0] 194 true true 0 0 false), some (.cells [zi 1, zi 0, zi 0, zi 1, zi 1, zi 0, zi 0] 132 true true 0 0 false), some (.cells [zi 5, zi 0, zu 1, zi 1, zi 1, zi 0, zs7, zs8, zi 40, zi 60, zi 2, zi 7, zi 0, zi 0, zi 10, zi 0, zu 1, zi 1, zi 2, zi 0, qA, zs8, zi 5, zi 9, zi 1, zi 8, zi 0, zi 0] 203 true true 0 0 false), some (.cells [zi 6, zi 5, zi 3, zu 1, zi 0, zi 0, .nilsl, zi 1, zs9, zs8, zi 10, zi 20, zi 4, zi 0, zi 0, zi 11, zi 6, zi 5, zu 1, zi 0, zi 0, .nilsl, zi 0, yn, zs8, zi 30, zi 30, zi 5, zi 0, zi 0] 200 true true 0 0 false), some (.cells [zi 15, zi 10, zi 0, .str [], zi 1, zi 5, zi 0, zi 0, zi 0] 212 true true 0 0 false), some (.cells [zi 20, zi 20, zi 20, zi 60, zi 100, zi 0, zi 0, zi 0, zi 0] 215 true true 0 0 false), some (.cells [zi 60] 3 true true 0 0 false)],
 .tup [.agg [.sl 16 0 3 (.some 3), .sl 17 0 4 (.some 4)], zi 0], [.cells [zi 1, zi 10, zi 20] 3 false false 0 0 false, .cells [.sl 18 0 2 (.some 2), .nilsl, .sl 19 0 2 (.some 2), .nilsl] 23 false false 0 0 false, .cells [zi 10, zi 30] 3 false false 0 0 false, .cells [zi 20, zi 30] 3 false false 0 0 false]⟩
def e60 : Ent := ⟨65, [.str [97, 116, 32, 50, 48, 32, 109, 97, 121, 32, 54, 48, 32, 49, 32, 49]],
 [.none, .none, .none, hp, .none, .none, .none, .none],
 .tup [.agg [zu 5, zi 20, .sl 8 0 3 .none], zi 0], [.cells [zi 60, zi 1, zi 1] 3 true false 0 0 false]⟩
def e61 : Ent := ⟨66, [.agg [zi 2, zi 1, .sl 8 0 2 .none, .sl 9 0 1 .none, .sl 10 0 1 .none, .nilsl, .sl 11 0 2 .none, .nilsl, .sl 12 0 2 .none, .nilsl, .sl 13 0 1 .none, .sl 14 0 1 .none, .nilsl], .agg [zu 5, zi 20, .sl 15 0 3 .none], .agg [.sl 16 0 1 .none, .sl 17 0 1 .none]],
 [.none, .none, .none, hp, .none, .none, .none, .none, some (.cells [zi 0, zi 0] 3 true true 0 0 false), some (.cells [zi 0, zi 0] 194 true true 0 0 false), some (.cells [zi 1, zi 0, zi 0, zi 1, zi 1, zi 0, zi 0] 132 true true 0 0 false), some (.cells [zi 5, zi 0, zu 1, zi 1, zi 1, zi 0, zs7, zs8, zi 40, zi 60, zi 2, zi 7, zi 0, zi 0, zi 10, zi 0, zu 1, zi 1, zi 2, zi 0, qA, zs8, zi 5, zi 9, zi 1, zi 8, zi 0, zi 0] 203 true true 0 0 false), some (.cells [zi 6, zi 5, zi 3, zu 1, zi 0, zi 0, .nilsl, zi 1, zs9, zs8, zi 10, zi 20, zi 4, zi 0, zi 0, zi 11, zi 6, zi 5, zu 1, zi 0, zi 0, .nilsl, zi 0, yn, zs8, zi 30, zi 30, zi 5, zi 0, zi 0] 200 true true 0 0 false), some (.cells [zi 15, zi 10, zi 0, .str [], zi 1, zi 5, zi 0, zi 0, zi 0] 212 true true 0 0 false), some (.cells [zi 20, zi 20, zi 20, zi 60, zi 100, zi 0, zi 0, zi 0, zi 0] 215 true true 0 0 false), some (.cells [zi 60, zi 1, zi 1] 3 true true 0 0 false), some (.cells [zi 1] 3 true true 0 0 false), some (.cells [.sl 18 0 2 .none] 23 true true 0 0 false), some (.cells [zi 0, zi 0] 3 true true 0 0 false)],
 .tup [.bool true, zi 0], []⟩
def e62 : Ent := ⟨372, [.agg [.sl 8 0 2 .none, .sl 9 0 2 .none, .sl 10 0 2 .none]],
 [.none, .none, .none, hp, .none, .none, .none, .none, some (.cells [zi 60, zi 110] 3 true true 0 0 false), some (.cells [zi 1, zi 1, zi 2, zi 1, zi 2, zi 1] 228 true true 0 0 false), some (.cells [.sl 11 0 1 .none, .sl 12 0 1 .none] 23 true true 0 0 false), some (.cells [zi 0] 3 true true 0 0 false), some (.cells [zi 0] 3 true true 0 0 false)],
 .tup [.sl 13 0 2 (.some 2), .bool true, zi 0], [.cells [zi 0, zi 0] 3 false false 0 0 false]⟩
def e63 : Ent := ⟨67, [.agg [zi 2, zi 1, .sl 8 0 2 .none, .sl 9 0 1 .none, .sl 10 0 1 .none, .nilsl, .sl 11 0 2 .none, .nilsl, .sl 12 0 2 .none, .nilsl, .sl 13 0 1 .none, .sl 14 0 1 .none, .nilsl], .agg [zu 5, zi 20, .sl 15 0 3 .none]],
 [.none, .none, .none, hp, .none, .none, .none, .none, some (.cells [zi 0, zi 0] 3 true true 0 0 false), some (.cells [zi 0, zi 0] 194 true true 0 0 false), some (.cells [zi 1, zi 0, zi 0, zi 1, zi 1, zi 0, zi 0] 132 true true 0 0 false), some (.cells [zi 5, zi 0, zu 1, zi 1, zi 1, zi 0, zs7, zs8, zi 40, zi 60, zi 2, zi 7, zi 0, zi 0, zi 10, zi 0, zu 1, zi 1, zi 2, zi 0, qA, zs8, zi 5, zi 9, zi 1, zi 8, zi 0, zi 0] 203 true true 0 0 false), some (.cells [zi 6, zi 5, zi 3, zu 1, zi 0, zi 0, .nilsl, zi 1, zs9, zs8, zi 10, zi 20, zi 4, zi 0, zi 0, zi 11, zi 6, zi 5, zu 1, zi 0, zi 0, .nilsl, zi 0, yn, zs8, zi 30, zi 30, zi 5, zi 0, zi 0] 200 true true 0 0 false), some (.cells [zi 15, zi 10, zi 0, .str [], zi 1, zi 5, zi 0, zi 0, zi 0] 212 true true 0 0 false), some (.cells [zi 20, zi 20, zi 20, zi 60, zi 100, zi 0, zi 0, zi 0, zi 0] 215 true true 0 0 false), some (.cells [zi 60, zi 1, zi 1] 3 true true 0 0 false)],
 .tup [.agg [.sl 16 0 1 (.some 1), .sl 17 0 1 (.some 1)], zi 0], [.cells [zi 1] 3 false false 0 0 false, .cells [.sl 18 0 2 .none] 23 false false 0 0 false, .cells [zi 0, zi 0] 3 true false 0 0 false]⟩
def e64 : Ent := ⟨65, [.str [97, 116, 32, 50, 48, 32, 109, 97, 121, 32, 54, 48, 32, 49, 32, 50]],
 [.none, .none, .none, hp, .none, .none, .none, .none],
 .tup [.agg [zu 5, zi 20, .sl 8 0 3 .none], zi 0], [.cells [zi 60, zi 1, zi 2] 3 true false 0 0 false]⟩
def e65 : Ent := ⟨7, [.str [48, 32, 124, 32, 124, 32, 48, 32, 48]],
 [.none, .none, .none, hp, .none, .none, .none, .none],
 .tup [.agg [.sl 8 0 1 .none, .sl 9 0 2 .none], zi 0], [.cells [zi 0] 3 true false 0 0 false, .cells [.nilsl, .sl 10 0 2 .none] 23 true false 0 0 false, .cells [zi 0, zi 0] 3 true false 0 0 false]⟩
def e66 : Ent := ⟨66, [.agg [zi 2, zi 1, .sl 8 0 2 .none, .sl 9 0 1 .none, .sl 10 0 1 .none, .nilsl, .sl 11 0 2 .none, .nilsl, .sl 12 0 2 .none, .nilsl, .sl 13 0 1 .none, .sl 14 0 1 .none, .nilsl], .agg [zu 5, zi 20, .sl 15 0 3 .none], .agg [.sl 16 0 1 .none, .sl 17 0 2 .none]],
 [.none, .none, .none, hp, .none, .none, .none, .none, some (.cells [zi 0, zi 0] 3 true true 0 0 false), some (.cells [zi 0, zi 0] 194 true true 0 0 false), some (.cells [zi 1, zi 0, zi 0, zi 1, zi 1, zi 0, zi 0] 132 true true 0 0 false), some (.cells [zi 5, zi 0, zu 1, zi 1, zi 1, zi 0, zs7, zs8, zi 40, zi 60, zi 2, zi 7, zi 0, zi 0, zi 10, zi 0, zu 1, zi 1, zi 2, zi 0, qA, zs8, zi 5, zi 9, zi 1, zi 8, zi 0, zi 0] 203 true true 0 0 false), some (.cells [zi 6, zi 5, zi 3, zu 1, zi 0, zi 0, .nilsl, zi 1, zs9, zs8, zi 10, zi 20, zi 4, zi 0, zi 0, zi 11, zi 6, zi 5, zu 1, zi 0, zi 0, .nilsl, zi 0, yn, zs8, zi 30, zi 30, zi 5, zi 0, zi 0] 200 true true 0 0 false), some (.cells [zi 15, zi 10, zi 0, .str [], zi 1, zi 5, zi 0, zi 0, zi 0] 212 true true 0 0 false), some (.cells [zi 20, zi 20, zi 20, zi 60, zi 100, zi 0, zi 0, zi 0, zi 0] 215 true true 0 0 false), some (.cells [zi 60, zi 1, zi 2] 3 true true 0 0 false), some (.cells [zi 0] 3 true true 0 0 false), some (.cells [.nilsl, .sl 18 0 2 .none] 23 true true 0 0 false), some (.cells [zi 0, zi 0] 3 true true 0 0 false)],
 .tup [.bool true, zi 0], []⟩
def e67 : Ent := ⟨67, [.agg [zi 2, zi 1, .sl 8 0 2 .none, .sl 9 0 1 .none, .sl 10 0 1 .none, .nilsl, .sl 11 0 2 .none, .nilsl, .sl 12 0 2 .none, .nilsl, .sl 13 0 1 .none, .sl 14 0 1 .none, .nilsl], .agg [zu 5, zi 20, .sl 15 0 3 .none]],
 [.none, .none, .none, hp, .none, .none, .none, .none, some (.cells [zi 0, zi 0] 3 true true 0 0 false), some (.cells [zi 0, zi 0] 194 true true 0 0 false), some (.cells [zi 1, zi 0, zi 0, zi 1, zi 1, zi 0, zi 0] 132 true true 0 0 false), some (.cells [zi 5, zi 0, zu 1, zi 1, zi 1, zi 0, zs7, zs8, zi 40, zi 60, zi 2, zi 7, zi 0, zi 0, zi 10, zi 0, zu 1, zi 1, zi 2, zi 0, qA, zs8, zi 5, zi 9, zi 1, zi 8, zi 0, zi 0] 203 true true 0 0 false), some (.cells [zi 6, zi 5, zi 3, zu 1, zi 0, zi 0, .nilsl, zi 1, zs9, zs8, zi 10, zi 20, zi 4, zi 0, zi 0, zi 11, zi 6, zi 5, zu 1, zi 0, zi 0, .nilsl, zi 0, yn, zs8, zi 30, zi 30, zi 5, zi 0, zi 0] 200 true true 0 0 false), some (.cells [zi 15, zi 10, zi 0, .str [], zi 1, zi 5, zi 0, zi 0, zi 0] 212 true true 0 0 false), some (.cells [zi 20, zi 20, zi 20, zi 60, zi 100, zi 0, zi 0, zi 0, zi 0] 215 true true 0 0 false), some (.cells [zi 60, zi 1, zi 2] 3 true true 0 0 false)],
 .tup [.agg [.sl 16 0 1 (.some 1), .sl 17 0 2 (.some 2)], zi 0], [.cells [zi 0] 3 false false 0 0 false, .cells [.nilsl, .sl 18 0 2 (.some 2)] 23 false false 0 0 false, .cells [zi 0, zi 0] 3 false false 0 0 false]⟩
def e68 : Ent := ⟨67, [.agg [zi 2, zi 1, .sl 8 0 2 .none, .sl 9 0 1 .none, .sl 10 0 1 .none, .nilsl, .sl 11 0 2 .none, .nilsl, .sl 12 0 2 .none, .nilsl, .sl 13 0 1 .none, .sl 14 0 1 .none, .nilsl], .agg [zu 4, zi 20, .nilsl]],
 [.none, .none, .none, hp, .none, .none, .none, .none, some (.cells [zi 0, zi 0] 3 true true 0 0 false), some (.cells [zi 0, zi 0] 194 true true 0 0 false), some (.cells [zi 1, zi 0, zi 0, zi 1, zi 1, zi 0, zi 0] 132 true true 0 0 false), some (.cells [zi 5, zi 0, zu 1, zi 1, zi 1, zi 0, zs7, zs8, zi 40, zi 60, zi 2, zi 7, zi 0, zi 0, zi 10, zi 0, zu 1, zi 1, zi 2, zi 0, qA, zs8, zi 5, zi 9, zi 1, zi 8, zi 0, zi 0] 203 true true 0 0 false), some (.cells [zi 6, zi 5, zi 3, zu 1, zi 0, zi 0, .nilsl, zi 1, zs9, zs8, zi 10, zi 20, zi 4, zi 0, zi 0, zi 11, zi 6, zi 5, zu 1, zi 0, zi 0, .nilsl, zi 0, yn, zs8, zi 30, zi 30, zi 5, zi 0, zi 0] 200 true true 0 0 false), some (.cells [zi 15, zi 10, zi 0, .str [], zi 1, zi 5, zi 0, zi 0, zi 0] 212 true true 0 0 false), some (.cells [zi 20, zi 20, zi 20, zi 60, zi 100, zi 0, zi 0, zi 0, zi 0] 215 true true 0 0 false)],
 .tup [.agg [.sl 15 0 1 (.some 1), .sl 16 0 1 (.some 1)], zi 0], [.cells [zi 1] 3 false false 0 0 false, .cells [.sl 17 0 2 (.some 2)] 23 false false 0 0 false, .cells [zi 0, zi 0] 3 false false 0 0 false]⟩
def e69 : Ent := ⟨65, [.str [97, 116, 32, 50, 48, 32, 116, 105, 116, 108, 101, 32, 49, 32, 49, 32, 50, 48]],
 [.none, .none, .none, hp, .none, .none, .none, .none],
 .tup [.agg [zu 6, zi 20, .sl 8 0 3 .none], zi 0], [.cells [zi 1, zi 1, zi 20] 3 true false 0 0 false]⟩
def e70 : Ent := ⟨7, [.str [55, 32, 49, 32, 49]],
 [.none, .none, .none, hp, .none, .none, .none, .none],
 .tup [.agg [.sl 8 0 3 .none, .nilsl], zi 0], [.cells [zi 7, zi 1, zi 1] 3 true false 0 0 false]⟩
def e71 : Ent := ⟨66, [.agg [zi 2, zi 1, .sl 8 0 2 .none, .sl 9 0 1 .none, .sl 10 0 1 .none, .nilsl, .sl 11 0 2 .none, .nilsl, .sl 12 0 2 .none, .nilsl, .sl 13 0 1 .none, .sl 14 0 1 .none, .nilsl], .agg [zu 6, zi 20, .sl 15 0 3 .none], .agg [.sl 16 0 3 .none, .nilsl]],
 [.none, .none, .none, hp, .none, .none, .none, .none, some (.cells [zi 0, zi 0] 3 true true 0 0 false), some (.cells [zi 0, zi 0] 194 true true 0 0 false), some (.cells [zi 1, zi 0, zi 0, zi 1, zi 1, zi 0, zi 0] 132 true true 0 0 false), some (.cells [zi 5, zi 0, zu 1, zi 1, zi 1, zi 0, zs7, zs8, zi 40, zi 60, zi 2, zi 7, zi 0, zi 0, zi 10, zi 0, zu 1, zi 1, zi 2, zi 0, qA, zs8, zi 5, zi 9, zi 1, zi 8, zi 0, zi 0] 203 true true 0 0 false), some (.cells [zi 6, zi 5, zi 3, zu 1, zi 0, zi 0, .nilsl, zi 1, zs9, zs8, zi 10, zi 20, zi 4, zi 0, zi 0, zi 11, zi 6, zi 5, zu 1, zi 0, zi 0, .nilsl, zi 0, yn, zs8, zi 30, zi 30, zi 5, zi 0, zi 0] 200 true true 0 0 false), some (.cells [zi 15, zi 10, zi 0, .str [], zi 1, zi 5, zi 0, zi 0, zi 0] 212 true true 0 0 false), some (.cells [zi 20, zi 20, zi 20, zi 60, zi 100, zi 0, zi 0, zi 0, zi 0] 215 true true 0 0 false), some (.cells [zi 1, zi 1, zi 20] 3 true true 0 0 false), some (.cells [zi 7, zi 1, zi 1] 3 true true 0 0 false)],
 .tup [.bool true, zi 0], []⟩
def e72 : Ent := ⟨67, [.agg [zi 2, zi 1, .sl 8 0 2 .none, .sl 9 0 1 .none, .sl 10 0 1 .none, .nilsl, .sl 11 0 2 .none, .nilsl, .sl 12 0 2 .none, .nilsl, .sl 13 0 1 .none, .sl 14 0 1 .none, .nilsl], .agg [zu 6, zi 20, .sl 15 0 3 .none]],
 [.none, .none, .none, hp, .none, .none, .none, .none, some (.cells [zi 0, zi 0] 3 true true 0 0 false), some (.cells [zi 0, zi 0] 194 true true 0 0 false), some (.cells [zi 1, zi 0, zi 0, zi 1, zi 1, zi 0, zi 0] 132 true true 0 0 false), some (.cells [zi 5, zi 0, zu 1, zi 1, zi 1, zi 0, zs7, zs8, zi 40, zi 60, zi 2, zi 7, zi 0, zi 0, zi 10, zi 0, zu 1, zi 1, zi 2, zi 0, qA, zs8, zi 5, zi 9, zi 1, zi 8, zi 0, zi 0] 203 true true 0 0 false), some (.cells [zi 6, zi 5, zi 3, zu 1, zi 0, zi 0, .nilsl, zi 1, zs9, zs8, zi 10, zi 20, zi 4, zi 0, zi 0, zi 11, zi 6, zi 5, zu 1, zi 0, zi 0, .nilsl, zi 0, yn, zs8, zi 30, zi 30, zi 5, zi 0, zi 0] 200 true true 0 0 false), some (.cells [zi 15, zi 10, zi 0, .str [], zi 1, zi 5, zi 0, zi 0, zi 0] 212 true true 0 0 false), some (.cells [zi 20, zi 20, zi 20, zi 60, zi 100, zi 0, zi 0, zi 0, zi 0] 215 true true 0 0 false), some (.cells [zi 1, zi 1, zi 20] 3 true true 0 0 false)],
 .tup [.agg [.sl 16 0 3 .none, .nilsl], zi 0], [.cells [zi 7, zi 1, zi 1] 3 true false 0 0 false]⟩
def e73 : Ent := ⟨7, [.str [49, 32, 55, 32, 49, 32, 49, 32, 124, 32, 48, 32, 48, 32, 124, 32, 49, 32, 48, 32, 48]],
 [.none, .none, .none, hp, .none, .none, .none, .none],
 .tup [.agg [.sl 8 0 4 .none, .sl 9 0 2 .none], zi 0], [.cells [zi 1, zi 7, zi 1, zi 1] 3 true false 0 0 false, .cells [.sl 10 0 2 .none, .sl 11 0 3 .none] 23 true false 0 0 false, .cells [zi 0, zi 0] 3 true false 0 0 false, .cells [zi 1, zi 0, zi 0] 3 true false 0 0 false]⟩
def e74 : Ent := ⟨66, [.agg [zi 2, zi 1, .sl 8 0 2 .none, .sl 9 0 1 .none, .sl 10 0 1 .none, .nilsl, .sl 11 0 2 .none, .nilsl, .sl 12 0 2 .none, .nilsl, .sl 13 0 1 .none, .sl 14 0 1 .none, .nilsl], .agg [zu 7, zi 20, .sl 15 0 2 .none], .agg [.sl 16 0 4 .none, .sl 17 0 2 .none]],
 [.none, .none, .none, hp, .none, .none, .none, .none, some (.cells [zi 0, zi 0] 3 true true 0 0 false), some (.cells [zi 0, zi 0] 194 true true 0 0 false), some (.cells [zi 1, zi 0, zi 0, zi 1, zi 1, zi 0, zi 0] 132 true true 0 0 false), some (.cells [zi 5, zi 0, zu 1, zi 1, zi 1, zi 0, zs7, zs8, zi 40, zi 60, zi 2, zi 7, zi 0, zi 0, zi 10, zi 0, zu 1, zi 1, zi 2, zi 0, qA, zs8, zi 5, zi 9, zi 1, zi 8, zi 0, zi 0] 203 true true 0 0 false), some (.cells [zi 6, zi 5, zi 3, zu 1, zi 0, zi 0, .nilsl, zi 1, zs9, zs8, zi 10, zi 20, zi 4, zi 0, zi 0, zi 11, zi 6, zi 5, zu 1, zi 0, zi 0, .nilsl, zi 0, yn, zs8, zi 30, zi 30, zi 5, zi 0, zi 0] 200 true true 0 0 false), some (.cells [zi 15, zi 10, zi 0, .str [], zi 1, zi 5, zi 0, zi 0, zi 0] 212 true true 0 0 false), some (.cells [zi 20, zi 20, zi 20, zi 60, zi 100, zi 0, zi 0, zi 0, zi 0] 215 true true 0 0 false), some (.cells [zi 60, zi 20] 3 true true 0 0 false), some (.cells [zi 1, zi 7, zi 1, zi 1] 3 true true 0 0 false), some (.cells [.sl 18 0 2 .none, .sl 19 0 3 .none] 23 true true 0 0 false), some (.cells [zi 0, zi 0] 3 true true 0 0 false), some (.cells [zi 1, zi 0, zi 0] 3 true true 0 0 false)],
 .tup [.bool true, zi 0], []⟩
def e75 : Ent := ⟨67, [.agg [zi 2, zi 1, .sl 8 0 2 .none, .sl 9 0 1 .none, .sl 10 0 1 .none, .nilsl, .sl 11 0 2 .none, .nilsl, .sl 12 0 2 .none, .nilsl, .sl 13 0 1 .none, .sl 14 0 1 .none, .nilsl], .agg [zu 7, zi 20, .sl 15 0 2 .none]],
 [.none, .none, .none, hp, .none, .none, .none, .none, some (.cells [zi 0, zi 0] 3 true true 0 0 false), some (.cells [zi 0, zi 0] 194 true true 0 0 false), some (.cells [zi 1, zi 0, zi 0, zi 1, zi 1, zi 0, zi 0] 132 true true 0 0 false), some (.cells [zi 5, zi 0, zu 1, zi 1, zi 1, zi 0, zs7, zs8, zi 40, zi 60, zi 2, zi 7, zi 0, zi 0, zi 10, zi 0, zu 1, zi 1, zi 2, zi 0, qA, zs8, zi 5, zi 9, zi 1, zi 8, zi 0, zi 0] 203 true true 0 0 false), some (.cells [zi 6, zi 5, zi 3, zu 1, zi 0, zi 0, .nilsl, zi 1, zs9, zs8, zi 10, zi 20, zi 4, zi 0, zi 0, zi 11, zi 6, zi 5, zu 1, zi 0, zi 0, .nilsl, zi 0, yn, zs8, zi 30, zi 30, zi 5, zi 0, zi 0] 200 true true 0 0 false), some (.cells [zi 15, zi 10, zi 0, .str [], zi 1, zi 5, zi 0, zi 0, zi 0] 212 true true 0 0 false), some (.cells [zi 20, zi 20, zi 20, zi 60, zi 100, zi 0, zi 0, zi 0, zi 0] 215 true true 0 0 false), some (.cells [zi 60, zi 20] 3 true true 0 0 false)],
 .tup [.agg [.sl 16 0 4 .none, .sl 17 0 2 .none], zi 0], [.cells [zi 1, zi 7, zi 1, zi 1] 3 true false 0 0 false, .cells [.sl 18 0 2 (.some 2), .sl 19 0 3 .none] 23 true false 0 0 false, .cells [zi 0, zi 0] 3 false false 0 0 false, .cells [zi 1, zi 0, zi 0] 3 true false 0 0 false]⟩
def e76 : Ent := ⟨65, [.str [97, 116, 32, 50, 48, 32, 100, 117, 101, 32, 54, 48, 32, 50, 48]],
 [.none, .none, .none, hp, .none, .none, .none, .none],
 .tup [.agg [zu 8, zi 20, .sl 8 0 2 .none], zi 0], [.cells [zi 60, zi 20] 3 true false 0 0 false]⟩
def e77 : Ent := ⟨7, [.str [49, 32, 52, 32, 50, 48, 32, 55, 32, 56, 48, 32, 124, 32, 48, 32, 48, 32, 124, 32, 49, 32, 48, 32, 48]],
 [.none, .none, .none, hp, .none, .none, .none, .none],
 .tup [.agg [.sl 8 0 5 .none, .sl 9 0 2 .none], zi 0], [.cells [zi 1, zi 4, zi 20, zi 7, zi 80] 3 true false 0 0 false, .cells [.sl 10 0 2 .none, .sl 11 0 3 .none] 23 true false 0 0 false, .cells [zi 0, zi 0] 3 true false 0 0 false, .cells [zi 1, zi 0, zi 0] 3 true false 0 0 false]⟩
def e78 : Ent := ⟨66, [.agg [zi 2, zi 1, .sl 8 0 2 .none, .sl 9 0 1 .none, .sl 10 0 1 .none, .nilsl, .sl 11 0 2 .none, .nilsl, .sl 12 0 2 .none, .nilsl, .sl 13 0 1 .none, .sl 14 0 1 .none, .nilsl], .agg [zu 8, zi 20, .sl 15 0 2 .none], .agg [.sl 16 0 5 .none, .sl 17 0 2 .none]],
 [.none, .none, .none, hp, .none, .none, .none, .none, some (.cells [zi 0, zi 0] 3 true true 0 0 false), some (.cells [zi 0, zi 0] 194 true true 0 0 false), some (.cells [zi 1, zi 0, zi 0, zi 1, zi 1, zi 0, zi 0] 132 true true 0 0 false), some (.cells [zi 5, zi 0, zu 1, zi 1, zi 1, zi 0, zs7, zs8, zi 40, zi 60, zi 2, zi 7, zi 0, zi 0, zi 10, zi 0, zu 1, zi 1, zi 2, zi 0, qA, zs8, zi 5, zi 9, zi 1, zi 8, zi 0, zi 0] 203 true true 0 0 false), some (.cells [zi 6, zi 5, zi 3, zu 1, zi 0, zi 0, .nilsl, zi 1, zs9, zs8, zi 10, zi 20, zi 4, zi 0, zi 0, zi 11, zi 6, zi 5, zu 1, zi 0, zi 0, .nilsl, zi 0, yn, zs8, zi 30, zi 30, zi 5, zi 0, zi 0] 200 true true 0 0 false), some (.cells [zi 15, zi 10, zi 0, .str [], zi 1, zi 5, zi 0, zi 0, zi 0] 212 true true 0 0 false), some (.cells [zi 20, zi 20, zi 20, zi 60, zi 100, zi 0, zi 0, zi 0, zi 0] 215 true true 0 0 false), some (.cells [zi 60, zi 20] 3 true true 0 0 false), some (.cells [zi 1, zi 4, zi 20, zi 7, zi 80] 3 true true 0 0 false), some (.cells [.sl 18 0 2 .none, .sl 19 0 3 .none] 23 true true 0 0 false), some (.cells [zi 0, zi 0] 3 true true 0 0 false), some (.cells [zi 1, zi 0, zi 0] 3 true true 0 0 false)],
 .tup [.bool true, zi 0], []⟩
def e79 : Ent := ⟨67, [.agg [zi 2, zi 1, .sl 8 0 2 .none, .sl 9 0 1 .none, .sl 10 0 1 .none, .nilsl, .sl 11 0 2 .none, .nilsl, .sl 12 0 2 .none, .nilsl, .sl 13 0 1 .none, .sl 14 0 1 .none, .nilsl], .agg [zu 8, zi 20, .sl 15 0 2 .none]],
 [.none, .none, .none, hp, .none, .none, .none, .none, some (.cells [zi 0, zi 0] 3 true true 0 0 false), some (.cells [zi 0, zi 0] 194 true true 0 0 false), some (.cells [zi 1, zi 0, zi 0, zi 1, zi 1, zi 0, zi 0] 132 true true 0 0 false), some (.cells [zi 5, zi 0, zu 1, zi 1, zi 1, zi 0, zs7, zs8, zi 40, zi 60, zi 2, zi 7, zi 0, zi 0, zi 10, zi 0, zu 1, zi 1, zi 2, zi 0, qA, zs8, zi 5, zi 9, zi 1, zi 8, zi 0, zi 0] 203 true true 0 0 false), some (.cells [zi 6, zi 5, zi 3, zu 1, zi 0, zi 0, .nilsl, zi 1, zs9, zs8, zi 10, zi 20, zi 4, zi 0, zi 0, zi 11, zi 6, zi 5, zu 1, zi 0, zi 0, .nilsl, zi 0, yn, zs8, zi 30, zi 30, zi 5, zi 0, zi 0] 200 true true 0 0 false), some (.cells [zi 15, zi 10, zi 0, .str [], zi 1, zi 5, zi 0, zi 0, zi 0] 212 true true 0 0 false), some (.cells [zi 20, zi 20, zi 20, zi 60, zi 100, zi 0, zi 0, zi 0, zi 0] 215 true true 0 0 false), some (.cells [zi 60, zi 20] 3 true true 0 0 false)],
 .tup [.agg [.sl 16 0 5 .none, .sl 17 0 2 .none], zi 0], [.cells [zi 1, zi 4, zi 20, zi 7, zi 80] 3 true false 0 0 false, .cells [.sl 18 0 2 (.some 2), .sl 19 0 3 .none] 23 true false 0 0 false, .cells [zi 0, zi 0] 3 false false 0 0 false, .cells [zi 1, zi 0, zi 0] 3 true false 0 0 false]⟩
def T0 : List Ent := []
def T1 : List Ent := e0 :: T0
def T2 : List Ent := e1 :: T1
def T3 : List Ent := e2 :: T2
def T4 : List Ent := e3 :: T3
def T5 : List Ent := e4 :: T4
def T6 : List Ent := e5 :: T5
def T7 : List Ent := e6 :: T6
def T8 : List Ent := e7 :: T7
def T9 : List Ent := e8 :: T8
def T10 : List Ent := e9 :: T9
def T11 : List Ent := e10 :: T10
def T12 : List Ent := e11 :: T11
def T13 : List Ent := e12 :: T12
def T14 : List Ent := e13 :: T13
def T15 : List Ent := e14 :: T14
def T16 : List Ent := e15 :: T15
def T17 : List Ent := e16 :: T16
def T18 : List Ent := e17 :: T17
def T19 : List Ent := e18 :: T18
def T20 : List Ent := e19 :: T19
def T21 : List Ent := e20 :: T20
def T22 : List Ent := e21 :: T21
def T23 : List Ent := e22 :: T22
def T24 : List Ent := e23 :: T23
def T25 : List Ent := e24 :: T24
def T26 : List Ent := e25 :: T25
def T27 : List Ent := e26 :: T26
def T28 : List Ent := e27 :: T27
def T29 : List Ent := e28 :: T28
def T30 : List Ent := e29 :: T29
def T31 : List Ent := e30 :: T30
def T32 : List Ent := e31 :: T31
def T33 : List Ent := e32 :: T32
def T34 : List Ent := e33 :: T33
def T35 : List Ent := e34 :: T34
def T36 : List Ent := e35 :: T35
def T37 : List Ent := e36 :: T36
def T38 : List Ent := e37 :: T37
def T39 : List Ent := e38 :: T38
def T40 : List Ent := e39 :: T39
def T41 : List Ent := e40 :: T40
def T42 : List Ent := e41 :: T41
def T43 : List Ent := e42 :: T42
def T44 : List Ent := e43 :: T43
def T45 : List Ent := e44 :: T44
def T46 : List Ent := e45 :: T45
def T47 : List Ent := e46 :: T46
def T48 : List Ent := e47 :: T47
def T49 : List Ent := e48 :: T48
def T50 : List Ent := e49 :: T49
def T51 : List Ent := e50 :: T50
def T52 : List Ent := e51 :: T51
def T53 : List Ent := e52 :: T52
def T54 : List Ent := e53 :: T53
def T55 : List Ent := e54 :: T54
def T56 : List Ent := e55 :: T55
def T57 : List Ent := e56 :: T56
def T58 : List Ent := e57 :: T57
def T59 : List Ent := e58 :: T58
def T60 : List Ent := e59 :: T59
def T61 : List Ent := e60 :: T60
def T62 : List Ent := e61 :: T61
def T63 : List Ent := e62 :: T62
def T64 : List Ent := e63 :: T63
def T65 : List Ent := e64 :: T64
def T66 : List Ent := e65 :: T65
def T67 : List Ent := e66 :: T66
def T68 : List Ent := e67 :: T67
def T69 : List Ent := e68 :: T68
def T70 : List Ent := e69 :: T69
def T71 : List Ent := e70 :: T70
def T72 : List Ent := e71 :: T71
def T73 : List Ent := e72 :: T72
def T74 : List Ent := e73 :: T73
def T75 : List Ent := e74 :: T74
def T76 : List Ent := e75 :: T75
def T77 : List Ent := e76 :: T76
def T78 : List Ent := e77 :: T77
def T79 : List Ent := e78 :: T78
def T80 : List Ent := e79 :: T79
end
end Go.Ev
end
