import Derived.Test.YtjhljcnjafbkfaaDoorQB2
import Derived.Test.YtjhljcnjafbkfaaDoorProg
import Derived.KernelRfl
set_option linter.unusedSimpArgs false
set_option linter.unusedVariables false
set_option linter.unusedVariables false
set_option linter.unusedSimpArgs false
set_option linter.defProp false
set_option maxHeartbeats 1000000
set_option maxRecDepth 20000
namespace Go.Proofs.YtjhljcnjafbkfaaDoor.X
open Go.RowKit
structure S23 where
  f0 : Int
  f1 : Int
def z23 : S23 := ⟨0, 0⟩
theorem zf23 : (z23.f0 = 0) ∧ (z23.f1 = 0) := ⟨rfl, rfl⟩
structure S56 where
  f0 : Int
  f1 : Int
  f2 : Int
def z56 : S56 := ⟨0, 0, 0⟩
theorem zf56 : (z56.f0 = 0) ∧ (z56.f1 = 0) ∧ (z56.f2 = 0) := ⟨rfl, rfl, rfl⟩
structure S31 where
  f0 : Bool
  f1 : List Int
  f2 : List Int
def z31 : S31 := ⟨false, ([] : List Int), ([] : List Int)⟩
theorem zf31 : (z31.f0 = false) ∧ (z31.f1 = ([] : List Int)) ∧ (z31.f2 = ([] : List Int)) := ⟨rfl, rfl, rfl⟩
structure S39 where
  f0 : Int
  f1 : Int
  f2 : Int
def z39 : S39 := ⟨0, 0, 0⟩
theorem zf39 : (z39.f0 = 0) ∧ (z39.f1 = 0) ∧ (z39.f2 = 0) := ⟨rfl, rfl, rfl⟩
structure S62 where
  f0 : Bool
  f1 : List Int
def z62 : S62 := ⟨false, ([] : List Int)⟩
theorem zf62 : (z62.f0 = false) ∧ (z62.f1 = ([] : List Int)) := ⟨rfl, rfl⟩
structure S42 where
  f0 : Int
  f1 : Int
def z42 : S42 := ⟨0, 0⟩
theorem zf42 : (z42.f0 = 0) ∧ (z42.f1 = 0) := ⟨rfl, rfl⟩
def e3 (x : Int) : List PV := [pI .i64 x]
def e9 (x : ByteArray) : List PV := [pS x]
def e23 (x : S23) : List PV := [pI .i32 x.f0, pI .i32 x.f1]
def e78 (x : Int) : List PV := [pI .u32 x]
def e29 (x : List Int) : List PV := [.sl 1 (x.map e78)]
def e31 (x : S31) : List PV := [pB x.f0, .sl 1 (x.f1.map e78), .sl 1 (x.f2.map e78)]
def e39 (x : S39) : List PV := [pI .i32 x.f0, pI .i32 x.f1, pI .i32 x.f2]
def e42 (x : S42) : List PV := [pI .u8 x.f0, pI .u8 x.f1]
def e56 (x : S56) : List PV := [pI .i64 x.f0, pI .i64 x.f1, pI .i64 x.f2]
def e62 (x : S62) : List PV := [pB x.f0, .sl 1 (x.f1.map e78)]
def wf39 (x : S39) : Prop := ((Lit.int .i32 x.f0).wf = true) ∧ ((Lit.int .i32 x.f1).wf = true) ∧ ((Lit.int .i32 x.f2).wf = true)
theorem st3 {l : List Int} {i : Nat} {x : Int} : (l.map e3).set i [.sc (.int .i64 x)] = (l.set i x).map e3 := by rw [List.map_set]; rfl
theorem st9 {l : List ByteArray} {i : Nat} {x : ByteArray} : (l.map e9).set i [.sc (.string x)] = (l.set i x).map e9 := by rw [List.map_set]; rfl
theorem st23 {l : List S23} {i : Nat} {x_f0 : Int} {x_f1 : Int} : (l.map e23).set i [.sc (.int .i32 x_f0), .sc (.int .i32 x_f1)] = (l.set i (⟨x_f0, x_f1⟩ : S23)).map e23 := by rw [List.map_set]; rfl
theorem st78 {l : List Int} {i : Nat} {x : Int} : (l.map e78).set i [.sc (.int .u32 x)] = (l.set i x).map e78 := by rw [List.map_set]; rfl
theorem st29 {l : List (List Int)} {i : Nat} {x : List Int} : (l.map e29).set i [.sl 1 (x.map e78)] = (l.set i x).map e29 := by rw [List.map_set]; rfl
theorem st31 {l : List S31} {i : Nat} {x_f0 : Bool} {x_f1 : List Int} {x_f2 : List Int} : (l.map e31).set i [.sc (.bool x_f0), .sl 1 (x_f1.map e78), .sl 1 (x_f2.map e78)] = (l.set i (⟨x_f0, x_f1, x_f2⟩ : S31)).map e31 := by rw [List.map_set]; rfl
theorem st39 {l : List S39} {i : Nat} {x_f0 : Int} {x_f1 : Int} {x_f2 : Int} : (l.map e39).set i [.sc (.int .i32 x_f0), .sc (.int .i32 x_f1), .sc (.int .i32 x_f2)] = (l.set i (⟨x_f0, x_f1, x_f2⟩ : S39)).map e39 := by rw [List.map_set]; rfl
theorem st42 {l : List S42} {i : Nat} {x_f0 : Int} {x_f1 : Int} : (l.map e42).set i [.sc (.int .u8 x_f0), .sc (.int .u8 x_f1)] = (l.set i (⟨x_f0, x_f1⟩ : S42)).map e42 := by rw [List.map_set]; rfl
theorem st56 {l : List S56} {i : Nat} {x_f0 : Int} {x_f1 : Int} {x_f2 : Int} : (l.map e56).set i [.sc (.int .i64 x_f0), .sc (.int .i64 x_f1), .sc (.int .i64 x_f2)] = (l.set i (⟨x_f0, x_f1, x_f2⟩ : S56)).map e56 := by rw [List.map_set]; rfl
theorem st62 {l : List S62} {i : Nat} {x_f0 : Bool} {x_f1 : List Int} : (l.map e62).set i [.sc (.bool x_f0), .sl 1 (x_f1.map e78)] = (l.set i (⟨x_f0, x_f1⟩ : S62)).map e62 := by rw [List.map_set]; rfl
def hint21 : Hint := ⟨fun r => none, fun r => if r = 2 then [0, 1, 7, 8] else [], fun r => none⟩
def hint7 : Hint := ⟨fun r => none, fun r => if r = 2 then [0, 4] else [], fun r => none⟩
def hint22 : Hint := ⟨fun r => none, fun r => [], fun r => if r = 1000011 then some [1, 2, 11] else none⟩
def hint42 : Hint := ⟨fun r => if r = 10 then some [(0, 1), (0, 2), (0, 4), (1, 4), (2, 4), (3, 4), (0, 5), (1, 5), (2, 5), (3, 5), (4, 5), (0, 6), (1, 6), (2, 6), (3, 6), (4, 6), (0, 7), (1, 7), (2, 7), (3, 7), (4, 7), (0, 8), (1, 8), (2, 8), (3, 8), (0, 9), (1, 9), (2, 9), (3, 9), (4, 10), (5, 10), (6, 10), (7, 10), (8, 10), (9, 10)] else none, fun r => if r = 8 then [6, 7, 8, 9] else [], fun r => if r = 14 then some [8, 9, 10] else none⟩
def hint24 : Hint := ⟨fun r => none, fun r => [], fun r => if r = 1000021 then some [1, 2, 21] else none⟩
def hint50 : Hint := ⟨fun r => none, fun r => [], fun r => if r = 1000022 then some [22] else none⟩
def hint28 : Hint := ⟨fun r => none, fun r => if r = 3 then [2, 3, 4] else if r = 6 then [2, 3, 4] else if r = 10 then [2, 3, 4, 5] else [], fun r => none⟩
def hint60 : Hint := ⟨fun r => none, fun r => if r = 2 then [0, 3] else [], fun r => if r = 1000015 then some [0, 3, 15] else none⟩
def hint59 : Hint := ⟨fun r => none, fun r => if r = 3 then [0, 3, 4] else [], fun r => if r = 8 then some [0, 3, 4, 5] else none⟩
def hint19 : Hint := ⟨fun r => if r = 7 then some [(0, 1), (0, 5), (1, 5), (2, 5), (3, 5), (4, 5), (0, 6), (1, 6), (2, 6), (3, 6), (4, 6), (5, 6), (0, 7), (1, 7), (2, 7), (3, 7), (4, 7), (0, 8), (1, 8), (2, 8), (3, 8), (4, 8)] else none, fun r => if r = 3 then [0, 1, 4, 5, 6] else [], fun r => none⟩
def hint29 : Hint := ⟨fun r => none, fun r => if r = 3 then [0, 1, 7, 8] else if r = 7 then [0, 7, 9] else if r = 11 then [7, 10] else [], fun r => none⟩
def hint11 : Hint := ⟨fun r => none, fun r => if r = 13 then [1, 2, 6, 10, 11, 13, 14] else [], fun r => if r = 14 then some [1, 2, 6, 10, 11, 13, 14] else none⟩
def hint31 : Hint := ⟨fun r => if r = 6 then some [(0, 1), (0, 4), (1, 4), (2, 4), (3, 4), (0, 5), (1, 5), (2, 5), (3, 5), (4, 5), (0, 6), (1, 6), (2, 6), (3, 6), (0, 7), (1, 7), (2, 7), (3, 7)] else none, fun r => if r = 4 then [0, 1, 5] else [], fun r => none⟩
def hint13 : Hint := ⟨fun r => if r = 9 then some [(15, 16), (24, 25)] else none, fun r => [], fun r => none⟩
def hint64 : Hint := ⟨fun r => if r = 7 then some [(0, 1), (0, 4), (1, 4), (2, 4), (3, 4), (0, 5), (1, 5), (2, 5), (3, 5), (4, 5), (0, 6), (1, 6), (2, 6), (3, 6), (0, 7), (1, 7), (2, 7), (3, 7)] else none, fun r => if r = 5 then [0, 1, 6] else [], fun r => none⟩
def hint66 : Hint := ⟨fun r => none, fun r => if r = 1 then [0] else [], fun r => if r = 1000014 then some [0, 14] else none⟩
def hint69 : Hint := ⟨fun r => none, fun r => if r = 3 then [0, 1, 6, 7, 8] else [], fun r => none⟩
def hint84 : Hint := ⟨fun r => none, fun r => [], fun r => if r = 4 then some [0, 2] else if r = 7 then some [0, 2] else none⟩
def hint78 : Hint := ⟨fun r => none, fun r => if r = 3 then [0, 1, 7, 13, 14] else [], fun r => if r = 8 then some [0, 1, 7, 8, 9, 13, 14] else none⟩
def hint79 : Hint := ⟨fun r => if r = 2 then some [(0, 1), (0, 2), (1, 2), (0, 3), (0, 8), (1, 8), (2, 8), (3, 8), (4, 8), (5, 8), (6, 8), (7, 8), (0, 9), (1, 9), (2, 9), (3, 9), (4, 9), (5, 9), (6, 9), (7, 9), (8, 9), (0, 10), (1, 10), (2, 10), (3, 10), (4, 10), (5, 10), (6, 10), (7, 10), (8, 10), (9, 10), (0, 11), (1, 11), (2, 11), (3, 11), (4, 11), (5, 11), (6, 11), (7, 11), (8, 11), (0, 12), (1, 12), (2, 12), (3, 12), (4, 12), (5, 12), (6, 12), (7, 12), (8, 12), (0, 13), (1, 13), (2, 13), (3, 13), (4, 13), (5, 13), (6, 13), (7, 13), (0, 14), (1, 14), (2, 14), (3, 14), (4, 14), (5, 14), (6, 14), (7, 14), (0, 15), (1, 15), (2, 15), (3, 15), (4, 15), (5, 15), (6, 15), (7, 15)] else if r = 3 then some [(0, 1), (0, 2), (1, 2), (0, 3), (1, 3), (0, 4), (0, 5), (0, 6), (0, 8), (1, 8), (2, 8), (3, 8), (4, 8), (5, 8), (6, 8), (7, 8), (0, 9), (1, 9), (2, 9), (3, 9), (4, 9), (5, 9), (6, 9), (7, 9), (8, 9), (0, 10), (1, 10), (2, 10), (3, 10), (4, 10), (5, 10), (6, 10), (7, 10), (8, 10), (9, 10), (0, 11), (1, 11), (2, 11), (3, 11), (4, 11), (5, 11), (6, 11), (7, 11), (8, 11), (9, 11), (0, 12), (1, 12), (2, 12), (3, 12), (4, 12), (5, 12), (6, 12), (7, 12), (8, 12), (0, 13), (1, 13), (2, 13), (3, 13), (4, 13), (5, 13), (6, 13), (7, 13), (8, 13), (0, 14), (1, 14), (2, 14), (3, 14), (4, 14), (5, 14), (6, 14), (7, 14), (8, 14), (0, 15), (1, 15), (2, 15), (3, 15), (4, 15), (5, 15), (6, 15), (7, 15), (8, 16), (9, 16), (10, 16), (11, 16), (12, 16), (13, 16), (14, 16), (15, 16)] else if r = 4 then some [(3, 4), (3, 5), (4, 5), (3, 6), (4, 6), (3, 7), (3, 8), (3, 9), (3, 11), (4, 11), (5, 11), (6, 11), (7, 11), (8, 11), (9, 11), (10, 11), (3, 12), (4, 12), (5, 12), (6, 12), (7, 12), (8, 12), (9, 12), (10, 12), (3, 13), (4, 13), (5, 13), (6, 13), (7, 13), (8, 13), (9, 13), (10, 13), (11, 13), (12, 13), (3, 14), (4, 14), (5, 14), (6, 14), (7, 14), (8, 14), (9, 14), (10, 14), (11, 14), (12, 14), (13, 14), (3, 15), (4, 15), (5, 15), (6, 15), (7, 15), (8, 15), (9, 15), (10, 15), (11, 15), (12, 15), (13, 15), (14, 15), (3, 16), (4, 16), (5, 16), (6, 16), (7, 16), (8, 16), (9, 16), (10, 16), (11, 16), (12, 16), (13, 16), (3, 17), (4, 17), (5, 17), (6, 17), (7, 17), (8, 17), (9, 17), (10, 17), (11, 17), (12, 17), (13, 17), (3, 18), (4, 18), (5, 18), (6, 18), (7, 18), (8, 18), (9, 18), (10, 18), (11, 18), (12, 18), (3, 19), (4, 19), (5, 19), (6, 19), (7, 19), (8, 19), (9, 19), (10, 19), (11, 19), (12, 19), (3, 20), (4, 20), (5, 20), (6, 20), (7, 20), (8, 20), (9, 20), (10, 20), (11, 20), (12, 20), (3, 21), (4, 21), (5, 21), (6, 21), (7, 21), (8, 21), (9, 21), (10, 21)] else none, fun r => if r = 4 then [0, 1, 2, 7, 9, 10] else [], fun r => if r = 8 then some [9] else if r = 1000069 then some [0, 1, 2, 7, 9, 10, 69] else none⟩
def hint80 : Hint := ⟨fun r => none, fun r => if r = 3 then [0, 1, 2, 3, 9, 10, 15, 16] else [], fun r => none⟩
def hint81 : Hint := ⟨fun r => if r = 4 then some [(0, 1), (0, 2), (1, 2), (0, 3), (1, 3), (2, 3), (0, 4), (1, 4), (0, 5), (0, 6), (0, 7), (0, 8), (1, 8), (2, 8), (3, 8), (4, 8), (5, 8), (6, 8), (7, 8), (0, 9), (1, 9), (2, 9), (3, 9), (4, 9), (5, 9), (6, 9), (7, 9), (8, 9), (0, 10), (1, 10), (2, 10), (3, 10), (4, 10), (5, 10), (6, 10), (7, 10), (0, 11)] else none, fun r => if r = 2 then [0, 1, 2, 6, 10, 11] else [], fun r => none⟩
def hint70 : Hint := ⟨fun r => if r = 16 then some [(0, 1), (0, 2), (1, 2), (0, 3), (1, 3), (2, 3), (0, 4), (1, 4), (2, 4), (0, 5), (1, 5), (0, 6), (1, 6), (0, 7), (1, 7), (0, 8), (1, 8), (0, 9), (1, 9), (2, 9), (3, 9), (4, 9), (5, 9), (6, 9), (7, 9), (8, 9), (0, 10), (1, 10), (2, 10), (3, 10), (4, 10), (5, 10), (6, 10), (7, 10), (8, 10), (9, 10), (0, 11), (1, 11), (2, 11), (3, 11), (4, 11), (5, 11), (6, 11), (7, 11), (8, 11), (0, 12), (1, 12), (2, 12), (3, 12), (4, 12), (5, 12), (6, 12), (7, 12), (8, 12), (0, 13), (1, 13), (2, 13), (3, 13), (4, 13), (5, 13), (6, 13), (7, 13), (8, 13), (0, 14), (1, 14), (0, 15), (1, 15), (2, 15), (3, 15), (4, 15), (5, 15), (6, 15), (7, 15), (8, 15), (9, 15), (10, 15), (11, 15), (12, 15), (13, 15), (14, 15), (0, 16), (1, 16), (0, 17), (1, 17)] else none, fun r => if r = 5 then [1, 6, 7, 8, 9, 10] else if r = 14 then [6, 7, 9, 12, 72, 73] else [], fun r => if r = 11 then some [1, 6, 7, 8, 9, 10, 11] else none⟩
def hint52 : Hint := ⟨fun r => none, fun r => if r = 3 then [0, 1] else [], fun r => if r = 1000015 then some [0, 1, 15] else none⟩
def hint53 : Hint := ⟨fun r => none, fun r => [], fun r => if r = 1000012 then some [0, 1, 12] else none⟩
def hint32 : Hint := ⟨fun r => none, fun r => [], fun r => if r = 1000042 then some [1, 42] else none⟩
def hint55 : Hint := ⟨fun r => none, fun r => if r = 5 then [1, 6, 26, 27, 28] else if r = 9 then [1, 6, 7, 8, 9, 26, 27, 28, 33, 34, 35] else [], fun r => if r = 1000019 then some [0, 1, 19] else none⟩
def hint74 : Hint := ⟨fun r => if r = 1 then some [(0, 1), (0, 2), (1, 2), (0, 3), (0, 4), (1, 4), (2, 4), (3, 4), (0, 5), (1, 5), (2, 5), (3, 5), (4, 5), (0, 6), (0, 7)] else none, fun r => [], fun r => none⟩
def hint73 : Hint := ⟨fun r => none, fun r => if r = 3 then [1, 5, 10, 11] else [], fun r => none⟩
def hint57 : Hint := ⟨fun r => none, fun r => [], fun r => if r = 1000013 then some [0, 1, 13] else none⟩
def hint76 : Hint := ⟨fun r => if r = 1 then some [(0, 1), (0, 3), (1, 3), (2, 3), (0, 4), (1, 4), (2, 4), (3, 4), (0, 7), (1, 7), (2, 7), (3, 7), (4, 7), (5, 7), (6, 7)] else none, fun r => [], fun r => none⟩
def hint58 : Hint := ⟨fun r => none, fun r => [], fun r => if r = 1000006 then some [0, 1, 6] else none⟩
def hint37 : Hint := ⟨fun r => none, fun r => [], fun r => if r = 6 then some [2, 3, 4] else none⟩
def hint36 : Hint := ⟨fun r => none, fun r => if r = 2 then [0, 4, 6, 9, 10, 11] else [], fun r => none⟩
def hint38 : Hint := ⟨fun r => none, fun r => if r = 3 then [0, 5, 9, 10, 11] else [], fun r => none⟩
def hint56 : Hint := ⟨fun r => none, fun r => [], fun r => if r = 1000009 then some [0, 1, 9] else none⟩
def hint35 : Hint := ⟨fun r => none, fun r => [], fun r => if r = 1000043 then some [2, 4, 8, 11, 43] else none⟩
def hint17 : Hint := ⟨fun r => if r = 3 then some [(0, 2), (1, 2), (0, 3), (1, 3), (0, 4), (1, 4), (0, 6), (1, 6), (2, 6), (3, 6), (4, 6), (5, 6)] else if r = 4 then some [(0, 2), (1, 2), (0, 3), (1, 3), (0, 4), (1, 4), (0, 6), (1, 6), (2, 6), (3, 6), (4, 6), (5, 6)] else if r = 5 then some [(0, 1), (0, 2), (0, 4), (1, 4), (2, 4), (3, 4), (0, 5), (1, 5), (2, 5), (3, 5), (0, 6), (1, 6), (2, 6), (3, 6), (4, 6), (5, 6), (0, 7), (1, 7), (2, 7), (3, 7), (4, 7), (5, 7), (0, 8), (1, 8), (2, 8), (3, 8), (4, 8), (5, 8), (11, 12)] else none, fun r => [], fun r => if r = 1000015 then some [2, 3, 4, 15] else none⟩
def hint4 : Hint := ⟨fun r => none, fun r => [], fun r => if r = 1000092 then some [3, 5, 6, 7, 8, 9, 10, 11, 12, 14, 16, 92] else if r = 1000098 then some [3, 5, 6, 8, 10, 11, 12, 14, 16, 98] else none⟩
def hint40 : Hint := ⟨fun r => none, fun r => [], fun r => if r = 3 then some [0, 1, 2] else none⟩
def hint18 : Hint := ⟨fun r => none, fun r => [], fun r => if r = 1000033 then some [0, 1, 2, 33] else if r = 1000044 then some [8, 44] else none⟩
def hint20 : Hint := ⟨fun r => none, fun r => [], fun r => if r = 1000027 then some [1, 6, 7, 8, 27] else none⟩
def hint5 : Hint := ⟨fun r => if r = 6 then some [(0, 1), (0, 2)] else if r = 10 then some [(0, 1), (0, 2)] else none, fun r => [], fun r => if r = 15 then some [8, 15, 16, 18, 22, 23, 25, 27, 29] else none⟩
def hint48 : Hint := ⟨fun r => none, fun r => if r = 3 then [0, 1, 7, 8] else [], fun r => if r = 4 then some [0, 1, 7, 8] else if r = 1000018 then some [0, 1, 7, 8, 18] else if r = 1000032 then some [0, 1, 7, 8, 32] else none⟩
def hint45 : Hint := ⟨fun r => none, fun r => [], fun r => if r = 4 then some [3] else none⟩
def H0 : FuncId → Hint := fun f => if f = 21 then hint21 else if f = 7 then hint7 else if f = 22 then hint22 else if f = 42 then hint42 else if f = 24 then hint24 else if f = 50 then hint50 else if f = 28 then hint28 else if f = 60 then hint60 else if f = 59 then hint59 else if f = 19 then hint19 else if f = 29 then hint29 else if f = 11 then hint11 else if f = 31 then hint31 else if f = 13 then hint13 else if f = 64 then hint64 else if f = 66 then hint66 else if f = 69 then hint69 else if f = 84 then hint84 else if f = 78 then hint78 else if f = 79 then hint79 else if f = 80 then hint80 else if f = 81 then hint81 else if f = 70 then hint70 else if f = 52 then hint52 else if f = 53 then hint53 else if f = 32 then hint32 else if f = 55 then hint55 else if f = 74 then hint74 else if f = 73 then hint73 else if f = 57 then hint57 else if f = 76 then hint76 else if f = 58 then hint58 else if f = 37 then hint37 else if f = 36 then hint36 else if f = 38 then hint38 else if f = 56 then hint56 else if f = 35 then hint35 else if f = 17 then hint17 else if f = 4 then hint4 else if f = 40 then hint40 else if f = 18 then hint18 else if f = 20 then hint20 else if f = 5 then hint5 else if f = 48 then hint48 else if f = 45 then hint45 else ⟨fun _ => none, fun _ => [], fun _ => none⟩
def gt0 : List ByteArray := [(⟨#[97, 99, 116, 51, 54, 53]⟩ : ByteArray), (⟨#[97, 99, 116, 51, 54, 48]⟩ : ByteArray), (⟨#[116, 104, 105, 114, 116, 121]⟩ : ByteArray), (⟨#[97, 99, 116, 97, 99, 116]⟩ : ByteArray)]
def gt1 : List Int := [0, 31, 61, 92, 122, 153, 184, 214, 245, 275, 306, 337]
noncomputable def E0 : Env := ⟨Tryd.prog, fun g => if g = 0 then some (gt0.map pS) else if g = 1 then some (gt1.map (pI .i64)) else none⟩
def gen0 : FuncId → Nat → Bool := fun f d => if f = 67 then [13].contains d else if f = 68 then [9].contains d else if f = 70 then [26, 56, 60].contains d else if f = 73 then [18].contains d else false
noncomputable def Cn : Cx := ⟨E0, gen0, H0, fun _ => none⟩
theorem H63 : ∀ r, (Cn.H 63).join r = none := fun _ => rfl
theorem TYn : (Cn.E.T 2 = some ⟨1, false, [.p none (.sc (.int .i64 0))], [], 0, 0, 0, 0, false, 0⟩) ∧ (Cn.E.T 3 = some ⟨1, false, [.p none (.sc (.int .i64 0))], [], 0, 0, 0, 0, false, 0⟩) ∧ (Cn.E.T 4 = some ⟨1, false, [.p none (.sc (.bool false))], [], 0, 0, 0, 0, false, 0⟩) ∧ (Cn.E.T 5 = some ⟨1, false, [.p none (.sc (.int .u8 0))], [], 0, 0, 0, 0, false, 0⟩) ∧ (Cn.E.T 9 = some ⟨1, false, [.p none (.sc (.string ByteArray.empty))], [], 4, 0, 0, 0, false, 0⟩) ∧ (Cn.E.T 22 = some ⟨1, false, [.p none (.sc (.int .i32 0))], [], 0, 0, 0, 0, false, 0⟩) ∧ (Cn.E.T 23 = some ⟨2, true, [.p none (.sc (.int .i32 0)), .p none (.sc (.int .i32 0))], [], 2, 2, 22, 1, false, 4⟩) ∧ (Cn.E.T 24 = some ⟨1, false, [.p none (.sc (.int .i64 0))], [], 0, 0, 0, 0, false, 0⟩) ∧ (Cn.E.T 28 = some ⟨1, false, [.p (some 0) (.sl 1 [])], [], 3, 0, 78, 1, false, 4⟩) ∧ (Cn.E.T 29 = some ⟨1, false, [.p (some 0) (.sl 1 [])], [], 3, 0, 78, 1, false, 4⟩) ∧ (Cn.E.T 31 = some ⟨3, true, [.p none (.sc (.bool false)), .p (some 0) (.sl 1 []), .p (some 0) (.sl 1 [])], [(0, 1, false, 4), (1, 1, false, 29), (2, 1, false, 29)], 1, 0, 0, 0, false, 0⟩) ∧ (Cn.E.T 39 = some ⟨3, true, [.p none (.sc (.int .i32 0)), .p none (.sc (.int .i32 0)), .p none (.sc (.int .i32 0))], [], 2, 3, 22, 1, false, 4⟩) ∧ (Cn.E.T 42 = some ⟨2, true, [.p none (.sc (.int .u8 0)), .p none (.sc (.int .u8 0))], [], 2, 2, 5, 1, false, 1⟩) ∧ (Cn.E.T 49 = some ⟨1, false, [.p (some 0) (.sl 1 [])], [], 3, 0, 9, 1, false, 16⟩) ∧ (Cn.E.T 50 = some ⟨4, true, [.p none (.sc (.string ByteArray.empty)), .p none (.sc (.string ByteArray.empty)), .p none (.sc (.string ByteArray.empty)), .p none (.sc (.string ByteArray.empty))], [], 2, 4, 9, 1, false, 16⟩) ∧ (Cn.E.T 56 = some ⟨3, true, [.p none (.sc (.int .i64 0)), .p none (.sc (.int .i64 0)), .p none (.sc (.int .i64 0))], [], 2, 3, 3, 1, false, 8⟩) ∧ (Cn.E.T 62 = some ⟨2, true, [.p none (.sc (.bool false)), .p (some 0) (.sl 1 [])], [(0, 1, false, 4), (1, 1, false, 29)], 1, 0, 0, 0, false, 0⟩) ∧ (Cn.E.T 67 = some ⟨1, false, [.p none (.sc .nilFunc)], [], 0, 0, 0, 0, false, 0⟩) ∧ (Cn.E.T 71 = some ⟨1, false, [.p none (.sc (.int .u64 0))], [], 0, 0, 0, 0, false, 0⟩) ∧ (Cn.E.T 78 = some ⟨1, false, [.p none (.sc (.int .u32 0))], [], 0, 0, 0, 0, false, 0⟩) ∧ (Cn.E.T 86 = some ⟨1, false, [.p (some 0) (.sl 2 [])], [], 3, 0, 62, 2, true, 32⟩) ∧ (Cn.E.T 87 = some ⟨1, false, [.p (some 0) (.sl 1 [])], [], 3, 0, 29, 1, false, 24⟩) ∧ (Cn.E.T 88 = some ⟨12, true, [.p none (.sc (.int .i64 0)), .p none (.sc (.int .i64 0)), .p none (.sc (.int .i64 0)), .p none (.sc (.int .i64 0)), .p none (.sc (.int .i64 0)), .p none (.sc (.int .i64 0)), .p none (.sc (.int .i64 0)), .p none (.sc (.int .i64 0)), .p none (.sc (.int .i64 0)), .p none (.sc (.int .i64 0)), .p none (.sc (.int .i64 0)), .p none (.sc (.int .i64 0))], [], 2, 12, 3, 1, false, 8⟩) ∧ (Cn.E.T 90 = some ⟨1, false, [.p (some 0) (.sl 1 [])], [], 3, 0, 3, 1, false, 8⟩) ∧ (Cn.E.T 104 = some ⟨1, false, [.p none (.sc .nilFunc)], [], 0, 0, 0, 0, false, 0⟩) ∧ (Cn.E.P.underlying 2 = some (.int .i64)) ∧ (Cn.E.P.underlying 3 = some (.int .i64)) ∧ (Cn.E.P.underlying 5 = some (.int .u8)) ∧ (Cn.E.P.underlying 22 = some (.int .i32)) ∧ (Cn.E.P.underlying 24 = some (.int .i64)) ∧ (Cn.E.P.underlying 71 = some (.int .u64)) ∧ (Cn.E.P.underlying 78 = some (.int .u32)) ∧ (Cn.E.P.underlying 4 = some .bool) ∧ (Cn.E.P.underlying 9 = some .string) := ⟨by kernel_rfl, by kernel_rfl, by kernel_rfl, by kernel_rfl, by kernel_rfl, by kernel_rfl, by kernel_rfl, by kernel_rfl, by kernel_rfl, by kernel_rfl, by kernel_rfl, by kernel_rfl, by kernel_rfl, by kernel_rfl, by kernel_rfl, by kernel_rfl, by kernel_rfl, by kernel_rfl, by kernel_rfl, by kernel_rfl, by kernel_rfl, by kernel_rfl, by kernel_rfl, by kernel_rfl, by kernel_rfl, by kernel_rfl, by kernel_rfl, by kernel_rfl, by kernel_rfl, by kernel_rfl, by kernel_rfl, by kernel_rfl, by kernel_rfl, by kernel_rfl⟩
theorem G63 {d : Nat} : Cn.gen 63 d = false := rfl
def Tfn := And.intro (@List.map_append.{0, 0}) (And.intro (@List.map_cons.{0, 0}) (And.intro (@List.map_nil.{0, 0}) (And.intro (@List.length_map.{0, 0}) (And.intro (@List.length_set.{0}) (And.intro (@List.length_replicate.{0}) (And.intro (@List.map_take.{0, 0}) (And.intro (@List.map_drop.{0, 0}) (And.intro (@tk_map) (And.intro (@List.map_replicate.{0, 0}) (And.intro zf23 (And.intro zf56 (And.intro zf31 (And.intro zf39 (And.intro zf62 (And.intro zf42 (And.intro (@st3) (And.intro (@st9) (And.intro (@st23) (And.intro (@st78) (And.intro (@st29) (And.intro (@st31) (And.intro (@st39) (And.intro (@st42) (And.intro (@st56) (And.intro (@st62) (And.intro (@pI.eq_1) (And.intro (@pB.eq_1) (And.intro (@pS.eq_1) (And.intro (@e3.eq_1) (And.intro (@e9.eq_1) (And.intro (@e23.eq_1) (And.intro (@e78.eq_1) (And.intro (@e29.eq_1) (And.intro (@e31.eq_1) (And.intro (@e39.eq_1) (And.intro (@e42.eq_1) (And.intro (@e56.eq_1) (@e62.eq_1))))))))))))))))))))))))))))))))))))))
def slices_Clone_api_Nat_uint32_n.f (x0 : List Int) : Option (List Int) := (if 0 < x0.length then (if x0.length ≤ 16777216 then (some x0) else none) else none)
noncomputable def b63 : Code := bodyOf Tryd.f63
def F63 : Fr := ⟨0, 8, 1, [], 63⟩
theorem slices_Clone_api_Nat_uint32_n.ok (x0 : List Int) (r : List Int) (h : slices_Clone_api_Nat_uint32_n.f x0 = some r) : Ret Cn 63 [(false, [.sl 1 (x0.map e78)])] [aV [.sl 1 (r.map e78)]] := by
  refine ret_of (c := b63) Tryd.func63 rfl rfl ⟨Nat.le_of_ble_eq_true rfl, Nat.le_of_ble_eq_true rfl⟩ ?_
  unfold slices_Clone_api_Nat_uint32_n.f at h
  rw [show Tryd.f63.results.toList = [.tmp 2] from rfl]
  rw [show Tryd.f63.ntmps = 8 from rfl]
  obtain ⟨h1, h⟩ := ifn h
  obtain ⟨h2, h⟩ := ifn h
  obtain rfl := Option.some.inj h
  simp only [↓Bp, ↓Bs, Bo, Bh, Ba, Bc, ↓reduceIte, Nat.reduceAdd, Nat.reduceEqDiff, Nat.reduceLT, Nat.reduceLeDiff, Nat.reduceBEq, Nat.reduceMul, Int.reduceLE, Int.reduceLT, Int.reduceEq, Int.reduceToNat, Int.cast_ofNat_Int, reduceCtorEq, G63, Tfn, b63, ↓Tryd.f63, F63, TYn, H63, h1, h2]
end Go.Proofs.YtjhljcnjafbkfaaDoor.X
