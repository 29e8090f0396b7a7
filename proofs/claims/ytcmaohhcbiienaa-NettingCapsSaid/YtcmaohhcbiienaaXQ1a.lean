import Derived.Test.YtcmaohhcbiienaaYO
import Derived.Test.YtcmaohhcbiienaaProg
import Derived.KernelRfl
/-! What Go's functions come to, as plain Lean functions, and that the evaluator says the same. PRINTED by xp.py (wip/d). -/
set_option linter.unusedVariables false
set_option linter.unusedSimpArgs false
set_option linter.defProp false
set_option maxHeartbeats 1000000
set_option maxRecDepth 20000
namespace Go.Proofs.Ytcmaohhcbiienaa.X
open Go.RowKit
structure S56 where
  f0 : Int
  f1 : Int
def z56 : S56 := ⟨0, 0⟩
theorem zf56 : (z56.f0 = 0) ∧ (z56.f1 = 0) := ⟨rfl, rfl⟩
structure S58 where
  f0 : Int
  f1 : Int
  f2 : Int
  f3 : S56
  f4 : Int
def z58 : S58 := ⟨0, 0, 0, z56, 0⟩
theorem zf58 : (z58.f0 = 0) ∧ (z58.f1 = 0) ∧ (z58.f2 = 0) ∧ (z58.f3 = z56) ∧ (z58.f4 = 0) := ⟨rfl, rfl, rfl, rfl, rfl⟩
structure S45 where
  f0 : Int
  f1 : Int
  f2 : Int
def z45 : S45 := ⟨0, 0, 0⟩
theorem zf45 : (z45.f0 = 0) ∧ (z45.f1 = 0) ∧ (z45.f2 = 0) := ⟨rfl, rfl, rfl⟩
structure S49 where
  f0 : List Int
  f1 : List Int
  f2 : List S45
def z49 : S49 := ⟨([] : List Int), ([] : List Int), ([] : List S45)⟩
theorem zf49 : (z49.f0 = ([] : List Int)) ∧ (z49.f1 = ([] : List Int)) ∧ (z49.f2 = ([] : List S45)) := ⟨rfl, rfl, rfl⟩
def e2 (x : Int) : List PV := [pI .i64 x]
def e3 (x : Int) : List PV := [pI .i64 x]
def e45 (x : S45) : List PV := [pI .i64 x.f0, pI .i64 x.f1, pI .i64 x.f2]
def e49 (x : S49) : List PV := [.sl 1 (x.f0.map e3), .sl 1 (x.f1.map e2), .sl 3 (x.f2.map e45)]
def e56 (x : S56) : List PV := [pI .i64 x.f0, pI .i64 x.f1]
def e58 (x : S58) : List PV := [pI .i64 x.f0, pI .i64 x.f1, pI .i64 x.f2, pI .i64 x.f3.f0, pI .i64 x.f3.f1, pI .i32 x.f4]
def wf56 (x : S56) : Prop := ((Lit.int .i64 x.f0).wf = true) ∧ ((Lit.int .i64 x.f1).wf = true)
def wf58 (x : S58) : Prop := ((Lit.int .i64 x.f0).wf = true) ∧ ((Lit.int .i64 x.f1).wf = true) ∧ ((Lit.int .i64 x.f2).wf = true) ∧ (wf56 x.f3) ∧ ((Lit.int .i32 x.f4).wf = true)
def wf45 (x : S45) : Prop := ((Lit.int .i64 x.f0).wf = true) ∧ ((Lit.int .i64 x.f1).wf = true) ∧ ((Lit.int .i64 x.f2).wf = true)
theorem st2 {l : List Int} {i : Nat} {x : Int} : (l.map e2).set i [.sc (.int .i64 x)] = (l.set i x).map e2 := by rw [List.map_set]; rfl
theorem st3 {l : List Int} {i : Nat} {x : Int} : (l.map e3).set i [.sc (.int .i64 x)] = (l.set i x).map e3 := by rw [List.map_set]; rfl
theorem st45 {l : List S45} {i : Nat} {x_f0 : Int} {x_f1 : Int} {x_f2 : Int} : (l.map e45).set i [.sc (.int .i64 x_f0), .sc (.int .i64 x_f1), .sc (.int .i64 x_f2)] = (l.set i (⟨x_f0, x_f1, x_f2⟩ : S45)).map e45 := by rw [List.map_set]; rfl
theorem st49 {l : List S49} {i : Nat} {x_f0 : List Int} {x_f1 : List Int} {x_f2 : List S45} : (l.map e49).set i [.sl 1 (x_f0.map e3), .sl 1 (x_f1.map e2), .sl 3 (x_f2.map e45)] = (l.set i (⟨x_f0, x_f1, x_f2⟩ : S49)).map e49 := by rw [List.map_set]; rfl
theorem st56 {l : List S56} {i : Nat} {x_f0 : Int} {x_f1 : Int} : (l.map e56).set i [.sc (.int .i64 x_f0), .sc (.int .i64 x_f1)] = (l.set i (⟨x_f0, x_f1⟩ : S56)).map e56 := by rw [List.map_set]; rfl
theorem st58 {l : List S58} {i : Nat} {x_f0 : Int} {x_f1 : Int} {x_f2 : Int} {x_f3_f0 : Int} {x_f3_f1 : Int} {x_f4 : Int} : (l.map e58).set i [.sc (.int .i64 x_f0), .sc (.int .i64 x_f1), .sc (.int .i64 x_f2), .sc (.int .i64 x_f3_f0), .sc (.int .i64 x_f3_f1), .sc (.int .i32 x_f4)] = (l.set i (⟨x_f0, x_f1, x_f2, (⟨x_f3_f0, x_f3_f1⟩ : S56), x_f4⟩ : S58)).map e58 := by rw [List.map_set]; rfl
def hint11 : Hint := ⟨fun r => if r = 4 then some [(7, 8), (7, 9), (7, 13), (8, 13), (9, 13), (10, 13), (11, 13), (12, 13), (7, 14), (8, 14), (9, 14), (10, 14), (11, 14), (12, 14)] else none, fun r => if r = 2 then [0, 5, 6, 7] else [], fun r => if r = 1000029 then some [0, 5, 6, 7, 29] else none⟩
def hint44 : Hint := ⟨fun r => none, fun r => if r = 2 then [0, 1, 7, 8] else [], fun r => none⟩
def hint26 : Hint := ⟨fun r => if r = 6 then some [(0, 1), (0, 2), (0, 5), (1, 5), (2, 5), (3, 5), (4, 5), (0, 6), (1, 6), (2, 6), (3, 6), (4, 6), (0, 7), (1, 7), (2, 7), (3, 7), (4, 7)] else if r = 7 then some [(0, 1), (0, 2), (0, 5), (1, 5), (2, 5), (3, 5), (4, 5), (0, 6), (1, 6), (2, 6), (3, 6), (4, 6), (0, 7), (1, 7), (2, 7), (3, 7), (4, 7)] else none, fun r => if r = 3 then [1, 2, 7, 11, 12, 13] else [], fun r => if r = 8 then some [1, 2, 7, 11, 12, 13] else if r = 1000027 then some [1, 2, 7, 9, 11, 12, 13, 27] else none⟩
def hint33 : Hint := ⟨fun r => none, fun r => if r = 3 then [1, 5, 6, 10, 11, 12] else [], fun r => if r = 8 then some [1, 5, 6, 10, 11, 12] else if r = 1000030 then some [1, 5, 6, 7, 9, 10, 11, 12, 30] else none⟩
def hint27 : Hint := ⟨fun r => if r = 10 then some [(0, 1), (0, 5), (1, 5), (2, 5), (3, 5), (4, 5), (0, 6), (1, 6), (2, 6), (3, 6), (4, 6), (5, 6), (0, 7), (1, 7), (2, 7), (3, 7), (4, 7), (0, 8), (1, 8), (2, 8), (3, 8), (4, 8)] else none, fun r => if r = 4 then [3, 4, 5, 6] else if r = 6 then [3, 4, 5, 6] else [], fun r => if r = 1000020 then some [3, 4, 5, 6, 20] else if r = 1000033 then some [3, 4, 5, 6, 33] else if r = 1000045 then some [3, 4, 5, 6, 45] else none⟩
def hint45 : Hint := ⟨fun r => none, fun r => if r = 2 then [0, 1, 7, 8] else [], fun r => none⟩
def hint34 : Hint := ⟨fun r => none, fun r => if r = 5 then [0, 1, 5, 6] else [], fun r => if r = 6 then some [0, 1, 5, 6] else none⟩
def hint21 : Hint := ⟨fun r => none, fun r => if r = 7 then [0, 1, 2, 3, 8, 11] else [], fun r => if r = 1000027 then some [0, 1, 2, 3, 8, 27] else none⟩
def hint12 : Hint := ⟨fun r => if r = 4 then some [(7, 8), (7, 9), (7, 13), (8, 13), (9, 13), (10, 13), (11, 13), (12, 13), (7, 14), (8, 14), (9, 14), (10, 14), (11, 14), (12, 14)] else none, fun r => if r = 2 then [0, 5, 6, 7] else [], fun r => if r = 1000029 then some [0, 5, 6, 7, 29] else none⟩
def hint22 : Hint := ⟨fun r => none, fun r => if r = 2 then [0, 5, 6, 7] else [], fun r => none⟩
def hint10 : Hint := ⟨fun r => none, fun r => if r = 3 then [0, 4, 7, 8, 9] else [], fun r => if r = 1000018 then some [0, 4, 6, 7, 8, 9, 18] else none⟩
def hint16 : Hint := ⟨fun r => if r = 6 then some [(0, 1), (0, 4), (1, 4), (2, 4), (3, 4), (0, 5), (1, 5), (2, 5), (3, 5), (4, 5), (0, 6), (1, 6), (2, 6), (3, 6), (0, 7), (1, 7), (2, 7), (3, 7)] else none, fun r => if r = 4 then [0, 1, 12, 13] else [], fun r => none⟩
def hint20 : Hint := ⟨fun r => none, fun r => if r = 3 then [0, 1, 2, 7, 8] else if r = 7 then [0, 1, 2, 7, 8, 9, 17, 18, 19] else [], fun r => if r = 12 then some [0, 1, 2, 7, 8, 9, 11, 17, 18, 19] else if r = 14 then some [0, 1, 2, 7, 8, 9, 17, 18, 19] else if r = 1000033 then some [0, 1, 2, 7, 8, 9, 11, 17, 18, 19, 33] else none⟩
def hint37 : Hint := ⟨fun r => none, fun r => if r = 4 then [1, 5, 6, 9, 10, 11] else [], fun r => if r = 9 then some [1, 5, 6, 9, 10, 11] else if r = 1000028 then some [1, 5, 6, 7, 8, 9, 10, 11, 28] else none⟩
def hint38 : Hint := ⟨fun r => none, fun r => if r = 3 then [1, 5, 9, 10, 11] else [], fun r => if r = 7 then some [1, 5, 9, 10, 11] else if r = 1000024 then some [1, 5, 7, 9, 10, 11, 24] else none⟩
def hint30 : Hint := ⟨fun r => none, fun r => if r = 2 then [1, 7, 8, 9] else [], fun r => none⟩
def hint17 : Hint := ⟨fun r => if r = 8 then some [(0, 1), (0, 5), (1, 5), (2, 5), (3, 5), (4, 5), (0, 6), (1, 6), (2, 6), (3, 6), (4, 6), (5, 6), (0, 7), (1, 7), (2, 7), (3, 7), (4, 7), (0, 8), (1, 8), (2, 8), (3, 8), (4, 8)] else none, fun r => if r = 4 then [3, 4] else [], fun r => if r = 1000022 then some [3, 4, 5, 6, 22] else none⟩
def hint24 : Hint := ⟨fun r => none, fun r => if r = 3 then [0, 1, 2, 3, 8, 9, 10] else [], fun r => none⟩
def hint19 : Hint := ⟨fun r => if r = 6 then some [(0, 1), (0, 4), (1, 4), (2, 4), (3, 4), (0, 5), (1, 5), (2, 5), (3, 5), (4, 5), (0, 6), (1, 6), (2, 6), (3, 6), (0, 7), (1, 7), (2, 7), (3, 7)] else none, fun r => if r = 4 then [0, 1, 12, 13] else [], fun r => none⟩
def hint23 : Hint := ⟨fun r => if r = 6 then some [(0, 2), (1, 2), (0, 5), (1, 5), (2, 5), (3, 5), (4, 5), (0, 6), (1, 6), (2, 6), (3, 6), (4, 6), (0, 7), (1, 7), (2, 7), (3, 7), (4, 7), (5, 7), (6, 7), (0, 8), (1, 8), (2, 8), (3, 8), (4, 8), (0, 9), (1, 9), (2, 9), (3, 9), (4, 9)] else none, fun r => if r = 4 then [2, 3, 31, 32] else [], fun r => if r = 1000028 then some [2, 3, 28] else none⟩
def hint5 : Hint := ⟨fun r => if r = 14 then some [(6, 7), (6, 8), (7, 8), (6, 9), (7, 9), (8, 9), (6, 10), (7, 10), (8, 10), (9, 10), (6, 11)] else none, fun r => [], fun r => if r = 12 then some [0, 1, 2, 3, 9, 10, 11] else if r = 1000028 then some [0, 1, 2, 3, 9, 10, 11, 28] else none⟩
def hint6 : Hint := ⟨fun r => if r = 13 then some [(16, 17), (16, 21), (17, 21), (18, 21), (19, 21), (20, 21), (16, 22), (17, 22), (18, 22), (19, 22), (20, 22), (21, 22), (16, 23), (17, 23), (18, 23), (19, 23), (20, 23), (16, 24), (17, 24), (18, 24), (19, 24), (20, 24), (28, 30), (29, 30)] else none, fun r => if r = 10 then [0, 1, 2, 3, 9, 11, 12, 79, 80, 81] else if r = 17 then [0, 1, 2, 3, 9, 12, 14, 17, 79, 80, 81, 127, 128, 129] else if r = 28 then [0, 1, 2, 3, 9, 11, 159, 160, 161] else if r = 35 then [0, 1, 2, 9, 11, 22, 176, 177] else [], fun r => if r = 21 then some [0, 1, 2, 3, 9, 12, 14, 17, 79, 80, 81, 127, 128, 129] else if r = 1000075 then some [0, 1, 2, 3, 9, 75] else if r = 1000126 then some [0, 1, 2, 3, 9, 11, 12, 14, 79, 80, 81, 126] else if r = 1000142 then some [0, 1, 2, 3, 9, 12, 14, 17, 19, 79, 80, 81, 127, 128, 129, 142] else none⟩
def H0 : FuncId → Hint := fun f => if f = 11 then hint11 else if f = 44 then hint44 else if f = 26 then hint26 else if f = 33 then hint33 else if f = 27 then hint27 else if f = 45 then hint45 else if f = 34 then hint34 else if f = 21 then hint21 else if f = 12 then hint12 else if f = 22 then hint22 else if f = 10 then hint10 else if f = 16 then hint16 else if f = 20 then hint20 else if f = 37 then hint37 else if f = 38 then hint38 else if f = 30 then hint30 else if f = 17 then hint17 else if f = 24 then hint24 else if f = 19 then hint19 else if f = 23 then hint23 else if f = 5 then hint5 else if f = 6 then hint6 else ⟨fun _ => none, fun _ => [], fun _ => none⟩
noncomputable def E0 : Env := ⟨Try.prog, fun _ => none⟩
def gen0 : FuncId → Nat → Bool := fun f d => if f = 6 then [11].contains d else if f = 17 then [11].contains d else if f = 21 then [46, 48].contains d else if f = 27 then [9].contains d else if f = 35 then [7].contains d else if f = 41 then [7].contains d else false
noncomputable def C0 : Cx := ⟨E0, gen0, H0, fun _ => none⟩
theorem H11 : ((C0.H 11).keep 2 = [0, 5, 6, 7]) ∧ ((C0.H 11).join 1000029 = some [0, 5, 6, 7, 29]) ∧ ((C0.H 11).join 1 = none) ∧ ((C0.H 11).join 4 = none) ∧ ((C0.H 11).join 6 = none) ∧ ((C0.H 11).join 7 = none) ∧ ((C0.H 11).join 1000008 = none) := ⟨rfl, rfl, rfl, rfl, rfl, rfl, rfl⟩
theorem H44 : ((C0.H 44).keep 2 = [0, 1, 7, 8]) ∧ ((C0.H 44).join 1 = none) ∧ ((C0.H 44).join 4 = none) ∧ ((C0.H 44).join 6 = none) ∧ ((C0.H 44).join 7 = none) ∧ ((C0.H 44).join 1000009 = none) ∧ ((C0.H 44).join 1000016 = none) := ⟨rfl, rfl, rfl, rfl, rfl, rfl, rfl⟩
theorem H26 : ((C0.H 26).keep 3 = [1, 2, 7, 11, 12, 13]) ∧ ((C0.H 26).join 8 = some [1, 2, 7, 11, 12, 13]) ∧ ((C0.H 26).join 1000027 = some [1, 2, 7, 9, 11, 12, 13, 27]) ∧ ((C0.H 26).join 1 = none) ∧ ((C0.H 26).join 2 = none) ∧ ((C0.H 26).join 5 = none) ∧ ((C0.H 26).join 7 = none) ∧ ((C0.H 26).join 9 = none) ∧ ((C0.H 26).join 1000014 = none) := ⟨rfl, rfl, rfl, rfl, rfl, rfl, rfl, rfl, rfl⟩
theorem H33 : ((C0.H 33).keep 3 = [1, 5, 6, 10, 11, 12]) ∧ ((C0.H 33).join 8 = some [1, 5, 6, 10, 11, 12]) ∧ ((C0.H 33).join 1000030 = some [1, 5, 6, 7, 9, 10, 11, 12, 30]) ∧ ((C0.H 33).join 1 = none) ∧ ((C0.H 33).join 2 = none) ∧ ((C0.H 33).join 5 = none) ∧ ((C0.H 33).join 6 = none) ∧ ((C0.H 33).join 9 = none) ∧ ((C0.H 33).join 1000013 = none) := ⟨rfl, rfl, rfl, rfl, rfl, rfl, rfl, rfl, rfl⟩
theorem H27 : ((C0.H 27).keep 4 = [3, 4, 5, 6]) ∧ ((C0.H 27).keep 6 = [3, 4, 5, 6]) ∧ ((C0.H 27).join 1000020 = some [3, 4, 5, 6, 20]) ∧ ((C0.H 27).join 1000033 = some [3, 4, 5, 6, 33]) ∧ ((C0.H 27).join 1000045 = some [3, 4, 5, 6, 45]) ∧ ((C0.H 27).join 1 = none) ∧ ((C0.H 27).join 2 = none) ∧ ((C0.H 27).join 3 = none) ∧ ((C0.H 27).join 8 = none) ∧ ((C0.H 27).join 10 = none) ∧ ((C0.H 27).join 11 = none) ∧ ((C0.H 27).join 12 = none) ∧ ((C0.H 27).join 13 = none) := ⟨rfl, rfl, rfl, rfl, rfl, rfl, rfl, rfl, rfl, rfl, rfl, rfl, rfl⟩
theorem H45 : ((C0.H 45).keep 2 = [0, 1, 7, 8]) ∧ ((C0.H 45).join 1 = none) ∧ ((C0.H 45).join 4 = none) ∧ ((C0.H 45).join 6 = none) ∧ ((C0.H 45).join 7 = none) ∧ ((C0.H 45).join 1000009 = none) ∧ ((C0.H 45).join 1000016 = none) := ⟨rfl, rfl, rfl, rfl, rfl, rfl, rfl⟩
theorem H34 : ((C0.H 34).keep 5 = [0, 1, 5, 6]) ∧ ((C0.H 34).join 6 = some [0, 1, 5, 6]) ∧ ((C0.H 34).join 1 = none) ∧ ((C0.H 34).join 2 = none) ∧ ((C0.H 34).join 4 = none) ∧ ((C0.H 34).join 8 = none) ∧ ((C0.H 34).join 10 = none) ∧ ((C0.H 34).join 11 = none) ∧ ((C0.H 34).join 12 = none) ∧ ((C0.H 34).join 1000012 = none) ∧ ((C0.H 34).join 1000019 = none) ∧ ((C0.H 34).join 1000029 = none) := ⟨rfl, rfl, rfl, rfl, rfl, rfl, rfl, rfl, rfl, rfl, rfl, rfl⟩
theorem H21 : ((C0.H 21).keep 7 = [0, 1, 2, 3, 8, 11]) ∧ ((C0.H 21).join 1000027 = some [0, 1, 2, 3, 8, 27]) ∧ ((C0.H 21).join 1 = none) ∧ ((C0.H 21).join 2 = none) ∧ ((C0.H 21).join 4 = none) ∧ ((C0.H 21).join 6 = none) ∧ ((C0.H 21).join 8 = none) ∧ ((C0.H 21).join 10 = none) ∧ ((C0.H 21).join 11 = none) ∧ ((C0.H 21).join 12 = none) ∧ ((C0.H 21).join 1000018 = none) ∧ ((C0.H 21).join 1000039 = none) := ⟨rfl, rfl, rfl, rfl, rfl, rfl, rfl, rfl, rfl, rfl, rfl, rfl⟩
theorem H12 : ((C0.H 12).keep 2 = [0, 5, 6, 7]) ∧ ((C0.H 12).join 1000029 = some [0, 5, 6, 7, 29]) ∧ ((C0.H 12).join 1 = none) ∧ ((C0.H 12).join 4 = none) ∧ ((C0.H 12).join 6 = none) ∧ ((C0.H 12).join 7 = none) ∧ ((C0.H 12).join 1000008 = none) := ⟨rfl, rfl, rfl, rfl, rfl, rfl, rfl⟩
theorem H22 : ((C0.H 22).keep 2 = [0, 5, 6, 7]) ∧ ((C0.H 22).join 1 = none) ∧ ((C0.H 22).join 4 = none) ∧ ((C0.H 22).join 6 = none) ∧ ((C0.H 22).join 7 = none) ∧ ((C0.H 22).join 1000008 = none) ∧ ((C0.H 22).join 1000012 = none) := ⟨rfl, rfl, rfl, rfl, rfl, rfl, rfl⟩
theorem H10 : ((C0.H 10).keep 3 = [0, 4, 7, 8, 9]) ∧ ((C0.H 10).join 1000018 = some [0, 4, 6, 7, 8, 9, 18]) ∧ ((C0.H 10).join 1 = none) ∧ ((C0.H 10).join 2 = none) ∧ ((C0.H 10).join 5 = none) ∧ ((C0.H 10).join 7 = none) ∧ ((C0.H 10).join 8 = none) ∧ ((C0.H 10).join 13 = none) ∧ ((C0.H 10).join 1000010 = none) ∧ ((C0.H 10).join 1000023 = none) ∧ ((C0.H 10).join 1000027 = none) := ⟨rfl, rfl, rfl, rfl, rfl, rfl, rfl, rfl, rfl, rfl, rfl⟩
theorem H16 : ((C0.H 16).keep 4 = [0, 1, 12, 13]) ∧ ((C0.H 16).join 1 = none) ∧ ((C0.H 16).join 3 = none) ∧ ((C0.H 16).join 6 = none) ∧ ((C0.H 16).join 8 = none) ∧ ((C0.H 16).join 9 = none) ∧ ((C0.H 16).join 1000010 = none) ∧ ((C0.H 16).join 1000014 = none) ∧ ((C0.H 16).join 1000024 = none) := ⟨rfl, rfl, rfl, rfl, rfl, rfl, rfl, rfl, rfl⟩
theorem H20 : ((C0.H 20).keep 3 = [0, 1, 2, 7, 8]) ∧ ((C0.H 20).keep 7 = [0, 1, 2, 7, 8, 9, 17, 18, 19]) ∧ ((C0.H 20).join 12 = some [0, 1, 2, 7, 8, 9, 11, 17, 18, 19]) ∧ ((C0.H 20).join 14 = some [0, 1, 2, 7, 8, 9, 17, 18, 19]) ∧ ((C0.H 20).join 1000033 = some [0, 1, 2, 7, 8, 9, 11, 17, 18, 19, 33]) ∧ ((C0.H 20).join 1 = none) ∧ ((C0.H 20).join 2 = none) ∧ ((C0.H 20).join 4 = none) ∧ ((C0.H 20).join 6 = none) ∧ ((C0.H 20).join 9 = none) ∧ ((C0.H 20).join 10 = none) ∧ ((C0.H 20).join 15 = none) ∧ ((C0.H 20).join 16 = none) ∧ ((C0.H 20).join 1000014 = none) ∧ ((C0.H 20).join 1000020 = none) ∧ ((C0.H 20).join 1000037 = none) ∧ ((C0.H 20).join 1000046 = none) := ⟨rfl, rfl, rfl, rfl, rfl, rfl, rfl, rfl, rfl, rfl, rfl, rfl, rfl, rfl, rfl, rfl, rfl⟩
theorem H37 : ((C0.H 37).keep 4 = [1, 5, 6, 9, 10, 11]) ∧ ((C0.H 37).join 9 = some [1, 5, 6, 9, 10, 11]) ∧ ((C0.H 37).join 1000028 = some [1, 5, 6, 7, 8, 9, 10, 11, 28]) ∧ ((C0.H 37).join 1 = none) ∧ ((C0.H 37).join 2 = none) ∧ ((C0.H 37).join 3 = none) ∧ ((C0.H 37).join 6 = none) ∧ ((C0.H 37).join 8 = none) ∧ ((C0.H 37).join 10 = none) ∧ ((C0.H 37).join 1000012 = none) := ⟨rfl, rfl, rfl, rfl, rfl, rfl, rfl, rfl, rfl, rfl⟩
theorem H38 : ((C0.H 38).keep 3 = [1, 5, 9, 10, 11]) ∧ ((C0.H 38).join 7 = some [1, 5, 9, 10, 11]) ∧ ((C0.H 38).join 1000024 = some [1, 5, 7, 9, 10, 11, 24]) ∧ ((C0.H 38).join 1 = none) ∧ ((C0.H 38).join 2 = none) ∧ ((C0.H 38).join 5 = none) ∧ ((C0.H 38).join 8 = none) ∧ ((C0.H 38).join 1000012 = none) := ⟨rfl, rfl, rfl, rfl, rfl, rfl, rfl, rfl⟩
theorem H30 : ((C0.H 30).keep 2 = [1, 7, 8, 9]) ∧ ((C0.H 30).join 1 = none) ∧ ((C0.H 30).join 4 = none) ∧ ((C0.H 30).join 6 = none) ∧ ((C0.H 30).join 7 = none) ∧ ((C0.H 30).join 1000010 = none) ∧ ((C0.H 30).join 1000017 = none) := ⟨rfl, rfl, rfl, rfl, rfl, rfl, rfl⟩
theorem H17 : ((C0.H 17).keep 4 = [3, 4]) ∧ ((C0.H 17).join 1000022 = some [3, 4, 5, 6, 22]) ∧ ((C0.H 17).join 1 = none) ∧ ((C0.H 17).join 2 = none) ∧ ((C0.H 17).join 3 = none) ∧ ((C0.H 17).join 5 = none) ∧ ((C0.H 17).join 6 = none) ∧ ((C0.H 17).join 8 = none) ∧ ((C0.H 17).join 9 = none) ∧ ((C0.H 17).join 10 = none) ∧ ((C0.H 17).join 11 = none) := ⟨rfl, rfl, rfl, rfl, rfl, rfl, rfl, rfl, rfl, rfl, rfl⟩
theorem H24 : ((C0.H 24).keep 3 = [0, 1, 2, 3, 8, 9, 10]) ∧ ((C0.H 24).join 1 = none) ∧ ((C0.H 24).join 2 = none) ∧ ((C0.H 24).join 5 = none) ∧ ((C0.H 24).join 6 = none) ∧ ((C0.H 24).join 7 = none) ∧ ((C0.H 24).join 8 = none) ∧ ((C0.H 24).join 1000020 = none) := ⟨rfl, rfl, rfl, rfl, rfl, rfl, rfl, rfl⟩
theorem H19 : ((C0.H 19).keep 4 = [0, 1, 12, 13]) ∧ ((C0.H 19).join 1 = none) ∧ ((C0.H 19).join 3 = none) ∧ ((C0.H 19).join 6 = none) ∧ ((C0.H 19).join 8 = none) ∧ ((C0.H 19).join 9 = none) ∧ ((C0.H 19).join 1000010 = none) ∧ ((C0.H 19).join 1000014 = none) ∧ ((C0.H 19).join 1000024 = none) := ⟨rfl, rfl, rfl, rfl, rfl, rfl, rfl, rfl, rfl⟩
theorem H23 : ((C0.H 23).keep 4 = [2, 3, 31, 32]) ∧ ((C0.H 23).join 1000028 = some [2, 3, 28]) ∧ ((C0.H 23).join 1 = none) ∧ ((C0.H 23).join 3 = none) ∧ ((C0.H 23).join 6 = none) ∧ ((C0.H 23).join 8 = none) ∧ ((C0.H 23).join 9 = none) ∧ ((C0.H 23).join 1000033 = none) ∧ ((C0.H 23).join 1000045 = none) := ⟨rfl, rfl, rfl, rfl, rfl, rfl, rfl, rfl, rfl⟩
theorem H5 : ((C0.H 5).join 12 = some [0, 1, 2, 3, 9, 10, 11]) ∧ ((C0.H 5).join 1000028 = some [0, 1, 2, 3, 9, 10, 11, 28]) ∧ ((C0.H 5).join 1 = none) ∧ ((C0.H 5).join 2 = none) ∧ ((C0.H 5).join 3 = none) ∧ ((C0.H 5).join 14 = none) ∧ ((C0.H 5).join 1000024 = none) ∧ ((C0.H 5).join 1000035 = none) ∧ ((C0.H 5).join 1000039 = none) ∧ ((C0.H 5).join 1000044 = none) := ⟨rfl, rfl, rfl, rfl, rfl, rfl, rfl, rfl, rfl, rfl⟩
theorem H6 : ((C0.H 6).keep 10 = [0, 1, 2, 3, 9, 11, 12, 79, 80, 81]) ∧ ((C0.H 6).keep 17 = [0, 1, 2, 3, 9, 12, 14, 17, 79, 80, 81, 127, 128, 129]) ∧ ((C0.H 6).keep 28 = [0, 1, 2, 3, 9, 11, 159, 160, 161]) ∧ ((C0.H 6).keep 35 = [0, 1, 2, 9, 11, 22, 176, 177]) ∧ ((C0.H 6).join 21 = some [0, 1, 2, 3, 9, 12, 14, 17, 79, 80, 81, 127, 128, 129]) ∧ ((C0.H 6).join 1000075 = some [0, 1, 2, 3, 9, 75]) ∧ ((C0.H 6).join 1000126 = some [0, 1, 2, 3, 9, 11, 12, 14, 79, 80, 81, 126]) ∧ ((C0.H 6).join 1000142 = some [0, 1, 2, 3, 9, 12, 14, 17, 19, 79, 80, 81, 127, 128, 129, 142]) ∧ ((C0.H 6).join 1 = none) ∧ ((C0.H 6).join 2 = none) ∧ ((C0.H 6).join 3 = none) ∧ ((C0.H 6).join 5 = none) ∧ ((C0.H 6).join 7 = none) ∧ ((C0.H 6).join 8 = none) ∧ ((C0.H 6).join 9 = none) ∧ ((C0.H 6).join 12 = none) ∧ ((C0.H 6).join 13 = none) ∧ ((C0.H 6).join 15 = none) ∧ ((C0.H 6).join 16 = none) ∧ ((C0.H 6).join 19 = none) ∧ ((C0.H 6).join 22 = none) ∧ ((C0.H 6).join 23 = none) ∧ ((C0.H 6).join 24 = none) ∧ ((C0.H 6).join 26 = none) ∧ ((C0.H 6).join 27 = none) ∧ ((C0.H 6).join 30 = none) ∧ ((C0.H 6).join 32 = none) ∧ ((C0.H 6).join 33 = none) ∧ ((C0.H 6).join 34 = none) ∧ ((C0.H 6).join 37 = none) ∧ ((C0.H 6).join 38 = none) ∧ ((C0.H 6).join 39 = none) ∧ ((C0.H 6).join 40 = none) ∧ ((C0.H 6).join 41 = none) ∧ ((C0.H 6).join 42 = none) ∧ ((C0.H 6).join 1000043 = none) ∧ ((C0.H 6).join 1000082 = none) ∧ ((C0.H 6).join 1000130 = none) ∧ ((C0.H 6).join 1000156 = none) ∧ ((C0.H 6).join 1000162 = none) ∧ ((C0.H 6).join 1000172 = none) ∧ ((C0.H 6).join 1000178 = none) := ⟨rfl, rfl, rfl, rfl, rfl, rfl, rfl, rfl, rfl, rfl, rfl, rfl, rfl, rfl, rfl, rfl, rfl, rfl, rfl, rfl, rfl, rfl, rfl, rfl, rfl, rfl, rfl, rfl, rfl, rfl, rfl, rfl, rfl, rfl, rfl, rfl, rfl, rfl, rfl, rfl, rfl, rfl⟩
theorem H7 : ∀ r, (C0.H 7).join r = none := fun _ => rfl
theorem H8 : ∀ r, (C0.H 8).join r = none := fun _ => rfl
theorem H42 : ∀ r, (C0.H 42).join r = none := fun _ => rfl
theorem H39 : ∀ r, (C0.H 39).join r = none := fun _ => rfl
theorem H40 : ∀ r, (C0.H 40).join r = none := fun _ => rfl
theorem H28 : ∀ r, (C0.H 28).join r = none := fun _ => rfl
theorem H25 : ∀ r, (C0.H 25).join r = none := fun _ => rfl
theorem H32 : ∀ r, (C0.H 32).join r = none := fun _ => rfl
theorem H31 : ∀ r, (C0.H 31).join r = none := fun _ => rfl
theorem H41 : ∀ r, (C0.H 41).join r = none := fun _ => rfl
theorem H36 : ∀ r, (C0.H 36).join r = none := fun _ => rfl
theorem H35 : ∀ r, (C0.H 35).join r = none := fun _ => rfl
theorem H43 : ∀ r, (C0.H 43).join r = none := fun _ => rfl
theorem H18 : ∀ r, (C0.H 18).join r = none := fun _ => rfl
theorem H29 : ∀ r, (C0.H 29).join r = none := fun _ => rfl
theorem H9 : ∀ r, (C0.H 9).join r = none := fun _ => rfl
theorem H13 : ∀ r, (C0.H 13).join r = none := fun _ => rfl
def tI2 : TI := ⟨1, false, [.p none (.sc (.int .i64 0))], [], 0, 0, 0, 0, false, 0⟩
def tI3 : TI := ⟨1, false, [.p none (.sc (.int .i64 0))], [], 0, 0, 0, 0, false, 0⟩
def tI22 : TI := ⟨1, false, [.p (some 0) (.sl 6 [])], [], 3, 0, 58, 6, true, 48⟩
def tI23 : TI := ⟨1, false, [.p none (.sc (.int .i64 0))], [], 0, 0, 0, 0, false, 0⟩
def tI24 : TI := ⟨1, false, [.p none (.sc (.int .i32 0))], [], 0, 0, 0, 0, false, 0⟩
def tI25 : TI := ⟨1, false, [.p (some 0) (.sl 1 [])], [], 3, 0, 2, 1, false, 8⟩
def tI31 : TI := ⟨1, false, [.p (some 0) (.sl 3 [])], [], 3, 0, 45, 3, true, 24⟩
def tI45 : TI := ⟨3, true, [.p none (.sc (.int .i64 0)), .p none (.sc (.int .i64 0)), .p none (.sc (.int .i64 0))], [(0, 1, false, 3), (1, 1, false, 3), (2, 1, false, 2)], 1, 0, 0, 0, false, 0⟩
def tI47 : TI := ⟨1, false, [.p (some 0) (.sl 1 [])], [], 3, 0, 3, 1, false, 8⟩
def tI49 : TI := ⟨3, true, [.p (some 0) (.sl 1 []), .p (some 0) (.sl 1 []), .p (some 0) (.sl 3 [])], [(0, 1, false, 47), (1, 1, false, 25), (2, 1, false, 31)], 1, 0, 0, 0, false, 0⟩
def tI54 : TI := ⟨1, false, [.p none (.sc (.map none))], [], 0, 0, 0, 0, false, 0⟩
def tI56 : TI := ⟨2, true, [.p none (.sc (.int .i64 0)), .p none (.sc (.int .i64 0))], [(0, 1, false, 23), (1, 1, false, 2)], 1, 0, 0, 0, false, 0⟩
def tI58 : TI := ⟨6, true, [.p none (.sc (.int .i64 0)), .p none (.sc (.int .i64 0)), .p none (.sc (.int .i64 0)), .p none (.sc (.int .i64 0)), .p none (.sc (.int .i64 0)), .p none (.sc (.int .i32 0))], [(0, 1, false, 3), (1, 1, false, 3), (2, 1, false, 3), (3, 2, true, 56), (5, 1, false, 24)], 1, 0, 0, 0, false, 0⟩
def tI60 : TI := ⟨1, false, [.p none (.sc .nilFunc)], [], 0, 0, 0, 0, false, 0⟩
def tI63 : TI := ⟨1, false, [.p none (.sc .nilFunc)], [], 0, 0, 0, 0, false, 0⟩
theorem TY : (C0.E.T 2 = some ⟨1, false, [.p none (.sc (.int .i64 0))], [], 0, 0, 0, 0, false, 0⟩) ∧ (C0.E.T 3 = some ⟨1, false, [.p none (.sc (.int .i64 0))], [], 0, 0, 0, 0, false, 0⟩) ∧ (C0.E.T 22 = some ⟨1, false, [.p (some 0) (.sl 6 [])], [], 3, 0, 58, 6, true, 48⟩) ∧ (C0.E.T 23 = some ⟨1, false, [.p none (.sc (.int .i64 0))], [], 0, 0, 0, 0, false, 0⟩) ∧ (C0.E.T 24 = some ⟨1, false, [.p none (.sc (.int .i32 0))], [], 0, 0, 0, 0, false, 0⟩) ∧ (C0.E.T 25 = some ⟨1, false, [.p (some 0) (.sl 1 [])], [], 3, 0, 2, 1, false, 8⟩) ∧ (C0.E.T 31 = some ⟨1, false, [.p (some 0) (.sl 3 [])], [], 3, 0, 45, 3, true, 24⟩) ∧ (C0.E.T 45 = some ⟨3, true, [.p none (.sc (.int .i64 0)), .p none (.sc (.int .i64 0)), .p none (.sc (.int .i64 0))], [(0, 1, false, 3), (1, 1, false, 3), (2, 1, false, 2)], 1, 0, 0, 0, false, 0⟩) ∧ (C0.E.T 47 = some ⟨1, false, [.p (some 0) (.sl 1 [])], [], 3, 0, 3, 1, false, 8⟩) ∧ (C0.E.T 49 = some ⟨3, true, [.p (some 0) (.sl 1 []), .p (some 0) (.sl 1 []), .p (some 0) (.sl 3 [])], [(0, 1, false, 47), (1, 1, false, 25), (2, 1, false, 31)], 1, 0, 0, 0, false, 0⟩) ∧ (C0.E.T 54 = some ⟨1, false, [.p none (.sc (.map none))], [], 0, 0, 0, 0, false, 0⟩) ∧ (C0.E.T 56 = some ⟨2, true, [.p none (.sc (.int .i64 0)), .p none (.sc (.int .i64 0))], [(0, 1, false, 23), (1, 1, false, 2)], 1, 0, 0, 0, false, 0⟩) ∧ (C0.E.T 58 = some ⟨6, true, [.p none (.sc (.int .i64 0)), .p none (.sc (.int .i64 0)), .p none (.sc (.int .i64 0)), .p none (.sc (.int .i64 0)), .p none (.sc (.int .i64 0)), .p none (.sc (.int .i32 0))], [(0, 1, false, 3), (1, 1, false, 3), (2, 1, false, 3), (3, 2, true, 56), (5, 1, false, 24)], 1, 0, 0, 0, false, 0⟩) ∧ (C0.E.T 60 = some ⟨1, false, [.p none (.sc .nilFunc)], [], 0, 0, 0, 0, false, 0⟩) ∧ (C0.E.T 63 = some ⟨1, false, [.p none (.sc .nilFunc)], [], 0, 0, 0, 0, false, 0⟩) ∧ (C0.E.P.underlying 2 = some (.int .i64)) ∧ (C0.E.P.underlying 3 = some (.int .i64)) ∧ (C0.E.P.underlying 23 = some (.int .i64)) ∧ (C0.E.P.underlying 24 = some (.int .i32)) := ⟨by kernel_rfl, by kernel_rfl, by kernel_rfl, by kernel_rfl, by kernel_rfl, by kernel_rfl, by kernel_rfl, by kernel_rfl, by kernel_rfl, by kernel_rfl, by kernel_rfl, by kernel_rfl, by kernel_rfl, by kernel_rfl, by kernel_rfl, by kernel_rfl, by kernel_rfl, by kernel_rfl, by kernel_rfl⟩
theorem G7 {d : Nat} : C0.gen 7 d = false := rfl
theorem G8 {d : Nat} : C0.gen 8 d = false := rfl
theorem G42 {d : Nat} : C0.gen 42 d = false := rfl
theorem G39 {d : Nat} : C0.gen 39 d = false := rfl
theorem G40 {d : Nat} : C0.gen 40 d = false := rfl
theorem G28 {d : Nat} : C0.gen 28 d = false := rfl
theorem G11 {d : Nat} : C0.gen 11 d = false := rfl
theorem G25 {d : Nat} : C0.gen 25 d = false := rfl
theorem G32 {d : Nat} : C0.gen 32 d = false := rfl
theorem G44 {d : Nat} : C0.gen 44 d = false := rfl
theorem G31 {d : Nat} : C0.gen 31 d = false := rfl
theorem G26 {d : Nat} : C0.gen 26 d = false := rfl
theorem G33 {d : Nat} : C0.gen 33 d = false := rfl
theorem G41 : (C0.gen 41 2 = false) ∧ (C0.gen 41 7 = true) := ⟨rfl, rfl⟩
theorem G27 : (C0.gen 27 2 = false) ∧ (C0.gen 27 3 = false) ∧ (C0.gen 27 4 = false) ∧ (C0.gen 27 5 = false) ∧ (C0.gen 27 6 = false) ∧ (C0.gen 27 7 = false) ∧ (C0.gen 27 9 = true) ∧ (C0.gen 27 12 = false) ∧ (C0.gen 27 25 = false) ∧ (C0.gen 27 38 = false) ∧ (C0.gen 27 43 = false) ∧ (C0.gen 27 56 = false) ∧ (C0.gen 27 63 = false) := ⟨rfl, rfl, rfl, rfl, rfl, rfl, rfl, rfl, rfl, rfl, rfl, rfl, rfl⟩
theorem G36 {d : Nat} : C0.gen 36 d = false := rfl
theorem G45 {d : Nat} : C0.gen 45 d = false := rfl
theorem G35 : (C0.gen 35 2 = false) ∧ (C0.gen 35 7 = true) := ⟨rfl, rfl⟩
theorem G34 {d : Nat} : C0.gen 34 d = false := rfl
theorem G21 : (C0.gen 21 0 = false) ∧ (C0.gen 21 9 = false) ∧ (C0.gen 21 10 = false) ∧ (C0.gen 21 16 = false) ∧ (C0.gen 21 22 = false) ∧ (C0.gen 21 26 = false) ∧ (C0.gen 21 32 = false) ∧ (C0.gen 21 37 = false) ∧ (C0.gen 21 42 = false) ∧ (C0.gen 21 46 = true) ∧ (C0.gen 21 48 = true) ∧ (C0.gen 21 53 = false) ∧ (C0.gen 21 57 = false) := ⟨rfl, rfl, rfl, rfl, rfl, rfl, rfl, rfl, rfl, rfl, rfl, rfl, rfl⟩
theorem G43 {d : Nat} : C0.gen 43 d = false := rfl
theorem G18 {d : Nat} : C0.gen 18 d = false := rfl
theorem G29 {d : Nat} : C0.gen 29 d = false := rfl
theorem G12 {d : Nat} : C0.gen 12 d = false := rfl
theorem G22 {d : Nat} : C0.gen 22 d = false := rfl
theorem G9 {d : Nat} : C0.gen 9 d = false := rfl
theorem G10 {d : Nat} : C0.gen 10 d = false := rfl
theorem G16 {d : Nat} : C0.gen 16 d = false := rfl
theorem G13 {d : Nat} : C0.gen 13 d = false := rfl
theorem G20 {d : Nat} : C0.gen 20 d = false := rfl
theorem G37 {d : Nat} : C0.gen 37 d = false := rfl
theorem G38 {d : Nat} : C0.gen 38 d = false := rfl
theorem G30 {d : Nat} : C0.gen 30 d = false := rfl
theorem G17 : (C0.gen 17 2 = false) ∧ (C0.gen 17 3 = false) ∧ (C0.gen 17 4 = false) ∧ (C0.gen 17 5 = false) ∧ (C0.gen 17 6 = false) ∧ (C0.gen 17 7 = false) ∧ (C0.gen 17 11 = true) ∧ (C0.gen 17 14 = false) ∧ (C0.gen 17 16 = false) ∧ (C0.gen 17 33 = false) ∧ (C0.gen 17 40 = false) := ⟨rfl, rfl, rfl, rfl, rfl, rfl, rfl, rfl, rfl, rfl, rfl⟩
theorem G24 {d : Nat} : C0.gen 24 d = false := rfl
theorem G19 {d : Nat} : C0.gen 19 d = false := rfl
theorem G23 {d : Nat} : C0.gen 23 d = false := rfl
theorem G5 {d : Nat} : C0.gen 5 d = false := rfl
theorem G6 : (C0.gen 6 0 = false) ∧ (C0.gen 6 3 = false) ∧ (C0.gen 6 8 = false) ∧ (C0.gen 6 10 = false) ∧ (C0.gen 6 11 = true) ∧ (C0.gen 6 12 = false) ∧ (C0.gen 6 14 = false) ∧ (C0.gen 6 15 = false) ∧ (C0.gen 6 16 = false) ∧ (C0.gen 6 17 = false) ∧ (C0.gen 6 20 = false) ∧ (C0.gen 6 21 = false) ∧ (C0.gen 6 22 = false) ∧ (C0.gen 6 23 = false) ∧ (C0.gen 6 25 = false) ∧ (C0.gen 6 26 = false) ∧ (C0.gen 6 27 = false) ∧ (C0.gen 6 28 = false) ∧ (C0.gen 6 29 = false) ∧ (C0.gen 6 31 = false) ∧ (C0.gen 6 33 = false) ∧ (C0.gen 6 39 = false) ∧ (C0.gen 6 44 = false) ∧ (C0.gen 6 48 = false) ∧ (C0.gen 6 54 = false) ∧ (C0.gen 6 59 = false) ∧ (C0.gen 6 63 = false) ∧ (C0.gen 6 69 = false) ∧ (C0.gen 6 73 = false) ∧ (C0.gen 6 80 = false) ∧ (C0.gen 6 89 = false) ∧ (C0.gen 6 96 = false) ∧ (C0.gen 6 128 = false) ∧ (C0.gen 6 146 = false) ∧ (C0.gen 6 160 = false) ∧ (C0.gen 6 176 = false) ∧ (C0.gen 6 189 = false) ∧ (C0.gen 6 196 = false) ∧ (C0.gen 6 203 = false) ∧ (C0.gen 6 219 = false) ∧ (C0.gen 6 226 = false) ∧ (C0.gen 6 232 = false) := ⟨rfl, rfl, rfl, rfl, rfl, rfl, rfl, rfl, rfl, rfl, rfl, rfl, rfl, rfl, rfl, rfl, rfl, rfl, rfl, rfl, rfl, rfl, rfl, rfl, rfl, rfl, rfl, rfl, rfl, rfl, rfl, rfl, rfl, rfl, rfl, rfl, rfl, rfl, rfl, rfl, rfl, rfl⟩
theorem neq45 {x y : Operand} {a0 : Int} {a1 : Int} {a2 : Int} {b0 : Int} {b1 : Int} {b2 : Int} : bin3 C0.E.P .neq 45 x y (.agg [.p none (.sc (.int .i64 a0)), .p none (.sc (.int .i64 a1)), .p none (.sc (.int .i64 a2))]) (.agg [.p none (.sc (.int .i64 b0)), .p none (.sc (.int .i64 b1)), .p none (.sc (.int .i64 b2))]) = some { val := .one (.p none (.sc (.bool (!((a0 == b0) && ((a1 == b1) && ((a2 == b2) && true))))))) } := bin3_a (by kernel_rfl)
theorem mg54 {m : MapE} {key r : Int} (h : mGetI .i64 .i64 m key = some r) : mapGet C0.E 54 m.1 (.int .i64 key) false = some (.one (.p none (.sc (.int .i64 r)))) := mapGet_i (kt := 3) (et := 3) (by kernel_rfl) (by kernel_rfl) (by kernel_rfl) h
theorem mp54 {m r : MapE} {key val : Int} (h : mPutI .i64 .i64 m key val = some r) : mapPut C0.E.P 54 m.1 m.2 (.int .i64 key) (.int .i64 val) = some (.mp r.1 r.2) := mapPut_i (kt := 3) (et := 3) (by kernel_rfl) (by kernel_rfl) h
def Tf := And.intro (@neq45) (And.intro (@List.map_append.{0, 0}) (And.intro (@List.map_cons.{0, 0}) (And.intro (@List.map_nil.{0, 0}) (And.intro (@List.length_map.{0, 0}) (And.intro (@List.length_set.{0}) (And.intro (@List.length_replicate.{0}) (And.intro (@List.map_take.{0, 0}) (And.intro (@List.map_drop.{0, 0}) (And.intro (@tk_map) (And.intro (@List.map_replicate.{0, 0}) (And.intro zf56 (And.intro zf58 (And.intro zf45 (And.intro zf49 (And.intro (@st2) (And.intro (@st3) (And.intro (@st45) (And.intro (@st49) (And.intro (@st56) (And.intro (@st58) (And.intro (@pI.eq_1) (And.intro (@pB.eq_1) (And.intro (@pS.eq_1) (And.intro (@e2.eq_1) (And.intro (@e3.eq_1) (And.intro (@e45.eq_1) (And.intro (@e49.eq_1) (And.intro (@e56.eq_1) (@e58.eq_1)))))))))))))))))))))))))))))
def cashbooklaw30_few.f (x0 : List S58) : Option (List S58) := (if 0 ≤ (min (x0.length : Int) 310) then (if (min (x0.length : Int) 310) ≤ (x0.length : Int) then (some (x0.take (((min (x0.length : Int) 310) : Int).toNat))) else none) else none)
noncomputable def b7 : Code := bodyOf Try.f7
def F7 : Fr := ⟨0, 8, 1, [], 7⟩
theorem cashbooklaw30_few.ok (x0 : List S58) (r : List S58) (h : cashbooklaw30_few.f x0 = some r) : Ret C0 7 [(false, [.sl 6 (x0.map e58)])] [aV [.sl 6 (r.map e58)]] := by
  refine ret_of (c := b7) Try.func7 rfl rfl ⟨Nat.le_of_ble_eq_true rfl, Nat.le_of_ble_eq_true rfl⟩ ?_
  unfold cashbooklaw30_few.f at h
  rw [show Try.f7.results.toList = [.tmp 2] from rfl]
  rw [show Try.f7.ntmps = 8 from rfl]
  obtain ⟨h1, h⟩ := ifn h
  obtain ⟨h2, h⟩ := ifn h
  obtain rfl := Option.some.inj h
  simp only [↓Bp, ↓Bs, Bo, Bh, Ba, Bc, ↓reduceIte, Nat.reduceAdd, Nat.reduceEqDiff, Nat.reduceLT, Nat.reduceLeDiff, Nat.reduceBEq, Nat.reduceMul, Int.reduceLE, Int.reduceLT, Int.reduceEq, Int.reduceToNat, reduceCtorEq, G7, Tf, b7, ↓Try.f7, F7, TY, H7, h1, h2]

def cashbooklaw30_cut.f (x0 : List Int) : Option (List Int) := (if 0 ≤ (min (x0.length : Int) 20) then (if (min (x0.length : Int) 20) ≤ (x0.length : Int) then (some (x0.take (((min (x0.length : Int) 20) : Int).toNat))) else none) else none)
noncomputable def b8 : Code := bodyOf Try.f8
def F8 : Fr := ⟨0, 8, 1, [], 8⟩
theorem cashbooklaw30_cut.ok (x0 : List Int) (r : List Int) (h : cashbooklaw30_cut.f x0 = some r) : Ret C0 8 [(false, [.sl 1 (x0.map e2)])] [aV [.sl 1 (r.map e2)]] := by
  refine ret_of (c := b8) Try.func8 rfl rfl ⟨Nat.le_of_ble_eq_true rfl, Nat.le_of_ble_eq_true rfl⟩ ?_
  unfold cashbooklaw30_cut.f at h
  rw [show Try.f8.results.toList = [.tmp 2] from rfl]
  rw [show Try.f8.ntmps = 8 from rfl]
  obtain ⟨h1, h⟩ := ifn h
  obtain ⟨h2, h⟩ := ifn h
  obtain rfl := Option.some.inj h
  simp only [↓Bp, ↓Bs, Bo, Bh, Ba, Bc, ↓reduceIte, Nat.reduceAdd, Nat.reduceEqDiff, Nat.reduceLT, Nat.reduceLeDiff, Nat.reduceBEq, Nat.reduceMul, Int.reduceLE, Int.reduceLT, Int.reduceEq, Int.reduceToNat, reduceCtorEq, G8, Tf, b8, ↓Try.f8, F8, TY, H8, h1, h2]

def netting_isBank.f (x0 : Int) : Option Bool := (if 0 ≤ x0 then (some (decide (x0 < 16))) else (some false))
noncomputable def b42 : Code := bodyOf Try.f42
def F42 : Fr := ⟨0, 9, 1, [], 42⟩
theorem netting_isBank.ok (x0 : Int) (r : Bool) (h : netting_isBank.f x0 = some r) : Ret C0 42 [(false, [.sc (.int .i64 x0)])] [aV [pB r]] := by
  refine ret_of (c := b42) Try.func42 rfl rfl ⟨Nat.le_of_ble_eq_true rfl, Nat.le_of_ble_eq_true rfl⟩ ?_
  unfold netting_isBank.f at h
  rw [show Try.f42.results.toList = [.tmp 2] from rfl]
  rw [show Try.f42.ntmps = 9 from rfl]
  by_cases h1 : 0 ≤ x0
  · rw [if_pos h1] at h
    obtain rfl := Option.some.inj h
    simp only [↓Bp, ↓Bs, Bo, Bh, Ba, Bc, ↓reduceIte, Nat.reduceAdd, Nat.reduceEqDiff, Nat.reduceLT, Nat.reduceLeDiff, Nat.reduceBEq, Nat.reduceMul, Int.reduceLE, Int.reduceLT, Int.reduceEq, Int.reduceToNat, reduceCtorEq, G42, Tf, b42, ↓Try.f42, F42, TY, H42, h1]
  · rw [if_neg h1] at h
    obtain rfl := Option.some.inj h
    simp only [↓Bp, ↓Bs, Bo, Bh, Ba, Bc, ↓reduceIte, Nat.reduceAdd, Nat.reduceEqDiff, Nat.reduceLT, Nat.reduceLeDiff, Nat.reduceBEq, Nat.reduceMul, Int.reduceLE, Int.reduceLT, Int.reduceEq, Int.reduceToNat, reduceCtorEq, G42, Tf, b42, ↓Try.f42, F42, TY, H42, h1]

def netting_isCurrency.f (x0 : Int) : Option Bool := (if 0 ≤ x0 then (some (decide (x0 ≤ 3))) else (some false))
noncomputable def b39 : Code := bodyOf Try.f39
def F39 : Fr := ⟨0, 9, 1, [], 39⟩
theorem netting_isCurrency.ok (x0 : Int) (r : Bool) (h : netting_isCurrency.f x0 = some r) : Ret C0 39 [(false, [.sc (.int .i64 x0)])] [aV [pB r]] := by
  refine ret_of (c := b39) Try.func39 rfl rfl ⟨Nat.le_of_ble_eq_true rfl, Nat.le_of_ble_eq_true rfl⟩ ?_
  unfold netting_isCurrency.f at h
  rw [show Try.f39.results.toList = [.tmp 2] from rfl]
  rw [show Try.f39.ntmps = 9 from rfl]
  by_cases h1 : 0 ≤ x0
  · rw [if_pos h1] at h
    obtain rfl := Option.some.inj h
    simp only [↓Bp, ↓Bs, Bo, Bh, Ba, Bc, ↓reduceIte, Nat.reduceAdd, Nat.reduceEqDiff, Nat.reduceLT, Nat.reduceLeDiff, Nat.reduceBEq, Nat.reduceMul, Int.reduceLE, Int.reduceLT, Int.reduceEq, Int.reduceToNat, reduceCtorEq, G39, Tf, b39, ↓Try.f39, F39, TY, H39, h1]
  · rw [if_neg h1] at h
    obtain rfl := Option.some.inj h
    simp only [↓Bp, ↓Bs, Bo, Bh, Ba, Bc, ↓reduceIte, Nat.reduceAdd, Nat.reduceEqDiff, Nat.reduceLT, Nat.reduceLeDiff, Nat.reduceBEq, Nat.reduceMul, Int.reduceLE, Int.reduceLT, Int.reduceEq, Int.reduceToNat, reduceCtorEq, G39, Tf, b39, ↓Try.f39, F39, TY, H39, h1]

def date_Right.f (x0 : Int) : Option Bool := (if (-50000) ≤ x0 then (some (decide (x0 ≤ 50000))) else (some false))
noncomputable def b40 : Code := bodyOf Try.f40
def F40 : Fr := ⟨0, 9, 1, [], 40⟩
theorem date_Right.ok (x0 : Int) (r : Bool) (h : date_Right.f x0 = some r) : Ret C0 40 [(false, [.sc (.int .i32 x0)])] [aV [pB r]] := by
  refine ret_of (c := b40) Try.func40 rfl rfl ⟨Nat.le_of_ble_eq_true rfl, Nat.le_of_ble_eq_true rfl⟩ ?_
  unfold date_Right.f at h
  rw [show Try.f40.results.toList = [.tmp 2] from rfl]
  rw [show Try.f40.ntmps = 9 from rfl]
  by_cases h1 : (-50000) ≤ x0
  · rw [if_pos h1] at h
    obtain rfl := Option.some.inj h
    simp only [↓Bp, ↓Bs, Bo, Bh, Ba, Bc, ↓reduceIte, Nat.reduceAdd, Nat.reduceEqDiff, Nat.reduceLT, Nat.reduceLeDiff, Nat.reduceBEq, Nat.reduceMul, Int.reduceLE, Int.reduceLT, Int.reduceEq, Int.reduceToNat, reduceCtorEq, G40, Tf, b40, ↓Try.f40, F40, TY, H40, h1]
  · rw [if_neg h1] at h
    obtain rfl := Option.some.inj h
    simp only [↓Bp, ↓Bs, Bo, Bh, Ba, Bc, ↓reduceIte, Nat.reduceAdd, Nat.reduceEqDiff, Nat.reduceLT, Nat.reduceLeDiff, Nat.reduceBEq, Nat.reduceMul, Int.reduceLE, Int.reduceLT, Int.reduceEq, Int.reduceToNat, reduceCtorEq, G40, Tf, b40, ↓Try.f40, F40, TY, H40, h1]

def netting_isClaim.f (x0 : S58) : Option Bool := (if 1 ≤ x0.f0 then ((netting_isBank.f x0.f1).bind fun t2 => (if t2 = true then ((netting_isBank.f x0.f2).bind fun t4 => (if t4 = true then (if x0.f1 = x0.f2 then (some false) else ((netting_isCurrency.f x0.f3.f0).bind fun t7 => (if t7 = true then (if 1 ≤ x0.f3.f1 then (if x0.f3.f1 ≤ 1000000000000 then ((date_Right.f x0.f4).bind fun t11 => (some t11)) else (some false)) else (some false)) else (some false)))) else (some false))) else (some false))) else (some false))
noncomputable def b28 : Code := bodyOf Try.f28
def F28 : Fr := ⟨0, 46, 1, [], 28⟩
theorem netting_isClaim.ok (x0 : S58) (r : Bool) (h : netting_isClaim.f x0 = some r) : Ret C0 28 [(true, [.sc (.int .i64 x0.f0), .sc (.int .i64 x0.f1), .sc (.int .i64 x0.f2), .sc (.int .i64 x0.f3.f0), .sc (.int .i64 x0.f3.f1), .sc (.int .i32 x0.f4)])] [aV [pB r]] := by
  refine ret_of (c := b28) Try.func28 rfl rfl ⟨Nat.le_of_ble_eq_true rfl, Nat.le_of_ble_eq_true rfl⟩ ?_
  unfold netting_isClaim.f at h
  rw [show Try.f28.results.toList = [.tmp 2] from rfl]
  rw [show Try.f28.ntmps = 46 from rfl]
  by_cases h1 : 1 ≤ x0.f0
  · rw [if_pos h1] at h
    obtain ⟨t2, h2, h⟩ := bnd h
    have h2c := (netting_isBank.ok _ _ h2)
    try simp only [Tf, List.nil_append, List.cons_append, Int.reduceToNat] at h2c
    by_cases h3 : t2 = true
    · rw [if_pos h3] at h
      obtain ⟨t4, h4, h⟩ := bnd h
      have h4c := (netting_isBank.ok _ _ h4)
      try simp only [Tf, List.nil_append, List.cons_append, Int.reduceToNat] at h4c
      by_cases h5 : t4 = true
      · rw [if_pos h5] at h
        by_cases h6 : x0.f1 = x0.f2
        · rw [if_pos h6] at h
          obtain rfl := Option.some.inj h
          simp only [↓Bp, ↓Bs, Bo, Bh, Ba, Bc, ↓reduceIte, Nat.reduceAdd, Nat.reduceEqDiff, Nat.reduceLT, Nat.reduceLeDiff, Nat.reduceBEq, Nat.reduceMul, Int.reduceLE, Int.reduceLT, Int.reduceEq, Int.reduceToNat, reduceCtorEq, G28, Tf, b28, ↓Try.f28, F28, TY, H28, h1, callP_eq h2c, h3, callP_eq h4c, h5, eq_true h6]
        · rw [if_neg h6] at h
          obtain ⟨t7, h7, h⟩ := bnd h
          have h7c := (netting_isCurrency.ok _ _ h7)
          try simp only [Tf, List.nil_append, List.cons_append, Int.reduceToNat] at h7c
          by_cases h8 : t7 = true
          · rw [if_pos h8] at h
            by_cases h9 : 1 ≤ x0.f3.f1
            · rw [if_pos h9] at h
              by_cases h10 : x0.f3.f1 ≤ 1000000000000
              · rw [if_pos h10] at h
                obtain ⟨t11, h11, h⟩ := bnd h
                have h11c := (date_Right.ok _ _ h11)
                try simp only [Tf, List.nil_append, List.cons_append, Int.reduceToNat] at h11c
                obtain rfl := Option.some.inj h
                simp only [↓Bp, ↓Bs, Bo, Bh, Ba, Bc, ↓reduceIte, Nat.reduceAdd, Nat.reduceEqDiff, Nat.reduceLT, Nat.reduceLeDiff, Nat.reduceBEq, Nat.reduceMul, Int.reduceLE, Int.reduceLT, Int.reduceEq, Int.reduceToNat, reduceCtorEq, G28, Tf, b28, ↓Try.f28, F28, TY, H28, h1, callP_eq h2c, h3, callP_eq h4c, h5, h6, callP_eq h7c, h8, h9, h10, callP_eq h11c]
              · rw [if_neg h10] at h
                obtain rfl := Option.some.inj h
                simp only [↓Bp, ↓Bs, Bo, Bh, Ba, Bc, ↓reduceIte, Nat.reduceAdd, Nat.reduceEqDiff, Nat.reduceLT, Nat.reduceLeDiff, Nat.reduceBEq, Nat.reduceMul, Int.reduceLE, Int.reduceLT, Int.reduceEq, Int.reduceToNat, reduceCtorEq, G28, Tf, b28, ↓Try.f28, F28, TY, H28, h1, callP_eq h2c, h3, callP_eq h4c, h5, h6, callP_eq h7c, h8, h9, h10]
            · rw [if_neg h9] at h
              obtain rfl := Option.some.inj h
              simp only [↓Bp, ↓Bs, Bo, Bh, Ba, Bc, ↓reduceIte, Nat.reduceAdd, Nat.reduceEqDiff, Nat.reduceLT, Nat.reduceLeDiff, Nat.reduceBEq, Nat.reduceMul, Int.reduceLE, Int.reduceLT, Int.reduceEq, Int.reduceToNat, reduceCtorEq, G28, Tf, b28, ↓Try.f28, F28, TY, H28, h1, callP_eq h2c, h3, callP_eq h4c, h5, h6, callP_eq h7c, h8, h9]
          · rw [if_neg h8] at h
            obtain rfl := Option.some.inj h
            simp only [↓Bp, ↓Bs, Bo, Bh, Ba, Bc, ↓reduceIte, Nat.reduceAdd, Nat.reduceEqDiff, Nat.reduceLT, Nat.reduceLeDiff, Nat.reduceBEq, Nat.reduceMul, Int.reduceLE, Int.reduceLT, Int.reduceEq, Int.reduceToNat, reduceCtorEq, G28, Tf, b28, ↓Try.f28, F28, TY, H28, h1, callP_eq h2c, h3, callP_eq h4c, h5, h6, callP_eq h7c, h8]
      · rw [if_neg h5] at h
        obtain rfl := Option.some.inj h
        simp only [↓Bp, ↓Bs, Bo, Bh, Ba, Bc, ↓reduceIte, Nat.reduceAdd, Nat.reduceEqDiff, Nat.reduceLT, Nat.reduceLeDiff, Nat.reduceBEq, Nat.reduceMul, Int.reduceLE, Int.reduceLT, Int.reduceEq, Int.reduceToNat, reduceCtorEq, G28, Tf, b28, ↓Try.f28, F28, TY, H28, h1, callP_eq h2c, h3, callP_eq h4c, h5]
    · rw [if_neg h3] at h
      obtain rfl := Option.some.inj h
      simp only [↓Bp, ↓Bs, Bo, Bh, Ba, Bc, ↓reduceIte, Nat.reduceAdd, Nat.reduceEqDiff, Nat.reduceLT, Nat.reduceLeDiff, Nat.reduceBEq, Nat.reduceMul, Int.reduceLE, Int.reduceLT, Int.reduceEq, Int.reduceToNat, reduceCtorEq, G28, Tf, b28, ↓Try.f28, F28, TY, H28, h1, callP_eq h2c, h3]
  · rw [if_neg h1] at h
    obtain rfl := Option.some.inj h
    simp only [↓Bp, ↓Bs, Bo, Bh, Ba, Bc, ↓reduceIte, Nat.reduceAdd, Nat.reduceEqDiff, Nat.reduceLT, Nat.reduceLeDiff, Nat.reduceBEq, Nat.reduceMul, Int.reduceLE, Int.reduceLT, Int.reduceEq, Int.reduceToNat, reduceCtorEq, G28, Tf, b28, ↓Try.f28, F28, TY, H28, h1]

mutual
def netting_Right.l0 : Nat → List S58 → List S58 → Int → Int → Option Bool
  | 0, _, _, _, _ => none
  | k + 1, x0, x5, x6, x7 => (if x7 < x6 then (if 0 ≤ x7 then (if x7 < (x5.length : Int) then ((netting_isClaim.f (⟨(x5.getD ((x7 : Int).toNat) z58).f0, (x5.getD ((x7 : Int).toNat) z58).f1, (x5.getD ((x7 : Int).toNat) z58).f2, ((x5.getD ((x7 : Int).toNat) z58).f3), (x5.getD ((x7 : Int).toNat) z58).f4⟩ : S58)).bind fun t4 => (if t4 = true then (if 0 < x7 then (if 0 ≤ (wrap64 (x7 - 1)) then (if (wrap64 (x7 - 1)) < (x0.length : Int) then (netting_Right.j0 k x0 x5 x6 x7 (decide ((x5.getD ((x7 : Int).toNat) z58).f0 ≤ (x0.getD (((wrap64 (x7 - 1)) : Int).toNat) z58).f0))) else none) else none) else (netting_Right.j0 k x0 x5 x6 x7 false)) else (netting_Right.j0 k x0 x5 x6 x7 true))) else none) else none) else (some (decide ((x0.length : Int) ≤ 300))))
def netting_Right.j0 : Nat → List S58 → List S58 → Int → Int → Bool → Option Bool
  | 0, _, _, _, _, _ => none
  | k + 1, x0, x5, x6, x7, x29 => (if x29 = true then (some false) else (netting_Right.l0 k x0 x5 x6 (wrap64 (x7 + 1))))
end
def netting_Right.f (k : Nat) (x0 : List S58) : Option Bool := (netting_Right.l0 k x0 x0 (x0.length : Int) 0)
theorem netting_Right.monos : ∀ k, (∀ x0 x5 x6 x7, LeO (netting_Right.l0 k x0 x5 x6 x7) (netting_Right.l0 (k + 1) x0 x5 x6 x7)) ∧ (∀ x0 x5 x6 x7 x29, LeO (netting_Right.j0 k x0 x5 x6 x7 x29) (netting_Right.j0 (k + 1) x0 x5 x6 x7 x29))
  | 0 => ⟨fun _ _ _ _ => leo_none, fun _ _ _ _ _ => leo_none⟩
  | k + 1 => by
    obtain ⟨Il0, Ij0⟩ := netting_Right.monos k
    refine ⟨?_, ?_⟩
    · intro x0 x5 x6 x7
      rw [netting_Right.l0, netting_Right.l0]
      exact leo_ite (leo_if (leo_if (leo_bind leo_refl (fun _ => leo_ite (leo_ite (leo_if (leo_if (Ij0 _ _ _ _ _))) (Ij0 _ _ _ _ _)) (Ij0 _ _ _ _ _))))) (leo_refl)
    · intro x0 x5 x6 x7 x29
      rw [netting_Right.j0, netting_Right.j0]
      exact leo_ite (leo_refl) (Il0 _ _ _ _)
theorem netting_Right.mono (k : Nat) (x0 : List S58) : LeO (netting_Right.f k x0) (netting_Right.f (k + 1) x0) := (netting_Right.monos k).1 _ _ _ _
noncomputable def b11 : Code := bodyOf Try.f11
def F11 : Fr := ⟨0, 34, 1, [], 11⟩
theorem D11_4 {k : List It} {s : St} {Q : Post} {ops : Array Oper} {us : List Upd} (ha : apart2 [(7, 8), (7, 9), (7, 13), (8, 13), (9, 13), (10, 13), (11, 13), (12, 13), (7, 14), (8, 14), (9, 14), (10, 14), (11, 14), (12, 14)] (loud 0 us.reverse) = true) (hl : lessAll us.length [(7, 8), (7, 9), (7, 13), (8, 13), (9, 13), (10, 13), (11, 13), (12, 13), (7, 14), (8, 14), (9, 14), (10, 14), (11, 14), (12, 14)] = true) : GR C0 ⟨0, 34, 1, [], 11⟩ k Q 4 true ops [] s us = Fin C0 ⟨0, 34, 1, [], 11⟩ k .fall s Q := gr_nilD (F := F11) rfl ha hl
def netting_Right.l0S (x0 : List S58) (x5 : List S58) (x6 : Int) (x7 : Int) : St := ⟨upd (upd (upd (upd (fun _ => .no) 7 (.one (.p none (pI .i64 x7)))) 6 (.one (.p none (pI .i64 x6)))) 5 (.one (.p none (.sl 6 (x5.map e58))))) 0 (.one (.p none (.sl 6 (x0.map e58)))), noOb, rtP 5, 5⟩
def netting_Right.j0S (x0 : List S58) (x5 : List S58) (x6 : Int) (x7 : Int) (x29 : Bool) : St := ⟨upd (upd (upd (upd (upd (fun _ => .no) 29 (.one (.p none (pB x29)))) 7 (.one (.p none (pI .i64 x7)))) 6 (.one (.p none (pI .i64 x6)))) 5 (.one (.p none (.sl 6 (x5.map e58))))) 0 (.one (.p none (.sl 6 (x0.map e58)))), noOb, rtP 6, 6⟩
theorem netting_Right.all : ∀ k, (∀ x0 x5 x6 x7 r, netting_Right.l0 k x0 x5 x6 x7 = some r → AtL C0 F11 (sub [1, 0, 1, 0, 0] b11) [.blk 0, .code (sub [1, 1] b11)] (some (netting_Right.l0S x0 x5 x6 x7)) (RetQ C0 [.tmp 2] [aV [pB r]])) ∧ (∀ x0 x5 x6 x7 x29 r, netting_Right.j0 k x0 x5 x6 x7 x29 = some r → AtJ C0 F11 (sub [1, 0, 1, 0, 0, 1, 1, 0, 0, 1, 1] b11) [.blk 1, .code (sub [1, 0, 1, 0, 0, 1, 1, 1] b11), .lp (sub [1, 0, 1, 0, 0] b11), .blk 0, .code (sub [1, 1] b11)] (some (netting_Right.j0S x0 x5 x6 x7 x29)) (RetQ C0 [.tmp 2] [aV [pB r]]))
  | 0 => ⟨fun _ _ _ _ r h => (by cases h), fun _ _ _ _ _ r h => (by cases h)⟩
  | k + 1 => by
    obtain ⟨Il0, Ij0⟩ := netting_Right.all k
    refine ⟨?_, ?_⟩
    · intro x0 x5 x6 x7 r h
      rw [netting_Right.l0] at h
      rw [atL_some]
      by_cases h1 : x7 < x6
      · rw [if_pos h1] at h
        obtain ⟨h2, h⟩ := ifn h
        obtain ⟨h3, h⟩ := ifn h
        have h3r := fun (q : 0 ≤ x7) => rd_at (l := x5) (i := x7) z58 q h3
        replace h3r := h3r (by omega)
        obtain ⟨t4, h4, h⟩ := bnd h
        have h4c := (netting_isClaim.ok _ _ h4)
        try simp only [Tf, List.nil_append, List.cons_append, Int.reduceToNat] at h4c
        by_cases h5 : t4 = true
        · rw [if_pos h5] at h
          by_cases h6 : 0 < x7
          · rw [if_pos h6] at h
            obtain ⟨h7, h⟩ := ifn h
            obtain ⟨h8, h⟩ := ifn h
            have h8r := fun (q : 0 ≤ (wrap64 (x7 - 1))) => rd_at (l := x0) (i := (wrap64 (x7 - 1))) z58 q h8
            replace h8r := h8r (by omega)
            simp only [↓Bp, ↓Bs, Bo, Bh, Ba, Bc, Bd, ↓reduceIte, Nat.reduceAdd, Nat.reduceEqDiff, Nat.reduceLT, Nat.reduceLeDiff, Nat.reduceBEq, Nat.reduceMul, Int.reduceLE, Int.reduceLT, Int.reduceEq, Int.reduceToNat, reduceCtorEq, G11, Tf, b11, ↓Try.f11, F11, TY, H11, D11_4, h1, h2, h3, h3r, callP_eq h4c, h5, h6, h7, h8, h8r, netting_Right.l0S]
            refine AtJ.eq (Ij0 _ _ _ _ _ _ h) ?_
            simp only [Tf, Int.reduceToNat, Int.toNat_natCast, netting_Right.j0S]
          · rw [if_neg h6] at h
            simp only [↓Bp, ↓Bs, Bo, Bh, Ba, Bc, Bd, ↓reduceIte, Nat.reduceAdd, Nat.reduceEqDiff, Nat.reduceLT, Nat.reduceLeDiff, Nat.reduceBEq, Nat.reduceMul, Int.reduceLE, Int.reduceLT, Int.reduceEq, Int.reduceToNat, reduceCtorEq, G11, Tf, b11, ↓Try.f11, F11, TY, H11, D11_4, h1, h2, h3, h3r, callP_eq h4c, h5, h6, netting_Right.l0S]
            refine AtJ.eq (Ij0 _ _ _ _ _ _ h) ?_
            simp only [Tf, Int.reduceToNat, Int.toNat_natCast, netting_Right.j0S]
        · rw [if_neg h5] at h
          simp only [↓Bp, ↓Bs, Bo, Bh, Ba, Bc, Bd, ↓reduceIte, Nat.reduceAdd, Nat.reduceEqDiff, Nat.reduceLT, Nat.reduceLeDiff, Nat.reduceBEq, Nat.reduceMul, Int.reduceLE, Int.reduceLT, Int.reduceEq, Int.reduceToNat, reduceCtorEq, G11, Tf, b11, ↓Try.f11, F11, TY, H11, D11_4, h1, h2, h3, h3r, callP_eq h4c, h5, netting_Right.l0S]
          refine AtJ.eq (Ij0 _ _ _ _ _ _ h) ?_
          simp only [Tf, Int.reduceToNat, Int.toNat_natCast, netting_Right.j0S]
      · rw [if_neg h1] at h
        obtain rfl := Option.some.inj h
        simp only [↓Bp, ↓Bs, Bo, Bh, Ba, Bc, Bd, ↓reduceIte, Nat.reduceAdd, Nat.reduceEqDiff, Nat.reduceLT, Nat.reduceLeDiff, Nat.reduceBEq, Nat.reduceMul, Int.reduceLE, Int.reduceLT, Int.reduceEq, Int.reduceToNat, reduceCtorEq, G11, Tf, b11, ↓Try.f11, F11, TY, H11, D11_4, h1, netting_Right.l0S]
    · intro x0 x5 x6 x7 x29 r h
      rw [netting_Right.j0] at h
      rw [atJ_some]
      by_cases h9 : x29 = true
      · rw [if_pos h9] at h
        obtain rfl := Option.some.inj h
        simp only [↓Bp, ↓Bs, Bo, Bh, Ba, Bc, Bd, ↓reduceIte, Nat.reduceAdd, Nat.reduceEqDiff, Nat.reduceLT, Nat.reduceLeDiff, Nat.reduceBEq, Nat.reduceMul, Int.reduceLE, Int.reduceLT, Int.reduceEq, Int.reduceToNat, reduceCtorEq, G11, Tf, b11, ↓Try.f11, F11, TY, H11, D11_4, h9, netting_Right.j0S]
      · rw [if_neg h9] at h
        simp only [↓Bp, ↓Bs, Bo, Bh, Ba, Bc, Bd, ↓reduceIte, Nat.reduceAdd, Nat.reduceEqDiff, Nat.reduceLT, Nat.reduceLeDiff, Nat.reduceBEq, Nat.reduceMul, Int.reduceLE, Int.reduceLT, Int.reduceEq, Int.reduceToNat, reduceCtorEq, G11, Tf, b11, ↓Try.f11, F11, TY, H11, D11_4, h9, netting_Right.j0S]
        refine AtL.eq (Il0 _ _ _ _ _ h) ?_
        simp only [Tf, Int.reduceToNat, Int.toNat_natCast, netting_Right.l0S]
theorem netting_Right.ok (k : Nat) (x0 : List S58) (r : Bool) (h : netting_Right.f k x0 = some r) : Ret C0 11 [(false, [.sl 6 (x0.map e58)])] [aV [pB r]] := by
  refine ret_of (c := b11) Try.func11 rfl rfl ⟨Nat.le_of_ble_eq_true rfl, Nat.le_of_ble_eq_true rfl⟩ ?_
  unfold netting_Right.f at h
  rw [show Try.f11.results.toList = [.tmp 2] from rfl]
  rw [show Try.f11.ntmps = 34 from rfl]
  obtain ⟨Il0, Ij0⟩ := netting_Right.all k
  simp only [↓Bp, ↓Bs, Bo, Bh, Ba, Bc, Bd, ↓reduceIte, Nat.reduceAdd, Nat.reduceEqDiff, Nat.reduceLT, Nat.reduceLeDiff, Nat.reduceBEq, Nat.reduceMul, Int.reduceLE, Int.reduceLT, Int.reduceEq, Int.reduceToNat, reduceCtorEq, G11, Tf, b11, ↓Try.f11, F11, TY, H11, D11_4]
  refine AtL.eq (Il0 _ _ _ _ _ h) ?_
  simp only [Tf, Int.reduceToNat, Int.toNat_natCast, netting_Right.l0S]

def netting_may.f (k : Nat) (x0 : List S58) (x1 : Int) (x2 : Int) : Option Int := ((netting_Right.f k x0).bind fun t1 => (if t1 = true then ((netting_isCurrency.f x1).bind fun t3 => (if t3 = true then ((date_Right.f x2).bind fun t5 => (if t5 = true then (some 0) else (some 11))) else (some 12))) else (some 1)))
theorem netting_may.mono (k : Nat) (x0 : List S58) (x1 : Int) (x2 : Int) : LeO (netting_may.f k x0 x1 x2) (netting_may.f (k + 1) x0 x1 x2) := leo_bind (netting_Right.mono k _) (fun _ => leo_ite (leo_bind leo_refl (fun _ => leo_ite (leo_bind leo_refl (fun _ => leo_ite (leo_refl) (leo_refl))) (leo_refl))) (leo_refl))
noncomputable def b25 : Code := bodyOf Try.f25
def F25 : Fr := ⟨0, 19, 1, [], 25⟩
theorem netting_may.ok (k : Nat) (x0 : List S58) (x1 : Int) (x2 : Int) (r : Int) (h : netting_may.f k x0 x1 x2 = some r) : Ret C0 25 [(false, [.sl 6 (x0.map e58)]), (false, [.sc (.int .i64 x1)]), (false, [.sc (.int .i32 x2)])] [aV [pI .i64 r]] := by
  refine ret_of (c := b25) Try.func25 rfl rfl ⟨Nat.le_of_ble_eq_true rfl, Nat.le_of_ble_eq_true rfl⟩ ?_
  unfold netting_may.f at h
  rw [show Try.f25.results.toList = [.tmp 6] from rfl]
  rw [show Try.f25.ntmps = 19 from rfl]
  obtain ⟨t1, h1, h⟩ := bnd h
  have h1c := (netting_Right.ok _ _ _ h1)
  try simp only [Tf, List.nil_append, List.cons_append, Int.reduceToNat] at h1c
  by_cases h2 : t1 = true
  · rw [if_pos h2] at h
    obtain ⟨t3, h3, h⟩ := bnd h
    have h3c := (netting_isCurrency.ok _ _ h3)
    try simp only [Tf, List.nil_append, List.cons_append, Int.reduceToNat] at h3c
    by_cases h4 : t3 = true
    · rw [if_pos h4] at h
      obtain ⟨t5, h5, h⟩ := bnd h
      have h5c := (date_Right.ok _ _ h5)
      try simp only [Tf, List.nil_append, List.cons_append, Int.reduceToNat] at h5c
      by_cases h6 : t5 = true
      · rw [if_pos h6] at h
        obtain rfl := Option.some.inj h
        simp only [↓Bp, ↓Bs, Bo, Bh, Ba, Bc, ↓reduceIte, Nat.reduceAdd, Nat.reduceEqDiff, Nat.reduceLT, Nat.reduceLeDiff, Nat.reduceBEq, Nat.reduceMul, Int.reduceLE, Int.reduceLT, Int.reduceEq, Int.reduceToNat, reduceCtorEq, G25, Tf, b25, ↓Try.f25, F25, TY, H25, callP_eq h1c, h2, callP_eq h3c, h4, callP_eq h5c, h6]
      · rw [if_neg h6] at h
        obtain rfl := Option.some.inj h
        simp only [↓Bp, ↓Bs, Bo, Bh, Ba, Bc, ↓reduceIte, Nat.reduceAdd, Nat.reduceEqDiff, Nat.reduceLT, Nat.reduceLeDiff, Nat.reduceBEq, Nat.reduceMul, Int.reduceLE, Int.reduceLT, Int.reduceEq, Int.reduceToNat, reduceCtorEq, G25, Tf, b25, ↓Try.f25, F25, TY, H25, callP_eq h1c, h2, callP_eq h3c, h4, callP_eq h5c, h6]
    · rw [if_neg h4] at h
      obtain rfl := Option.some.inj h
      simp only [↓Bp, ↓Bs, Bo, Bh, Ba, Bc, ↓reduceIte, Nat.reduceAdd, Nat.reduceEqDiff, Nat.reduceLT, Nat.reduceLeDiff, Nat.reduceBEq, Nat.reduceMul, Int.reduceLE, Int.reduceLT, Int.reduceEq, Int.reduceToNat, reduceCtorEq, G25, Tf, b25, ↓Try.f25, F25, TY, H25, callP_eq h1c, h2, callP_eq h3c, h4]
  · rw [if_neg h2] at h
    obtain rfl := Option.some.inj h
    simp only [↓Bp, ↓Bs, Bo, Bh, Ba, Bc, ↓reduceIte, Nat.reduceAdd, Nat.reduceEqDiff, Nat.reduceLT, Nat.reduceLeDiff, Nat.reduceBEq, Nat.reduceMul, Int.reduceLE, Int.reduceLT, Int.reduceEq, Int.reduceToNat, reduceCtorEq, G25, Tf, b25, ↓Try.f25, F25, TY, H25, callP_eq h1c, h2]

def netting_Run_1.f (x0 : Int) : Option Bool := (some (decide (x0 < 0)))
noncomputable def b32 : Code := bodyOf Try.f32
def F32 : Fr := ⟨0, 5, 1, [], 32⟩
theorem netting_Run_1.ok (x0 : Int) (r : Bool) (h : netting_Run_1.f x0 = some r) : Ret C0 32 [(false, [.sc (.int .i64 x0)])] [aV [pB r]] := by
  refine ret_of (c := b32) Try.func32 rfl rfl ⟨Nat.le_of_ble_eq_true rfl, Nat.le_of_ble_eq_true rfl⟩ ?_
  unfold netting_Run_1.f at h
  rw [show Try.f32.results.toList = [.tmp 2] from rfl]
  rw [show Try.f32.ntmps = 5 from rfl]
  obtain rfl := Option.some.inj h
  simp only [↓Bp, ↓Bs, Bo, Bh, Ba, Bc, ↓reduceIte, Nat.reduceAdd, Nat.reduceEqDiff, Nat.reduceLT, Nat.reduceLeDiff, Nat.reduceBEq, Nat.reduceMul, Int.reduceLE, Int.reduceLT, Int.reduceEq, Int.reduceToNat, reduceCtorEq, G32, Tf, b32, ↓Try.f32, F32, TY, H32]

def slices_IndexFunc_int64_int64_s0.l0 : Nat → List Int → Int → Int → Option Int
  | 0, _, _, _ => none
  | k + 1, x0, x7, x8 => (if x8 < x7 then (if 0 ≤ x8 then (if x8 < (x0.length : Int) then ((netting_Run_1.f (x0.getD ((x8 : Int).toNat) 0)).bind fun t4 => (if t4 = true then (some x8) else (slices_IndexFunc_int64_int64_s0.l0 k x0 x7 (wrap64 (x8 + 1))))) else none) else none) else (some (-1)))
def slices_IndexFunc_int64_int64_s0.f (k : Nat) (x0 : List Int) : Option Int := (slices_IndexFunc_int64_int64_s0.l0 k x0 (x0.length : Int) 0)
theorem slices_IndexFunc_int64_int64_s0.monos : ∀ k, (∀ x0 x7 x8, LeO (slices_IndexFunc_int64_int64_s0.l0 k x0 x7 x8) (slices_IndexFunc_int64_int64_s0.l0 (k + 1) x0 x7 x8))
  | 0 => fun _ _ _ => leo_none
  | k + 1 => by
    have I := slices_IndexFunc_int64_int64_s0.monos k
    · intro x0 x7 x8
      rw [slices_IndexFunc_int64_int64_s0.l0, slices_IndexFunc_int64_int64_s0.l0]
      exact leo_ite (leo_if (leo_if (leo_bind leo_refl (fun _ => leo_ite (leo_refl) (I _ _ _))))) (leo_refl)
theorem slices_IndexFunc_int64_int64_s0.mono (k : Nat) (x0 : List Int) : LeO (slices_IndexFunc_int64_int64_s0.f k x0) (slices_IndexFunc_int64_int64_s0.f (k + 1) x0) := (slices_IndexFunc_int64_int64_s0.monos k) _ _ _
noncomputable def b44 : Code := bodyOf Try.f44
def F44 : Fr := ⟨0, 19, 1, [], 44⟩
def slices_IndexFunc_int64_int64_s0.l0S (x0 : List Int) (x7 : Int) (x8 : Int) : St := ⟨upd (upd (upd (upd (fun _ => .no) 8 (.one (.p none (pI .i64 x8)))) 7 (.one (.p none (pI .i64 x7)))) 1 (.one (.p none (.fn 32 [])))) 0 (.one (.p none (.sl 1 (x0.map e2)))), noOb, rtP 5, 5⟩
theorem slices_IndexFunc_int64_int64_s0.all : ∀ k, (∀ x0 x7 x8 r, slices_IndexFunc_int64_int64_s0.l0 k x0 x7 x8 = some r → AtL C0 F44 (sub [1, 0, 1, 0, 0] b44) [.blk 0, .code (sub [1, 1] b44)] (some (slices_IndexFunc_int64_int64_s0.l0S x0 x7 x8)) (RetQ C0 [.tmp 4] [aV [pI .i64 r]]))
  | 0 => fun _ _ _ r h => (by cases h)
  | k + 1 => by
    have Il0 := slices_IndexFunc_int64_int64_s0.all k
    · intro x0 x7 x8 r h
      rw [slices_IndexFunc_int64_int64_s0.l0] at h
      rw [atL_some]
      by_cases h1 : x8 < x7
      · rw [if_pos h1] at h
        obtain ⟨h2, h⟩ := ifn h
        obtain ⟨h3, h⟩ := ifn h
        have h3r := fun (q : 0 ≤ x8) => rd_at (l := x0) (i := x8) 0 q h3
        replace h3r := h3r (by omega)
        obtain ⟨t4, h4, h⟩ := bnd h
        have h4c := (netting_Run_1.ok _ _ h4)
        try simp only [Tf, List.nil_append, List.cons_append, Int.reduceToNat] at h4c
        by_cases h5 : t4 = true
        · rw [if_pos h5] at h
          obtain rfl := Option.some.inj h
          simp only [↓Bp, ↓Bs, Bo, Bh, Ba, Bc, ↓reduceIte, Nat.reduceAdd, Nat.reduceEqDiff, Nat.reduceLT, Nat.reduceLeDiff, Nat.reduceBEq, Nat.reduceMul, Int.reduceLE, Int.reduceLT, Int.reduceEq, Int.reduceToNat, reduceCtorEq, G44, Tf, b44, ↓Try.f44, F44, TY, H44, h1, h2, h3, h3r, callP_eq h4c, h5, slices_IndexFunc_int64_int64_s0.l0S]
        · rw [if_neg h5] at h
          simp only [↓Bp, ↓Bs, Bo, Bh, Ba, Bc, ↓reduceIte, Nat.reduceAdd, Nat.reduceEqDiff, Nat.reduceLT, Nat.reduceLeDiff, Nat.reduceBEq, Nat.reduceMul, Int.reduceLE, Int.reduceLT, Int.reduceEq, Int.reduceToNat, reduceCtorEq, G44, Tf, b44, ↓Try.f44, F44, TY, H44, h1, h2, h3, h3r, callP_eq h4c, h5, slices_IndexFunc_int64_int64_s0.l0S]
          refine AtL.eq (Il0 _ _ _ _ h) ?_
          simp only [Tf, Int.reduceToNat, Int.toNat_natCast, slices_IndexFunc_int64_int64_s0.l0S]
      · rw [if_neg h1] at h
        obtain rfl := Option.some.inj h
        simp only [↓Bp, ↓Bs, Bo, Bh, Ba, Bc, ↓reduceIte, Nat.reduceAdd, Nat.reduceEqDiff, Nat.reduceLT, Nat.reduceLeDiff, Nat.reduceBEq, Nat.reduceMul, Int.reduceLE, Int.reduceLT, Int.reduceEq, Int.reduceToNat, reduceCtorEq, G44, Tf, b44, ↓Try.f44, F44, TY, H44, h1, slices_IndexFunc_int64_int64_s0.l0S]
theorem slices_IndexFunc_int64_int64_s0.ok (k : Nat) (x0 : List Int) (r : Int) (h : slices_IndexFunc_int64_int64_s0.f k x0 = some r) : Ret C0 44 [(false, [.sl 1 (x0.map e2)]), (false, [.fn 32 []])] [aV [pI .i64 r]] := by
  refine ret_of (c := b44) Try.func44 rfl rfl ⟨Nat.le_of_ble_eq_true rfl, Nat.le_of_ble_eq_true rfl⟩ ?_
  unfold slices_IndexFunc_int64_int64_s0.f at h
  rw [show Try.f44.results.toList = [.tmp 4] from rfl]
  rw [show Try.f44.ntmps = 19 from rfl]
  have Il0 := slices_IndexFunc_int64_int64_s0.all k
  simp only [↓Bp, ↓Bs, Bo, Bh, Ba, Bc, ↓reduceIte, Nat.reduceAdd, Nat.reduceEqDiff, Nat.reduceLT, Nat.reduceLeDiff, Nat.reduceBEq, Nat.reduceMul, Int.reduceLE, Int.reduceLT, Int.reduceEq, Int.reduceToNat, reduceCtorEq, G44, Tf, b44, ↓Try.f44, F44, TY, H44]
  refine AtL.eq (Il0 _ _ _ _ h) ?_
  simp only [Tf, Int.reduceToNat, Int.toNat_natCast, slices_IndexFunc_int64_int64_s0.l0S]

def slices_ContainsFunc_int64_int64_s0.f (k : Nat) (x0 : List Int) : Option Bool := ((slices_IndexFunc_int64_int64_s0.f k x0).bind fun t1 => (some (decide (0 ≤ t1))))
theorem slices_ContainsFunc_int64_int64_s0.mono (k : Nat) (x0 : List Int) : LeO (slices_ContainsFunc_int64_int64_s0.f k x0) (slices_ContainsFunc_int64_int64_s0.f (k + 1) x0) := leo_bind (slices_IndexFunc_int64_int64_s0.mono k _) (fun _ => leo_refl)
noncomputable def b31 : Code := bodyOf Try.f31
def F31 : Fr := ⟨0, 9, 1, [], 31⟩
theorem slices_ContainsFunc_int64_int64_s0.ok (k : Nat) (x0 : List Int) (r : Bool) (h : slices_ContainsFunc_int64_int64_s0.f k x0 = some r) : Ret C0 31 [(false, [.sl 1 (x0.map e2)]), (false, [.fn 32 []])] [aV [pB r]] := by
  refine ret_of (c := b31) Try.func31 rfl rfl ⟨Nat.le_of_ble_eq_true rfl, Nat.le_of_ble_eq_true rfl⟩ ?_
  unfold slices_ContainsFunc_int64_int64_s0.f at h
  rw [show Try.f31.results.toList = [.tmp 4] from rfl]
  rw [show Try.f31.ntmps = 9 from rfl]
  obtain ⟨t1, h1, h⟩ := bnd h
  have h1c := (slices_IndexFunc_int64_int64_s0.ok _ _ _ h1)
  try simp only [Tf, List.nil_append, List.cons_append, Int.reduceToNat] at h1c
  obtain rfl := Option.some.inj h
  simp only [↓Bp, ↓Bs, Bo, Bh, Ba, Bc, ↓reduceIte, Nat.reduceAdd, Nat.reduceEqDiff, Nat.reduceLT, Nat.reduceLeDiff, Nat.reduceBEq, Nat.reduceMul, Int.reduceLE, Int.reduceLT, Int.reduceEq, Int.reduceToNat, reduceCtorEq, G31, Tf, b31, ↓Try.f31, F31, TY, H31, callP_eq h1c]

mutual
def netting_netOf.l0 : Nat → Int → Int → List S58 → Int → Int → List Int → Option (List Int)
  | 0, _, _, _, _, _, _ => none
  | k + 1, x1, x2, x11, x12, x13, y10 => (if x13 < x12 then (if 0 ≤ x13 then (if x13 < (x11.length : Int) then (if ((x11.getD ((x13 : Int).toNat) z58).f3).f0 = x1 then (netting_netOf.j0 k x1 x2 x11 x12 x13 (decide ((x11.getD ((x13 : Int).toNat) z58).f4 = x2)) (⟨(x11.getD ((x13 : Int).toNat) z58).f0, (x11.getD ((x13 : Int).toNat) z58).f1, (x11.getD ((x13 : Int).toNat) z58).f2, ((x11.getD ((x13 : Int).toNat) z58).f3), (x11.getD ((x13 : Int).toNat) z58).f4⟩ : S58) y10) else (netting_netOf.j0 k x1 x2 x11 x12 x13 false (⟨(x11.getD ((x13 : Int).toNat) z58).f0, (x11.getD ((x13 : Int).toNat) z58).f1, (x11.getD ((x13 : Int).toNat) z58).f2, ((x11.getD ((x13 : Int).toNat) z58).f3), (x11.getD ((x13 : Int).toNat) z58).f4⟩ : S58) y10)) else none) else none) else (some y10))
def netting_netOf.j0 : Nat → Int → Int → List S58 → Int → Int → Bool → S58 → List Int → Option (List Int)
  | 0, _, _, _, _, _, _, _, _ => none
  | k + 1, x1, x2, x11, x12, x13, x27, y9, y10 => (if x27 = true then (if 0 ≤ y9.f1 then (if y9.f1 < (y10.length : Int) then (if y9.f1 < (y10.length : Int) then (if 0 ≤ y9.f2 then (if y9.f2 < ((y10.set ((y9.f1 : Int).toNat) (wrap64 ((y10.getD ((y9.f1 : Int).toNat) 0) - y9.f3.f1))).length : Int) then (if y9.f2 < ((y10.set ((y9.f1 : Int).toNat) (wrap64 ((y10.getD ((y9.f1 : Int).toNat) 0) - y9.f3.f1))).length : Int) then (netting_netOf.j1 k x1 x2 x11 x12 x13 ((y10.set ((y9.f1 : Int).toNat) (wrap64 ((y10.getD ((y9.f1 : Int).toNat) 0) - y9.f3.f1))).set ((y9.f2 : Int).toNat) (wrap64 (((y10.set ((y9.f1 : Int).toNat) (wrap64 ((y10.getD ((y9.f1 : Int).toNat) 0) - y9.f3.f1))).getD ((y9.f2 : Int).toNat) 0) + y9.f3.f1)))) else none) else none) else none) else none) else none) else none) else (netting_netOf.j1 k x1 x2 x11 x12 x13 y10))
def netting_netOf.j1 : Nat → Int → Int → List S58 → Int → Int → List Int → Option (List Int)
  | 0, _, _, _, _, _, _ => none
  | k + 1, x1, x2, x11, x12, x13, y10 => (netting_netOf.l0 k x1 x2 x11 x12 (wrap64 (x13 + 1)) y10)
end
def netting_netOf.f (k : Nat) (x0 : List S58) (x1 : Int) (x2 : Int) : Option (List Int) := (netting_netOf.l0 k x1 x2 x0 (x0.length : Int) 0 (List.replicate 16 0))
theorem netting_netOf.monos : ∀ k, (∀ x1 x2 x11 x12 x13 y10, LeO (netting_netOf.l0 k x1 x2 x11 x12 x13 y10) (netting_netOf.l0 (k + 1) x1 x2 x11 x12 x13 y10)) ∧ (∀ x1 x2 x11 x12 x13 x27 y9 y10, LeO (netting_netOf.j0 k x1 x2 x11 x12 x13 x27 y9 y10) (netting_netOf.j0 (k + 1) x1 x2 x11 x12 x13 x27 y9 y10)) ∧ (∀ x1 x2 x11 x12 x13 y10, LeO (netting_netOf.j1 k x1 x2 x11 x12 x13 y10) (netting_netOf.j1 (k + 1) x1 x2 x11 x12 x13 y10))
  | 0 => ⟨fun _ _ _ _ _ _ => leo_none, fun _ _ _ _ _ _ _ _ => leo_none, fun _ _ _ _ _ _ => leo_none⟩
  | k + 1 => by
    obtain ⟨Il0, Ij0, Ij1⟩ := netting_netOf.monos k
    refine ⟨?_, ?_, ?_⟩
    · intro x1 x2 x11 x12 x13 y10
      rw [netting_netOf.l0, netting_netOf.l0]
      exact leo_ite (leo_if (leo_if (leo_ite (Ij0 _ _ _ _ _ _ _ _) (Ij0 _ _ _ _ _ _ _ _)))) (leo_refl)
    · intro x1 x2 x11 x12 x13 x27 y9 y10
      rw [netting_netOf.j0, netting_netOf.j0]
      exact leo_ite (leo_if (leo_if (leo_if (leo_if (leo_if (leo_if (Ij1 _ _ _ _ _ _))))))) (Ij1 _ _ _ _ _ _)
    · intro x1 x2 x11 x12 x13 y10
      rw [netting_netOf.j1, netting_netOf.j1]
      exact Il0 _ _ _ _ _ _
theorem netting_netOf.mono (k : Nat) (x0 : List S58) (x1 : Int) (x2 : Int) : LeO (netting_netOf.f k x0 x1 x2) (netting_netOf.f (k + 1) x0 x1 x2) := (netting_netOf.monos k).1 _ _ _ _ _ _
noncomputable def b26 : Code := bodyOf Try.f26
def F26 : Fr := ⟨0, 50, 1, [], 26⟩
theorem D26_6 {k : List It} {s : St} {Q : Post} {ops : Array Oper} {us : List Upd} (ha : apart2 [(0, 1), (0, 2), (0, 5), (1, 5), (2, 5), (3, 5), (4, 5), (0, 6), (1, 6), (2, 6), (3, 6), (4, 6), (0, 7), (1, 7), (2, 7), (3, 7), (4, 7)] (loud 0 us.reverse) = true) (hl : lessAll us.length [(0, 1), (0, 2), (0, 5), (1, 5), (2, 5), (3, 5), (4, 5), (0, 6), (1, 6), (2, 6), (3, 6), (4, 6), (0, 7), (1, 7), (2, 7), (3, 7), (4, 7)] = true) : GR C0 ⟨0, 50, 1, [], 26⟩ k Q 6 true ops [] s us = Fin C0 ⟨0, 50, 1, [], 26⟩ k .fall s Q := gr_nilD (F := F26) rfl ha hl
theorem D26_7 {k : List It} {s : St} {Q : Post} {ops : Array Oper} {us : List Upd} (ha : apart2 [(0, 1), (0, 2), (0, 5), (1, 5), (2, 5), (3, 5), (4, 5), (0, 6), (1, 6), (2, 6), (3, 6), (4, 6), (0, 7), (1, 7), (2, 7), (3, 7), (4, 7)] (loud 0 us.reverse) = true) (hl : lessAll us.length [(0, 1), (0, 2), (0, 5), (1, 5), (2, 5), (3, 5), (4, 5), (0, 6), (1, 6), (2, 6), (3, 6), (4, 6), (0, 7), (1, 7), (2, 7), (3, 7), (4, 7)] = true) : GR C0 ⟨0, 50, 1, [], 26⟩ k Q 7 true ops [] s us = Fin C0 ⟨0, 50, 1, [], 26⟩ k .fall s Q := gr_nilD (F := F26) rfl ha hl
def netting_netOf.l0S (x1 : Int) (x2 : Int) (x11 : List S58) (x12 : Int) (x13 : Int) (y10 : List Int) : St := ⟨upd (upd (upd (upd (upd (upd (fun _ => .no) 13 (.one (.p none (pI .i64 x13)))) 12 (.one (.p none (pI .i64 x12)))) 11 (.one (.p none (.sl 6 (x11.map e58))))) 7 (.one (.vw 10 0 y10.length))) 2 (.one (.p none (pI .i32 x2)))) 1 (.one (.p none (pI .i64 x1))), upd noOb 10 (some (.arr false 1 (y10.map e2))), rtP 7, 7⟩
def netting_netOf.j0S (x1 : Int) (x2 : Int) (x11 : List S58) (x12 : Int) (x13 : Int) (x27 : Bool) (y9 : S58) (y10 : List Int) : St := ⟨upd (upd (upd (upd (upd (upd (upd (upd (fun _ => .no) 27 (.one (.p none (pB x27)))) 13 (.one (.p none (pI .i64 x13)))) 12 (.one (.p none (pI .i64 x12)))) 11 (.one (.p none (.sl 6 (x11.map e58))))) 9 (.one (.pt 9 0))) 7 (.one (.vw 10 0 y10.length))) 2 (.one (.p none (pI .i32 x2)))) 1 (.one (.p none (pI .i64 x1))), upd (upd noOb 10 (some (.arr false 1 (y10.map e2)))) 9 (some (.var [.p none (pI .i64 y9.f0), .p none (pI .i64 y9.f1), .p none (pI .i64 y9.f2), .p none (pI .i64 y9.f3.f0), .p none (pI .i64 y9.f3.f1), .p none (pI .i32 y9.f4)])), rtP 15, 15⟩
def netting_netOf.j1S (x1 : Int) (x2 : Int) (x11 : List S58) (x12 : Int) (x13 : Int) (y10 : List Int) : St := ⟨upd (upd (upd (upd (upd (upd (fun _ => .no) 13 (.one (.p none (pI .i64 x13)))) 12 (.one (.p none (pI .i64 x12)))) 11 (.one (.p none (.sl 6 (x11.map e58))))) 7 (.one (.vw 10 0 y10.length))) 2 (.one (.p none (pI .i32 x2)))) 1 (.one (.p none (pI .i64 x1))), upd noOb 10 (some (.arr false 1 (y10.map e2))), rtP 7, 7⟩
theorem netting_netOf.all : ∀ k, (∀ x1 x2 x11 x12 x13 y10 r, netting_netOf.l0 k x1 x2 x11 x12 x13 y10 = some r → AtL C0 F26 (sub [1, 1, 0, 1, 0, 0] b26) [.blk 0, .code (sub [1, 1, 1] b26)] (some (netting_netOf.l0S x1 x2 x11 x12 x13 y10)) (RetQ C0 [.tmp 6] [aV [.sl 1 (r.map e2)]])) ∧ (∀ x1 x2 x11 x12 x13 x27 y9 y10 r, netting_netOf.j0 k x1 x2 x11 x12 x13 x27 y9 y10 = some r → AtJ C0 F26 (sub [1, 1, 0, 1, 0, 0, 1, 1, 0, 0, 1, 1] b26) [.blk 1, .code (sub [1, 1, 0, 1, 0, 0, 1, 1, 1] b26), .lp (sub [1, 1, 0, 1, 0, 0] b26), .blk 0, .code (sub [1, 1, 1] b26)] (some (netting_netOf.j0S x1 x2 x11 x12 x13 x27 y9 y10)) (RetQ C0 [.tmp 6] [aV [.sl 1 (r.map e2)]])) ∧ (∀ x1 x2 x11 x12 x13 y10 r, netting_netOf.j1 k x1 x2 x11 x12 x13 y10 = some r → AtJ C0 F26 (sub [1, 1, 0, 1, 0, 0, 1, 1, 1] b26) [.lp (sub [1, 1, 0, 1, 0, 0] b26), .blk 0, .code (sub [1, 1, 1] b26)] (some (netting_netOf.j1S x1 x2 x11 x12 x13 y10)) (RetQ C0 [.tmp 6] [aV [.sl 1 (r.map e2)]]))
  | 0 => ⟨fun _ _ _ _ _ _ r h => (by cases h), fun _ _ _ _ _ _ _ _ r h => (by cases h), fun _ _ _ _ _ _ r h => (by cases h)⟩
  | k + 1 => by
    obtain ⟨Il0, Ij0, Ij1⟩ := netting_netOf.all k
    refine ⟨?_, ?_, ?_⟩
    · intro x1 x2 x11 x12 x13 y10 r h
      rw [netting_netOf.l0] at h
      rw [atL_some]
      by_cases h1 : x13 < x12
      · rw [if_pos h1] at h
        obtain ⟨h2, h⟩ := ifn h
        obtain ⟨h3, h⟩ := ifn h
        have h3r := fun (q : 0 ≤ x13) => rd_at (l := x11) (i := x13) z58 q h3
        replace h3r := h3r (by omega)
        by_cases h4 : ((x11.getD ((x13 : Int).toNat) z58).f3).f0 = x1
        · rw [if_pos h4] at h
          simp only [↓Bp, ↓Bs, Bo, Bh, Ba, Bc, Bd, ↓reduceIte, Nat.reduceAdd, Nat.reduceEqDiff, Nat.reduceLT, Nat.reduceLeDiff, Nat.reduceBEq, Nat.reduceMul, Int.reduceLE, Int.reduceLT, Int.reduceEq, Int.reduceToNat, reduceCtorEq, G26, Tf, b26, ↓Try.f26, F26, TY, H26, D26_6, D26_7, h1, h2, h3, h3r, eq_true h4, netting_netOf.l0S]
          refine AtJ.eq (Ij0 _ _ _ _ _ _ _ _ _ h) ?_
          simp only [Tf, Int.reduceToNat, Int.toNat_natCast, netting_netOf.j0S]
        · rw [if_neg h4] at h
          simp only [↓Bp, ↓Bs, Bo, Bh, Ba, Bc, Bd, ↓reduceIte, Nat.reduceAdd, Nat.reduceEqDiff, Nat.reduceLT, Nat.reduceLeDiff, Nat.reduceBEq, Nat.reduceMul, Int.reduceLE, Int.reduceLT, Int.reduceEq, Int.reduceToNat, reduceCtorEq, G26, Tf, b26, ↓Try.f26, F26, TY, H26, D26_6, D26_7, h1, h2, h3, h3r, h4, netting_netOf.l0S]
          refine AtJ.eq (Ij0 _ _ _ _ _ _ _ _ _ h) ?_
          simp only [Tf, Int.reduceToNat, Int.toNat_natCast, netting_netOf.j0S]
      · rw [if_neg h1] at h
        obtain rfl := Option.some.inj h
        simp only [↓Bp, ↓Bs, Bo, Bh, Ba, Bc, Bd, ↓reduceIte, Nat.reduceAdd, Nat.reduceEqDiff, Nat.reduceLT, Nat.reduceLeDiff, Nat.reduceBEq, Nat.reduceMul, Int.reduceLE, Int.reduceLT, Int.reduceEq, Int.reduceToNat, reduceCtorEq, G26, Tf, b26, ↓Try.f26, F26, TY, H26, D26_6, D26_7, h1, netting_netOf.l0S]
    · intro x1 x2 x11 x12 x13 x27 y9 y10 r h
      rw [netting_netOf.j0] at h
      rw [atJ_some]
      by_cases h5 : x27 = true
      · rw [if_pos h5] at h
        obtain ⟨h6, h⟩ := ifn h
        obtain ⟨h7, h⟩ := ifn h
        have h7t := nat_lt (i := y9.f1) (by omega) h7
        have h7g := get_of (l := y10) 0 h7t
        try simp only [List.length_set, List.length_replicate, List.length_map, Int.reduceToNat] at h7t
        obtain ⟨h8, h⟩ := ifn h
        have h8t := nat_lt (i := y9.f1) (by omega) h8
        have h8g := get_of (l := y10) 0 h8t
        try simp only [List.length_set, List.length_replicate, List.length_map, Int.reduceToNat] at h8t
        obtain ⟨h9, h⟩ := ifn h
        obtain ⟨h10, h⟩ := ifn h
        have h10t := nat_lt (i := y9.f2) (by omega) h10
        have h10g := get_of (l := (y10.set ((y9.f1 : Int).toNat) (wrap64 ((y10.getD ((y9.f1 : Int).toNat) 0) - y9.f3.f1)))) 0 h10t
        try simp only [List.length_set, List.length_replicate, List.length_map, Int.reduceToNat] at h10t
        obtain ⟨h11, h⟩ := ifn h
        have h11t := nat_lt (i := y9.f2) (by omega) h11
        have h11g := get_of (l := (y10.set ((y9.f1 : Int).toNat) (wrap64 ((y10.getD ((y9.f1 : Int).toNat) 0) - y9.f3.f1)))) 0 h11t
        try simp only [List.length_set, List.length_replicate, List.length_map, Int.reduceToNat] at h11t
        simp only [↓Bp, ↓Bs, Bo, Bh, Ba, Bc, Bd, ↓reduceIte, Nat.reduceAdd, Nat.reduceEqDiff, Nat.reduceLT, Nat.reduceLeDiff, Nat.reduceBEq, Nat.reduceMul, Int.reduceLE, Int.reduceLT, Int.reduceEq, Int.reduceToNat, reduceCtorEq, G26, Tf, b26, ↓Try.f26, F26, TY, H26, D26_6, D26_7, h5, h6, h7, h7t, h7g, h8, h8t, h8g, h9, h10, h10t, h10g, h11, h11t, h11g, netting_netOf.j0S]
        refine AtJ.eq (Ij1 _ _ _ _ _ _ _ h) ?_
        simp only [Tf, Int.reduceToNat, Int.toNat_natCast, netting_netOf.j1S]
      · rw [if_neg h5] at h
        simp only [↓Bp, ↓Bs, Bo, Bh, Ba, Bc, Bd, ↓reduceIte, Nat.reduceAdd, Nat.reduceEqDiff, Nat.reduceLT, Nat.reduceLeDiff, Nat.reduceBEq, Nat.reduceMul, Int.reduceLE, Int.reduceLT, Int.reduceEq, Int.reduceToNat, reduceCtorEq, G26, Tf, b26, ↓Try.f26, F26, TY, H26, D26_6, D26_7, h5, netting_netOf.j0S]
        refine AtJ.eq (Ij1 _ _ _ _ _ _ _ h) ?_
        simp only [Tf, Int.reduceToNat, Int.toNat_natCast, netting_netOf.j1S]
    · intro x1 x2 x11 x12 x13 y10 r h
      rw [netting_netOf.j1] at h
      rw [atJ_some]
      simp only [↓Bp, ↓Bs, Bo, Bh, Ba, Bc, Bd, ↓reduceIte, Nat.reduceAdd, Nat.reduceEqDiff, Nat.reduceLT, Nat.reduceLeDiff, Nat.reduceBEq, Nat.reduceMul, Int.reduceLE, Int.reduceLT, Int.reduceEq, Int.reduceToNat, reduceCtorEq, G26, Tf, b26, ↓Try.f26, F26, TY, H26, D26_6, D26_7, netting_netOf.j1S]
      refine AtL.eq (Il0 _ _ _ _ _ _ _ h) ?_
      simp only [Tf, Int.reduceToNat, Int.toNat_natCast, netting_netOf.l0S]
theorem netting_netOf.ok (k : Nat) (x0 : List S58) (x1 : Int) (x2 : Int) (r : List Int) (h : netting_netOf.f k x0 x1 x2 = some r) : Ret C0 26 [(false, [.sl 6 (x0.map e58)]), (false, [.sc (.int .i64 x1)]), (false, [.sc (.int .i32 x2)])] [aV [.sl 1 (r.map e2)]] := by
  refine ret_of (c := b26) Try.func26 rfl rfl ⟨Nat.le_of_ble_eq_true rfl, Nat.le_of_ble_eq_true rfl⟩ ?_
  unfold netting_netOf.f at h
  rw [show Try.f26.results.toList = [.tmp 6] from rfl]
  rw [show Try.f26.ntmps = 50 from rfl]
  obtain ⟨Il0, Ij0, Ij1⟩ := netting_netOf.all k
  simp only [↓Bp, ↓Bs, Bo, Bh, Ba, Bc, Bd, ↓reduceIte, Nat.reduceAdd, Nat.reduceEqDiff, Nat.reduceLT, Nat.reduceLeDiff, Nat.reduceBEq, Nat.reduceMul, Int.reduceLE, Int.reduceLT, Int.reduceEq, Int.reduceToNat, reduceCtorEq, G26, Tf, b26, ↓Try.f26, F26, TY, H26, D26_6, D26_7]
  refine AtL.eq (Il0 _ _ _ _ _ _ _ h) ?_
  simp only [Tf, Int.reduceToNat, Int.toNat_natCast, netting_netOf.l0S]

mutual
def netting_worst.l0 : Nat → List Int → Int → Int → List Int → Int → Int → Option Int
  | 0, _, _, _, _, _, _ => none
  | k + 1, x1, x5, x6, x10, x11, x12 => (if x12 < x11 then (if 0 ≤ x12 then (if x12 < (x10.length : Int) then (if x12 < (x1.length : Int) then (if (x10.getD ((x12 : Int).toNat) 0) < 0 then (netting_worst.j0 k x1 x5 x6 x12 (wrap64 ((wrap64 (0 - (x10.getD ((x12 : Int).toNat) 0))) - (x1.getD ((x12 : Int).toNat) 0))) x10 x11 x12 (decide (x6 < (wrap64 ((wrap64 (0 - (x10.getD ((x12 : Int).toNat) 0))) - (x1.getD ((x12 : Int).toNat) 0)))))) else (netting_worst.j0 k x1 x5 x6 x12 (wrap64 ((wrap64 (0 - (x10.getD ((x12 : Int).toNat) 0))) - (x1.getD ((x12 : Int).toNat) 0))) x10 x11 x12 false)) else none) else none) else none) else (some x5))
def netting_worst.j0 : Nat → List Int → Int → Int → Int → Int → List Int → Int → Int → Bool → Option Int
  | 0, _, _, _, _, _, _, _, _, _ => none
  | k + 1, x1, x5, x6, x7, x9, x10, x11, x12, x30 => (if x30 = true then (netting_worst.j1 k x1 x7 x9 x10 x11 x12) else (netting_worst.j1 k x1 x5 x6 x10 x11 x12))
def netting_worst.j1 : Nat → List Int → Int → Int → List Int → Int → Int → Option Int
  | 0, _, _, _, _, _, _ => none
  | k + 1, x1, x5, x6, x10, x11, x12 => (netting_worst.l0 k x1 x5 x6 x10 x11 (wrap64 (x12 + 1)))
end
def netting_worst.f (k : Nat) (x0 : List Int) (x1 : List Int) : Option Int := (netting_worst.l0 k x1 (-1) 0 x0 (x0.length : Int) 0)
theorem netting_worst.monos : ∀ k, (∀ x1 x5 x6 x10 x11 x12, LeO (netting_worst.l0 k x1 x5 x6 x10 x11 x12) (netting_worst.l0 (k + 1) x1 x5 x6 x10 x11 x12)) ∧ (∀ x1 x5 x6 x7 x9 x10 x11 x12 x30, LeO (netting_worst.j0 k x1 x5 x6 x7 x9 x10 x11 x12 x30) (netting_worst.j0 (k + 1) x1 x5 x6 x7 x9 x10 x11 x12 x30)) ∧ (∀ x1 x5 x6 x10 x11 x12, LeO (netting_worst.j1 k x1 x5 x6 x10 x11 x12) (netting_worst.j1 (k + 1) x1 x5 x6 x10 x11 x12))
  | 0 => ⟨fun _ _ _ _ _ _ => leo_none, fun _ _ _ _ _ _ _ _ _ => leo_none, fun _ _ _ _ _ _ => leo_none⟩
  | k + 1 => by
    obtain ⟨Il0, Ij0, Ij1⟩ := netting_worst.monos k
    refine ⟨?_, ?_, ?_⟩
    · intro x1 x5 x6 x10 x11 x12
      rw [netting_worst.l0, netting_worst.l0]
      exact leo_ite (leo_if (leo_if (leo_if (leo_ite (Ij0 _ _ _ _ _ _ _ _ _) (Ij0 _ _ _ _ _ _ _ _ _))))) (leo_refl)
    · intro x1 x5 x6 x7 x9 x10 x11 x12 x30
      rw [netting_worst.j0, netting_worst.j0]
      exact leo_ite (Ij1 _ _ _ _ _ _) (Ij1 _ _ _ _ _ _)
    · intro x1 x5 x6 x10 x11 x12
      rw [netting_worst.j1, netting_worst.j1]
      exact Il0 _ _ _ _ _ _
theorem netting_worst.mono (k : Nat) (x0 : List Int) (x1 : List Int) : LeO (netting_worst.f k x0 x1) (netting_worst.f (k + 1) x0 x1) := (netting_worst.monos k).1 _ _ _ _ _ _
noncomputable def b33 : Code := bodyOf Try.f33
def F33 : Fr := ⟨0, 35, 1, [], 33⟩
def netting_worst.l0S (x1 : List Int) (x5 : Int) (x6 : Int) (x10 : List Int) (x11 : Int) (x12 : Int) : St := ⟨upd (upd (upd (upd (upd (upd (fun _ => .no) 12 (.one (.p none (pI .i64 x12)))) 11 (.one (.p none (pI .i64 x11)))) 10 (.one (.p none (.sl 1 (x10.map e2))))) 6 (.one (.p none (pI .i64 x6)))) 5 (.one (.p none (pI .i64 x5)))) 1 (.one (.p none (.sl 1 (x1.map e2)))), noOb, rtP 7, 7⟩
def netting_worst.j0S (x1 : List Int) (x5 : Int) (x6 : Int) (x7 : Int) (x9 : Int) (x10 : List Int) (x11 : Int) (x12 : Int) (x30 : Bool) : St := ⟨upd (upd (upd (upd (upd (upd (upd (upd (upd (fun _ => .no) 30 (.one (.p none (pB x30)))) 12 (.one (.p none (pI .i64 x12)))) 11 (.one (.p none (pI .i64 x11)))) 10 (.one (.p none (.sl 1 (x10.map e2))))) 9 (.one (.p none (pI .i64 x9)))) 7 (.one (.p none (pI .i64 x7)))) 6 (.one (.p none (pI .i64 x6)))) 5 (.one (.p none (pI .i64 x5)))) 1 (.one (.p none (.sl 1 (x1.map e2)))), noOb, rtP 10, 10⟩
def netting_worst.j1S (x1 : List Int) (x5 : Int) (x6 : Int) (x10 : List Int) (x11 : Int) (x12 : Int) : St := ⟨upd (upd (upd (upd (upd (upd (fun _ => .no) 12 (.one (.p none (pI .i64 x12)))) 11 (.one (.p none (pI .i64 x11)))) 10 (.one (.p none (.sl 1 (x10.map e2))))) 6 (.one (.p none (pI .i64 x6)))) 5 (.one (.p none (pI .i64 x5)))) 1 (.one (.p none (.sl 1 (x1.map e2)))), noOb, rtP 7, 7⟩
theorem netting_worst.all : ∀ k, (∀ x1 x5 x6 x10 x11 x12 r, netting_worst.l0 k x1 x5 x6 x10 x11 x12 = some r → AtL C0 F33 (sub [1, 1, 0, 1, 0, 0] b33) [.blk 0, .code (sub [1, 1, 1] b33)] (some (netting_worst.l0S x1 x5 x6 x10 x11 x12)) (RetQ C0 [.tmp 4] [aV [pI .i64 r]])) ∧ (∀ x1 x5 x6 x7 x9 x10 x11 x12 x30 r, netting_worst.j0 k x1 x5 x6 x7 x9 x10 x11 x12 x30 = some r → AtJ C0 F33 (sub [1, 1, 0, 1, 0, 0, 1, 1, 0, 0, 1, 1, 1] b33) [.blk 1, .code (sub [1, 1, 0, 1, 0, 0, 1, 1, 1] b33), .lp (sub [1, 1, 0, 1, 0, 0] b33), .blk 0, .code (sub [1, 1, 1] b33)] (some (netting_worst.j0S x1 x5 x6 x7 x9 x10 x11 x12 x30)) (RetQ C0 [.tmp 4] [aV [pI .i64 r]])) ∧ (∀ x1 x5 x6 x10 x11 x12 r, netting_worst.j1 k x1 x5 x6 x10 x11 x12 = some r → AtJ C0 F33 (sub [1, 1, 0, 1, 0, 0, 1, 1, 1] b33) [.lp (sub [1, 1, 0, 1, 0, 0] b33), .blk 0, .code (sub [1, 1, 1] b33)] (some (netting_worst.j1S x1 x5 x6 x10 x11 x12)) (RetQ C0 [.tmp 4] [aV [pI .i64 r]]))
  | 0 => ⟨fun _ _ _ _ _ _ r h => (by cases h), fun _ _ _ _ _ _ _ _ _ r h => (by cases h), fun _ _ _ _ _ _ r h => (by cases h)⟩
  | k + 1 => by
    obtain ⟨Il0, Ij0, Ij1⟩ := netting_worst.all k
    refine ⟨?_, ?_, ?_⟩
    · intro x1 x5 x6 x10 x11 x12 r h
      rw [netting_worst.l0] at h
      rw [atL_some]
      by_cases h1 : x12 < x11
      · rw [if_pos h1] at h
        obtain ⟨h2, h⟩ := ifn h
        obtain ⟨h3, h⟩ := ifn h
        have h3r := fun (q : 0 ≤ x12) => rd_at (l := x10) (i := x12) 0 q h3
        replace h3r := h3r (by omega)
        obtain ⟨h4, h⟩ := ifn h
        have h4r := fun (q : 0 ≤ x12) => rd_at (l := x1) (i := x12) 0 q h4
        replace h4r := h4r (by omega)
        by_cases h5 : (x10.getD ((x12 : Int).toNat) 0) < 0
        · rw [if_pos h5] at h
          simp only [↓Bp, ↓Bs, Bo, Bh, Ba, Bc, ↓reduceIte, Nat.reduceAdd, Nat.reduceEqDiff, Nat.reduceLT, Nat.reduceLeDiff, Nat.reduceBEq, Nat.reduceMul, Int.reduceLE, Int.reduceLT, Int.reduceEq, Int.reduceToNat, reduceCtorEq, G33, Tf, b33, ↓Try.f33, F33, TY, H33, h1, h2, h3, h3r, h4, h4r, h5, netting_worst.l0S]
          refine AtJ.eq (Ij0 _ _ _ _ _ _ _ _ _ _ h) ?_
          simp only [Tf, Int.reduceToNat, Int.toNat_natCast, netting_worst.j0S]
        · rw [if_neg h5] at h
          simp only [↓Bp, ↓Bs, Bo, Bh, Ba, Bc, ↓reduceIte, Nat.reduceAdd, Nat.reduceEqDiff, Nat.reduceLT, Nat.reduceLeDiff, Nat.reduceBEq, Nat.reduceMul, Int.reduceLE, Int.reduceLT, Int.reduceEq, Int.reduceToNat, reduceCtorEq, G33, Tf, b33, ↓Try.f33, F33, TY, H33, h1, h2, h3, h3r, h4, h4r, h5, netting_worst.l0S]
          refine AtJ.eq (Ij0 _ _ _ _ _ _ _ _ _ _ h) ?_
          simp only [Tf, Int.reduceToNat, Int.toNat_natCast, netting_worst.j0S]
      · rw [if_neg h1] at h
        obtain rfl := Option.some.inj h
        simp only [↓Bp, ↓Bs, Bo, Bh, Ba, Bc, ↓reduceIte, Nat.reduceAdd, Nat.reduceEqDiff, Nat.reduceLT, Nat.reduceLeDiff, Nat.reduceBEq, Nat.reduceMul, Int.reduceLE, Int.reduceLT, Int.reduceEq, Int.reduceToNat, reduceCtorEq, G33, Tf, b33, ↓Try.f33, F33, TY, H33, h1, netting_worst.l0S]
    · intro x1 x5 x6 x7 x9 x10 x11 x12 x30 r h
      rw [netting_worst.j0] at h
      rw [atJ_some]
      by_cases h6 : x30 = true
      · rw [if_pos h6] at h
        simp only [↓Bp, ↓Bs, Bo, Bh, Ba, Bc, ↓reduceIte, Nat.reduceAdd, Nat.reduceEqDiff, Nat.reduceLT, Nat.reduceLeDiff, Nat.reduceBEq, Nat.reduceMul, Int.reduceLE, Int.reduceLT, Int.reduceEq, Int.reduceToNat, reduceCtorEq, G33, Tf, b33, ↓Try.f33, F33, TY, H33, h6, netting_worst.j0S]
        refine AtJ.eq (Ij1 _ _ _ _ _ _ _ h) ?_
        simp only [Tf, Int.reduceToNat, Int.toNat_natCast, netting_worst.j1S]
      · rw [if_neg h6] at h
        simp only [↓Bp, ↓Bs, Bo, Bh, Ba, Bc, ↓reduceIte, Nat.reduceAdd, Nat.reduceEqDiff, Nat.reduceLT, Nat.reduceLeDiff, Nat.reduceBEq, Nat.reduceMul, Int.reduceLE, Int.reduceLT, Int.reduceEq, Int.reduceToNat, reduceCtorEq, G33, Tf, b33, ↓Try.f33, F33, TY, H33, h6, netting_worst.j0S]
        refine AtJ.eq (Ij1 _ _ _ _ _ _ _ h) ?_
        simp only [Tf, Int.reduceToNat, Int.toNat_natCast, netting_worst.j1S]
    · intro x1 x5 x6 x10 x11 x12 r h
      rw [netting_worst.j1] at h
      rw [atJ_some]
      simp only [↓Bp, ↓Bs, Bo, Bh, Ba, Bc, ↓reduceIte, Nat.reduceAdd, Nat.reduceEqDiff, Nat.reduceLT, Nat.reduceLeDiff, Nat.reduceBEq, Nat.reduceMul, Int.reduceLE, Int.reduceLT, Int.reduceEq, Int.reduceToNat, reduceCtorEq, G33, Tf, b33, ↓Try.f33, F33, TY, H33, netting_worst.j1S]
      refine AtL.eq (Il0 _ _ _ _ _ _ _ h) ?_
      simp only [Tf, Int.reduceToNat, Int.toNat_natCast, netting_worst.l0S]
theorem netting_worst.ok (k : Nat) (x0 : List Int) (x1 : List Int) (r : Int) (h : netting_worst.f k x0 x1 = some r) : Ret C0 33 [(false, [.sl 1 (x0.map e2)]), (false, [.sl 1 (x1.map e2)])] [aV [pI .i64 r]] := by
  refine ret_of (c := b33) Try.func33 rfl rfl ⟨Nat.le_of_ble_eq_true rfl, Nat.le_of_ble_eq_true rfl⟩ ?_
  unfold netting_worst.f at h
  rw [show Try.f33.results.toList = [.tmp 4] from rfl]
  rw [show Try.f33.ntmps = 35 from rfl]
  obtain ⟨Il0, Ij0, Ij1⟩ := netting_worst.all k
  simp only [↓Bp, ↓Bs, Bo, Bh, Ba, Bc, ↓reduceIte, Nat.reduceAdd, Nat.reduceEqDiff, Nat.reduceLT, Nat.reduceLeDiff, Nat.reduceBEq, Nat.reduceMul, Int.reduceLE, Int.reduceLT, Int.reduceEq, Int.reduceToNat, reduceCtorEq, G33, Tf, b33, ↓Try.f33, F33, TY, H33]
  refine AtL.eq (Il0 _ _ _ _ _ _ _ h) ?_
  simp only [Tf, Int.reduceToNat, Int.toNat_natCast, netting_worst.l0S]

def slices_Clone_int64_int64_s0.f (x0 : List Int) : Option (List Int) := (if 0 < x0.length then (if x0.length ≤ 16777216 then (some x0) else none) else none)
noncomputable def b41 : Code := bodyOf Try.f41
def F41_0 : Fr := ⟨0, 8, 2, [], 41⟩
theorem slices_Clone_int64_int64_s0.ok (x0 : List Int) (r : List Int) (h : slices_Clone_int64_int64_s0.f x0 = some r) : RetM C0 0 41 [.one (.p none (.sl 1 (x0.map e2)))] (noOb) (rtP 2) 2 [.one (.vw 0 0 r.length)] (upd noOb 0 (some (.arr false 1 (r.map e2)))) (rtP 3) 3 := by
  refine retM_of (c := b41) (vis := []) Try.func41 rfl rfl ⟨Nat.le_of_ble_eq_true rfl, Nat.le_of_ble_eq_true rfl⟩ rfl ?_
  unfold slices_Clone_int64_int64_s0.f at h
  rw [show Try.f41.results.toList = [.tmp 2] from rfl]
  rw [show Try.f41.ntmps = 8 from rfl]
  obtain ⟨h1, h⟩ := ifn h
  obtain ⟨h2, h⟩ := ifn h
  obtain rfl := Option.some.inj h
  simp only [↓Bp, ↓Bs, Bo, Bh, Ba, Bc, Bm, Nat.reduceSub, Int.sub_zero, ↓reduceIte, Nat.reduceAdd, Nat.reduceEqDiff, Nat.reduceLT, Nat.reduceLeDiff, Nat.reduceBEq, Nat.reduceMul, Int.reduceLE, Int.reduceLT, Int.reduceEq, Int.reduceToNat, reduceCtorEq, G41, Tf, b41, ↓Try.f41, F41_0, TY, H41, h1, h2]

mutual
def netting_settled.l0 : Nat → List S45 → Int → Int → List Int → Option (List S45)
  | 0, _, _, _, _ => none
  | k + 1, x4, x5, x6, y9 => (netting_settled.l1 k x4 x5 x6 y9)
def netting_settled.l1 : Nat → List S45 → Int → Int → List Int → Option (List S45)
  | 0, _, _, _, _ => none
  | k + 1, x4, x5, x6, y9 => (if x5 < (y9.length : Int) then (if 0 ≤ x5 then (if x5 < (y9.length : Int) then (netting_settled.j0 k x4 x5 x6 (decide (0 ≤ (y9.getD ((x5 : Int).toNat) 0))) y9) else none) else none) else (netting_settled.j0 k x4 x5 x6 false y9))
def netting_settled.j0 : Nat → List S45 → Int → Int → Bool → List Int → Option (List S45)
  | 0, _, _, _, _, _ => none
  | k + 1, x4, x5, x6, x20, y9 => (if x20 = true then (netting_settled.l1 k x4 (wrap64 (x5 + 1)) x6 y9) else (netting_settled.l2 k x4 x5 x6 y9))
def netting_settled.l2 : Nat → List S45 → Int → Int → List Int → Option (List S45)
  | 0, _, _, _, _ => none
  | k + 1, x4, x5, x6, y9 => (if x6 < (y9.length : Int) then (if 0 ≤ x6 then (if x6 < (y9.length : Int) then (netting_settled.j1 k x4 x5 x6 (decide ((y9.getD ((x6 : Int).toNat) 0) ≤ 0)) y9) else none) else none) else (netting_settled.j1 k x4 x5 x6 false y9))
def netting_settled.j1 : Nat → List S45 → Int → Int → Bool → List Int → Option (List S45)
  | 0, _, _, _, _, _ => none
  | k + 1, x4, x5, x6, x33, y9 => (if x33 = true then (netting_settled.l2 k x4 x5 (wrap64 (x6 + 1)) y9) else (if x5 = (y9.length : Int) then (netting_settled.j2 k x4 x5 x6 true y9) else (netting_settled.j2 k x4 x5 x6 (decide (x6 = (y9.length : Int))) y9)))
def netting_settled.j2 : Nat → List S45 → Int → Int → Bool → List Int → Option (List S45)
  | 0, _, _, _, _, _ => none
  | k + 1, x4, x5, x6, x45, y9 => (if x45 = true then (some x4) else (if 0 ≤ x5 then (if x5 < (y9.length : Int) then (if 0 ≤ x6 then (if x6 < (y9.length : Int) then (if x4.length + 1 ≤ 16777216 then (if x5 < (y9.length : Int) then (if x5 < (y9.length : Int) then (if x6 < ((y9.set ((x5 : Int).toNat) (wrap64 ((y9.getD ((x5 : Int).toNat) 0) + (min (wrap64 (0 - (y9.getD ((x5 : Int).toNat) 0))) (y9.getD ((x6 : Int).toNat) 0))))).length : Int) then (if x6 < ((y9.set ((x5 : Int).toNat) (wrap64 ((y9.getD ((x5 : Int).toNat) 0) + (min (wrap64 (0 - (y9.getD ((x5 : Int).toNat) 0))) (y9.getD ((x6 : Int).toNat) 0))))).length : Int) then (netting_settled.l0 k (x4 ++ [(⟨x5, x6, (min (wrap64 (0 - (y9.getD ((x5 : Int).toNat) 0))) (y9.getD ((x6 : Int).toNat) 0))⟩ : S45)]) x5 x6 ((y9.set ((x5 : Int).toNat) (wrap64 ((y9.getD ((x5 : Int).toNat) 0) + (min (wrap64 (0 - (y9.getD ((x5 : Int).toNat) 0))) (y9.getD ((x6 : Int).toNat) 0))))).set ((x6 : Int).toNat) (wrap64 (((y9.set ((x5 : Int).toNat) (wrap64 ((y9.getD ((x5 : Int).toNat) 0) + (min (wrap64 (0 - (y9.getD ((x5 : Int).toNat) 0))) (y9.getD ((x6 : Int).toNat) 0))))).getD ((x6 : Int).toNat) 0) - (min (wrap64 (0 - (y9.getD ((x5 : Int).toNat) 0))) (y9.getD ((x6 : Int).toNat) 0)))))) else none) else none) else none) else none) else none) else none) else none) else none) else none))
end
def netting_settled.f (k : Nat) (x0 : List Int) : Option (List S45) := ((slices_Clone_int64_int64_s0.f x0).bind fun t1 => (netting_settled.l0 k ([] : List S45) 0 0 t1))
theorem netting_settled.monos : ∀ k, (∀ x4 x5 x6 y9, LeO (netting_settled.l0 k x4 x5 x6 y9) (netting_settled.l0 (k + 1) x4 x5 x6 y9)) ∧ (∀ x4 x5 x6 y9, LeO (netting_settled.l1 k x4 x5 x6 y9) (netting_settled.l1 (k + 1) x4 x5 x6 y9)) ∧ (∀ x4 x5 x6 x20 y9, LeO (netting_settled.j0 k x4 x5 x6 x20 y9) (netting_settled.j0 (k + 1) x4 x5 x6 x20 y9)) ∧ (∀ x4 x5 x6 y9, LeO (netting_settled.l2 k x4 x5 x6 y9) (netting_settled.l2 (k + 1) x4 x5 x6 y9)) ∧ (∀ x4 x5 x6 x33 y9, LeO (netting_settled.j1 k x4 x5 x6 x33 y9) (netting_settled.j1 (k + 1) x4 x5 x6 x33 y9)) ∧ (∀ x4 x5 x6 x45 y9, LeO (netting_settled.j2 k x4 x5 x6 x45 y9) (netting_settled.j2 (k + 1) x4 x5 x6 x45 y9))
  | 0 => ⟨fun _ _ _ _ => leo_none, fun _ _ _ _ => leo_none, fun _ _ _ _ _ => leo_none, fun _ _ _ _ => leo_none, fun _ _ _ _ _ => leo_none, fun _ _ _ _ _ => leo_none⟩
  | k + 1 => by
    obtain ⟨Il0, Il1, Ij0, Il2, Ij1, Ij2⟩ := netting_settled.monos k
    refine ⟨?_, ?_, ?_, ?_, ?_, ?_⟩
    · intro x4 x5 x6 y9
      rw [netting_settled.l0, netting_settled.l0]
      exact Il1 _ _ _ _
    · intro x4 x5 x6 y9
      rw [netting_settled.l1, netting_settled.l1]
      exact leo_ite (leo_if (leo_if (Ij0 _ _ _ _ _))) (Ij0 _ _ _ _ _)
    · intro x4 x5 x6 x20 y9
      rw [netting_settled.j0, netting_settled.j0]
      exact leo_ite (Il1 _ _ _ _) (Il2 _ _ _ _)
    · intro x4 x5 x6 y9
      rw [netting_settled.l2, netting_settled.l2]
      exact leo_ite (leo_if (leo_if (Ij1 _ _ _ _ _))) (Ij1 _ _ _ _ _)
    · intro x4 x5 x6 x33 y9
      rw [netting_settled.j1, netting_settled.j1]
      exact leo_ite (Il2 _ _ _ _) (leo_ite (Ij2 _ _ _ _ _) (Ij2 _ _ _ _ _))
    · intro x4 x5 x6 x45 y9
      rw [netting_settled.j2, netting_settled.j2]
      exact leo_ite (leo_refl) (leo_if (leo_if (leo_if (leo_if (leo_if (leo_if (leo_if (leo_if (leo_if (Il0 _ _ _ _))))))))))
theorem netting_settled.mono (k : Nat) (x0 : List Int) : LeO (netting_settled.f k x0) (netting_settled.f (k + 1) x0) := leo_bind leo_refl (fun _ => (netting_settled.monos k).1 _ _ _ _)
noncomputable def b27 : Code := bodyOf Try.f27
def F27 : Fr := ⟨0, 78, 1, [], 27⟩
theorem D27_10 {k : List It} {s : St} {Q : Post} {ops : Array Oper} {us : List Upd} (ha : apart2 [(0, 1), (0, 5), (1, 5), (2, 5), (3, 5), (4, 5), (0, 6), (1, 6), (2, 6), (3, 6), (4, 6), (5, 6), (0, 7), (1, 7), (2, 7), (3, 7), (4, 7), (0, 8), (1, 8), (2, 8), (3, 8), (4, 8)] (loud 0 us.reverse) = true) (hl : lessAll us.length [(0, 1), (0, 5), (1, 5), (2, 5), (3, 5), (4, 5), (0, 6), (1, 6), (2, 6), (3, 6), (4, 6), (5, 6), (0, 7), (1, 7), (2, 7), (3, 7), (4, 7), (0, 8), (1, 8), (2, 8), (3, 8), (4, 8)] = true) : GR C0 ⟨0, 78, 1, [], 27⟩ k Q 10 true ops [] s us = Fin C0 ⟨0, 78, 1, [], 27⟩ k .fall s Q := gr_nilD (F := F27) rfl ha hl
def netting_settled.l0S (x4 : List S45) (x5 : Int) (x6 : Int) (y9 : List Int) : St := ⟨upd (upd (upd (upd (fun _ => .no) 6 (.one (.p none (pI .i64 x6)))) 5 (.one (.p none (pI .i64 x5)))) 4 (.one (.p (some 2) (.sl 3 (x4.map e45))))) 3 (.one (.vw 9 0 y9.length)), upd noOb 9 (some (.arr false 1 (y9.map e2))), rtP 5, 5⟩
def netting_settled.l1S (x4 : List S45) (x5 : Int) (x6 : Int) (y9 : List Int) : St := ⟨upd (upd (upd (upd (fun _ => .no) 6 (.one (.p none (pI .i64 x6)))) 5 (.one (.p none (pI .i64 x5)))) 4 (.one (.p (some 2) (.sl 3 (x4.map e45))))) 3 (.one (.vw 9 0 y9.length)), upd noOb 9 (some (.arr false 1 (y9.map e2))), rtP 5, 5⟩
def netting_settled.j0S (x4 : List S45) (x5 : Int) (x6 : Int) (x20 : Bool) (y9 : List Int) : St := ⟨upd (upd (upd (upd (upd (fun _ => .no) 20 (.one (.p none (pB x20)))) 6 (.one (.p none (pI .i64 x6)))) 5 (.one (.p none (pI .i64 x5)))) 4 (.one (.p (some 2) (.sl 3 (x4.map e45))))) 3 (.one (.vw 9 0 y9.length)), upd noOb 9 (some (.arr false 1 (y9.map e2))), rtP 6, 6⟩
def netting_settled.l2S (x4 : List S45) (x5 : Int) (x6 : Int) (y9 : List Int) : St := ⟨upd (upd (upd (upd (fun _ => .no) 6 (.one (.p none (pI .i64 x6)))) 5 (.one (.p none (pI .i64 x5)))) 4 (.one (.p (some 2) (.sl 3 (x4.map e45))))) 3 (.one (.vw 9 0 y9.length)), upd noOb 9 (some (.arr false 1 (y9.map e2))), rtP 5, 5⟩
def netting_settled.j1S (x4 : List S45) (x5 : Int) (x6 : Int) (x33 : Bool) (y9 : List Int) : St := ⟨upd (upd (upd (upd (upd (fun _ => .no) 33 (.one (.p none (pB x33)))) 6 (.one (.p none (pI .i64 x6)))) 5 (.one (.p none (pI .i64 x5)))) 4 (.one (.p (some 2) (.sl 3 (x4.map e45))))) 3 (.one (.vw 9 0 y9.length)), upd noOb 9 (some (.arr false 1 (y9.map e2))), rtP 6, 6⟩
def netting_settled.j2S (x4 : List S45) (x5 : Int) (x6 : Int) (x45 : Bool) (y9 : List Int) : St := ⟨upd (upd (upd (upd (upd (fun _ => .no) 45 (.one (.p none (pB x45)))) 6 (.one (.p none (pI .i64 x6)))) 5 (.one (.p none (pI .i64 x5)))) 4 (.one (.p (some 2) (.sl 3 (x4.map e45))))) 3 (.one (.vw 9 0 y9.length)), upd noOb 9 (some (.arr false 1 (y9.map e2))), rtP 6, 6⟩
theorem netting_settled.all : ∀ k, (∀ x4 x5 x6 y9 r, netting_settled.l0 k x4 x5 x6 y9 = some r → AtL C0 F27 (sub [1, 1, 1, 1, 0, 0] b27) [.blk 0] (some (netting_settled.l0S x4 x5 x6 y9)) (RetQ C0 [.tmp 2] [aV [.sl 3 (r.map e45)]])) ∧ (∀ x4 x5 x6 y9 r, netting_settled.l1 k x4 x5 x6 y9 = some r → AtL C0 F27 (sub [1, 1, 1, 1, 0, 0, 0, 0, 0, 0] b27) [.blk 2, .code (sub [1, 1, 1, 1, 0, 0, 0, 1] b27), .blk 1, .lp (sub [1, 1, 1, 1, 0, 0] b27), .blk 0] (some (netting_settled.l1S x4 x5 x6 y9)) (RetQ C0 [.tmp 2] [aV [.sl 3 (r.map e45)]])) ∧ (∀ x4 x5 x6 x20 y9 r, netting_settled.j0 k x4 x5 x6 x20 y9 = some r → AtJ C0 F27 (sub [1, 1, 1, 1, 0, 0, 0, 0, 0, 0, 0, 1] b27) [.code (sub [1, 1, 1, 1, 0, 0, 0, 0, 0, 0, 1] b27), .lp (sub [1, 1, 1, 1, 0, 0, 0, 0, 0, 0] b27), .blk 2, .code (sub [1, 1, 1, 1, 0, 0, 0, 1] b27), .blk 1, .lp (sub [1, 1, 1, 1, 0, 0] b27), .blk 0] (some (netting_settled.j0S x4 x5 x6 x20 y9)) (RetQ C0 [.tmp 2] [aV [.sl 3 (r.map e45)]])) ∧ (∀ x4 x5 x6 y9 r, netting_settled.l2 k x4 x5 x6 y9 = some r → AtL C0 F27 (sub [1, 1, 1, 1, 0, 0, 0, 1, 0, 0, 0] b27) [.blk 4, .code (sub [1, 1, 1, 1, 0, 0, 0, 1, 1] b27), .blk 1, .lp (sub [1, 1, 1, 1, 0, 0] b27), .blk 0] (some (netting_settled.l2S x4 x5 x6 y9)) (RetQ C0 [.tmp 2] [aV [.sl 3 (r.map e45)]])) ∧ (∀ x4 x5 x6 x33 y9 r, netting_settled.j1 k x4 x5 x6 x33 y9 = some r → AtJ C0 F27 (sub [1, 1, 1, 1, 0, 0, 0, 1, 0, 0, 0, 0, 1] b27) [.code (sub [1, 1, 1, 1, 0, 0, 0, 1, 0, 0, 0, 1] b27), .lp (sub [1, 1, 1, 1, 0, 0, 0, 1, 0, 0, 0] b27), .blk 4, .code (sub [1, 1, 1, 1, 0, 0, 0, 1, 1] b27), .blk 1, .lp (sub [1, 1, 1, 1, 0, 0] b27), .blk 0] (some (netting_settled.j1S x4 x5 x6 x33 y9)) (RetQ C0 [.tmp 2] [aV [.sl 3 (r.map e45)]])) ∧ (∀ x4 x5 x6 x45 y9 r, netting_settled.j2 k x4 x5 x6 x45 y9 = some r → AtJ C0 F27 (sub [1, 1, 1, 1, 0, 0, 0, 1, 1, 0, 1] b27) [.code (sub [1, 1, 1, 1, 0, 0, 0, 1, 1, 1] b27), .blk 1, .lp (sub [1, 1, 1, 1, 0, 0] b27), .blk 0] (some (netting_settled.j2S x4 x5 x6 x45 y9)) (RetQ C0 [.tmp 2] [aV [.sl 3 (r.map e45)]]))
  | 0 => ⟨fun _ _ _ _ r h => (by cases h), fun _ _ _ _ r h => (by cases h), fun _ _ _ _ _ r h => (by cases h), fun _ _ _ _ r h => (by cases h), fun _ _ _ _ _ r h => (by cases h), fun _ _ _ _ _ r h => (by cases h)⟩
  | k + 1 => by
    obtain ⟨Il0, Il1, Ij0, Il2, Ij1, Ij2⟩ := netting_settled.all k
    refine ⟨?_, ?_, ?_, ?_, ?_, ?_⟩
    · intro x4 x5 x6 y9 r h
      rw [netting_settled.l0] at h
      rw [atL_some]
      simp only [↓Bp, ↓Bs, Bo, Bh, Ba, Bc, Bm, Nat.reduceSub, Int.sub_zero, Bd, ↓reduceIte, Nat.reduceAdd, Nat.reduceEqDiff, Nat.reduceLT, Nat.reduceLeDiff, Nat.reduceBEq, Nat.reduceMul, Int.reduceLE, Int.reduceLT, Int.reduceEq, Int.reduceToNat, reduceCtorEq, G27, Tf, b27, ↓Try.f27, F27, TY, H27, D27_10, netting_settled.l0S]
      refine AtL.eq (Il1 _ _ _ _ _ h) ?_
      simp only [Tf, Int.reduceToNat, Int.toNat_natCast, netting_settled.l1S]
    · intro x4 x5 x6 y9 r h
      rw [netting_settled.l1] at h
      rw [atL_some]
      by_cases h2 : x5 < (y9.length : Int)
      · rw [if_pos h2] at h
        obtain ⟨h3, h⟩ := ifn h
        obtain ⟨h4, h⟩ := ifn h
        have h4t := nat_lt (i := x5) (by omega) h4
        have h4g := get_of (l := y9) 0 h4t
        try simp only [List.length_set, List.length_replicate, List.length_map, Int.reduceToNat] at h4t
        simp only [↓Bp, ↓Bs, Bo, Bh, Ba, Bc, Bm, Nat.reduceSub, Int.sub_zero, Bd, ↓reduceIte, Nat.reduceAdd, Nat.reduceEqDiff, Nat.reduceLT, Nat.reduceLeDiff, Nat.reduceBEq, Nat.reduceMul, Int.reduceLE, Int.reduceLT, Int.reduceEq, Int.reduceToNat, reduceCtorEq, G27, Tf, b27, ↓Try.f27, F27, TY, H27, D27_10, h2, h3, h4, h4t, h4g, netting_settled.l1S]
        refine AtJ.eq (Ij0 _ _ _ _ _ _ h) ?_
        simp only [Tf, Int.reduceToNat, Int.toNat_natCast, netting_settled.j0S]
      · rw [if_neg h2] at h
        simp only [↓Bp, ↓Bs, Bo, Bh, Ba, Bc, Bm, Nat.reduceSub, Int.sub_zero, Bd, ↓reduceIte, Nat.reduceAdd, Nat.reduceEqDiff, Nat.reduceLT, Nat.reduceLeDiff, Nat.reduceBEq, Nat.reduceMul, Int.reduceLE, Int.reduceLT, Int.reduceEq, Int.reduceToNat, reduceCtorEq, G27, Tf, b27, ↓Try.f27, F27, TY, H27, D27_10, h2, netting_settled.l1S]
        refine AtJ.eq (Ij0 _ _ _ _ _ _ h) ?_
        simp only [Tf, Int.reduceToNat, Int.toNat_natCast, netting_settled.j0S]
    · intro x4 x5 x6 x20 y9 r h
      rw [netting_settled.j0] at h
      rw [atJ_some]
      by_cases h5 : x20 = true
      · rw [if_pos h5] at h
        simp only [↓Bp, ↓Bs, Bo, Bh, Ba, Bc, Bm, Nat.reduceSub, Int.sub_zero, Bd, ↓reduceIte, Nat.reduceAdd, Nat.reduceEqDiff, Nat.reduceLT, Nat.reduceLeDiff, Nat.reduceBEq, Nat.reduceMul, Int.reduceLE, Int.reduceLT, Int.reduceEq, Int.reduceToNat, reduceCtorEq, G27, Tf, b27, ↓Try.f27, F27, TY, H27, D27_10, h5, netting_settled.j0S]
        refine AtL.eq (Il1 _ _ _ _ _ h) ?_
        simp only [Tf, Int.reduceToNat, Int.toNat_natCast, netting_settled.l1S]
      · rw [if_neg h5] at h
        simp only [↓Bp, ↓Bs, Bo, Bh, Ba, Bc, Bm, Nat.reduceSub, Int.sub_zero, Bd, ↓reduceIte, Nat.reduceAdd, Nat.reduceEqDiff, Nat.reduceLT, Nat.reduceLeDiff, Nat.reduceBEq, Nat.reduceMul, Int.reduceLE, Int.reduceLT, Int.reduceEq, Int.reduceToNat, reduceCtorEq, G27, Tf, b27, ↓Try.f27, F27, TY, H27, D27_10, h5, netting_settled.j0S]
        refine AtL.eq (Il2 _ _ _ _ _ h) ?_
        simp only [Tf, Int.reduceToNat, Int.toNat_natCast, netting_settled.l2S]
    · intro x4 x5 x6 y9 r h
      rw [netting_settled.l2] at h
      rw [atL_some]
      by_cases h6 : x6 < (y9.length : Int)
      · rw [if_pos h6] at h
        obtain ⟨h7, h⟩ := ifn h
        obtain ⟨h8, h⟩ := ifn h
        have h8t := nat_lt (i := x6) (by omega) h8
        have h8g := get_of (l := y9) 0 h8t
        try simp only [List.length_set, List.length_replicate, List.length_map, Int.reduceToNat] at h8t
        simp only [↓Bp, ↓Bs, Bo, Bh, Ba, Bc, Bm, Nat.reduceSub, Int.sub_zero, Bd, ↓reduceIte, Nat.reduceAdd, Nat.reduceEqDiff, Nat.reduceLT, Nat.reduceLeDiff, Nat.reduceBEq, Nat.reduceMul, Int.reduceLE, Int.reduceLT, Int.reduceEq, Int.reduceToNat, reduceCtorEq, G27, Tf, b27, ↓Try.f27, F27, TY, H27, D27_10, h6, h7, h8, h8t, h8g, netting_settled.l2S]
        refine AtJ.eq (Ij1 _ _ _ _ _ _ h) ?_
        simp only [Tf, Int.reduceToNat, Int.toNat_natCast, netting_settled.j1S]
      · rw [if_neg h6] at h
        simp only [↓Bp, ↓Bs, Bo, Bh, Ba, Bc, Bm, Nat.reduceSub, Int.sub_zero, Bd, ↓reduceIte, Nat.reduceAdd, Nat.reduceEqDiff, Nat.reduceLT, Nat.reduceLeDiff, Nat.reduceBEq, Nat.reduceMul, Int.reduceLE, Int.reduceLT, Int.reduceEq, Int.reduceToNat, reduceCtorEq, G27, Tf, b27, ↓Try.f27, F27, TY, H27, D27_10, h6, netting_settled.l2S]
        refine AtJ.eq (Ij1 _ _ _ _ _ _ h) ?_
        simp only [Tf, Int.reduceToNat, Int.toNat_natCast, netting_settled.j1S]
    · intro x4 x5 x6 x33 y9 r h
      rw [netting_settled.j1] at h
      rw [atJ_some]
      by_cases h9 : x33 = true
      · rw [if_pos h9] at h
        simp only [↓Bp, ↓Bs, Bo, Bh, Ba, Bc, Bm, Nat.reduceSub, Int.sub_zero, Bd, ↓reduceIte, Nat.reduceAdd, Nat.reduceEqDiff, Nat.reduceLT, Nat.reduceLeDiff, Nat.reduceBEq, Nat.reduceMul, Int.reduceLE, Int.reduceLT, Int.reduceEq, Int.reduceToNat, reduceCtorEq, G27, Tf, b27, ↓Try.f27, F27, TY, H27, D27_10, h9, netting_settled.j1S]
        refine AtL.eq (Il2 _ _ _ _ _ h) ?_
        simp only [Tf, Int.reduceToNat, Int.toNat_natCast, netting_settled.l2S]
      · rw [if_neg h9] at h
        by_cases h10 : x5 = (y9.length : Int)
        · rw [if_pos h10] at h
          simp only [↓Bp, ↓Bs, Bo, Bh, Ba, Bc, Bm, Nat.reduceSub, Int.sub_zero, Bd, ↓reduceIte, Nat.reduceAdd, Nat.reduceEqDiff, Nat.reduceLT, Nat.reduceLeDiff, Nat.reduceBEq, Nat.reduceMul, Int.reduceLE, Int.reduceLT, Int.reduceEq, Int.reduceToNat, reduceCtorEq, G27, Tf, b27, ↓Try.f27, F27, TY, H27, D27_10, h9, eq_true h10, netting_settled.j1S]
          refine AtJ.eq (Ij2 _ _ _ _ _ _ h) ?_
          simp only [Tf, Int.reduceToNat, Int.toNat_natCast, netting_settled.j2S]
        · rw [if_neg h10] at h
          simp only [↓Bp, ↓Bs, Bo, Bh, Ba, Bc, Bm, Nat.reduceSub, Int.sub_zero, Bd, ↓reduceIte, Nat.reduceAdd, Nat.reduceEqDiff, Nat.reduceLT, Nat.reduceLeDiff, Nat.reduceBEq, Nat.reduceMul, Int.reduceLE, Int.reduceLT, Int.reduceEq, Int.reduceToNat, reduceCtorEq, G27, Tf, b27, ↓Try.f27, F27, TY, H27, D27_10, h9, h10, netting_settled.j1S]
          refine AtJ.eq (Ij2 _ _ _ _ _ _ h) ?_
          simp only [Tf, Int.reduceToNat, Int.toNat_natCast, netting_settled.j2S]
    · intro x4 x5 x6 x45 y9 r h
      rw [netting_settled.j2] at h
      rw [atJ_some]
      by_cases h11 : x45 = true
      · rw [if_pos h11] at h
        obtain rfl := Option.some.inj h
        simp only [↓Bp, ↓Bs, Bo, Bh, Ba, Bc, Bm, Nat.reduceSub, Int.sub_zero, Bd, ↓reduceIte, Nat.reduceAdd, Nat.reduceEqDiff, Nat.reduceLT, Nat.reduceLeDiff, Nat.reduceBEq, Nat.reduceMul, Int.reduceLE, Int.reduceLT, Int.reduceEq, Int.reduceToNat, reduceCtorEq, G27, Tf, b27, ↓Try.f27, F27, TY, H27, D27_10, h11, netting_settled.j2S]
      · rw [if_neg h11] at h
        obtain ⟨h12, h⟩ := ifn h
        obtain ⟨h13, h⟩ := ifn h
        have h13t := nat_lt (i := x5) (by omega) h13
        have h13g := get_of (l := y9) 0 h13t
        try simp only [List.length_set, List.length_replicate, List.length_map, Int.reduceToNat] at h13t
        obtain ⟨h14, h⟩ := ifn h
        obtain ⟨h15, h⟩ := ifn h
        have h15t := nat_lt (i := x6) (by omega) h15
        have h15g := get_of (l := y9) 0 h15t
        try simp only [List.length_set, List.length_replicate, List.length_map, Int.reduceToNat] at h15t
        obtain ⟨h16, h⟩ := ifn h
        obtain ⟨h17, h⟩ := ifn h
        have h17t := nat_lt (i := x5) (by omega) h17
        have h17g := get_of (l := y9) 0 h17t
        try simp only [List.length_set, List.length_replicate, List.length_map, Int.reduceToNat] at h17t
        obtain ⟨h18, h⟩ := ifn h
        have h18t := nat_lt (i := x5) (by omega) h18
        have h18g := get_of (l := y9) 0 h18t
        try simp only [List.length_set, List.length_replicate, List.length_map, Int.reduceToNat] at h18t
        obtain ⟨h19, h⟩ := ifn h
        have h19t := nat_lt (i := x6) (by omega) h19
        have h19g := get_of (l := (y9.set ((x5 : Int).toNat) (wrap64 ((y9.getD ((x5 : Int).toNat) 0) + (min (wrap64 (0 - (y9.getD ((x5 : Int).toNat) 0))) (y9.getD ((x6 : Int).toNat) 0)))))) 0 h19t
        try simp only [List.length_set, List.length_replicate, List.length_map, Int.reduceToNat] at h19t
        obtain ⟨h20, h⟩ := ifn h
        have h20t := nat_lt (i := x6) (by omega) h20
        have h20g := get_of (l := (y9.set ((x5 : Int).toNat) (wrap64 ((y9.getD ((x5 : Int).toNat) 0) + (min (wrap64 (0 - (y9.getD ((x5 : Int).toNat) 0))) (y9.getD ((x6 : Int).toNat) 0)))))) 0 h20t
        try simp only [List.length_set, List.length_replicate, List.length_map, Int.reduceToNat] at h20t
        simp only [↓Bp, ↓Bs, Bo, Bh, Ba, Bc, Bm, Nat.reduceSub, Int.sub_zero, Bd, ↓reduceIte, Nat.reduceAdd, Nat.reduceEqDiff, Nat.reduceLT, Nat.reduceLeDiff, Nat.reduceBEq, Nat.reduceMul, Int.reduceLE, Int.reduceLT, Int.reduceEq, Int.reduceToNat, reduceCtorEq, G27, Tf, b27, ↓Try.f27, F27, TY, H27, D27_10, h11, h12, h13, h13t, h13g, h14, h15, h15t, h15g, h16, h17, h17t, h17g, h18, h18t, h18g, h19, h19t, h19g, h20, h20t, h20g, netting_settled.j2S]
        refine AtL.eq (Il0 _ _ _ _ _ h) ?_
        simp only [Tf, Int.reduceToNat, Int.toNat_natCast, netting_settled.l0S]
theorem netting_settled.ok (k : Nat) (x0 : List Int) (r : List S45) (h : netting_settled.f k x0 = some r) : Ret C0 27 [(false, [.sl 1 (x0.map e2)])] [aV [.sl 3 (r.map e45)]] := by
  refine ret_of (c := b27) Try.func27 rfl rfl ⟨Nat.le_of_ble_eq_true rfl, Nat.le_of_ble_eq_true rfl⟩ ?_
  unfold netting_settled.f at h
  rw [show Try.f27.results.toList = [.tmp 2] from rfl]
  rw [show Try.f27.ntmps = 78 from rfl]
  obtain ⟨Il0, Il1, Ij0, Il2, Ij1, Ij2⟩ := netting_settled.all k
  obtain ⟨t1, h1, h⟩ := bnd h
  have h1c := (slices_Clone_int64_int64_s0.ok _ _ h1)
  try simp only [Tf, List.nil_append, List.cons_append, Int.reduceToNat] at h1c
  simp only [↓Bp, ↓Bs, Bo, Bh, Ba, Bc, Bm, Nat.reduceSub, Int.sub_zero, Bd, ↓reduceIte, Nat.reduceAdd, Nat.reduceEqDiff, Nat.reduceLT, Nat.reduceLeDiff, Nat.reduceBEq, Nat.reduceMul, Int.reduceLE, Int.reduceLT, Int.reduceEq, Int.reduceToNat, reduceCtorEq, G27, Tf, b27, ↓Try.f27, F27, TY, H27, D27_10, mvC_eq h1c]
  refine AtL.eq (Il0 _ _ _ _ _ h) ?_
  simp only [Tf, Int.reduceToNat, Int.toNat_natCast, netting_settled.l0S]

def netting_Run_2_s0.f (x0 : S58) (x1 : Int) : Option Bool := (if x0.f1 = x1 then (some true) else (some (decide (x0.f2 = x1))))
noncomputable def b36 : Code := bodyOf Try.f36
def F36 : Fr := ⟨0, 14, 1, [], 36⟩
theorem netting_Run_2_s0.ok (x0 : S58) (x1 : Int) (r : Bool) (h : netting_Run_2_s0.f x0 x1 = some r) : Ret C0 36 [(true, [.sc (.int .i64 x0.f0), .sc (.int .i64 x0.f1), .sc (.int .i64 x0.f2), .sc (.int .i64 x0.f3.f0), .sc (.int .i64 x0.f3.f1), .sc (.int .i32 x0.f4)]), (false, [.ref [.sc (.int .i64 x1)]])] [aV [pB r]] := by
  refine ret_of (c := b36) Try.func36 rfl rfl ⟨Nat.le_of_ble_eq_true rfl, Nat.le_of_ble_eq_true rfl⟩ ?_
  unfold netting_Run_2_s0.f at h
  rw [show Try.f36.results.toList = [.tmp 3] from rfl]
  rw [show Try.f36.ntmps = 14 from rfl]
  by_cases h1 : x0.f1 = x1
  · rw [if_pos h1] at h
    obtain rfl := Option.some.inj h
    simp only [↓Bp, ↓Bs, Bo, Bh, Ba, Bc, ↓reduceIte, Nat.reduceAdd, Nat.reduceEqDiff, Nat.reduceLT, Nat.reduceLeDiff, Nat.reduceBEq, Nat.reduceMul, Int.reduceLE, Int.reduceLT, Int.reduceEq, Int.reduceToNat, reduceCtorEq, G36, Tf, b36, ↓Try.f36, F36, TY, H36, eq_true h1]
  · rw [if_neg h1] at h
    obtain rfl := Option.some.inj h
    simp only [↓Bp, ↓Bs, Bo, Bh, Ba, Bc, ↓reduceIte, Nat.reduceAdd, Nat.reduceEqDiff, Nat.reduceLT, Nat.reduceLeDiff, Nat.reduceBEq, Nat.reduceMul, Int.reduceLE, Int.reduceLT, Int.reduceEq, Int.reduceToNat, reduceCtorEq, G36, Tf, b36, ↓Try.f36, F36, TY, H36, h1]

def slices_IndexFunc_api_Claim_api_Claim_s0.l0 : Nat → List S58 → Int → Int → Int → Option Int
  | 0, _, _, _, _ => none
  | k + 1, x0, x1p1, x7, x8 => (if x8 < x7 then (if 0 ≤ x8 then (if x8 < (x0.length : Int) then ((netting_Run_2_s0.f (⟨(x0.getD ((x8 : Int).toNat) z58).f0, (x0.getD ((x8 : Int).toNat) z58).f1, (x0.getD ((x8 : Int).toNat) z58).f2, ((x0.getD ((x8 : Int).toNat) z58).f3), (x0.getD ((x8 : Int).toNat) z58).f4⟩ : S58) x1p1).bind fun t4 => (if t4 = true then (some x8) else (slices_IndexFunc_api_Claim_api_Claim_s0.l0 k x0 x1p1 x7 (wrap64 (x8 + 1))))) else none) else none) else (some (-1)))
def slices_IndexFunc_api_Claim_api_Claim_s0.f (k : Nat) (x0 : List S58) (x1c0 : Int) : Option Int := (slices_IndexFunc_api_Claim_api_Claim_s0.l0 k x0 x1c0 (x0.length : Int) 0)
theorem slices_IndexFunc_api_Claim_api_Claim_s0.monos : ∀ k, (∀ x0 x1p1 x7 x8, LeO (slices_IndexFunc_api_Claim_api_Claim_s0.l0 k x0 x1p1 x7 x8) (slices_IndexFunc_api_Claim_api_Claim_s0.l0 (k + 1) x0 x1p1 x7 x8))
  | 0 => fun _ _ _ _ => leo_none
  | k + 1 => by
    have I := slices_IndexFunc_api_Claim_api_Claim_s0.monos k
    · intro x0 x1p1 x7 x8
      rw [slices_IndexFunc_api_Claim_api_Claim_s0.l0, slices_IndexFunc_api_Claim_api_Claim_s0.l0]
      exact leo_ite (leo_if (leo_if (leo_bind leo_refl (fun _ => leo_ite (leo_refl) (I _ _ _ _))))) (leo_refl)
theorem slices_IndexFunc_api_Claim_api_Claim_s0.mono (k : Nat) (x0 : List S58) (x1c0 : Int) : LeO (slices_IndexFunc_api_Claim_api_Claim_s0.f k x0 x1c0) (slices_IndexFunc_api_Claim_api_Claim_s0.f (k + 1) x0 x1c0) := (slices_IndexFunc_api_Claim_api_Claim_s0.monos k) _ _ _ _
noncomputable def b45 : Code := bodyOf Try.f45
def F45 : Fr := ⟨0, 19, 1, [], 45⟩
def slices_IndexFunc_api_Claim_api_Claim_s0.l0S (x0 : List S58) (x1p1 : Int) (x7 : Int) (x8 : Int) : St := ⟨upd (upd (upd (upd (fun _ => .no) 8 (.one (.p none (pI .i64 x8)))) 7 (.one (.p none (pI .i64 x7)))) 1 (.one (.p none (.fn 36 [.ref [pI .i64 x1p1]])))) 0 (.one (.p none (.sl 6 (x0.map e58)))), noOb, rtP 5, 5⟩
theorem slices_IndexFunc_api_Claim_api_Claim_s0.all : ∀ k, (∀ x0 x1p1 x7 x8 r, slices_IndexFunc_api_Claim_api_Claim_s0.l0 k x0 x1p1 x7 x8 = some r → AtL C0 F45 (sub [1, 0, 1, 0, 0] b45) [.blk 0, .code (sub [1, 1] b45)] (some (slices_IndexFunc_api_Claim_api_Claim_s0.l0S x0 x1p1 x7 x8)) (RetQ C0 [.tmp 4] [aV [pI .i64 r]]))
  | 0 => fun _ _ _ _ r h => (by cases h)
  | k + 1 => by
    have Il0 := slices_IndexFunc_api_Claim_api_Claim_s0.all k
    · intro x0 x1p1 x7 x8 r h
      rw [slices_IndexFunc_api_Claim_api_Claim_s0.l0] at h
      rw [atL_some]
      by_cases h1 : x8 < x7
      · rw [if_pos h1] at h
        obtain ⟨h2, h⟩ := ifn h
        obtain ⟨h3, h⟩ := ifn h
        have h3r := fun (q : 0 ≤ x8) => rd_at (l := x0) (i := x8) z58 q h3
        replace h3r := h3r (by omega)
        obtain ⟨t4, h4, h⟩ := bnd h
        have h4c := (netting_Run_2_s0.ok _ _ _ h4)
        try simp only [Tf, List.nil_append, List.cons_append, Int.reduceToNat] at h4c
        by_cases h5 : t4 = true
        · rw [if_pos h5] at h
          obtain rfl := Option.some.inj h
          simp only [↓Bp, ↓Bs, Bo, Bh, Ba, Bc, ↓reduceIte, Nat.reduceAdd, Nat.reduceEqDiff, Nat.reduceLT, Nat.reduceLeDiff, Nat.reduceBEq, Nat.reduceMul, Int.reduceLE, Int.reduceLT, Int.reduceEq, Int.reduceToNat, reduceCtorEq, G45, Tf, b45, ↓Try.f45, F45, TY, H45, h1, h2, h3, h3r, callP_eq h4c, h5, slices_IndexFunc_api_Claim_api_Claim_s0.l0S]
        · rw [if_neg h5] at h
          simp only [↓Bp, ↓Bs, Bo, Bh, Ba, Bc, ↓reduceIte, Nat.reduceAdd, Nat.reduceEqDiff, Nat.reduceLT, Nat.reduceLeDiff, Nat.reduceBEq, Nat.reduceMul, Int.reduceLE, Int.reduceLT, Int.reduceEq, Int.reduceToNat, reduceCtorEq, G45, Tf, b45, ↓Try.f45, F45, TY, H45, h1, h2, h3, h3r, callP_eq h4c, h5, slices_IndexFunc_api_Claim_api_Claim_s0.l0S]
          refine AtL.eq (Il0 _ _ _ _ _ h) ?_
          simp only [Tf, Int.reduceToNat, Int.toNat_natCast, slices_IndexFunc_api_Claim_api_Claim_s0.l0S]
      · rw [if_neg h1] at h
        obtain rfl := Option.some.inj h
        simp only [↓Bp, ↓Bs, Bo, Bh, Ba, Bc, ↓reduceIte, Nat.reduceAdd, Nat.reduceEqDiff, Nat.reduceLT, Nat.reduceLeDiff, Nat.reduceBEq, Nat.reduceMul, Int.reduceLE, Int.reduceLT, Int.reduceEq, Int.reduceToNat, reduceCtorEq, G45, Tf, b45, ↓Try.f45, F45, TY, H45, h1, slices_IndexFunc_api_Claim_api_Claim_s0.l0S]
theorem slices_IndexFunc_api_Claim_api_Claim_s0.ok (k : Nat) (x0 : List S58) (x1c0 : Int) (r : Int) (h : slices_IndexFunc_api_Claim_api_Claim_s0.f k x0 x1c0 = some r) : Ret C0 45 [(false, [.sl 6 (x0.map e58)]), (false, [.fn 36 [.ref [.sc (.int .i64 x1c0)]]])] [aV [pI .i64 r]] := by
  refine ret_of (c := b45) Try.func45 rfl rfl ⟨Nat.le_of_ble_eq_true rfl, Nat.le_of_ble_eq_true rfl⟩ ?_
  unfold slices_IndexFunc_api_Claim_api_Claim_s0.f at h
  rw [show Try.f45.results.toList = [.tmp 4] from rfl]
  rw [show Try.f45.ntmps = 19 from rfl]
  have Il0 := slices_IndexFunc_api_Claim_api_Claim_s0.all k
  simp only [↓Bp, ↓Bs, Bo, Bh, Ba, Bc, ↓reduceIte, Nat.reduceAdd, Nat.reduceEqDiff, Nat.reduceLT, Nat.reduceLeDiff, Nat.reduceBEq, Nat.reduceMul, Int.reduceLE, Int.reduceLT, Int.reduceEq, Int.reduceToNat, reduceCtorEq, G45, Tf, b45, ↓Try.f45, F45, TY, H45]
  refine AtL.eq (Il0 _ _ _ _ _ h) ?_
  simp only [Tf, Int.reduceToNat, Int.toNat_natCast, slices_IndexFunc_api_Claim_api_Claim_s0.l0S]

def slices_IndexFunc_api_Claim_api_Claim_s1.l0 : Nat → List S58 → Int → Int → Int → Option Int
  | 0, _, _, _, _ => none
  | k + 1, x0, x1p1, x7, x8 => (if x8 < x7 then (if 0 ≤ x8 then (if x8 < (x0.length : Int) then ((netting_Run_2_s0.f (⟨(x0.getD ((x8 : Int).toNat) z58).f0, (x0.getD ((x8 : Int).toNat) z58).f1, (x0.getD ((x8 : Int).toNat) z58).f2, ((x0.getD ((x8 : Int).toNat) z58).f3), (x0.getD ((x8 : Int).toNat) z58).f4⟩ : S58) x1p1).bind fun t4 => (if t4 = true then (some x8) else (slices_IndexFunc_api_Claim_api_Claim_s1.l0 k x0 x1p1 x7 (wrap64 (x8 + 1))))) else none) else none) else (some (-1)))
def slices_IndexFunc_api_Claim_api_Claim_s1.f (k : Nat) (x0 : List S58) (x1c0 : Int) : Option Int := (slices_IndexFunc_api_Claim_api_Claim_s1.l0 k x0 x1c0 (x0.length : Int) 0)
theorem slices_IndexFunc_api_Claim_api_Claim_s1.monos : ∀ k, (∀ x0 x1p1 x7 x8, LeO (slices_IndexFunc_api_Claim_api_Claim_s1.l0 k x0 x1p1 x7 x8) (slices_IndexFunc_api_Claim_api_Claim_s1.l0 (k + 1) x0 x1p1 x7 x8))
  | 0 => fun _ _ _ _ => leo_none
  | k + 1 => by
    have I := slices_IndexFunc_api_Claim_api_Claim_s1.monos k
    · intro x0 x1p1 x7 x8
      rw [slices_IndexFunc_api_Claim_api_Claim_s1.l0, slices_IndexFunc_api_Claim_api_Claim_s1.l0]
      exact leo_ite (leo_if (leo_if (leo_bind leo_refl (fun _ => leo_ite (leo_refl) (I _ _ _ _))))) (leo_refl)
theorem slices_IndexFunc_api_Claim_api_Claim_s1.mono (k : Nat) (x0 : List S58) (x1c0 : Int) : LeO (slices_IndexFunc_api_Claim_api_Claim_s1.f k x0 x1c0) (slices_IndexFunc_api_Claim_api_Claim_s1.f (k + 1) x0 x1c0) := (slices_IndexFunc_api_Claim_api_Claim_s1.monos k) _ _ _ _
def slices_IndexFunc_api_Claim_api_Claim_s1.l0S (x0 : List S58) (x1p1 : Int) (x7 : Int) (x8 : Int) : St := ⟨upd (upd (upd (upd (fun _ => .no) 8 (.one (.p none (pI .i64 x8)))) 7 (.one (.p none (pI .i64 x7)))) 1 (.one (.p none (.fn 36 [.ref [pI .i64 x1p1]])))) 0 (.one (.p none (.sl 6 (x0.map e58)))), noOb, rtP 5, 5⟩
theorem slices_IndexFunc_api_Claim_api_Claim_s1.all : ∀ k, (∀ x0 x1p1 x7 x8 r, slices_IndexFunc_api_Claim_api_Claim_s1.l0 k x0 x1p1 x7 x8 = some r → AtL C0 F45 (sub [1, 0, 1, 0, 0] b45) [.blk 0, .code (sub [1, 1] b45)] (some (slices_IndexFunc_api_Claim_api_Claim_s1.l0S x0 x1p1 x7 x8)) (RetQ C0 [.tmp 4] [aV [pI .i64 r]]))
  | 0 => fun _ _ _ _ r h => (by cases h)
  | k + 1 => by
    have Il0 := slices_IndexFunc_api_Claim_api_Claim_s1.all k
    · intro x0 x1p1 x7 x8 r h
      rw [slices_IndexFunc_api_Claim_api_Claim_s1.l0] at h
      rw [atL_some]
      by_cases h1 : x8 < x7
      · rw [if_pos h1] at h
        obtain ⟨h2, h⟩ := ifn h
        obtain ⟨h3, h⟩ := ifn h
        have h3r := fun (q : 0 ≤ x8) => rd_at (l := x0) (i := x8) z58 q h3
        replace h3r := h3r (by omega)
        obtain ⟨t4, h4, h⟩ := bnd h
        have h4c := (netting_Run_2_s0.ok _ _ _ h4)
        try simp only [Tf, List.nil_append, List.cons_append, Int.reduceToNat] at h4c
        by_cases h5 : t4 = true
        · rw [if_pos h5] at h
          obtain rfl := Option.some.inj h
          simp only [↓Bp, ↓Bs, Bo, Bh, Ba, Bc, ↓reduceIte, Nat.reduceAdd, Nat.reduceEqDiff, Nat.reduceLT, Nat.reduceLeDiff, Nat.reduceBEq, Nat.reduceMul, Int.reduceLE, Int.reduceLT, Int.reduceEq, Int.reduceToNat, reduceCtorEq, G45, Tf, b45, ↓Try.f45, F45, TY, H45, h1, h2, h3, h3r, callP_eq h4c, h5, slices_IndexFunc_api_Claim_api_Claim_s1.l0S]
        · rw [if_neg h5] at h
          simp only [↓Bp, ↓Bs, Bo, Bh, Ba, Bc, ↓reduceIte, Nat.reduceAdd, Nat.reduceEqDiff, Nat.reduceLT, Nat.reduceLeDiff, Nat.reduceBEq, Nat.reduceMul, Int.reduceLE, Int.reduceLT, Int.reduceEq, Int.reduceToNat, reduceCtorEq, G45, Tf, b45, ↓Try.f45, F45, TY, H45, h1, h2, h3, h3r, callP_eq h4c, h5, slices_IndexFunc_api_Claim_api_Claim_s1.l0S]
          refine AtL.eq (Il0 _ _ _ _ _ h) ?_
          simp only [Tf, Int.reduceToNat, Int.toNat_natCast, slices_IndexFunc_api_Claim_api_Claim_s1.l0S]
      · rw [if_neg h1] at h
        obtain rfl := Option.some.inj h
        simp only [↓Bp, ↓Bs, Bo, Bh, Ba, Bc, ↓reduceIte, Nat.reduceAdd, Nat.reduceEqDiff, Nat.reduceLT, Nat.reduceLeDiff, Nat.reduceBEq, Nat.reduceMul, Int.reduceLE, Int.reduceLT, Int.reduceEq, Int.reduceToNat, reduceCtorEq, G45, Tf, b45, ↓Try.f45, F45, TY, H45, h1, slices_IndexFunc_api_Claim_api_Claim_s1.l0S]
theorem slices_IndexFunc_api_Claim_api_Claim_s1.ok (k : Nat) (x0 : List S58) (x1c0 : Int) (r : Int) (h : slices_IndexFunc_api_Claim_api_Claim_s1.f k x0 x1c0 = some r) : Ret C0 45 [(false, [.sl 6 (x0.map e58)]), (false, [.fn 36 [.ref [.sc (.int .i64 x1c0)]]])] [aV [pI .i64 r]] := by
  refine ret_of (c := b45) Try.func45 rfl rfl ⟨Nat.le_of_ble_eq_true rfl, Nat.le_of_ble_eq_true rfl⟩ ?_
  unfold slices_IndexFunc_api_Claim_api_Claim_s1.f at h
  rw [show Try.f45.results.toList = [.tmp 4] from rfl]
  rw [show Try.f45.ntmps = 19 from rfl]
  have Il0 := slices_IndexFunc_api_Claim_api_Claim_s1.all k
  simp only [↓Bp, ↓Bs, Bo, Bh, Ba, Bc, ↓reduceIte, Nat.reduceAdd, Nat.reduceEqDiff, Nat.reduceLT, Nat.reduceLeDiff, Nat.reduceBEq, Nat.reduceMul, Int.reduceLE, Int.reduceLT, Int.reduceEq, Int.reduceToNat, reduceCtorEq, G45, Tf, b45, ↓Try.f45, F45, TY, H45]
  refine AtL.eq (Il0 _ _ _ _ _ h) ?_
  simp only [Tf, Int.reduceToNat, Int.toNat_natCast, slices_IndexFunc_api_Claim_api_Claim_s1.l0S]

def netting_Run_2_s1.f (x0 : S58) (x1 : Int) : Option Bool := (if x0.f1 = x1 then (some true) else (some (decide (x0.f2 = x1))))
theorem netting_Run_2_s1.ok (x0 : S58) (x1 : Int) (r : Bool) (h : netting_Run_2_s1.f x0 x1 = some r) : Ret C0 36 [(true, [.sc (.int .i64 x0.f0), .sc (.int .i64 x0.f1), .sc (.int .i64 x0.f2), .sc (.int .i64 x0.f3.f0), .sc (.int .i64 x0.f3.f1), .sc (.int .i32 x0.f4)]), (false, [.ref [.sc (.int .i64 x1)]])] [aV [pB r]] := by
  refine ret_of (c := b36) Try.func36 rfl rfl ⟨Nat.le_of_ble_eq_true rfl, Nat.le_of_ble_eq_true rfl⟩ ?_
  unfold netting_Run_2_s1.f at h
  rw [show Try.f36.results.toList = [.tmp 3] from rfl]
  rw [show Try.f36.ntmps = 14 from rfl]
  by_cases h1 : x0.f1 = x1
  · rw [if_pos h1] at h
    obtain rfl := Option.some.inj h
    simp only [↓Bp, ↓Bs, Bo, Bh, Ba, Bc, ↓reduceIte, Nat.reduceAdd, Nat.reduceEqDiff, Nat.reduceLT, Nat.reduceLeDiff, Nat.reduceBEq, Nat.reduceMul, Int.reduceLE, Int.reduceLT, Int.reduceEq, Int.reduceToNat, reduceCtorEq, G36, Tf, b36, ↓Try.f36, F36, TY, H36, eq_true h1]
  · rw [if_neg h1] at h
    obtain rfl := Option.some.inj h
    simp only [↓Bp, ↓Bs, Bo, Bh, Ba, Bc, ↓reduceIte, Nat.reduceAdd, Nat.reduceEqDiff, Nat.reduceLT, Nat.reduceLeDiff, Nat.reduceBEq, Nat.reduceMul, Int.reduceLE, Int.reduceLT, Int.reduceEq, Int.reduceToNat, reduceCtorEq, G36, Tf, b36, ↓Try.f36, F36, TY, H36, h1]

def slices_Clone_api_Claim_api_Claim_s0.f (x0 : List S58) : Option (List S58) := (if 0 < x0.length then (if x0.length ≤ 16777216 then (some x0) else none) else none)
noncomputable def b35 : Code := bodyOf Try.f35
def F35_0 : Fr := ⟨0, 8, 2, [], 35⟩
theorem slices_Clone_api_Claim_api_Claim_s0.ok (x0 : List S58) (r : List S58) (h : slices_Clone_api_Claim_api_Claim_s0.f x0 = some r) : RetM C0 0 35 [.one (.p none (.sl 6 (x0.map e58)))] (noOb) (rtP 2) 2 [.one (.vw 0 0 r.length)] (upd noOb 0 (some (.arr false 6 (r.map e58)))) (rtP 3) 3 := by
  refine retM_of (c := b35) (vis := []) Try.func35 rfl rfl ⟨Nat.le_of_ble_eq_true rfl, Nat.le_of_ble_eq_true rfl⟩ rfl ?_
  unfold slices_Clone_api_Claim_api_Claim_s0.f at h
  rw [show Try.f35.results.toList = [.tmp 2] from rfl]
  rw [show Try.f35.ntmps = 8 from rfl]
  obtain ⟨h1, h⟩ := ifn h
  obtain ⟨h2, h⟩ := ifn h
  obtain rfl := Option.some.inj h
  simp only [↓Bp, ↓Bs, Bo, Bh, Ba, Bc, Bm, Nat.reduceSub, Int.sub_zero, ↓reduceIte, Nat.reduceAdd, Nat.reduceEqDiff, Nat.reduceLT, Nat.reduceLeDiff, Nat.reduceBEq, Nat.reduceMul, Int.reduceLE, Int.reduceLT, Int.reduceEq, Int.reduceToNat, reduceCtorEq, G35, Tf, b35, ↓Try.f35, F35_0, TY, H35, h1, h2]

mutual
def slices_DeleteFunc_api_Claim_api_Claim_s2.l0 : Nat → Int → Int → List S58 → Int → Option (Nat × (List S58) × Int)
  | 0, _, _, _, _ => none
  | k + 1, x5, x6, y0, y1 => (if x6 < (y0.length : Int) then (if 0 ≤ x6 then (if x6 < (y0.length : Int) then ((netting_Run_2_s1.f (⟨(y0.getD ((x6 : Int).toNat) z58).f0, (y0.getD ((x6 : Int).toNat) z58).f1, (y0.getD ((x6 : Int).toNat) z58).f2, ((y0.getD ((x6 : Int).toNat) z58).f3), (y0.getD ((x6 : Int).toNat) z58).f4⟩ : S58) y1).bind fun t6 => (if t6 = true then (slices_DeleteFunc_api_Claim_api_Claim_s2.j0 k x5 x6 y0 y1) else (if 0 ≤ x5 then (if x5 < (y0.length : Int) then (slices_DeleteFunc_api_Claim_api_Claim_s2.j0 k (wrap64 (x5 + 1)) x6 (y0.set ((x5 : Int).toNat) (⟨(y0.getD ((x6 : Int).toNat) z58).f0, (y0.getD ((x6 : Int).toNat) z58).f1, (y0.getD ((x6 : Int).toNat) z58).f2, ((y0.getD ((x6 : Int).toNat) z58).f3), (y0.getD ((x6 : Int).toNat) z58).f4⟩ : S58)) y1) else none) else none))) else none) else none) else (if 0 ≤ x5 then (if x5 ≤ (y0.length : Int) then (some ((x5 : Int).toNat, (y0.take ((x5 : Int).toNat) ++ List.replicate (((y0.length : Int) - x5).toNat) z58 ++ y0.drop (((x5 : Int).toNat) + (((y0.length : Int) - x5).toNat))), y1)) else none) else none))
def slices_DeleteFunc_api_Claim_api_Claim_s2.j0 : Nat → Int → Int → List S58 → Int → Option (Nat × (List S58) × Int)
  | 0, _, _, _, _ => none
  | k + 1, x5, x6, y0, y1 => (slices_DeleteFunc_api_Claim_api_Claim_s2.l0 k x5 (wrap64 (x6 + 1)) y0 y1)
end
def slices_DeleteFunc_api_Claim_api_Claim_s2.f (k : Nat) (y0 : List S58) (y1 : Int) : Option (Nat × (List S58) × Int) := ((slices_IndexFunc_api_Claim_api_Claim_s1.f k y0 y1).bind fun t1 => (if t1 = (-1) then (some (y0.length, y0, y1)) else (slices_DeleteFunc_api_Claim_api_Claim_s2.l0 k t1 (wrap64 (t1 + 1)) y0 y1)))
theorem slices_DeleteFunc_api_Claim_api_Claim_s2.monos : ∀ k, (∀ x5 x6 y0 y1, LeO (slices_DeleteFunc_api_Claim_api_Claim_s2.l0 k x5 x6 y0 y1) (slices_DeleteFunc_api_Claim_api_Claim_s2.l0 (k + 1) x5 x6 y0 y1)) ∧ (∀ x5 x6 y0 y1, LeO (slices_DeleteFunc_api_Claim_api_Claim_s2.j0 k x5 x6 y0 y1) (slices_DeleteFunc_api_Claim_api_Claim_s2.j0 (k + 1) x5 x6 y0 y1))
  | 0 => ⟨fun _ _ _ _ => leo_none, fun _ _ _ _ => leo_none⟩
  | k + 1 => by
    obtain ⟨Il0, Ij0⟩ := slices_DeleteFunc_api_Claim_api_Claim_s2.monos k
    refine ⟨?_, ?_⟩
    · intro x5 x6 y0 y1
      rw [slices_DeleteFunc_api_Claim_api_Claim_s2.l0, slices_DeleteFunc_api_Claim_api_Claim_s2.l0]
      exact leo_ite (leo_if (leo_if (leo_bind leo_refl (fun _ => leo_ite (Ij0 _ _ _ _) (leo_if (leo_if (Ij0 _ _ _ _))))))) (leo_if (leo_if (leo_refl)))
    · intro x5 x6 y0 y1
      rw [slices_DeleteFunc_api_Claim_api_Claim_s2.j0, slices_DeleteFunc_api_Claim_api_Claim_s2.j0]
      exact Il0 _ _ _ _
theorem slices_DeleteFunc_api_Claim_api_Claim_s2.mono (k : Nat) (y0 : List S58) (y1 : Int) : LeO (slices_DeleteFunc_api_Claim_api_Claim_s2.f k y0 y1) (slices_DeleteFunc_api_Claim_api_Claim_s2.f (k + 1) y0 y1) := leo_bind (slices_IndexFunc_api_Claim_api_Claim_s1.mono k _ _) (fun _ => leo_ite (leo_refl) ((slices_DeleteFunc_api_Claim_api_Claim_s2.monos k).1 _ _ _ _))
noncomputable def b34 : Code := bodyOf Try.f34
def F34_2 : Fr := ⟨2, 42, 4, [0, 1], 34⟩
def slices_DeleteFunc_api_Claim_api_Claim_s2.l0S (x5 : Int) (x6 : Int) (y0 : List S58) (y1 : Int) : St := ⟨upd (upd (upd (upd (fun _ => .no) 6 (.one (.p none (pI .i64 x6)))) 5 (.one (.p none (pI .i64 x5)))) 1 (.one (.cl 36 [.pt 1 0]))) 0 (.one (.vw 0 0 y0.length)), upd (upd noOb 1 (some (.var [.p none (pI .i64 y1)]))) 0 (some (.arr false 6 (y0.map e58))), rtP 9, 9⟩
def slices_DeleteFunc_api_Claim_api_Claim_s2.j0S (x5 : Int) (x6 : Int) (y0 : List S58) (y1 : Int) : St := ⟨upd (upd (upd (upd (fun _ => .no) 6 (.one (.p none (pI .i64 x6)))) 5 (.one (.p none (pI .i64 x5)))) 1 (.one (.cl 36 [.pt 1 0]))) 0 (.one (.vw 0 0 y0.length)), upd (upd noOb 1 (some (.var [.p none (pI .i64 y1)]))) 0 (some (.arr false 6 (y0.map e58))), rtP 9, 9⟩
theorem slices_DeleteFunc_api_Claim_api_Claim_s2.all : ∀ k, (∀ x5 x6 y0 y1 r, slices_DeleteFunc_api_Claim_api_Claim_s2.l0 k x5 x6 y0 y1 = some r → AtL C0 F34_2 (sub [1, 1, 1, 0, 1, 0, 0] b34) [.blk 0, .code (sub [1, 1, 1, 1] b34)] (some (slices_DeleteFunc_api_Claim_api_Claim_s2.l0S x5 x6 y0 y1)) (RetQM C0 2 4 [.tmp 4] [.one (.vw 0 0 r.1)] (upd (upd noOb 1 (some (.var [.p none (.sc (.int .i64 r.2.2))]))) 0 (some (.arr false 6 (r.2.1.map e58)))) (rtP 6) 6)) ∧ (∀ x5 x6 y0 y1 r, slices_DeleteFunc_api_Claim_api_Claim_s2.j0 k x5 x6 y0 y1 = some r → AtJ C0 F34_2 (sub [1, 1, 1, 0, 1, 0, 0, 1, 1] b34) [.lp (sub [1, 1, 1, 0, 1, 0, 0] b34), .blk 0, .code (sub [1, 1, 1, 1] b34)] (some (slices_DeleteFunc_api_Claim_api_Claim_s2.j0S x5 x6 y0 y1)) (RetQM C0 2 4 [.tmp 4] [.one (.vw 0 0 r.1)] (upd (upd noOb 1 (some (.var [.p none (.sc (.int .i64 r.2.2))]))) 0 (some (.arr false 6 (r.2.1.map e58)))) (rtP 6) 6))
  | 0 => ⟨fun _ _ _ _ r h => (by cases h), fun _ _ _ _ r h => (by cases h)⟩
  | k + 1 => by
    obtain ⟨Il0, Ij0⟩ := slices_DeleteFunc_api_Claim_api_Claim_s2.all k
    refine ⟨?_, ?_⟩
    · intro x5 x6 y0 y1 r h
      rw [slices_DeleteFunc_api_Claim_api_Claim_s2.l0] at h
      rw [atL_some]
      by_cases h3 : x6 < (y0.length : Int)
      · rw [if_pos h3] at h
        obtain ⟨h4, h⟩ := ifn h
        obtain ⟨h5, h⟩ := ifn h
        have h5t := nat_lt (i := x6) (by omega) h5
        have h5g := get_of (l := y0) z58 h5t
        try simp only [List.length_set, List.length_replicate, List.length_map, Int.reduceToNat] at h5t
        obtain ⟨t6, h6, h⟩ := bnd h
        have h6c := (netting_Run_2_s1.ok _ _ _ h6)
        try simp only [Tf, List.nil_append, List.cons_append, Int.reduceToNat] at h6c
        by_cases h7 : t6 = true
        · rw [if_pos h7] at h
          simp only [↓Bp, ↓Bs, Bo, Bh, Ba, Bc, Bm, Nat.reduceSub, Int.sub_zero, ↓reduceIte, Nat.reduceAdd, Nat.reduceEqDiff, Nat.reduceLT, Nat.reduceLeDiff, Nat.reduceBEq, Nat.reduceMul, Int.reduceLE, Int.reduceLT, Int.reduceEq, Int.reduceToNat, reduceCtorEq, G34, Tf, b34, ↓Try.f34, F34_2, TY, H34, h3, h4, h5, h5t, h5g, callS_eq h6c rfl, h7, slices_DeleteFunc_api_Claim_api_Claim_s2.l0S]
          refine AtJ.eq (Ij0 _ _ _ _ _ h) ?_
          simp only [Tf, Int.reduceToNat, Int.toNat_natCast, slices_DeleteFunc_api_Claim_api_Claim_s2.j0S]
        · rw [if_neg h7] at h
          obtain ⟨h8, h⟩ := ifn h
          obtain ⟨h9, h⟩ := ifn h
          have h9t := nat_lt (i := x5) (by omega) h9
          have h9g := get_of (l := y0) z58 h9t
          try simp only [List.length_set, List.length_replicate, List.length_map, Int.reduceToNat] at h9t
          simp only [↓Bp, ↓Bs, Bo, Bh, Ba, Bc, Bm, Nat.reduceSub, Int.sub_zero, ↓reduceIte, Nat.reduceAdd, Nat.reduceEqDiff, Nat.reduceLT, Nat.reduceLeDiff, Nat.reduceBEq, Nat.reduceMul, Int.reduceLE, Int.reduceLT, Int.reduceEq, Int.reduceToNat, reduceCtorEq, G34, Tf, b34, ↓Try.f34, F34_2, TY, H34, h3, h4, h5, h5t, h5g, callS_eq h6c rfl, h7, h8, h9, h9t, h9g, slices_DeleteFunc_api_Claim_api_Claim_s2.l0S]
          refine AtJ.eq (Ij0 _ _ _ _ _ h) ?_
          simp only [Tf, Int.reduceToNat, Int.toNat_natCast, slices_DeleteFunc_api_Claim_api_Claim_s2.j0S]
      · rw [if_neg h3] at h
        obtain ⟨h10, h⟩ := ifn h
        obtain ⟨h11, h⟩ := ifn h
        have h12 : (x5 : Int).toNat + ((y0.length : Int) - x5).toNat ≤ y0.length := by (try simp only [List.length_take, List.length_drop, List.length_set]); omega
        have h12l : (y0.take ((x5 : Int).toNat)).length + ((y0.length : Int) - x5).toNat + (y0.drop ((x5 : Int).toNat + ((y0.length : Int) - x5).toNat)).length = y0.length := by (try simp only [List.length_take, List.length_drop, List.length_set]); omega
        obtain rfl := Option.some.inj h
        simp only [↓Bp, ↓Bs, Bo, Bh, Ba, Bc, Bm, Nat.reduceSub, Int.sub_zero, ↓reduceIte, Nat.reduceAdd, Nat.reduceEqDiff, Nat.reduceLT, Nat.reduceLeDiff, Nat.reduceBEq, Nat.reduceMul, Int.reduceLE, Int.reduceLT, Int.reduceEq, Int.reduceToNat, reduceCtorEq, G34, Tf, b34, ↓Try.f34, F34_2, TY, H34, h3, h10, h11, h12, h12l, slices_DeleteFunc_api_Claim_api_Claim_s2.l0S]
    · intro x5 x6 y0 y1 r h
      rw [slices_DeleteFunc_api_Claim_api_Claim_s2.j0] at h
      rw [atJ_some]
      simp only [↓Bp, ↓Bs, Bo, Bh, Ba, Bc, Bm, Nat.reduceSub, Int.sub_zero, ↓reduceIte, Nat.reduceAdd, Nat.reduceEqDiff, Nat.reduceLT, Nat.reduceLeDiff, Nat.reduceBEq, Nat.reduceMul, Int.reduceLE, Int.reduceLT, Int.reduceEq, Int.reduceToNat, reduceCtorEq, G34, Tf, b34, ↓Try.f34, F34_2, TY, H34, slices_DeleteFunc_api_Claim_api_Claim_s2.j0S]
      refine AtL.eq (Il0 _ _ _ _ _ h) ?_
      simp only [Tf, Int.reduceToNat, Int.toNat_natCast, slices_DeleteFunc_api_Claim_api_Claim_s2.l0S]
theorem slices_DeleteFunc_api_Claim_api_Claim_s2.ok (k : Nat) (y0 : List S58) (y1 : Int) (r : Nat × (List S58) × Int) (h : slices_DeleteFunc_api_Claim_api_Claim_s2.f k y0 y1 = some r) : RetM C0 2 34 [.one (.vw 0 0 y0.length), .one (.cl 36 [.pt 1 0])] (upd (upd noOb 1 (some (.var [.p none (.sc (.int .i64 y1))]))) 0 (some (.arr false 6 (y0.map e58)))) (rtP 4) 4 [.one (.vw 0 0 r.1)] (upd (upd noOb 1 (some (.var [.p none (.sc (.int .i64 r.2.2))]))) 0 (some (.arr false 6 (r.2.1.map e58)))) (rtP 6) 6 := by
  refine retM_of (c := b34) (vis := [0, 1]) Try.func34 rfl rfl ⟨Nat.le_of_ble_eq_true rfl, Nat.le_of_ble_eq_true rfl⟩ rfl ?_
  unfold slices_DeleteFunc_api_Claim_api_Claim_s2.f at h
  rw [show Try.f34.results.toList = [.tmp 4] from rfl]
  rw [show Try.f34.ntmps = 42 from rfl]
  obtain ⟨Il0, Ij0⟩ := slices_DeleteFunc_api_Claim_api_Claim_s2.all k
  obtain ⟨t1, h1, h⟩ := bnd h
  have h1c := (slices_IndexFunc_api_Claim_api_Claim_s1.ok _ _ _ _ h1)
  try simp only [Tf, List.nil_append, List.cons_append, Int.reduceToNat] at h1c
  by_cases h2 : t1 = (-1)
  · rw [if_pos h2] at h
    obtain rfl := Option.some.inj h
    simp only [↓Bp, ↓Bs, Bo, Bh, Ba, Bc, Bm, Nat.reduceSub, Int.sub_zero, ↓reduceIte, Nat.reduceAdd, Nat.reduceEqDiff, Nat.reduceLT, Nat.reduceLeDiff, Nat.reduceBEq, Nat.reduceMul, Int.reduceLE, Int.reduceLT, Int.reduceEq, Int.reduceToNat, reduceCtorEq, G34, Tf, b34, ↓Try.f34, F34_2, TY, H34, callS_eq h1c rfl, eq_true h2]
  · rw [if_neg h2] at h
    simp only [↓Bp, ↓Bs, Bo, Bh, Ba, Bc, Bm, Nat.reduceSub, Int.sub_zero, ↓reduceIte, Nat.reduceAdd, Nat.reduceEqDiff, Nat.reduceLT, Nat.reduceLeDiff, Nat.reduceBEq, Nat.reduceMul, Int.reduceLE, Int.reduceLT, Int.reduceEq, Int.reduceToNat, reduceCtorEq, G34, Tf, b34, ↓Try.f34, F34_2, TY, H34, callS_eq h1c rfl, h2]
    refine AtL.eq (Il0 _ _ _ _ _ h) ?_
    simp only [Tf, Int.reduceToNat, Int.toNat_natCast, slices_DeleteFunc_api_Claim_api_Claim_s2.l0S]

mutual
def netting_Run.j0 : Nat → List S58 → Int → Int → List Int → Bool → S49 → Option (S49 × Int)
  | 0, _, _, _, _, _, _ => none
  | k + 1, x0, x1, x2, x3, x27, y8 => (if x27 = true then (some ((⟨([] : List Int), ([] : List Int), ([] : List S45)⟩ : S49), 1)) else ((netting_netOf.f k x0 x1 x2).bind fun t6 => (netting_Run.l0 k x0 x1 x2 x3 (⟨([] : List Int), t6, ([] : List S45)⟩ : S49) y8)))
def netting_Run.l0 : Nat → List S58 → Int → Int → List Int → S49 → S49 → Option (S49 × Int)
  | 0, _, _, _, _, _, _ => none
  | k + 1, x0, x1, x2, x3, y11, y8 => ((netting_worst.f k y11.f1 x3).bind fun t7 => (if t7 < 0 then ((netting_settled.f k y11.f1).bind fun t9 => (some ((⟨y11.f0, y11.f1, t9⟩ : S49), 0))) else ((slices_Clone_api_Claim_api_Claim_s0.f x0).bind fun t10 => ((slices_DeleteFunc_api_Claim_api_Claim_s2.f k t10 t7).bind fun t11 => (if y11.f0.length + 1 ≤ 16777216 then ((netting_netOf.f k (t11.2.1.take t11.1) x1 x2).bind fun t13 => (netting_Run.l0 k (t11.2.1.take t11.1) x1 x2 x3 (⟨(y11.f0 ++ [t11.2.2]), t13, y11.f2⟩ : S49) y8)) else none)))))
end
def netting_Run.f (k : Nat) (x0 : List S58) (x1 : Int) (x2 : Int) (x3 : List Int) : Option (S49 × Int) := ((netting_may.f k x0 x1 x2).bind fun t1 => (if t1 = 0 then (if (x3.length : Int) = 16 then ((slices_ContainsFunc_int64_int64_s0.f k x3).bind fun t4 => (netting_Run.j0 k x0 x1 x2 x3 t4 (⟨([] : List Int), ([] : List Int), ([] : List S45)⟩ : S49))) else (netting_Run.j0 k x0 x1 x2 x3 true (⟨([] : List Int), ([] : List Int), ([] : List S45)⟩ : S49))) else (some ((⟨([] : List Int), ([] : List Int), ([] : List S45)⟩ : S49), t1))))
theorem netting_Run.monos : ∀ k, (∀ x0 x1 x2 x3 x27 y8, LeO (netting_Run.j0 k x0 x1 x2 x3 x27 y8) (netting_Run.j0 (k + 1) x0 x1 x2 x3 x27 y8)) ∧ (∀ x0 x1 x2 x3 y11 y8, LeO (netting_Run.l0 k x0 x1 x2 x3 y11 y8) (netting_Run.l0 (k + 1) x0 x1 x2 x3 y11 y8))
  | 0 => ⟨fun _ _ _ _ _ _ => leo_none, fun _ _ _ _ _ _ => leo_none⟩
  | k + 1 => by
    obtain ⟨Ij0, Il0⟩ := netting_Run.monos k
    refine ⟨?_, ?_⟩
    · intro x0 x1 x2 x3 x27 y8
      rw [netting_Run.j0, netting_Run.j0]
      exact leo_ite (leo_refl) (leo_bind (netting_netOf.mono k _ _ _) (fun _ => Il0 _ _ _ _ _ _))
    · intro x0 x1 x2 x3 y11 y8
      rw [netting_Run.l0, netting_Run.l0]
      exact leo_bind (netting_worst.mono k _ _) (fun _ => leo_ite (leo_bind (netting_settled.mono k _) (fun _ => leo_refl)) (leo_bind leo_refl (fun _ => leo_bind (slices_DeleteFunc_api_Claim_api_Claim_s2.mono k _ _) (fun _ => leo_if (leo_bind (netting_netOf.mono k _ _ _) (fun _ => Il0 _ _ _ _ _ _))))))
theorem netting_Run.mono (k : Nat) (x0 : List S58) (x1 : Int) (x2 : Int) (x3 : List Int) : LeO (netting_Run.f k x0 x1 x2 x3) (netting_Run.f (k + 1) x0 x1 x2 x3) := leo_bind (netting_may.mono k _ _ _) (fun _ => leo_ite (leo_ite (leo_bind (slices_ContainsFunc_int64_int64_s0.mono k _) (fun _ => (netting_Run.monos k).1 _ _ _ _ _ _)) ((netting_Run.monos k).1 _ _ _ _ _ _)) (leo_refl))
noncomputable def b21 : Code := bodyOf Try.f21
def F21 : Fr := ⟨0, 60, 1, [], 21⟩
def netting_Run.j0S (x0 : List S58) (x1 : Int) (x2 : Int) (x3 : List Int) (x27 : Bool) (y8 : S49) : St := ⟨upd (upd (upd (upd (upd (upd (fun _ => .no) 27 (.one (.p none (pB x27)))) 8 (.one (.pt 8 0))) 3 (.one (.p none (.sl 1 (x3.map e2))))) 2 (.one (.p none (pI .i32 x2)))) 1 (.one (.p none (pI .i64 x1)))) 0 (.one (.p none (.sl 6 (x0.map e58)))), upd noOb 8 (some (.var [.p (some 7) (.sl 1 (y8.f0.map e3)), .p (some 8) (.sl 1 (y8.f1.map e2)), .p (some 9) (.sl 3 (y8.f2.map e45))])), rtP 10, 10⟩
def netting_Run.l0S (x0 : List S58) (x1 : Int) (x2 : Int) (x3 : List Int) (y11 : S49) (y8 : S49) : St := ⟨upd (upd (upd (upd (upd (upd (fun _ => .no) 11 (.one (.pt 11 0))) 8 (.one (.pt 8 0))) 3 (.one (.p none (.sl 1 (x3.map e2))))) 2 (.one (.p none (pI .i32 x2)))) 1 (.one (.p none (pI .i64 x1)))) 0 (.one (.p none (.sl 6 (x0.map e58)))), upd (upd noOb 8 (some (.var [.p (some 10) (.sl 1 (y8.f0.map e3)), .p (some 11) (.sl 1 (y8.f1.map e2)), .p (some 12) (.sl 3 (y8.f2.map e45))]))) 11 (some (.var [.p (some 7) (.sl 1 (y11.f0.map e3)), .p none (.sl 1 (y11.f1.map e2)), .p (some 9) (.sl 3 (y11.f2.map e45))])), rtP 13, 13⟩
theorem netting_Run.all : ∀ k, (∀ x0 x1 x2 x3 x27 y8 r, netting_Run.j0 k x0 x1 x2 x3 x27 y8 = some r → AtJ C0 F21 (sub [1, 1, 0, 1] b21) [.code (sub [1, 1, 1] b21)] (some (netting_Run.j0S x0 x1 x2 x3 x27 y8)) (RetQ C0 [.cell 8 49, .tmp 9] [aA [.sl 1 (r.1.f0.map e3), .sl 1 (r.1.f1.map e2), .sl 3 (r.1.f2.map e45)], aV [pI .i64 r.2]])) ∧ (∀ x0 x1 x2 x3 y11 y8 r, netting_Run.l0 k x0 x1 x2 x3 y11 y8 = some r → AtL C0 F21 (sub [1, 1, 1, 1, 0, 0] b21) [.blk 0] (some (netting_Run.l0S x0 x1 x2 x3 y11 y8)) (RetQ C0 [.cell 8 49, .tmp 9] [aA [.sl 1 (r.1.f0.map e3), .sl 1 (r.1.f1.map e2), .sl 3 (r.1.f2.map e45)], aV [pI .i64 r.2]]))
  | 0 => ⟨fun _ _ _ _ _ _ r h => (by cases h), fun _ _ _ _ _ _ r h => (by cases h)⟩
  | k + 1 => by
    obtain ⟨Ij0, Il0⟩ := netting_Run.all k
    refine ⟨?_, ?_⟩
    · intro x0 x1 x2 x3 x27 y8 r h
      rw [netting_Run.j0] at h
      rw [atJ_some]
      by_cases h5 : x27 = true
      · rw [if_pos h5] at h
        obtain rfl := Option.some.inj h
        simp only [↓Bp, ↓Bs, Bo, Bh, Ba, Bc, Bm, Nat.reduceSub, Int.sub_zero, ↓reduceIte, Nat.reduceAdd, Nat.reduceEqDiff, Nat.reduceLT, Nat.reduceLeDiff, Nat.reduceBEq, Nat.reduceMul, Int.reduceLE, Int.reduceLT, Int.reduceEq, Int.reduceToNat, reduceCtorEq, G21, Tf, b21, ↓Try.f21, F21, TY, H21, h5, netting_Run.j0S]
      · rw [if_neg h5] at h
        obtain ⟨t6, h6, h⟩ := bnd h
        have h6c := (netting_netOf.ok _ _ _ _ _ h6)
        try simp only [Tf, List.nil_append, List.cons_append, Int.reduceToNat] at h6c
        simp only [↓Bp, ↓Bs, Bo, Bh, Ba, Bc, Bm, Nat.reduceSub, Int.sub_zero, ↓reduceIte, Nat.reduceAdd, Nat.reduceEqDiff, Nat.reduceLT, Nat.reduceLeDiff, Nat.reduceBEq, Nat.reduceMul, Int.reduceLE, Int.reduceLT, Int.reduceEq, Int.reduceToNat, reduceCtorEq, G21, Tf, b21, ↓Try.f21, F21, TY, H21, h5, callP_eq h6c, netting_Run.j0S]
        refine AtL.eq (Il0 _ _ _ _ _ _ _ h) ?_
        simp only [Tf, Int.reduceToNat, Int.toNat_natCast, netting_Run.l0S]
    · intro x0 x1 x2 x3 y11 y8 r h
      rw [netting_Run.l0] at h
      rw [atL_some]
      obtain ⟨t7, h7, h⟩ := bnd h
      have h7c := (netting_worst.ok _ _ _ _ h7)
      try simp only [Tf, List.nil_append, List.cons_append, Int.reduceToNat] at h7c
      by_cases h8 : t7 < 0
      · rw [if_pos h8] at h
        obtain ⟨t9, h9, h⟩ := bnd h
        have h9c := (netting_settled.ok _ _ _ h9)
        try simp only [Tf, List.nil_append, List.cons_append, Int.reduceToNat] at h9c
        obtain rfl := Option.some.inj h
        simp only [↓Bp, ↓Bs, Bo, Bh, Ba, Bc, Bm, Nat.reduceSub, Int.sub_zero, ↓reduceIte, Nat.reduceAdd, Nat.reduceEqDiff, Nat.reduceLT, Nat.reduceLeDiff, Nat.reduceBEq, Nat.reduceMul, Int.reduceLE, Int.reduceLT, Int.reduceEq, Int.reduceToNat, reduceCtorEq, G21, Tf, b21, ↓Try.f21, F21, TY, H21, callP_eq h7c, h8, callP_eq h9c, netting_Run.l0S]
      · rw [if_neg h8] at h
        obtain ⟨t10, h10, h⟩ := bnd h
        have h10c := (slices_Clone_api_Claim_api_Claim_s0.ok _ _ h10)
        try simp only [Tf, List.nil_append, List.cons_append, Int.reduceToNat] at h10c
        obtain ⟨t11, h11, h⟩ := bnd h
        have h11c := (slices_DeleteFunc_api_Claim_api_Claim_s2.ok _ _ _ _ h11)
        try simp only [Tf, List.nil_append, List.cons_append, Int.reduceToNat] at h11c
        obtain ⟨h12, h⟩ := ifn h
        obtain ⟨t13, h13, h⟩ := bnd h
        have h13c := (netting_netOf.ok _ _ _ _ _ h13)
        try simp only [Tf, List.nil_append, List.cons_append, Int.reduceToNat] at h13c
        simp only [↓Bp, ↓Bs, Bo, Bh, Ba, Bc, Bm, Nat.reduceSub, Int.sub_zero, ↓reduceIte, Nat.reduceAdd, Nat.reduceEqDiff, Nat.reduceLT, Nat.reduceLeDiff, Nat.reduceBEq, Nat.reduceMul, Int.reduceLE, Int.reduceLT, Int.reduceEq, Int.reduceToNat, reduceCtorEq, G21, Tf, b21, ↓Try.f21, F21, TY, H21, callP_eq h7c, h8, mvC_eq h10c, mvC_eq h11c, h12, callP_eq h13c, netting_Run.l0S]
        refine AtL.eq (Il0 _ _ _ _ _ _ _ h) ?_
        simp only [Tf, Int.reduceToNat, Int.toNat_natCast, netting_Run.l0S]
theorem netting_Run.ok (k : Nat) (x0 : List S58) (x1 : Int) (x2 : Int) (x3 : List Int) (r : S49 × Int) (h : netting_Run.f k x0 x1 x2 x3 = some r) : Ret C0 21 [(false, [.sl 6 (x0.map e58)]), (false, [.sc (.int .i64 x1)]), (false, [.sc (.int .i32 x2)]), (false, [.sl 1 (x3.map e2)])] [aA [.sl 1 (r.1.f0.map e3), .sl 1 (r.1.f1.map e2), .sl 3 (r.1.f2.map e45)], aV [pI .i64 r.2]] := by
  refine ret_of (c := b21) Try.func21 rfl rfl ⟨Nat.le_of_ble_eq_true rfl, Nat.le_of_ble_eq_true rfl⟩ ?_
  unfold netting_Run.f at h
  rw [show Try.f21.results.toList = [.cell 8 49, .tmp 9] from rfl]
  rw [show Try.f21.ntmps = 60 from rfl]
  obtain ⟨Ij0, Il0⟩ := netting_Run.all k
  obtain ⟨t1, h1, h⟩ := bnd h
  have h1c := (netting_may.ok _ _ _ _ _ h1)
  try simp only [Tf, List.nil_append, List.cons_append, Int.reduceToNat] at h1c
  by_cases h2 : t1 = 0
  · rw [if_pos h2] at h
    by_cases h3 : (x3.length : Int) = 16
    · rw [if_pos h3] at h
      obtain ⟨t4, h4, h⟩ := bnd h
      have h4c := (slices_ContainsFunc_int64_int64_s0.ok _ _ _ h4)
      try simp only [Tf, List.nil_append, List.cons_append, Int.reduceToNat] at h4c
      simp only [↓Bp, ↓Bs, Bo, Bh, Ba, Bc, Bm, Nat.reduceSub, Int.sub_zero, ↓reduceIte, Nat.reduceAdd, Nat.reduceEqDiff, Nat.reduceLT, Nat.reduceLeDiff, Nat.reduceBEq, Nat.reduceMul, Int.reduceLE, Int.reduceLT, Int.reduceEq, Int.reduceToNat, reduceCtorEq, G21, Tf, b21, ↓Try.f21, F21, TY, H21, callP_eq h1c, eq_true h2, eq_true h3, callP_eq h4c]
      refine AtJ.eq (Ij0 _ _ _ _ _ _ _ h) ?_
      simp only [Tf, Int.reduceToNat, Int.toNat_natCast, netting_Run.j0S]
    · rw [if_neg h3] at h
      simp only [↓Bp, ↓Bs, Bo, Bh, Ba, Bc, Bm, Nat.reduceSub, Int.sub_zero, ↓reduceIte, Nat.reduceAdd, Nat.reduceEqDiff, Nat.reduceLT, Nat.reduceLeDiff, Nat.reduceBEq, Nat.reduceMul, Int.reduceLE, Int.reduceLT, Int.reduceEq, Int.reduceToNat, reduceCtorEq, G21, Tf, b21, ↓Try.f21, F21, TY, H21, callP_eq h1c, eq_true h2, h3]
      refine AtJ.eq (Ij0 _ _ _ _ _ _ _ h) ?_
      simp only [Tf, Int.reduceToNat, Int.toNat_natCast, netting_Run.j0S]
  · rw [if_neg h2] at h
    obtain rfl := Option.some.inj h
    simp only [↓Bp, ↓Bs, Bo, Bh, Ba, Bc, Bm, Nat.reduceSub, Int.sub_zero, ↓reduceIte, Nat.reduceAdd, Nat.reduceEqDiff, Nat.reduceLT, Nat.reduceLeDiff, Nat.reduceBEq, Nat.reduceMul, Int.reduceLE, Int.reduceLT, Int.reduceEq, Int.reduceToNat, reduceCtorEq, G21, Tf, b21, ↓Try.f21, F21, TY, H21, callP_eq h1c, h2]

def cashbookref30_bank.f (x0 : Int) : Option Bool := (if 0 ≤ x0 then (some (decide (x0 ≤ 15))) else (some false))
noncomputable def b43 : Code := bodyOf Try.f43
def F43 : Fr := ⟨0, 9, 1, [], 43⟩
theorem cashbookref30_bank.ok (x0 : Int) (r : Bool) (h : cashbookref30_bank.f x0 = some r) : Ret C0 43 [(false, [.sc (.int .i64 x0)])] [aV [pB r]] := by
  refine ret_of (c := b43) Try.func43 rfl rfl ⟨Nat.le_of_ble_eq_true rfl, Nat.le_of_ble_eq_true rfl⟩ ?_
  unfold cashbookref30_bank.f at h
  rw [show Try.f43.results.toList = [.tmp 2] from rfl]
  rw [show Try.f43.ntmps = 9 from rfl]
  by_cases h1 : 0 ≤ x0
  · rw [if_pos h1] at h
    obtain rfl := Option.some.inj h
    simp only [↓Bp, ↓Bs, Bo, Bh, Ba, Bc, ↓reduceIte, Nat.reduceAdd, Nat.reduceEqDiff, Nat.reduceLT, Nat.reduceLeDiff, Nat.reduceBEq, Nat.reduceMul, Int.reduceLE, Int.reduceLT, Int.reduceEq, Int.reduceToNat, reduceCtorEq, G43, Tf, b43, ↓Try.f43, F43, TY, H43, h1]
  · rw [if_neg h1] at h
    obtain rfl := Option.some.inj h
    simp only [↓Bp, ↓Bs, Bo, Bh, Ba, Bc, ↓reduceIte, Nat.reduceAdd, Nat.reduceEqDiff, Nat.reduceLT, Nat.reduceLeDiff, Nat.reduceBEq, Nat.reduceMul, Int.reduceLE, Int.reduceLT, Int.reduceEq, Int.reduceToNat, reduceCtorEq, G43, Tf, b43, ↓Try.f43, F43, TY, H43, h1]

def cashbookref04_Right.f (x0 : Int) : Option Bool := (if (-50000) ≤ x0 then (some (decide (x0 ≤ 50000))) else (some false))
noncomputable def b18 : Code := bodyOf Try.f18
def F18 : Fr := ⟨0, 9, 1, [], 18⟩
theorem cashbookref04_Right.ok (x0 : Int) (r : Bool) (h : cashbookref04_Right.f x0 = some r) : Ret C0 18 [(false, [.sc (.int .i32 x0)])] [aV [pB r]] := by
  refine ret_of (c := b18) Try.func18 rfl rfl ⟨Nat.le_of_ble_eq_true rfl, Nat.le_of_ble_eq_true rfl⟩ ?_
  unfold cashbookref04_Right.f at h
  rw [show Try.f18.results.toList = [.tmp 2] from rfl]
  rw [show Try.f18.ntmps = 9 from rfl]
  by_cases h1 : (-50000) ≤ x0
  · rw [if_pos h1] at h
    obtain rfl := Option.some.inj h
    simp only [↓Bp, ↓Bs, Bo, Bh, Ba, Bc, ↓reduceIte, Nat.reduceAdd, Nat.reduceEqDiff, Nat.reduceLT, Nat.reduceLeDiff, Nat.reduceBEq, Nat.reduceMul, Int.reduceLE, Int.reduceLT, Int.reduceEq, Int.reduceToNat, reduceCtorEq, G18, Tf, b18, ↓Try.f18, F18, TY, H18, h1]
  · rw [if_neg h1] at h
    obtain rfl := Option.some.inj h
    simp only [↓Bp, ↓Bs, Bo, Bh, Ba, Bc, ↓reduceIte, Nat.reduceAdd, Nat.reduceEqDiff, Nat.reduceLT, Nat.reduceLeDiff, Nat.reduceBEq, Nat.reduceMul, Int.reduceLE, Int.reduceLT, Int.reduceEq, Int.reduceToNat, reduceCtorEq, G18, Tf, b18, ↓Try.f18, F18, TY, H18, h1]

def cashbookref30_claim.f (x0 : S58) : Option Bool := (if 1 ≤ x0.f0 then ((cashbookref30_bank.f x0.f1).bind fun t2 => (if t2 = true then ((cashbookref30_bank.f x0.f2).bind fun t4 => (if t4 = true then (if x0.f1 = x0.f2 then (some false) else (if 0 ≤ x0.f3.f0 then (if x0.f3.f0 ≤ 3 then (if 1 ≤ x0.f3.f1 then (if x0.f3.f1 ≤ 1000000000000 then ((cashbookref04_Right.f x0.f4).bind fun t11 => (some t11)) else (some false)) else (some false)) else (some false)) else (some false))) else (some false))) else (some false))) else (some false))
noncomputable def b29 : Code := bodyOf Try.f29
def F29 : Fr := ⟨0, 52, 1, [], 29⟩
theorem cashbookref30_claim.ok (x0 : S58) (r : Bool) (h : cashbookref30_claim.f x0 = some r) : Ret C0 29 [(true, [.sc (.int .i64 x0.f0), .sc (.int .i64 x0.f1), .sc (.int .i64 x0.f2), .sc (.int .i64 x0.f3.f0), .sc (.int .i64 x0.f3.f1), .sc (.int .i32 x0.f4)])] [aV [pB r]] := by
  refine ret_of (c := b29) Try.func29 rfl rfl ⟨Nat.le_of_ble_eq_true rfl, Nat.le_of_ble_eq_true rfl⟩ ?_
  unfold cashbookref30_claim.f at h
  rw [show Try.f29.results.toList = [.tmp 2] from rfl]
  rw [show Try.f29.ntmps = 52 from rfl]
  by_cases h1 : 1 ≤ x0.f0
  · rw [if_pos h1] at h
    obtain ⟨t2, h2, h⟩ := bnd h
    have h2c := (cashbookref30_bank.ok _ _ h2)
    try simp only [Tf, List.nil_append, List.cons_append, Int.reduceToNat] at h2c
    by_cases h3 : t2 = true
    · rw [if_pos h3] at h
      obtain ⟨t4, h4, h⟩ := bnd h
      have h4c := (cashbookref30_bank.ok _ _ h4)
      try simp only [Tf, List.nil_append, List.cons_append, Int.reduceToNat] at h4c
      by_cases h5 : t4 = true
      · rw [if_pos h5] at h
        by_cases h6 : x0.f1 = x0.f2
        · rw [if_pos h6] at h
          obtain rfl := Option.some.inj h
          simp only [↓Bp, ↓Bs, Bo, Bh, Ba, Bc, ↓reduceIte, Nat.reduceAdd, Nat.reduceEqDiff, Nat.reduceLT, Nat.reduceLeDiff, Nat.reduceBEq, Nat.reduceMul, Int.reduceLE, Int.reduceLT, Int.reduceEq, Int.reduceToNat, reduceCtorEq, G29, Tf, b29, ↓Try.f29, F29, TY, H29, h1, callP_eq h2c, h3, callP_eq h4c, h5, eq_true h6]
        · rw [if_neg h6] at h
          by_cases h7 : 0 ≤ x0.f3.f0
          · rw [if_pos h7] at h
            by_cases h8 : x0.f3.f0 ≤ 3
            · rw [if_pos h8] at h
              by_cases h9 : 1 ≤ x0.f3.f1
              · rw [if_pos h9] at h
                by_cases h10 : x0.f3.f1 ≤ 1000000000000
                · rw [if_pos h10] at h
                  obtain ⟨t11, h11, h⟩ := bnd h
                  have h11c := (cashbookref04_Right.ok _ _ h11)
                  try simp only [Tf, List.nil_append, List.cons_append, Int.reduceToNat] at h11c
                  obtain rfl := Option.some.inj h
                  simp only [↓Bp, ↓Bs, Bo, Bh, Ba, Bc, ↓reduceIte, Nat.reduceAdd, Nat.reduceEqDiff, Nat.reduceLT, Nat.reduceLeDiff, Nat.reduceBEq, Nat.reduceMul, Int.reduceLE, Int.reduceLT, Int.reduceEq, Int.reduceToNat, reduceCtorEq, G29, Tf, b29, ↓Try.f29, F29, TY, H29, h1, callP_eq h2c, h3, callP_eq h4c, h5, h6, h7, h8, h9, h10, callP_eq h11c]
                · rw [if_neg h10] at h
                  obtain rfl := Option.some.inj h
                  simp only [↓Bp, ↓Bs, Bo, Bh, Ba, Bc, ↓reduceIte, Nat.reduceAdd, Nat.reduceEqDiff, Nat.reduceLT, Nat.reduceLeDiff, Nat.reduceBEq, Nat.reduceMul, Int.reduceLE, Int.reduceLT, Int.reduceEq, Int.reduceToNat, reduceCtorEq, G29, Tf, b29, ↓Try.f29, F29, TY, H29, h1, callP_eq h2c, h3, callP_eq h4c, h5, h6, h7, h8, h9, h10]
              · rw [if_neg h9] at h
                obtain rfl := Option.some.inj h
                simp only [↓Bp, ↓Bs, Bo, Bh, Ba, Bc, ↓reduceIte, Nat.reduceAdd, Nat.reduceEqDiff, Nat.reduceLT, Nat.reduceLeDiff, Nat.reduceBEq, Nat.reduceMul, Int.reduceLE, Int.reduceLT, Int.reduceEq, Int.reduceToNat, reduceCtorEq, G29, Tf, b29, ↓Try.f29, F29, TY, H29, h1, callP_eq h2c, h3, callP_eq h4c, h5, h6, h7, h8, h9]
            · rw [if_neg h8] at h
              obtain rfl := Option.some.inj h
              simp only [↓Bp, ↓Bs, Bo, Bh, Ba, Bc, ↓reduceIte, Nat.reduceAdd, Nat.reduceEqDiff, Nat.reduceLT, Nat.reduceLeDiff, Nat.reduceBEq, Nat.reduceMul, Int.reduceLE, Int.reduceLT, Int.reduceEq, Int.reduceToNat, reduceCtorEq, G29, Tf, b29, ↓Try.f29, F29, TY, H29, h1, callP_eq h2c, h3, callP_eq h4c, h5, h6, h7, h8]
          · rw [if_neg h7] at h
            obtain rfl := Option.some.inj h
            simp only [↓Bp, ↓Bs, Bo, Bh, Ba, Bc, ↓reduceIte, Nat.reduceAdd, Nat.reduceEqDiff, Nat.reduceLT, Nat.reduceLeDiff, Nat.reduceBEq, Nat.reduceMul, Int.reduceLE, Int.reduceLT, Int.reduceEq, Int.reduceToNat, reduceCtorEq, G29, Tf, b29, ↓Try.f29, F29, TY, H29, h1, callP_eq h2c, h3, callP_eq h4c, h5, h6, h7]
      · rw [if_neg h5] at h
        obtain rfl := Option.some.inj h
        simp only [↓Bp, ↓Bs, Bo, Bh, Ba, Bc, ↓reduceIte, Nat.reduceAdd, Nat.reduceEqDiff, Nat.reduceLT, Nat.reduceLeDiff, Nat.reduceBEq, Nat.reduceMul, Int.reduceLE, Int.reduceLT, Int.reduceEq, Int.reduceToNat, reduceCtorEq, G29, Tf, b29, ↓Try.f29, F29, TY, H29, h1, callP_eq h2c, h3, callP_eq h4c, h5]
    · rw [if_neg h3] at h
      obtain rfl := Option.some.inj h
      simp only [↓Bp, ↓Bs, Bo, Bh, Ba, Bc, ↓reduceIte, Nat.reduceAdd, Nat.reduceEqDiff, Nat.reduceLT, Nat.reduceLeDiff, Nat.reduceBEq, Nat.reduceMul, Int.reduceLE, Int.reduceLT, Int.reduceEq, Int.reduceToNat, reduceCtorEq, G29, Tf, b29, ↓Try.f29, F29, TY, H29, h1, callP_eq h2c, h3]
  · rw [if_neg h1] at h
    obtain rfl := Option.some.inj h
    simp only [↓Bp, ↓Bs, Bo, Bh, Ba, Bc, ↓reduceIte, Nat.reduceAdd, Nat.reduceEqDiff, Nat.reduceLT, Nat.reduceLeDiff, Nat.reduceBEq, Nat.reduceMul, Int.reduceLE, Int.reduceLT, Int.reduceEq, Int.reduceToNat, reduceCtorEq, G29, Tf, b29, ↓Try.f29, F29, TY, H29, h1]

mutual
def cashbookref30_Right.l0 : Nat → List S58 → List S58 → Int → Int → Option Bool
  | 0, _, _, _, _ => none
  | k + 1, x0, x5, x6, x7 => (if x7 < x6 then (if 0 ≤ x7 then (if x7 < (x5.length : Int) then ((cashbookref30_claim.f (⟨(x5.getD ((x7 : Int).toNat) z58).f0, (x5.getD ((x7 : Int).toNat) z58).f1, (x5.getD ((x7 : Int).toNat) z58).f2, ((x5.getD ((x7 : Int).toNat) z58).f3), (x5.getD ((x7 : Int).toNat) z58).f4⟩ : S58)).bind fun t4 => (if t4 = true then (if 0 < x7 then (if 0 ≤ (wrap64 (x7 - 1)) then (if (wrap64 (x7 - 1)) < (x0.length : Int) then (cashbookref30_Right.j0 k x0 x5 x6 x7 (decide ((x5.getD ((x7 : Int).toNat) z58).f0 ≤ (x0.getD (((wrap64 (x7 - 1)) : Int).toNat) z58).f0))) else none) else none) else (cashbookref30_Right.j0 k x0 x5 x6 x7 false)) else (cashbookref30_Right.j0 k x0 x5 x6 x7 true))) else none) else none) else (some (decide ((x0.length : Int) ≤ 300))))
def cashbookref30_Right.j0 : Nat → List S58 → List S58 → Int → Int → Bool → Option Bool
  | 0, _, _, _, _, _ => none
  | k + 1, x0, x5, x6, x7, x29 => (if x29 = true then (some false) else (cashbookref30_Right.l0 k x0 x5 x6 (wrap64 (x7 + 1))))
end
def cashbookref30_Right.f (k : Nat) (x0 : List S58) : Option Bool := (cashbookref30_Right.l0 k x0 x0 (x0.length : Int) 0)
theorem cashbookref30_Right.monos : ∀ k, (∀ x0 x5 x6 x7, LeO (cashbookref30_Right.l0 k x0 x5 x6 x7) (cashbookref30_Right.l0 (k + 1) x0 x5 x6 x7)) ∧ (∀ x0 x5 x6 x7 x29, LeO (cashbookref30_Right.j0 k x0 x5 x6 x7 x29) (cashbookref30_Right.j0 (k + 1) x0 x5 x6 x7 x29))
  | 0 => ⟨fun _ _ _ _ => leo_none, fun _ _ _ _ _ => leo_none⟩
  | k + 1 => by
    obtain ⟨Il0, Ij0⟩ := cashbookref30_Right.monos k
    refine ⟨?_, ?_⟩
    · intro x0 x5 x6 x7
      rw [cashbookref30_Right.l0, cashbookref30_Right.l0]
      exact leo_ite (leo_if (leo_if (leo_bind leo_refl (fun _ => leo_ite (leo_ite (leo_if (leo_if (Ij0 _ _ _ _ _))) (Ij0 _ _ _ _ _)) (Ij0 _ _ _ _ _))))) (leo_refl)
    · intro x0 x5 x6 x7 x29
      rw [cashbookref30_Right.j0, cashbookref30_Right.j0]
      exact leo_ite (leo_refl) (Il0 _ _ _ _)
theorem cashbookref30_Right.mono (k : Nat) (x0 : List S58) : LeO (cashbookref30_Right.f k x0) (cashbookref30_Right.f (k + 1) x0) := (cashbookref30_Right.monos k).1 _ _ _ _
noncomputable def b12 : Code := bodyOf Try.f12
def F12 : Fr := ⟨0, 34, 1, [], 12⟩
theorem D12_4 {k : List It} {s : St} {Q : Post} {ops : Array Oper} {us : List Upd} (ha : apart2 [(7, 8), (7, 9), (7, 13), (8, 13), (9, 13), (10, 13), (11, 13), (12, 13), (7, 14), (8, 14), (9, 14), (10, 14), (11, 14), (12, 14)] (loud 0 us.reverse) = true) (hl : lessAll us.length [(7, 8), (7, 9), (7, 13), (8, 13), (9, 13), (10, 13), (11, 13), (12, 13), (7, 14), (8, 14), (9, 14), (10, 14), (11, 14), (12, 14)] = true) : GR C0 ⟨0, 34, 1, [], 12⟩ k Q 4 true ops [] s us = Fin C0 ⟨0, 34, 1, [], 12⟩ k .fall s Q := gr_nilD (F := F12) rfl ha hl
def cashbookref30_Right.l0S (x0 : List S58) (x5 : List S58) (x6 : Int) (x7 : Int) : St := ⟨upd (upd (upd (upd (fun _ => .no) 7 (.one (.p none (pI .i64 x7)))) 6 (.one (.p none (pI .i64 x6)))) 5 (.one (.p none (.sl 6 (x5.map e58))))) 0 (.one (.p none (.sl 6 (x0.map e58)))), noOb, rtP 5, 5⟩
def cashbookref30_Right.j0S (x0 : List S58) (x5 : List S58) (x6 : Int) (x7 : Int) (x29 : Bool) : St := ⟨upd (upd (upd (upd (upd (fun _ => .no) 29 (.one (.p none (pB x29)))) 7 (.one (.p none (pI .i64 x7)))) 6 (.one (.p none (pI .i64 x6)))) 5 (.one (.p none (.sl 6 (x5.map e58))))) 0 (.one (.p none (.sl 6 (x0.map e58)))), noOb, rtP 6, 6⟩
theorem cashbookref30_Right.all : ∀ k, (∀ x0 x5 x6 x7 r, cashbookref30_Right.l0 k x0 x5 x6 x7 = some r → AtL C0 F12 (sub [1, 0, 1, 0, 0] b12) [.blk 0, .code (sub [1, 1] b12)] (some (cashbookref30_Right.l0S x0 x5 x6 x7)) (RetQ C0 [.tmp 2] [aV [pB r]])) ∧ (∀ x0 x5 x6 x7 x29 r, cashbookref30_Right.j0 k x0 x5 x6 x7 x29 = some r → AtJ C0 F12 (sub [1, 0, 1, 0, 0, 1, 1, 0, 0, 1, 1] b12) [.blk 1, .code (sub [1, 0, 1, 0, 0, 1, 1, 1] b12), .lp (sub [1, 0, 1, 0, 0] b12), .blk 0, .code (sub [1, 1] b12)] (some (cashbookref30_Right.j0S x0 x5 x6 x7 x29)) (RetQ C0 [.tmp 2] [aV [pB r]]))
  | 0 => ⟨fun _ _ _ _ r h => (by cases h), fun _ _ _ _ _ r h => (by cases h)⟩
  | k + 1 => by
    obtain ⟨Il0, Ij0⟩ := cashbookref30_Right.all k
    refine ⟨?_, ?_⟩
    · intro x0 x5 x6 x7 r h
      rw [cashbookref30_Right.l0] at h
      rw [atL_some]
      by_cases h1 : x7 < x6
      · rw [if_pos h1] at h
        obtain ⟨h2, h⟩ := ifn h
        obtain ⟨h3, h⟩ := ifn h
        have h3r := fun (q : 0 ≤ x7) => rd_at (l := x5) (i := x7) z58 q h3
        replace h3r := h3r (by omega)
        obtain ⟨t4, h4, h⟩ := bnd h
        have h4c := (cashbookref30_claim.ok _ _ h4)
        try simp only [Tf, List.nil_append, List.cons_append, Int.reduceToNat] at h4c
        by_cases h5 : t4 = true
        · rw [if_pos h5] at h
          by_cases h6 : 0 < x7
          · rw [if_pos h6] at h
            obtain ⟨h7, h⟩ := ifn h
            obtain ⟨h8, h⟩ := ifn h
            have h8r := fun (q : 0 ≤ (wrap64 (x7 - 1))) => rd_at (l := x0) (i := (wrap64 (x7 - 1))) z58 q h8
            replace h8r := h8r (by omega)
            simp only [↓Bp, ↓Bs, Bo, Bh, Ba, Bc, Bd, ↓reduceIte, Nat.reduceAdd, Nat.reduceEqDiff, Nat.reduceLT, Nat.reduceLeDiff, Nat.reduceBEq, Nat.reduceMul, Int.reduceLE, Int.reduceLT, Int.reduceEq, Int.reduceToNat, reduceCtorEq, G12, Tf, b12, ↓Try.f12, F12, TY, H12, D12_4, h1, h2, h3, h3r, callP_eq h4c, h5, h6, h7, h8, h8r, cashbookref30_Right.l0S]
            refine AtJ.eq (Ij0 _ _ _ _ _ _ h) ?_
            simp only [Tf, Int.reduceToNat, Int.toNat_natCast, cashbookref30_Right.j0S]
          · rw [if_neg h6] at h
            simp only [↓Bp, ↓Bs, Bo, Bh, Ba, Bc, Bd, ↓reduceIte, Nat.reduceAdd, Nat.reduceEqDiff, Nat.reduceLT, Nat.reduceLeDiff, Nat.reduceBEq, Nat.reduceMul, Int.reduceLE, Int.reduceLT, Int.reduceEq, Int.reduceToNat, reduceCtorEq, G12, Tf, b12, ↓Try.f12, F12, TY, H12, D12_4, h1, h2, h3, h3r, callP_eq h4c, h5, h6, cashbookref30_Right.l0S]
            refine AtJ.eq (Ij0 _ _ _ _ _ _ h) ?_
            simp only [Tf, Int.reduceToNat, Int.toNat_natCast, cashbookref30_Right.j0S]
        · rw [if_neg h5] at h
          simp only [↓Bp, ↓Bs, Bo, Bh, Ba, Bc, Bd, ↓reduceIte, Nat.reduceAdd, Nat.reduceEqDiff, Nat.reduceLT, Nat.reduceLeDiff, Nat.reduceBEq, Nat.reduceMul, Int.reduceLE, Int.reduceLT, Int.reduceEq, Int.reduceToNat, reduceCtorEq, G12, Tf, b12, ↓Try.f12, F12, TY, H12, D12_4, h1, h2, h3, h3r, callP_eq h4c, h5, cashbookref30_Right.l0S]
          refine AtJ.eq (Ij0 _ _ _ _ _ _ h) ?_
          simp only [Tf, Int.reduceToNat, Int.toNat_natCast, cashbookref30_Right.j0S]
      · rw [if_neg h1] at h
        obtain rfl := Option.some.inj h
        simp only [↓Bp, ↓Bs, Bo, Bh, Ba, Bc, Bd, ↓reduceIte, Nat.reduceAdd, Nat.reduceEqDiff, Nat.reduceLT, Nat.reduceLeDiff, Nat.reduceBEq, Nat.reduceMul, Int.reduceLE, Int.reduceLT, Int.reduceEq, Int.reduceToNat, reduceCtorEq, G12, Tf, b12, ↓Try.f12, F12, TY, H12, D12_4, h1, cashbookref30_Right.l0S]
    · intro x0 x5 x6 x7 x29 r h
      rw [cashbookref30_Right.j0] at h
      rw [atJ_some]
      by_cases h9 : x29 = true
      · rw [if_pos h9] at h
        obtain rfl := Option.some.inj h
        simp only [↓Bp, ↓Bs, Bo, Bh, Ba, Bc, Bd, ↓reduceIte, Nat.reduceAdd, Nat.reduceEqDiff, Nat.reduceLT, Nat.reduceLeDiff, Nat.reduceBEq, Nat.reduceMul, Int.reduceLE, Int.reduceLT, Int.reduceEq, Int.reduceToNat, reduceCtorEq, G12, Tf, b12, ↓Try.f12, F12, TY, H12, D12_4, h9, cashbookref30_Right.j0S]
      · rw [if_neg h9] at h
        simp only [↓Bp, ↓Bs, Bo, Bh, Ba, Bc, Bd, ↓reduceIte, Nat.reduceAdd, Nat.reduceEqDiff, Nat.reduceLT, Nat.reduceLeDiff, Nat.reduceBEq, Nat.reduceMul, Int.reduceLE, Int.reduceLT, Int.reduceEq, Int.reduceToNat, reduceCtorEq, G12, Tf, b12, ↓Try.f12, F12, TY, H12, D12_4, h9, cashbookref30_Right.j0S]
        refine AtL.eq (Il0 _ _ _ _ _ h) ?_
        simp only [Tf, Int.reduceToNat, Int.toNat_natCast, cashbookref30_Right.l0S]
theorem cashbookref30_Right.ok (k : Nat) (x0 : List S58) (r : Bool) (h : cashbookref30_Right.f k x0 = some r) : Ret C0 12 [(false, [.sl 6 (x0.map e58)])] [aV [pB r]] := by
  refine ret_of (c := b12) Try.func12 rfl rfl ⟨Nat.le_of_ble_eq_true rfl, Nat.le_of_ble_eq_true rfl⟩ ?_
  unfold cashbookref30_Right.f at h
  rw [show Try.f12.results.toList = [.tmp 2] from rfl]
  rw [show Try.f12.ntmps = 34 from rfl]
  obtain ⟨Il0, Ij0⟩ := cashbookref30_Right.all k
  simp only [↓Bp, ↓Bs, Bo, Bh, Ba, Bc, Bd, ↓reduceIte, Nat.reduceAdd, Nat.reduceEqDiff, Nat.reduceLT, Nat.reduceLeDiff, Nat.reduceBEq, Nat.reduceMul, Int.reduceLE, Int.reduceLT, Int.reduceEq, Int.reduceToNat, reduceCtorEq, G12, Tf, b12, ↓Try.f12, F12, TY, H12, D12_4]
  refine AtL.eq (Il0 _ _ _ _ _ h) ?_
  simp only [Tf, Int.reduceToNat, Int.toNat_natCast, cashbookref30_Right.l0S]

def cashbookref30_Caps.l0 : Nat → List Int → List Int → Int → Int → Option Bool
  | 0, _, _, _, _ => none
  | k + 1, x0, x5, x6, x7 => (if x7 < x6 then (if 0 ≤ x7 then (if x7 < (x5.length : Int) then (if (x5.getD ((x7 : Int).toNat) 0) < 0 then (some false) else (cashbookref30_Caps.l0 k x0 x5 x6 (wrap64 (x7 + 1)))) else none) else none) else (some (decide ((x0.length : Int) = 16))))
def cashbookref30_Caps.f (k : Nat) (x0 : List Int) : Option Bool := (cashbookref30_Caps.l0 k x0 x0 (x0.length : Int) 0)
theorem cashbookref30_Caps.monos : ∀ k, (∀ x0 x5 x6 x7, LeO (cashbookref30_Caps.l0 k x0 x5 x6 x7) (cashbookref30_Caps.l0 (k + 1) x0 x5 x6 x7))
  | 0 => fun _ _ _ _ => leo_none
  | k + 1 => by
    have I := cashbookref30_Caps.monos k
    · intro x0 x5 x6 x7
      rw [cashbookref30_Caps.l0, cashbookref30_Caps.l0]
      exact leo_ite (leo_if (leo_if (leo_ite (leo_refl) (I _ _ _ _)))) (leo_refl)
theorem cashbookref30_Caps.mono (k : Nat) (x0 : List Int) : LeO (cashbookref30_Caps.f k x0) (cashbookref30_Caps.f (k + 1) x0) := (cashbookref30_Caps.monos k) _ _ _ _
noncomputable def b22 : Code := bodyOf Try.f22
def F22 : Fr := ⟨0, 17, 1, [], 22⟩
def cashbookref30_Caps.l0S (x0 : List Int) (x5 : List Int) (x6 : Int) (x7 : Int) : St := ⟨upd (upd (upd (upd (fun _ => .no) 7 (.one (.p none (pI .i64 x7)))) 6 (.one (.p none (pI .i64 x6)))) 5 (.one (.p none (.sl 1 (x5.map e2))))) 0 (.one (.p none (.sl 1 (x0.map e2)))), noOb, rtP 5, 5⟩
theorem cashbookref30_Caps.all : ∀ k, (∀ x0 x5 x6 x7 r, cashbookref30_Caps.l0 k x0 x5 x6 x7 = some r → AtL C0 F22 (sub [1, 0, 1, 0, 0] b22) [.blk 0, .code (sub [1, 1] b22)] (some (cashbookref30_Caps.l0S x0 x5 x6 x7)) (RetQ C0 [.tmp 2] [aV [pB r]]))
  | 0 => fun _ _ _ _ r h => (by cases h)
  | k + 1 => by
    have Il0 := cashbookref30_Caps.all k
    · intro x0 x5 x6 x7 r h
      rw [cashbookref30_Caps.l0] at h
      rw [atL_some]
      by_cases h1 : x7 < x6
      · rw [if_pos h1] at h
        obtain ⟨h2, h⟩ := ifn h
        obtain ⟨h3, h⟩ := ifn h
        have h3r := fun (q : 0 ≤ x7) => rd_at (l := x5) (i := x7) 0 q h3
        replace h3r := h3r (by omega)
        by_cases h4 : (x5.getD ((x7 : Int).toNat) 0) < 0
        · rw [if_pos h4] at h
          obtain rfl := Option.some.inj h
          simp only [↓Bp, ↓Bs, Bo, Bh, Ba, Bc, ↓reduceIte, Nat.reduceAdd, Nat.reduceEqDiff, Nat.reduceLT, Nat.reduceLeDiff, Nat.reduceBEq, Nat.reduceMul, Int.reduceLE, Int.reduceLT, Int.reduceEq, Int.reduceToNat, reduceCtorEq, G22, Tf, b22, ↓Try.f22, F22, TY, H22, h1, h2, h3, h3r, h4, cashbookref30_Caps.l0S]
        · rw [if_neg h4] at h
          simp only [↓Bp, ↓Bs, Bo, Bh, Ba, Bc, ↓reduceIte, Nat.reduceAdd, Nat.reduceEqDiff, Nat.reduceLT, Nat.reduceLeDiff, Nat.reduceBEq, Nat.reduceMul, Int.reduceLE, Int.reduceLT, Int.reduceEq, Int.reduceToNat, reduceCtorEq, G22, Tf, b22, ↓Try.f22, F22, TY, H22, h1, h2, h3, h3r, h4, cashbookref30_Caps.l0S]
          refine AtL.eq (Il0 _ _ _ _ _ h) ?_
          simp only [Tf, Int.reduceToNat, Int.toNat_natCast, cashbookref30_Caps.l0S]
      · rw [if_neg h1] at h
        obtain rfl := Option.some.inj h
        simp only [↓Bp, ↓Bs, Bo, Bh, Ba, Bc, ↓reduceIte, Nat.reduceAdd, Nat.reduceEqDiff, Nat.reduceLT, Nat.reduceLeDiff, Nat.reduceBEq, Nat.reduceMul, Int.reduceLE, Int.reduceLT, Int.reduceEq, Int.reduceToNat, reduceCtorEq, G22, Tf, b22, ↓Try.f22, F22, TY, H22, h1, cashbookref30_Caps.l0S]
theorem cashbookref30_Caps.ok (k : Nat) (x0 : List Int) (r : Bool) (h : cashbookref30_Caps.f k x0 = some r) : Ret C0 22 [(false, [.sl 1 (x0.map e2)])] [aV [pB r]] := by
  refine ret_of (c := b22) Try.func22 rfl rfl ⟨Nat.le_of_ble_eq_true rfl, Nat.le_of_ble_eq_true rfl⟩ ?_
  unfold cashbookref30_Caps.f at h
  rw [show Try.f22.results.toList = [.tmp 2] from rfl]
  rw [show Try.f22.ntmps = 17 from rfl]
  have Il0 := cashbookref30_Caps.all k
  simp only [↓Bp, ↓Bs, Bo, Bh, Ba, Bc, ↓reduceIte, Nat.reduceAdd, Nat.reduceEqDiff, Nat.reduceLT, Nat.reduceLeDiff, Nat.reduceBEq, Nat.reduceMul, Int.reduceLE, Int.reduceLT, Int.reduceEq, Int.reduceToNat, reduceCtorEq, G22, Tf, b22, ↓Try.f22, F22, TY, H22]
  refine AtL.eq (Il0 _ _ _ _ _ h) ?_
  simp only [Tf, Int.reduceToNat, Int.toNat_natCast, cashbookref30_Caps.l0S]

def netting_Net.f (k : Nat) (x0 : List S58) (x1 : Int) (x2 : Int) : Option ((List Int) × Int) := ((netting_may.f k x0 x1 x2).bind fun t1 => (if t1 = 0 then ((netting_netOf.f k x0 x1 x2).bind fun t3 => (some (t3, 0))) else (some (([] : List Int), t1))))
theorem netting_Net.mono (k : Nat) (x0 : List S58) (x1 : Int) (x2 : Int) : LeO (netting_Net.f k x0 x1 x2) (netting_Net.f (k + 1) x0 x1 x2) := leo_bind (netting_may.mono k _ _ _) (fun _ => leo_ite (leo_bind (netting_netOf.mono k _ _ _) (fun _ => leo_refl)) (leo_refl))
noncomputable def b9 : Code := bodyOf Try.f9
def F9 : Fr := ⟨0, 20, 1, [], 9⟩
theorem netting_Net.ok (k : Nat) (x0 : List S58) (x1 : Int) (x2 : Int) (r : (List Int) × Int) (h : netting_Net.f k x0 x1 x2 = some r) : Ret C0 9 [(false, [.sl 6 (x0.map e58)]), (false, [.sc (.int .i64 x1)]), (false, [.sc (.int .i32 x2)])] [aV [.sl 1 (r.1.map e2)], aV [pI .i64 r.2]] := by
  refine ret_of (c := b9) Try.func9 rfl rfl ⟨Nat.le_of_ble_eq_true rfl, Nat.le_of_ble_eq_true rfl⟩ ?_
  unfold netting_Net.f at h
  rw [show Try.f9.results.toList = [.tmp 6, .tmp 7] from rfl]
  rw [show Try.f9.ntmps = 20 from rfl]
  obtain ⟨t1, h1, h⟩ := bnd h
  have h1c := (netting_may.ok _ _ _ _ _ h1)
  try simp only [Tf, List.nil_append, List.cons_append, Int.reduceToNat] at h1c
  by_cases h2 : t1 = 0
  · rw [if_pos h2] at h
    obtain ⟨t3, h3, h⟩ := bnd h
    have h3c := (netting_netOf.ok _ _ _ _ _ h3)
    try simp only [Tf, List.nil_append, List.cons_append, Int.reduceToNat] at h3c
    obtain rfl := Option.some.inj h
    simp only [↓Bp, ↓Bs, Bo, Bh, Ba, Bc, ↓reduceIte, Nat.reduceAdd, Nat.reduceEqDiff, Nat.reduceLT, Nat.reduceLeDiff, Nat.reduceBEq, Nat.reduceMul, Int.reduceLE, Int.reduceLT, Int.reduceEq, Int.reduceToNat, reduceCtorEq, G9, Tf, b9, ↓Try.f9, F9, TY, H9, callP_eq h1c, eq_true h2, callP_eq h3c]
  · rw [if_neg h2] at h
    obtain rfl := Option.some.inj h
    simp only [↓Bp, ↓Bs, Bo, Bh, Ba, Bc, ↓reduceIte, Nat.reduceAdd, Nat.reduceEqDiff, Nat.reduceLT, Nat.reduceLeDiff, Nat.reduceBEq, Nat.reduceMul, Int.reduceLE, Int.reduceLT, Int.reduceEq, Int.reduceToNat, reduceCtorEq, G9, Tf, b9, ↓Try.f9, F9, TY, H9, callP_eq h1c, h2]

mutual
def netting_Settle.l0 : Nat → List Int → Int → List Int → Int → Int → Option ((List S45) × Int)
  | 0, _, _, _, _, _ => none
  | k + 1, x0, x4, x7, x8, x9 => (if x9 < x8 then (if 0 ≤ x9 then (if x9 < (x7.length : Int) then (if (x7.getD ((x9 : Int).toNat) 0) < (-300000000000000) then (netting_Settle.j0 k x0 x4 (x7.getD ((x9 : Int).toNat) 0) x7 x8 x9 true) else (netting_Settle.j0 k x0 x4 (x7.getD ((x9 : Int).toNat) 0) x7 x8 x9 (decide (300000000000000 < (x7.getD ((x9 : Int).toNat) 0))))) else none) else none) else (if (x0.length : Int) = 16 then (if x4 = 0 then ((netting_settled.f k x0).bind fun t7 => (some (t7, 0))) else (some (([] : List S45), 15))) else (some (([] : List S45), 1))))
def netting_Settle.j0 : Nat → List Int → Int → Int → List Int → Int → Int → Bool → Option ((List S45) × Int)
  | 0, _, _, _, _, _, _, _ => none
  | k + 1, x0, x4, x6, x7, x8, x9, x18 => (if x18 = true then (some (([] : List S45), 1)) else (netting_Settle.l0 k x0 (wrap64 (x4 + x6)) x7 x8 (wrap64 (x9 + 1))))
end
def netting_Settle.f (k : Nat) (x0 : List Int) : Option ((List S45) × Int) := (netting_Settle.l0 k x0 0 x0 (x0.length : Int) 0)
theorem netting_Settle.monos : ∀ k, (∀ x0 x4 x7 x8 x9, LeO (netting_Settle.l0 k x0 x4 x7 x8 x9) (netting_Settle.l0 (k + 1) x0 x4 x7 x8 x9)) ∧ (∀ x0 x4 x6 x7 x8 x9 x18, LeO (netting_Settle.j0 k x0 x4 x6 x7 x8 x9 x18) (netting_Settle.j0 (k + 1) x0 x4 x6 x7 x8 x9 x18))
  | 0 => ⟨fun _ _ _ _ _ => leo_none, fun _ _ _ _ _ _ _ => leo_none⟩
  | k + 1 => by
    obtain ⟨Il0, Ij0⟩ := netting_Settle.monos k
    refine ⟨?_, ?_⟩
    · intro x0 x4 x7 x8 x9
      rw [netting_Settle.l0, netting_Settle.l0]
      exact leo_ite (leo_if (leo_if (leo_ite (Ij0 _ _ _ _ _ _ _) (Ij0 _ _ _ _ _ _ _)))) (leo_ite (leo_ite (leo_bind (netting_settled.mono k _) (fun _ => leo_refl)) (leo_refl)) (leo_refl))
    · intro x0 x4 x6 x7 x8 x9 x18
      rw [netting_Settle.j0, netting_Settle.j0]
      exact leo_ite (leo_refl) (Il0 _ _ _ _ _)
theorem netting_Settle.mono (k : Nat) (x0 : List Int) : LeO (netting_Settle.f k x0) (netting_Settle.f (k + 1) x0) := (netting_Settle.monos k).1 _ _ _ _ _
noncomputable def b10 : Code := bodyOf Try.f10
def F10 : Fr := ⟨0, 32, 1, [], 10⟩
def netting_Settle.l0S (x0 : List Int) (x4 : Int) (x7 : List Int) (x8 : Int) (x9 : Int) : St := ⟨upd (upd (upd (upd (upd (fun _ => .no) 9 (.one (.p none (pI .i64 x9)))) 8 (.one (.p none (pI .i64 x8)))) 7 (.one (.p none (.sl 1 (x7.map e2))))) 4 (.one (.p none (pI .i64 x4)))) 0 (.one (.p none (.sl 1 (x0.map e2)))), noOb, rtP 6, 6⟩
def netting_Settle.j0S (x0 : List Int) (x4 : Int) (x6 : Int) (x7 : List Int) (x8 : Int) (x9 : Int) (x18 : Bool) : St := ⟨upd (upd (upd (upd (upd (upd (upd (fun _ => .no) 18 (.one (.p none (pB x18)))) 9 (.one (.p none (pI .i64 x9)))) 8 (.one (.p none (pI .i64 x8)))) 7 (.one (.p none (.sl 1 (x7.map e2))))) 6 (.one (.p none (pI .i64 x6)))) 4 (.one (.p none (pI .i64 x4)))) 0 (.one (.p none (.sl 1 (x0.map e2)))), noOb, rtP 8, 8⟩
theorem netting_Settle.all : ∀ k, (∀ x0 x4 x7 x8 x9 r, netting_Settle.l0 k x0 x4 x7 x8 x9 = some r → AtL C0 F10 (sub [1, 1, 0, 1, 0, 0] b10) [.blk 0, .code (sub [1, 1, 1] b10)] (some (netting_Settle.l0S x0 x4 x7 x8 x9)) (RetQ C0 [.tmp 2, .tmp 3] [aV [.sl 3 (r.1.map e45)], aV [pI .i64 r.2]])) ∧ (∀ x0 x4 x6 x7 x8 x9 x18 r, netting_Settle.j0 k x0 x4 x6 x7 x8 x9 x18 = some r → AtJ C0 F10 (sub [1, 1, 0, 1, 0, 0, 1, 1, 0, 0, 1, 0, 1] b10) [.code (sub [1, 1, 0, 1, 0, 0, 1, 1, 0, 0, 1, 1] b10), .blk 1, .code (sub [1, 1, 0, 1, 0, 0, 1, 1, 1] b10), .lp (sub [1, 1, 0, 1, 0, 0] b10), .blk 0, .code (sub [1, 1, 1] b10)] (some (netting_Settle.j0S x0 x4 x6 x7 x8 x9 x18)) (RetQ C0 [.tmp 2, .tmp 3] [aV [.sl 3 (r.1.map e45)], aV [pI .i64 r.2]]))
  | 0 => ⟨fun _ _ _ _ _ r h => (by cases h), fun _ _ _ _ _ _ _ r h => (by cases h)⟩
  | k + 1 => by
    obtain ⟨Il0, Ij0⟩ := netting_Settle.all k
    refine ⟨?_, ?_⟩
    · intro x0 x4 x7 x8 x9 r h
      rw [netting_Settle.l0] at h
      rw [atL_some]
      by_cases h1 : x9 < x8
      · rw [if_pos h1] at h
        obtain ⟨h2, h⟩ := ifn h
        obtain ⟨h3, h⟩ := ifn h
        have h3r := fun (q : 0 ≤ x9) => rd_at (l := x7) (i := x9) 0 q h3
        replace h3r := h3r (by omega)
        by_cases h4 : (x7.getD ((x9 : Int).toNat) 0) < (-300000000000000)
        · rw [if_pos h4] at h
          simp only [↓Bp, ↓Bs, Bo, Bh, Ba, Bc, ↓reduceIte, Nat.reduceAdd, Nat.reduceEqDiff, Nat.reduceLT, Nat.reduceLeDiff, Nat.reduceBEq, Nat.reduceMul, Int.reduceLE, Int.reduceLT, Int.reduceEq, Int.reduceToNat, reduceCtorEq, G10, Tf, b10, ↓Try.f10, F10, TY, H10, h1, h2, h3, h3r, h4, netting_Settle.l0S]
          refine AtJ.eq (Ij0 _ _ _ _ _ _ _ _ h) ?_
          simp only [Tf, Int.reduceToNat, Int.toNat_natCast, netting_Settle.j0S]
        · rw [if_neg h4] at h
          simp only [↓Bp, ↓Bs, Bo, Bh, Ba, Bc, ↓reduceIte, Nat.reduceAdd, Nat.reduceEqDiff, Nat.reduceLT, Nat.reduceLeDiff, Nat.reduceBEq, Nat.reduceMul, Int.reduceLE, Int.reduceLT, Int.reduceEq, Int.reduceToNat, reduceCtorEq, G10, Tf, b10, ↓Try.f10, F10, TY, H10, h1, h2, h3, h3r, h4, netting_Settle.l0S]
          refine AtJ.eq (Ij0 _ _ _ _ _ _ _ _ h) ?_
          simp only [Tf, Int.reduceToNat, Int.toNat_natCast, netting_Settle.j0S]
      · rw [if_neg h1] at h
        by_cases h5 : (x0.length : Int) = 16
        · rw [if_pos h5] at h
          by_cases h6 : x4 = 0
          · rw [if_pos h6] at h
            obtain ⟨t7, h7, h⟩ := bnd h
            have h7c := (netting_settled.ok _ _ _ h7)
            try simp only [Tf, List.nil_append, List.cons_append, Int.reduceToNat] at h7c
            obtain rfl := Option.some.inj h
            simp only [↓Bp, ↓Bs, Bo, Bh, Ba, Bc, ↓reduceIte, Nat.reduceAdd, Nat.reduceEqDiff, Nat.reduceLT, Nat.reduceLeDiff, Nat.reduceBEq, Nat.reduceMul, Int.reduceLE, Int.reduceLT, Int.reduceEq, Int.reduceToNat, reduceCtorEq, G10, Tf, b10, ↓Try.f10, F10, TY, H10, h1, eq_true h5, eq_true h6, callP_eq h7c, netting_Settle.l0S]
          · rw [if_neg h6] at h
            obtain rfl := Option.some.inj h
            simp only [↓Bp, ↓Bs, Bo, Bh, Ba, Bc, ↓reduceIte, Nat.reduceAdd, Nat.reduceEqDiff, Nat.reduceLT, Nat.reduceLeDiff, Nat.reduceBEq, Nat.reduceMul, Int.reduceLE, Int.reduceLT, Int.reduceEq, Int.reduceToNat, reduceCtorEq, G10, Tf, b10, ↓Try.f10, F10, TY, H10, h1, eq_true h5, h6, netting_Settle.l0S]
        · rw [if_neg h5] at h
          obtain rfl := Option.some.inj h
          simp only [↓Bp, ↓Bs, Bo, Bh, Ba, Bc, ↓reduceIte, Nat.reduceAdd, Nat.reduceEqDiff, Nat.reduceLT, Nat.reduceLeDiff, Nat.reduceBEq, Nat.reduceMul, Int.reduceLE, Int.reduceLT, Int.reduceEq, Int.reduceToNat, reduceCtorEq, G10, Tf, b10, ↓Try.f10, F10, TY, H10, h1, h5, netting_Settle.l0S]
    · intro x0 x4 x6 x7 x8 x9 x18 r h
      rw [netting_Settle.j0] at h
      rw [atJ_some]
      by_cases h8 : x18 = true
      · rw [if_pos h8] at h
        obtain rfl := Option.some.inj h
        simp only [↓Bp, ↓Bs, Bo, Bh, Ba, Bc, ↓reduceIte, Nat.reduceAdd, Nat.reduceEqDiff, Nat.reduceLT, Nat.reduceLeDiff, Nat.reduceBEq, Nat.reduceMul, Int.reduceLE, Int.reduceLT, Int.reduceEq, Int.reduceToNat, reduceCtorEq, G10, Tf, b10, ↓Try.f10, F10, TY, H10, h8, netting_Settle.j0S]
      · rw [if_neg h8] at h
        simp only [↓Bp, ↓Bs, Bo, Bh, Ba, Bc, ↓reduceIte, Nat.reduceAdd, Nat.reduceEqDiff, Nat.reduceLT, Nat.reduceLeDiff, Nat.reduceBEq, Nat.reduceMul, Int.reduceLE, Int.reduceLT, Int.reduceEq, Int.reduceToNat, reduceCtorEq, G10, Tf, b10, ↓Try.f10, F10, TY, H10, h8, netting_Settle.j0S]
        refine AtL.eq (Il0 _ _ _ _ _ _ h) ?_
        simp only [Tf, Int.reduceToNat, Int.toNat_natCast, netting_Settle.l0S]
theorem netting_Settle.ok (k : Nat) (x0 : List Int) (r : (List S45) × Int) (h : netting_Settle.f k x0 = some r) : Ret C0 10 [(false, [.sl 1 (x0.map e2)])] [aV [.sl 3 (r.1.map e45)], aV [pI .i64 r.2]] := by
  refine ret_of (c := b10) Try.func10 rfl rfl ⟨Nat.le_of_ble_eq_true rfl, Nat.le_of_ble_eq_true rfl⟩ ?_
  unfold netting_Settle.f at h
  rw [show Try.f10.results.toList = [.tmp 2, .tmp 3] from rfl]
  rw [show Try.f10.ntmps = 32 from rfl]
  obtain ⟨Il0, Ij0⟩ := netting_Settle.all k
  simp only [↓Bp, ↓Bs, Bo, Bh, Ba, Bc, ↓reduceIte, Nat.reduceAdd, Nat.reduceEqDiff, Nat.reduceLT, Nat.reduceLeDiff, Nat.reduceBEq, Nat.reduceMul, Int.reduceLE, Int.reduceLT, Int.reduceEq, Int.reduceToNat, reduceCtorEq, G10, Tf, b10, ↓Try.f10, F10, TY, H10]
  refine AtL.eq (Il0 _ _ _ _ _ _ h) ?_
  simp only [Tf, Int.reduceToNat, Int.toNat_natCast, netting_Settle.l0S]

def cashbookref30_Rows.l0 : Nat → List S45 → List S45 → Int → Int → Option Bool
  | 0, _, _, _, _ => none
  | k + 1, x0, x1, x12, x13 => (if x13 < x12 then (if 0 ≤ x13 then (if x13 < (x0.length : Int) then (if x13 < (x1.length : Int) then (if ((((x0.getD ((x13 : Int).toNat) z45).f0) == ((x1.getD ((x13 : Int).toNat) z45).f0)) && ((((x0.getD ((x13 : Int).toNat) z45).f1) == ((x1.getD ((x13 : Int).toNat) z45).f1)) && (((x0.getD ((x13 : Int).toNat) z45).f2) == ((x1.getD ((x13 : Int).toNat) z45).f2)))) = true then (cashbookref30_Rows.l0 k x0 x1 x12 (wrap64 (x13 + 1))) else (some false)) else none) else none) else none) else (some true))
def cashbookref30_Rows.f (k : Nat) (x0 : List S45) (x1 : List S45) : Option Bool := (if (x0.length : Int) = (x1.length : Int) then (cashbookref30_Rows.l0 k x0 x1 (x0.length : Int) 0) else (some false))
theorem cashbookref30_Rows.monos : ∀ k, (∀ x0 x1 x12 x13, LeO (cashbookref30_Rows.l0 k x0 x1 x12 x13) (cashbookref30_Rows.l0 (k + 1) x0 x1 x12 x13))
  | 0 => fun _ _ _ _ => leo_none
  | k + 1 => by
    have I := cashbookref30_Rows.monos k
    · intro x0 x1 x12 x13
      rw [cashbookref30_Rows.l0, cashbookref30_Rows.l0]
      exact leo_ite (leo_if (leo_if (leo_if (leo_ite (I _ _ _ _) (leo_refl))))) (leo_refl)
theorem cashbookref30_Rows.mono (k : Nat) (x0 : List S45) (x1 : List S45) : LeO (cashbookref30_Rows.f k x0 x1) (cashbookref30_Rows.f (k + 1) x0 x1) := leo_ite ((cashbookref30_Rows.monos k) _ _ _ _) (leo_refl)
noncomputable def b16 : Code := bodyOf Try.f16
def F16 : Fr := ⟨0, 26, 1, [], 16⟩
theorem D16_6 {k : List It} {s : St} {Q : Post} {ops : Array Oper} {us : List Upd} (ha : apart2 [(0, 1), (0, 4), (1, 4), (2, 4), (3, 4), (0, 5), (1, 5), (2, 5), (3, 5), (4, 5), (0, 6), (1, 6), (2, 6), (3, 6), (0, 7), (1, 7), (2, 7), (3, 7)] (loud 0 us.reverse) = true) (hl : lessAll us.length [(0, 1), (0, 4), (1, 4), (2, 4), (3, 4), (0, 5), (1, 5), (2, 5), (3, 5), (4, 5), (0, 6), (1, 6), (2, 6), (3, 6), (0, 7), (1, 7), (2, 7), (3, 7)] = true) : GR C0 ⟨0, 26, 1, [], 16⟩ k Q 6 true ops [] s us = Fin C0 ⟨0, 26, 1, [], 16⟩ k .fall s Q := gr_nilD (F := F16) rfl ha hl
def cashbookref30_Rows.l0S (x0 : List S45) (x1 : List S45) (x12 : Int) (x13 : Int) : St := ⟨upd (upd (upd (upd (fun _ => .no) 13 (.one (.p none (pI .i64 x13)))) 12 (.one (.p none (pI .i64 x12)))) 1 (.one (.p none (.sl 3 (x1.map e45))))) 0 (.one (.p none (.sl 3 (x0.map e45)))), noOb, rtP 5, 5⟩
theorem cashbookref30_Rows.all : ∀ k, (∀ x0 x1 x12 x13 r, cashbookref30_Rows.l0 k x0 x1 x12 x13 = some r → AtL C0 F16 (sub [1, 1, 0, 1, 0, 0] b16) [.blk 0, .code (sub [1, 1, 1] b16)] (some (cashbookref30_Rows.l0S x0 x1 x12 x13)) (RetQ C0 [.tmp 4] [aV [pB r]]))
  | 0 => fun _ _ _ _ r h => (by cases h)
  | k + 1 => by
    have Il0 := cashbookref30_Rows.all k
    · intro x0 x1 x12 x13 r h
      rw [cashbookref30_Rows.l0] at h
      rw [atL_some]
      by_cases h2 : x13 < x12
      · rw [if_pos h2] at h
        obtain ⟨h3, h⟩ := ifn h
        obtain ⟨h4, h⟩ := ifn h
        have h4r := fun (q : 0 ≤ x13) => rd_at (l := x0) (i := x13) z45 q h4
        replace h4r := h4r (by omega)
        obtain ⟨h5, h⟩ := ifn h
        have h5r := fun (q : 0 ≤ x13) => rd_at (l := x1) (i := x13) z45 q h5
        replace h5r := h5r (by omega)
        by_cases h6 : ((((x0.getD ((x13 : Int).toNat) z45).f0) == ((x1.getD ((x13 : Int).toNat) z45).f0)) && ((((x0.getD ((x13 : Int).toNat) z45).f1) == ((x1.getD ((x13 : Int).toNat) z45).f1)) && (((x0.getD ((x13 : Int).toNat) z45).f2) == ((x1.getD ((x13 : Int).toNat) z45).f2)))) = true
        · rw [if_pos h6] at h
          simp only [↓Bp, ↓Bs, Bo, Bh, Ba, Bc, Bd, ↓reduceIte, Nat.reduceAdd, Nat.reduceEqDiff, Nat.reduceLT, Nat.reduceLeDiff, Nat.reduceBEq, Nat.reduceMul, Int.reduceLE, Int.reduceLT, Int.reduceEq, Int.reduceToNat, reduceCtorEq, G16, Tf, b16, ↓Try.f16, F16, TY, H16, D16_6, h2, h3, h4, h4r, h5, h5r, h6, cashbookref30_Rows.l0S]
          refine AtL.eq (Il0 _ _ _ _ _ h) ?_
          simp only [Tf, Int.reduceToNat, Int.toNat_natCast, cashbookref30_Rows.l0S]
        · rw [if_neg h6] at h
          obtain rfl := Option.some.inj h
          simp only [↓Bp, ↓Bs, Bo, Bh, Ba, Bc, Bd, ↓reduceIte, Nat.reduceAdd, Nat.reduceEqDiff, Nat.reduceLT, Nat.reduceLeDiff, Nat.reduceBEq, Nat.reduceMul, Int.reduceLE, Int.reduceLT, Int.reduceEq, Int.reduceToNat, reduceCtorEq, G16, Tf, b16, ↓Try.f16, F16, TY, H16, D16_6, h2, h3, h4, h4r, h5, h5r, h6, cashbookref30_Rows.l0S]
      · rw [if_neg h2] at h
        obtain rfl := Option.some.inj h
        simp only [↓Bp, ↓Bs, Bo, Bh, Ba, Bc, Bd, ↓reduceIte, Nat.reduceAdd, Nat.reduceEqDiff, Nat.reduceLT, Nat.reduceLeDiff, Nat.reduceBEq, Nat.reduceMul, Int.reduceLE, Int.reduceLT, Int.reduceEq, Int.reduceToNat, reduceCtorEq, G16, Tf, b16, ↓Try.f16, F16, TY, H16, D16_6, h2, cashbookref30_Rows.l0S]
theorem cashbookref30_Rows.ok (k : Nat) (x0 : List S45) (x1 : List S45) (r : Bool) (h : cashbookref30_Rows.f k x0 x1 = some r) : Ret C0 16 [(false, [.sl 3 (x0.map e45)]), (false, [.sl 3 (x1.map e45)])] [aV [pB r]] := by
  refine ret_of (c := b16) Try.func16 rfl rfl ⟨Nat.le_of_ble_eq_true rfl, Nat.le_of_ble_eq_true rfl⟩ ?_
  unfold cashbookref30_Rows.f at h
  rw [show Try.f16.results.toList = [.tmp 4] from rfl]
  rw [show Try.f16.ntmps = 26 from rfl]
  have Il0 := cashbookref30_Rows.all k
  by_cases h1 : (x0.length : Int) = (x1.length : Int)
  · rw [if_pos h1] at h
    simp only [↓Bp, ↓Bs, Bo, Bh, Ba, Bc, Bd, ↓reduceIte, Nat.reduceAdd, Nat.reduceEqDiff, Nat.reduceLT, Nat.reduceLeDiff, Nat.reduceBEq, Nat.reduceMul, Int.reduceLE, Int.reduceLT, Int.reduceEq, Int.reduceToNat, reduceCtorEq, G16, Tf, b16, ↓Try.f16, F16, TY, H16, D16_6, eq_true h1]
    refine AtL.eq (Il0 _ _ _ _ _ h) ?_
    simp only [Tf, Int.reduceToNat, Int.toNat_natCast, cashbookref30_Rows.l0S]
  · rw [if_neg h1] at h
    obtain rfl := Option.some.inj h
    simp only [↓Bp, ↓Bs, Bo, Bh, Ba, Bc, Bd, ↓reduceIte, Nat.reduceAdd, Nat.reduceEqDiff, Nat.reduceLT, Nat.reduceLeDiff, Nat.reduceBEq, Nat.reduceMul, Int.reduceLE, Int.reduceLT, Int.reduceEq, Int.reduceToNat, reduceCtorEq, G16, Tf, b16, ↓Try.f16, F16, TY, H16, D16_6, h1]

def cashbooklaw30_alive.f (k : Nat)  : Option Bool := ((netting_Net.f k [(⟨1, 0, 1, (⟨0, 5⟩ : S56), 0⟩ : S58), (⟨2, 1, 2, (⟨0, 5⟩ : S56), 0⟩ : S58)] 0 0).bind fun t1 => ((netting_Settle.f k t1.1).bind fun t2 => (if t1.2 = 0 then (if t2.2 = 0 then (if (t1.1.length : Int) = 16 then (if 0 < (t1.1.length : Int) then (if (t1.1.getD 0 0) = (-5) then (if 1 < (t1.1.length : Int) then (if (t1.1.getD 1 0) = 0 then ((cashbookref30_Rows.f k t2.1 [(⟨0, 2, 5⟩ : S45)]).bind fun t10 => (some t10)) else (some false)) else none) else (some false)) else none) else (some false)) else (some false)) else (some false))))
theorem cashbooklaw30_alive.mono (k : Nat)  : LeO (cashbooklaw30_alive.f k ) (cashbooklaw30_alive.f (k + 1) ) := leo_bind (netting_Net.mono k _ _ _) (fun _ => leo_bind (netting_Settle.mono k _) (fun _ => leo_ite (leo_ite (leo_ite (leo_if (leo_ite (leo_if (leo_ite (leo_bind (cashbookref30_Rows.mono k _ _) (fun _ => leo_refl)) (leo_refl))) (leo_refl))) (leo_refl)) (leo_refl)) (leo_refl)))
noncomputable def b13 : Code := bodyOf Try.f13
def F13 : Fr := ⟨0, 50, 1, [], 13⟩
theorem cashbooklaw30_alive.ok (k : Nat)  (r : Bool) (h : cashbooklaw30_alive.f k  = some r) : Ret C0 13 [] [aV [pB r]] := by
  refine ret_of (c := b13) Try.func13 rfl rfl ⟨Nat.le_of_ble_eq_true rfl, Nat.le_of_ble_eq_true rfl⟩ ?_
  unfold cashbooklaw30_alive.f at h
  rw [show Try.f13.results.toList = [.tmp 0] from rfl]
  rw [show Try.f13.ntmps = 50 from rfl]
  obtain ⟨t1, h1, h⟩ := bnd h
  have h1c := (netting_Net.ok _ _ _ _ _ h1)
  try simp only [Tf, List.nil_append, List.cons_append, Int.reduceToNat] at h1c
  obtain ⟨t2, h2, h⟩ := bnd h
  have h2c := (netting_Settle.ok _ _ _ h2)
  try simp only [Tf, List.nil_append, List.cons_append, Int.reduceToNat] at h2c
  by_cases h3 : t1.2 = 0
  · rw [if_pos h3] at h
    by_cases h4 : t2.2 = 0
    · rw [if_pos h4] at h
      by_cases h5 : (t1.1.length : Int) = 16
      · rw [if_pos h5] at h
        obtain ⟨h6, h⟩ := ifn h
        have h6r := fun (q : 0 ≤ 0) => rd_at (l := t1.1) (i := 0) 0 q h6
        replace h6r := h6r (by omega)
        by_cases h7 : (t1.1.getD 0 0) = (-5)
        · rw [if_pos h7] at h
          obtain ⟨h8, h⟩ := ifn h
          have h8r := fun (q : 0 ≤ 1) => rd_at (l := t1.1) (i := 1) 0 q h8
          replace h8r := h8r (by omega)
          by_cases h9 : (t1.1.getD 1 0) = 0
          · rw [if_pos h9] at h
            obtain ⟨t10, h10, h⟩ := bnd h
            have h10c := (cashbookref30_Rows.ok _ _ _ _ h10)
            try simp only [Tf, List.nil_append, List.cons_append, Int.reduceToNat] at h10c
            obtain rfl := Option.some.inj h
            simp only [↓Bp, ↓Bs, Bo, Bh, Ba, Bc, ↓reduceIte, Nat.reduceAdd, Nat.reduceEqDiff, Nat.reduceLT, Nat.reduceLeDiff, Nat.reduceBEq, Nat.reduceMul, Int.reduceLE, Int.reduceLT, Int.reduceEq, Int.reduceToNat, reduceCtorEq, G13, Tf, b13, ↓Try.f13, F13, TY, H13, callP_eq h1c, callP_eq h2c, eq_true h3, eq_true h4, eq_true h5, h6, h6r, eq_true h7, h8, h8r, eq_true h9, callP_eq h10c]
          · rw [if_neg h9] at h
            obtain rfl := Option.some.inj h
            simp only [↓Bp, ↓Bs, Bo, Bh, Ba, Bc, ↓reduceIte, Nat.reduceAdd, Nat.reduceEqDiff, Nat.reduceLT, Nat.reduceLeDiff, Nat.reduceBEq, Nat.reduceMul, Int.reduceLE, Int.reduceLT, Int.reduceEq, Int.reduceToNat, reduceCtorEq, G13, Tf, b13, ↓Try.f13, F13, TY, H13, callP_eq h1c, callP_eq h2c, eq_true h3, eq_true h4, eq_true h5, h6, h6r, eq_true h7, h8, h8r, h9]
        · rw [if_neg h7] at h
          obtain rfl := Option.some.inj h
          simp only [↓Bp, ↓Bs, Bo, Bh, Ba, Bc, ↓reduceIte, Nat.reduceAdd, Nat.reduceEqDiff, Nat.reduceLT, Nat.reduceLeDiff, Nat.reduceBEq, Nat.reduceMul, Int.reduceLE, Int.reduceLT, Int.reduceEq, Int.reduceToNat, reduceCtorEq, G13, Tf, b13, ↓Try.f13, F13, TY, H13, callP_eq h1c, callP_eq h2c, eq_true h3, eq_true h4, eq_true h5, h6, h6r, h7]
      · rw [if_neg h5] at h
        obtain rfl := Option.some.inj h
        simp only [↓Bp, ↓Bs, Bo, Bh, Ba, Bc, ↓reduceIte, Nat.reduceAdd, Nat.reduceEqDiff, Nat.reduceLT, Nat.reduceLeDiff, Nat.reduceBEq, Nat.reduceMul, Int.reduceLE, Int.reduceLT, Int.reduceEq, Int.reduceToNat, reduceCtorEq, G13, Tf, b13, ↓Try.f13, F13, TY, H13, callP_eq h1c, callP_eq h2c, eq_true h3, eq_true h4, h5]
    · rw [if_neg h4] at h
      obtain rfl := Option.some.inj h
      simp only [↓Bp, ↓Bs, Bo, Bh, Ba, Bc, ↓reduceIte, Nat.reduceAdd, Nat.reduceEqDiff, Nat.reduceLT, Nat.reduceLeDiff, Nat.reduceBEq, Nat.reduceMul, Int.reduceLE, Int.reduceLT, Int.reduceEq, Int.reduceToNat, reduceCtorEq, G13, Tf, b13, ↓Try.f13, F13, TY, H13, callP_eq h1c, callP_eq h2c, eq_true h3, h4]
  · rw [if_neg h3] at h
    obtain rfl := Option.some.inj h
    simp only [↓Bp, ↓Bs, Bo, Bh, Ba, Bc, ↓reduceIte, Nat.reduceAdd, Nat.reduceEqDiff, Nat.reduceLT, Nat.reduceLeDiff, Nat.reduceBEq, Nat.reduceMul, Int.reduceLE, Int.reduceLT, Int.reduceEq, Int.reduceToNat, reduceCtorEq, G13, Tf, b13, ↓Try.f13, F13, TY, H13, callP_eq h1c, callP_eq h2c, h3]

mutual
def cashbookref30_Net.l0 : Nat → List S58 → Int → Int → List Int → Int → Option (List Int)
  | 0, _, _, _, _, _ => none
  | k + 1, x0, x1, x2, x7, x8 => (if x8 < 16 then (cashbookref30_Net.l1 k x0 x1 x2 x7 x8 0 x0 (x0.length : Int) 0) else (some x7))
def cashbookref30_Net.l1 : Nat → List S58 → Int → Int → List Int → Int → Int → List S58 → Int → Int → Option (List Int)
  | 0, _, _, _, _, _, _, _, _, _ => none
  | k + 1, x0, x1, x2, x7, x8, x9, x17, x18, x19 => (if x19 < x18 then (if 0 ≤ x19 then (if x19 < (x17.length : Int) then (if ((x17.getD ((x19 : Int).toNat) z58).f3).f0 = x1 then (cashbookref30_Net.j0 k x0 x1 x2 x7 x8 x9 x17 x18 x19 (!(decide ((x17.getD ((x19 : Int).toNat) z58).f4 = x2))) (⟨(x17.getD ((x19 : Int).toNat) z58).f0, (x17.getD ((x19 : Int).toNat) z58).f1, (x17.getD ((x19 : Int).toNat) z58).f2, ((x17.getD ((x19 : Int).toNat) z58).f3), (x17.getD ((x19 : Int).toNat) z58).f4⟩ : S58)) else (cashbookref30_Net.j0 k x0 x1 x2 x7 x8 x9 x17 x18 x19 true (⟨(x17.getD ((x19 : Int).toNat) z58).f0, (x17.getD ((x19 : Int).toNat) z58).f1, (x17.getD ((x19 : Int).toNat) z58).f2, ((x17.getD ((x19 : Int).toNat) z58).f3), (x17.getD ((x19 : Int).toNat) z58).f4⟩ : S58))) else none) else none) else (if x7.length + 1 ≤ 16777216 then (cashbookref30_Net.l0 k x0 x1 x2 (x7 ++ [x9]) (wrap64 (x8 + 1))) else none))
def cashbookref30_Net.j0 : Nat → List S58 → Int → Int → List Int → Int → Int → List S58 → Int → Int → Bool → S58 → Option (List Int)
  | 0, _, _, _, _, _, _, _, _, _, _, _ => none
  | k + 1, x0, x1, x2, x7, x8, x9, x17, x18, x19, x33, y11 => (if x33 = true then (cashbookref30_Net.j1 k x0 x1 x2 x7 x8 x9 x17 x18 x19) else (if y11.f2 = x8 then (cashbookref30_Net.j2 k x0 x1 x2 x7 x8 (wrap64 (x9 + y11.f3.f1)) x17 x18 x19 y11) else (cashbookref30_Net.j2 k x0 x1 x2 x7 x8 x9 x17 x18 x19 y11)))
def cashbookref30_Net.j1 : Nat → List S58 → Int → Int → List Int → Int → Int → List S58 → Int → Int → Option (List Int)
  | 0, _, _, _, _, _, _, _, _, _ => none
  | k + 1, x0, x1, x2, x7, x8, x9, x17, x18, x19 => (cashbookref30_Net.l1 k x0 x1 x2 x7 x8 x9 x17 x18 (wrap64 (x19 + 1)))
def cashbookref30_Net.j2 : Nat → List S58 → Int → Int → List Int → Int → Int → List S58 → Int → Int → S58 → Option (List Int)
  | 0, _, _, _, _, _, _, _, _, _, _ => none
  | k + 1, x0, x1, x2, x7, x8, x9, x17, x18, x19, y11 => (if y11.f1 = x8 then (cashbookref30_Net.j1 k x0 x1 x2 x7 x8 (wrap64 (x9 - y11.f3.f1)) x17 x18 x19) else (cashbookref30_Net.j1 k x0 x1 x2 x7 x8 x9 x17 x18 x19))
end
def cashbookref30_Net.f (k : Nat) (x0 : List S58) (x1 : Int) (x2 : Int) : Option (List Int) := (cashbookref30_Net.l0 k x0 x1 x2 ([] : List Int) 0)
theorem cashbookref30_Net.monos : ∀ k, (∀ x0 x1 x2 x7 x8, LeO (cashbookref30_Net.l0 k x0 x1 x2 x7 x8) (cashbookref30_Net.l0 (k + 1) x0 x1 x2 x7 x8)) ∧ (∀ x0 x1 x2 x7 x8 x9 x17 x18 x19, LeO (cashbookref30_Net.l1 k x0 x1 x2 x7 x8 x9 x17 x18 x19) (cashbookref30_Net.l1 (k + 1) x0 x1 x2 x7 x8 x9 x17 x18 x19)) ∧ (∀ x0 x1 x2 x7 x8 x9 x17 x18 x19 x33 y11, LeO (cashbookref30_Net.j0 k x0 x1 x2 x7 x8 x9 x17 x18 x19 x33 y11) (cashbookref30_Net.j0 (k + 1) x0 x1 x2 x7 x8 x9 x17 x18 x19 x33 y11)) ∧ (∀ x0 x1 x2 x7 x8 x9 x17 x18 x19, LeO (cashbookref30_Net.j1 k x0 x1 x2 x7 x8 x9 x17 x18 x19) (cashbookref30_Net.j1 (k + 1) x0 x1 x2 x7 x8 x9 x17 x18 x19)) ∧ (∀ x0 x1 x2 x7 x8 x9 x17 x18 x19 y11, LeO (cashbookref30_Net.j2 k x0 x1 x2 x7 x8 x9 x17 x18 x19 y11) (cashbookref30_Net.j2 (k + 1) x0 x1 x2 x7 x8 x9 x17 x18 x19 y11))
  | 0 => ⟨fun _ _ _ _ _ => leo_none, fun _ _ _ _ _ _ _ _ _ => leo_none, fun _ _ _ _ _ _ _ _ _ _ _ => leo_none, fun _ _ _ _ _ _ _ _ _ => leo_none, fun _ _ _ _ _ _ _ _ _ _ => leo_none⟩
  | k + 1 => by
    obtain ⟨Il0, Il1, Ij0, Ij1, Ij2⟩ := cashbookref30_Net.monos k
    refine ⟨?_, ?_, ?_, ?_, ?_⟩
    · intro x0 x1 x2 x7 x8
      rw [cashbookref30_Net.l0, cashbookref30_Net.l0]
      exact leo_ite (Il1 _ _ _ _ _ _ _ _ _) (leo_refl)
    · intro x0 x1 x2 x7 x8 x9 x17 x18 x19
      rw [cashbookref30_Net.l1, cashbookref30_Net.l1]
      exact leo_ite (leo_if (leo_if (leo_ite (Ij0 _ _ _ _ _ _ _ _ _ _ _) (Ij0 _ _ _ _ _ _ _ _ _ _ _)))) (leo_if (Il0 _ _ _ _ _))
    · intro x0 x1 x2 x7 x8 x9 x17 x18 x19 x33 y11
      rw [cashbookref30_Net.j0, cashbookref30_Net.j0]
      exact leo_ite (Ij1 _ _ _ _ _ _ _ _ _) (leo_ite (Ij2 _ _ _ _ _ _ _ _ _ _) (Ij2 _ _ _ _ _ _ _ _ _ _))
    · intro x0 x1 x2 x7 x8 x9 x17 x18 x19
      rw [cashbookref30_Net.j1, cashbookref30_Net.j1]
      exact Il1 _ _ _ _ _ _ _ _ _
    · intro x0 x1 x2 x7 x8 x9 x17 x18 x19 y11
      rw [cashbookref30_Net.j2, cashbookref30_Net.j2]
      exact leo_ite (Ij1 _ _ _ _ _ _ _ _ _) (Ij1 _ _ _ _ _ _ _ _ _)
theorem cashbookref30_Net.mono (k : Nat) (x0 : List S58) (x1 : Int) (x2 : Int) : LeO (cashbookref30_Net.f k x0 x1 x2) (cashbookref30_Net.f (k + 1) x0 x1 x2) := (cashbookref30_Net.monos k).1 _ _ _ _ _
noncomputable def b20 : Code := bodyOf Try.f20
def F20 : Fr := ⟨0, 58, 1, [], 20⟩
def cashbookref30_Net.l0S (x0 : List S58) (x1 : Int) (x2 : Int) (x7 : List Int) (x8 : Int) : St := ⟨upd (upd (upd (upd (upd (fun _ => .no) 8 (.one (.p none (pI .i64 x8)))) 7 (.one (.p (some 4) (.sl 1 (x7.map e2))))) 2 (.one (.p none (pI .i32 x2)))) 1 (.one (.p none (pI .i64 x1)))) 0 (.one (.p none (.sl 6 (x0.map e58)))), noOb, rtP 6, 6⟩
def cashbookref30_Net.l1S (x0 : List S58) (x1 : Int) (x2 : Int) (x7 : List Int) (x8 : Int) (x9 : Int) (x17 : List S58) (x18 : Int) (x19 : Int) : St := ⟨upd (upd (upd (upd (upd (upd (upd (upd (upd (fun _ => .no) 19 (.one (.p none (pI .i64 x19)))) 18 (.one (.p none (pI .i64 x18)))) 17 (.one (.p none (.sl 6 (x17.map e58))))) 9 (.one (.p none (pI .i64 x9)))) 8 (.one (.p none (pI .i64 x8)))) 7 (.one (.p (some 4) (.sl 1 (x7.map e2))))) 2 (.one (.p none (pI .i32 x2)))) 1 (.one (.p none (pI .i64 x1)))) 0 (.one (.p none (.sl 6 (x0.map e58)))), noOb, rtP 10, 10⟩
def cashbookref30_Net.j0S (x0 : List S58) (x1 : Int) (x2 : Int) (x7 : List Int) (x8 : Int) (x9 : Int) (x17 : List S58) (x18 : Int) (x19 : Int) (x33 : Bool) (y11 : S58) : St := ⟨upd (upd (upd (upd (upd (upd (upd (upd (upd (upd (upd (fun _ => .no) 33 (.one (.p none (pB x33)))) 19 (.one (.p none (pI .i64 x19)))) 18 (.one (.p none (pI .i64 x18)))) 17 (.one (.p none (.sl 6 (x17.map e58))))) 11 (.one (.pt 11 0))) 9 (.one (.p none (pI .i64 x9)))) 8 (.one (.p none (pI .i64 x8)))) 7 (.one (.p (some 4) (.sl 1 (x7.map e2))))) 2 (.one (.p none (pI .i32 x2)))) 1 (.one (.p none (pI .i64 x1)))) 0 (.one (.p none (.sl 6 (x0.map e58)))), upd noOb 11 (some (.var [.p none (pI .i64 y11.f0), .p none (pI .i64 y11.f1), .p none (pI .i64 y11.f2), .p none (pI .i64 y11.f3.f0), .p none (pI .i64 y11.f3.f1), .p none (pI .i32 y11.f4)])), rtP 18, 18⟩
def cashbookref30_Net.j1S (x0 : List S58) (x1 : Int) (x2 : Int) (x7 : List Int) (x8 : Int) (x9 : Int) (x17 : List S58) (x18 : Int) (x19 : Int) : St := ⟨upd (upd (upd (upd (upd (upd (upd (upd (upd (fun _ => .no) 19 (.one (.p none (pI .i64 x19)))) 18 (.one (.p none (pI .i64 x18)))) 17 (.one (.p none (.sl 6 (x17.map e58))))) 9 (.one (.p none (pI .i64 x9)))) 8 (.one (.p none (pI .i64 x8)))) 7 (.one (.p (some 4) (.sl 1 (x7.map e2))))) 2 (.one (.p none (pI .i32 x2)))) 1 (.one (.p none (pI .i64 x1)))) 0 (.one (.p none (.sl 6 (x0.map e58)))), noOb, rtP 10, 10⟩
def cashbookref30_Net.j2S (x0 : List S58) (x1 : Int) (x2 : Int) (x7 : List Int) (x8 : Int) (x9 : Int) (x17 : List S58) (x18 : Int) (x19 : Int) (y11 : S58) : St := ⟨upd (upd (upd (upd (upd (upd (upd (upd (upd (upd (fun _ => .no) 19 (.one (.p none (pI .i64 x19)))) 18 (.one (.p none (pI .i64 x18)))) 17 (.one (.p none (.sl 6 (x17.map e58))))) 11 (.one (.pt 11 0))) 9 (.one (.p none (pI .i64 x9)))) 8 (.one (.p none (pI .i64 x8)))) 7 (.one (.p (some 4) (.sl 1 (x7.map e2))))) 2 (.one (.p none (pI .i32 x2)))) 1 (.one (.p none (pI .i64 x1)))) 0 (.one (.p none (.sl 6 (x0.map e58)))), upd noOb 11 (some (.var [.p none (pI .i64 y11.f0), .p none (pI .i64 y11.f1), .p none (pI .i64 y11.f2), .p none (pI .i64 y11.f3.f0), .p none (pI .i64 y11.f3.f1), .p none (pI .i32 y11.f4)])), rtP 17, 17⟩
theorem cashbookref30_Net.all : ∀ k, (∀ x0 x1 x2 x7 x8 r, cashbookref30_Net.l0 k x0 x1 x2 x7 x8 = some r → AtL C0 F20 (sub [1, 1, 0, 1, 0, 0] b20) [.blk 0, .code (sub [1, 1, 1] b20)] (some (cashbookref30_Net.l0S x0 x1 x2 x7 x8)) (RetQ C0 [.tmp 6] [aV [.sl 1 (r.map e2)]])) ∧ (∀ x0 x1 x2 x7 x8 x9 x17 x18 x19 r, cashbookref30_Net.l1 k x0 x1 x2 x7 x8 x9 x17 x18 x19 = some r → AtL C0 F20 (sub [1, 1, 0, 1, 0, 0, 1, 0, 0, 1, 0, 1, 0, 0] b20) [.blk 2, .code (sub [1, 1, 0, 1, 0, 0, 1, 0, 0, 1, 1] b20), .blk 1, .code (sub [1, 1, 0, 1, 0, 0, 1, 1] b20), .lp (sub [1, 1, 0, 1, 0, 0] b20), .blk 0, .code (sub [1, 1, 1] b20)] (some (cashbookref30_Net.l1S x0 x1 x2 x7 x8 x9 x17 x18 x19)) (RetQ C0 [.tmp 6] [aV [.sl 1 (r.map e2)]])) ∧ (∀ x0 x1 x2 x7 x8 x9 x17 x18 x19 x33 y11 r, cashbookref30_Net.j0 k x0 x1 x2 x7 x8 x9 x17 x18 x19 x33 y11 = some r → AtJ C0 F20 (sub [1, 1, 0, 1, 0, 0, 1, 0, 0, 1, 0, 1, 0, 0, 1, 1, 0, 0, 1, 0, 1] b20) [.code (sub [1, 1, 0, 1, 0, 0, 1, 0, 0, 1, 0, 1, 0, 0, 1, 1, 0, 0, 1, 1] b20), .blk 3, .code (sub [1, 1, 0, 1, 0, 0, 1, 0, 0, 1, 0, 1, 0, 0, 1, 1, 1] b20), .lp (sub [1, 1, 0, 1, 0, 0, 1, 0, 0, 1, 0, 1, 0, 0] b20), .blk 2, .code (sub [1, 1, 0, 1, 0, 0, 1, 0, 0, 1, 1] b20), .blk 1, .code (sub [1, 1, 0, 1, 0, 0, 1, 1] b20), .lp (sub [1, 1, 0, 1, 0, 0] b20), .blk 0, .code (sub [1, 1, 1] b20)] (some (cashbookref30_Net.j0S x0 x1 x2 x7 x8 x9 x17 x18 x19 x33 y11)) (RetQ C0 [.tmp 6] [aV [.sl 1 (r.map e2)]])) ∧ (∀ x0 x1 x2 x7 x8 x9 x17 x18 x19 r, cashbookref30_Net.j1 k x0 x1 x2 x7 x8 x9 x17 x18 x19 = some r → AtJ C0 F20 (sub [1, 1, 0, 1, 0, 0, 1, 0, 0, 1, 0, 1, 0, 0, 1, 1, 1] b20) [.lp (sub [1, 1, 0, 1, 0, 0, 1, 0, 0, 1, 0, 1, 0, 0] b20), .blk 2, .code (sub [1, 1, 0, 1, 0, 0, 1, 0, 0, 1, 1] b20), .blk 1, .code (sub [1, 1, 0, 1, 0, 0, 1, 1] b20), .lp (sub [1, 1, 0, 1, 0, 0] b20), .blk 0, .code (sub [1, 1, 1] b20)] (some (cashbookref30_Net.j1S x0 x1 x2 x7 x8 x9 x17 x18 x19)) (RetQ C0 [.tmp 6] [aV [.sl 1 (r.map e2)]])) ∧ (∀ x0 x1 x2 x7 x8 x9 x17 x18 x19 y11 r, cashbookref30_Net.j2 k x0 x1 x2 x7 x8 x9 x17 x18 x19 y11 = some r → AtJ C0 F20 (sub [1, 1, 0, 1, 0, 0, 1, 0, 0, 1, 0, 1, 0, 0, 1, 1, 0, 0, 1, 1, 1] b20) [.blk 3, .code (sub [1, 1, 0, 1, 0, 0, 1, 0, 0, 1, 0, 1, 0, 0, 1, 1, 1] b20), .lp (sub [1, 1, 0, 1, 0, 0, 1, 0, 0, 1, 0, 1, 0, 0] b20), .blk 2, .code (sub [1, 1, 0, 1, 0, 0, 1, 0, 0, 1, 1] b20), .blk 1, .code (sub [1, 1, 0, 1, 0, 0, 1, 1] b20), .lp (sub [1, 1, 0, 1, 0, 0] b20), .blk 0, .code (sub [1, 1, 1] b20)] (some (cashbookref30_Net.j2S x0 x1 x2 x7 x8 x9 x17 x18 x19 y11)) (RetQ C0 [.tmp 6] [aV [.sl 1 (r.map e2)]]))
  | 0 => ⟨fun _ _ _ _ _ r h => (by cases h), fun _ _ _ _ _ _ _ _ _ r h => (by cases h), fun _ _ _ _ _ _ _ _ _ _ _ r h => (by cases h), fun _ _ _ _ _ _ _ _ _ r h => (by cases h), fun _ _ _ _ _ _ _ _ _ _ r h => (by cases h)⟩
  | k + 1 => by
    obtain ⟨Il0, Il1, Ij0, Ij1, Ij2⟩ := cashbookref30_Net.all k
    refine ⟨?_, ?_, ?_, ?_, ?_⟩
    · intro x0 x1 x2 x7 x8 r h
      rw [cashbookref30_Net.l0] at h
      rw [atL_some]
      by_cases h1 : x8 < 16
      · rw [if_pos h1] at h
        simp only [↓Bp, ↓Bs, Bo, Bh, Ba, Bc, ↓reduceIte, Nat.reduceAdd, Nat.reduceEqDiff, Nat.reduceLT, Nat.reduceLeDiff, Nat.reduceBEq, Nat.reduceMul, Int.reduceLE, Int.reduceLT, Int.reduceEq, Int.reduceToNat, reduceCtorEq, G20, Tf, b20, ↓Try.f20, F20, TY, H20, h1, cashbookref30_Net.l0S]
        refine AtL.eq (Il1 _ _ _ _ _ _ _ _ _ _ h) ?_
        simp only [Tf, Int.reduceToNat, Int.toNat_natCast, cashbookref30_Net.l1S]
      · rw [if_neg h1] at h
        obtain rfl := Option.some.inj h
        simp only [↓Bp, ↓Bs, Bo, Bh, Ba, Bc, ↓reduceIte, Nat.reduceAdd, Nat.reduceEqDiff, Nat.reduceLT, Nat.reduceLeDiff, Nat.reduceBEq, Nat.reduceMul, Int.reduceLE, Int.reduceLT, Int.reduceEq, Int.reduceToNat, reduceCtorEq, G20, Tf, b20, ↓Try.f20, F20, TY, H20, h1, cashbookref30_Net.l0S]
    · intro x0 x1 x2 x7 x8 x9 x17 x18 x19 r h
      rw [cashbookref30_Net.l1] at h
      rw [atL_some]
      by_cases h2 : x19 < x18
      · rw [if_pos h2] at h
        obtain ⟨h3, h⟩ := ifn h
        obtain ⟨h4, h⟩ := ifn h
        have h4r := fun (q : 0 ≤ x19) => rd_at (l := x17) (i := x19) z58 q h4
        replace h4r := h4r (by omega)
        by_cases h5 : ((x17.getD ((x19 : Int).toNat) z58).f3).f0 = x1
        · rw [if_pos h5] at h
          simp only [↓Bp, ↓Bs, Bo, Bh, Ba, Bc, ↓reduceIte, Nat.reduceAdd, Nat.reduceEqDiff, Nat.reduceLT, Nat.reduceLeDiff, Nat.reduceBEq, Nat.reduceMul, Int.reduceLE, Int.reduceLT, Int.reduceEq, Int.reduceToNat, reduceCtorEq, G20, Tf, b20, ↓Try.f20, F20, TY, H20, h2, h3, h4, h4r, eq_true h5, cashbookref30_Net.l1S]
          refine AtJ.eq (Ij0 _ _ _ _ _ _ _ _ _ _ _ _ h) ?_
          simp only [Tf, Int.reduceToNat, Int.toNat_natCast, cashbookref30_Net.j0S]
        · rw [if_neg h5] at h
          simp only [↓Bp, ↓Bs, Bo, Bh, Ba, Bc, ↓reduceIte, Nat.reduceAdd, Nat.reduceEqDiff, Nat.reduceLT, Nat.reduceLeDiff, Nat.reduceBEq, Nat.reduceMul, Int.reduceLE, Int.reduceLT, Int.reduceEq, Int.reduceToNat, reduceCtorEq, G20, Tf, b20, ↓Try.f20, F20, TY, H20, h2, h3, h4, h4r, h5, cashbookref30_Net.l1S]
          refine AtJ.eq (Ij0 _ _ _ _ _ _ _ _ _ _ _ _ h) ?_
          simp only [Tf, Int.reduceToNat, Int.toNat_natCast, cashbookref30_Net.j0S]
      · rw [if_neg h2] at h
        obtain ⟨h6, h⟩ := ifn h
        simp only [↓Bp, ↓Bs, Bo, Bh, Ba, Bc, ↓reduceIte, Nat.reduceAdd, Nat.reduceEqDiff, Nat.reduceLT, Nat.reduceLeDiff, Nat.reduceBEq, Nat.reduceMul, Int.reduceLE, Int.reduceLT, Int.reduceEq, Int.reduceToNat, reduceCtorEq, G20, Tf, b20, ↓Try.f20, F20, TY, H20, h2, h6, cashbookref30_Net.l1S]
        refine AtL.eq (Il0 _ _ _ _ _ _ h) ?_
        simp only [Tf, Int.reduceToNat, Int.toNat_natCast, cashbookref30_Net.l0S]
    · intro x0 x1 x2 x7 x8 x9 x17 x18 x19 x33 y11 r h
      rw [cashbookref30_Net.j0] at h
      rw [atJ_some]
      by_cases h7 : x33 = true
      · rw [if_pos h7] at h
        simp only [↓Bp, ↓Bs, Bo, Bh, Ba, Bc, ↓reduceIte, Nat.reduceAdd, Nat.reduceEqDiff, Nat.reduceLT, Nat.reduceLeDiff, Nat.reduceBEq, Nat.reduceMul, Int.reduceLE, Int.reduceLT, Int.reduceEq, Int.reduceToNat, reduceCtorEq, G20, Tf, b20, ↓Try.f20, F20, TY, H20, h7, cashbookref30_Net.j0S]
        refine AtJ.eq (Ij1 _ _ _ _ _ _ _ _ _ _ h) ?_
        simp only [Tf, Int.reduceToNat, Int.toNat_natCast, cashbookref30_Net.j1S]
      · rw [if_neg h7] at h
        by_cases h8 : y11.f2 = x8
        · rw [if_pos h8] at h
          simp only [↓Bp, ↓Bs, Bo, Bh, Ba, Bc, ↓reduceIte, Nat.reduceAdd, Nat.reduceEqDiff, Nat.reduceLT, Nat.reduceLeDiff, Nat.reduceBEq, Nat.reduceMul, Int.reduceLE, Int.reduceLT, Int.reduceEq, Int.reduceToNat, reduceCtorEq, G20, Tf, b20, ↓Try.f20, F20, TY, H20, h7, eq_true h8, cashbookref30_Net.j0S]
          refine AtJ.eq (Ij2 _ _ _ _ _ _ _ _ _ _ _ h) ?_
          simp only [Tf, Int.reduceToNat, Int.toNat_natCast, cashbookref30_Net.j2S]
        · rw [if_neg h8] at h
          simp only [↓Bp, ↓Bs, Bo, Bh, Ba, Bc, ↓reduceIte, Nat.reduceAdd, Nat.reduceEqDiff, Nat.reduceLT, Nat.reduceLeDiff, Nat.reduceBEq, Nat.reduceMul, Int.reduceLE, Int.reduceLT, Int.reduceEq, Int.reduceToNat, reduceCtorEq, G20, Tf, b20, ↓Try.f20, F20, TY, H20, h7, h8, cashbookref30_Net.j0S]
          refine AtJ.eq (Ij2 _ _ _ _ _ _ _ _ _ _ _ h) ?_
          simp only [Tf, Int.reduceToNat, Int.toNat_natCast, cashbookref30_Net.j2S]
    · intro x0 x1 x2 x7 x8 x9 x17 x18 x19 r h
      rw [cashbookref30_Net.j1] at h
      rw [atJ_some]
      simp only [↓Bp, ↓Bs, Bo, Bh, Ba, Bc, ↓reduceIte, Nat.reduceAdd, Nat.reduceEqDiff, Nat.reduceLT, Nat.reduceLeDiff, Nat.reduceBEq, Nat.reduceMul, Int.reduceLE, Int.reduceLT, Int.reduceEq, Int.reduceToNat, reduceCtorEq, G20, Tf, b20, ↓Try.f20, F20, TY, H20, cashbookref30_Net.j1S]
      refine AtL.eq (Il1 _ _ _ _ _ _ _ _ _ _ h) ?_
      simp only [Tf, Int.reduceToNat, Int.toNat_natCast, cashbookref30_Net.l1S]
    · intro x0 x1 x2 x7 x8 x9 x17 x18 x19 y11 r h
      rw [cashbookref30_Net.j2] at h
      rw [atJ_some]
      by_cases h9 : y11.f1 = x8
      · rw [if_pos h9] at h
        simp only [↓Bp, ↓Bs, Bo, Bh, Ba, Bc, ↓reduceIte, Nat.reduceAdd, Nat.reduceEqDiff, Nat.reduceLT, Nat.reduceLeDiff, Nat.reduceBEq, Nat.reduceMul, Int.reduceLE, Int.reduceLT, Int.reduceEq, Int.reduceToNat, reduceCtorEq, G20, Tf, b20, ↓Try.f20, F20, TY, H20, eq_true h9, cashbookref30_Net.j2S]
        refine AtJ.eq (Ij1 _ _ _ _ _ _ _ _ _ _ h) ?_
        simp only [Tf, Int.reduceToNat, Int.toNat_natCast, cashbookref30_Net.j1S]
      · rw [if_neg h9] at h
        simp only [↓Bp, ↓Bs, Bo, Bh, Ba, Bc, ↓reduceIte, Nat.reduceAdd, Nat.reduceEqDiff, Nat.reduceLT, Nat.reduceLeDiff, Nat.reduceBEq, Nat.reduceMul, Int.reduceLE, Int.reduceLT, Int.reduceEq, Int.reduceToNat, reduceCtorEq, G20, Tf, b20, ↓Try.f20, F20, TY, H20, h9, cashbookref30_Net.j2S]
        refine AtJ.eq (Ij1 _ _ _ _ _ _ _ _ _ _ h) ?_
        simp only [Tf, Int.reduceToNat, Int.toNat_natCast, cashbookref30_Net.j1S]
theorem cashbookref30_Net.ok (k : Nat) (x0 : List S58) (x1 : Int) (x2 : Int) (r : List Int) (h : cashbookref30_Net.f k x0 x1 x2 = some r) : Ret C0 20 [(false, [.sl 6 (x0.map e58)]), (false, [.sc (.int .i64 x1)]), (false, [.sc (.int .i32 x2)])] [aV [.sl 1 (r.map e2)]] := by
  refine ret_of (c := b20) Try.func20 rfl rfl ⟨Nat.le_of_ble_eq_true rfl, Nat.le_of_ble_eq_true rfl⟩ ?_
  unfold cashbookref30_Net.f at h
  rw [show Try.f20.results.toList = [.tmp 6] from rfl]
  rw [show Try.f20.ntmps = 58 from rfl]
  obtain ⟨Il0, Il1, Ij0, Ij1, Ij2⟩ := cashbookref30_Net.all k
  simp only [↓Bp, ↓Bs, Bo, Bh, Ba, Bc, ↓reduceIte, Nat.reduceAdd, Nat.reduceEqDiff, Nat.reduceLT, Nat.reduceLeDiff, Nat.reduceBEq, Nat.reduceMul, Int.reduceLE, Int.reduceLT, Int.reduceEq, Int.reduceToNat, reduceCtorEq, G20, Tf, b20, ↓Try.f20, F20, TY, H20]
  refine AtL.eq (Il0 _ _ _ _ _ _ h) ?_
  simp only [Tf, Int.reduceToNat, Int.toNat_natCast, cashbookref30_Net.l0S]

mutual
def cashbookref30_worst.l0 : Nat → List Int → Int → Int → List Int → Int → Int → Option Int
  | 0, _, _, _, _, _, _ => none
  | k + 1, x1, x5, x6, x9, x10, x11 => (if x11 < x10 then (if 0 ≤ x11 then (if x11 < (x9.length : Int) then (if (x9.getD ((x11 : Int).toNat) 0) < 0 then (if x11 < (x1.length : Int) then (cashbookref30_worst.j0 k x1 x5 x6 x11 (x9.getD ((x11 : Int).toNat) 0) x9 x10 x11 (decide (x6 < (wrap64 ((wrap64 (0 - (x9.getD ((x11 : Int).toNat) 0))) - (x1.getD ((x11 : Int).toNat) 0)))))) else none) else (cashbookref30_worst.j0 k x1 x5 x6 x11 (x9.getD ((x11 : Int).toNat) 0) x9 x10 x11 false)) else none) else none) else (some x5))
def cashbookref30_worst.j0 : Nat → List Int → Int → Int → Int → Int → List Int → Int → Int → Bool → Option Int
  | 0, _, _, _, _, _, _, _, _, _ => none
  | k + 1, x1, x5, x6, x7, x8, x9, x10, x11, x28 => (if x28 = true then (if 0 ≤ x7 then (if x7 < (x1.length : Int) then (cashbookref30_worst.j1 k x1 x7 (wrap64 ((wrap64 (0 - x8)) - (x1.getD ((x7 : Int).toNat) 0))) x9 x10 x11) else none) else none) else (cashbookref30_worst.j1 k x1 x5 x6 x9 x10 x11))
def cashbookref30_worst.j1 : Nat → List Int → Int → Int → List Int → Int → Int → Option Int
  | 0, _, _, _, _, _, _ => none
  | k + 1, x1, x5, x6, x9, x10, x11 => (cashbookref30_worst.l0 k x1 x5 x6 x9 x10 (wrap64 (x11 + 1)))
end
def cashbookref30_worst.f (k : Nat) (x0 : List Int) (x1 : List Int) : Option Int := (cashbookref30_worst.l0 k x1 (-1) 0 x0 (x0.length : Int) 0)
theorem cashbookref30_worst.monos : ∀ k, (∀ x1 x5 x6 x9 x10 x11, LeO (cashbookref30_worst.l0 k x1 x5 x6 x9 x10 x11) (cashbookref30_worst.l0 (k + 1) x1 x5 x6 x9 x10 x11)) ∧ (∀ x1 x5 x6 x7 x8 x9 x10 x11 x28, LeO (cashbookref30_worst.j0 k x1 x5 x6 x7 x8 x9 x10 x11 x28) (cashbookref30_worst.j0 (k + 1) x1 x5 x6 x7 x8 x9 x10 x11 x28)) ∧ (∀ x1 x5 x6 x9 x10 x11, LeO (cashbookref30_worst.j1 k x1 x5 x6 x9 x10 x11) (cashbookref30_worst.j1 (k + 1) x1 x5 x6 x9 x10 x11))
  | 0 => ⟨fun _ _ _ _ _ _ => leo_none, fun _ _ _ _ _ _ _ _ _ => leo_none, fun _ _ _ _ _ _ => leo_none⟩
  | k + 1 => by
    obtain ⟨Il0, Ij0, Ij1⟩ := cashbookref30_worst.monos k
    refine ⟨?_, ?_, ?_⟩
    · intro x1 x5 x6 x9 x10 x11
      rw [cashbookref30_worst.l0, cashbookref30_worst.l0]
      exact leo_ite (leo_if (leo_if (leo_ite (leo_if (Ij0 _ _ _ _ _ _ _ _ _)) (Ij0 _ _ _ _ _ _ _ _ _)))) (leo_refl)
    · intro x1 x5 x6 x7 x8 x9 x10 x11 x28
      rw [cashbookref30_worst.j0, cashbookref30_worst.j0]
      exact leo_ite (leo_if (leo_if (Ij1 _ _ _ _ _ _))) (Ij1 _ _ _ _ _ _)
    · intro x1 x5 x6 x9 x10 x11
      rw [cashbookref30_worst.j1, cashbookref30_worst.j1]
      exact Il0 _ _ _ _ _ _
theorem cashbookref30_worst.mono (k : Nat) (x0 : List Int) (x1 : List Int) : LeO (cashbookref30_worst.f k x0 x1) (cashbookref30_worst.f (k + 1) x0 x1) := (cashbookref30_worst.monos k).1 _ _ _ _ _ _
noncomputable def b37 : Code := bodyOf Try.f37
def F37 : Fr := ⟨0, 39, 1, [], 37⟩
def cashbookref30_worst.l0S (x1 : List Int) (x5 : Int) (x6 : Int) (x9 : List Int) (x10 : Int) (x11 : Int) : St := ⟨upd (upd (upd (upd (upd (upd (fun _ => .no) 11 (.one (.p none (pI .i64 x11)))) 10 (.one (.p none (pI .i64 x10)))) 9 (.one (.p none (.sl 1 (x9.map e2))))) 6 (.one (.p none (pI .i64 x6)))) 5 (.one (.p none (pI .i64 x5)))) 1 (.one (.p none (.sl 1 (x1.map e2)))), noOb, rtP 7, 7⟩
def cashbookref30_worst.j0S (x1 : List Int) (x5 : Int) (x6 : Int) (x7 : Int) (x8 : Int) (x9 : List Int) (x10 : Int) (x11 : Int) (x28 : Bool) : St := ⟨upd (upd (upd (upd (upd (upd (upd (upd (upd (fun _ => .no) 28 (.one (.p none (pB x28)))) 11 (.one (.p none (pI .i64 x11)))) 10 (.one (.p none (pI .i64 x10)))) 9 (.one (.p none (.sl 1 (x9.map e2))))) 8 (.one (.p none (pI .i64 x8)))) 7 (.one (.p none (pI .i64 x7)))) 6 (.one (.p none (pI .i64 x6)))) 5 (.one (.p none (pI .i64 x5)))) 1 (.one (.p none (.sl 1 (x1.map e2)))), noOb, rtP 10, 10⟩
def cashbookref30_worst.j1S (x1 : List Int) (x5 : Int) (x6 : Int) (x9 : List Int) (x10 : Int) (x11 : Int) : St := ⟨upd (upd (upd (upd (upd (upd (fun _ => .no) 11 (.one (.p none (pI .i64 x11)))) 10 (.one (.p none (pI .i64 x10)))) 9 (.one (.p none (.sl 1 (x9.map e2))))) 6 (.one (.p none (pI .i64 x6)))) 5 (.one (.p none (pI .i64 x5)))) 1 (.one (.p none (.sl 1 (x1.map e2)))), noOb, rtP 7, 7⟩
theorem cashbookref30_worst.all : ∀ k, (∀ x1 x5 x6 x9 x10 x11 r, cashbookref30_worst.l0 k x1 x5 x6 x9 x10 x11 = some r → AtL C0 F37 (sub [1, 1, 1, 0, 1, 0, 0] b37) [.blk 0, .code (sub [1, 1, 1, 1] b37)] (some (cashbookref30_worst.l0S x1 x5 x6 x9 x10 x11)) (RetQ C0 [.tmp 4] [aV [pI .i64 r]])) ∧ (∀ x1 x5 x6 x7 x8 x9 x10 x11 x28 r, cashbookref30_worst.j0 k x1 x5 x6 x7 x8 x9 x10 x11 x28 = some r → AtJ C0 F37 (sub [1, 1, 1, 0, 1, 0, 0, 1, 1, 0, 0, 1, 1] b37) [.blk 1, .code (sub [1, 1, 1, 0, 1, 0, 0, 1, 1, 1] b37), .lp (sub [1, 1, 1, 0, 1, 0, 0] b37), .blk 0, .code (sub [1, 1, 1, 1] b37)] (some (cashbookref30_worst.j0S x1 x5 x6 x7 x8 x9 x10 x11 x28)) (RetQ C0 [.tmp 4] [aV [pI .i64 r]])) ∧ (∀ x1 x5 x6 x9 x10 x11 r, cashbookref30_worst.j1 k x1 x5 x6 x9 x10 x11 = some r → AtJ C0 F37 (sub [1, 1, 1, 0, 1, 0, 0, 1, 1, 1] b37) [.lp (sub [1, 1, 1, 0, 1, 0, 0] b37), .blk 0, .code (sub [1, 1, 1, 1] b37)] (some (cashbookref30_worst.j1S x1 x5 x6 x9 x10 x11)) (RetQ C0 [.tmp 4] [aV [pI .i64 r]]))
  | 0 => ⟨fun _ _ _ _ _ _ r h => (by cases h), fun _ _ _ _ _ _ _ _ _ r h => (by cases h), fun _ _ _ _ _ _ r h => (by cases h)⟩
  | k + 1 => by
    obtain ⟨Il0, Ij0, Ij1⟩ := cashbookref30_worst.all k
    refine ⟨?_, ?_, ?_⟩
    · intro x1 x5 x6 x9 x10 x11 r h
      rw [cashbookref30_worst.l0] at h
      rw [atL_some]
      by_cases h1 : x11 < x10
      · rw [if_pos h1] at h
        obtain ⟨h2, h⟩ := ifn h
        obtain ⟨h3, h⟩ := ifn h
        have h3r := fun (q : 0 ≤ x11) => rd_at (l := x9) (i := x11) 0 q h3
        replace h3r := h3r (by omega)
        by_cases h4 : (x9.getD ((x11 : Int).toNat) 0) < 0
        · rw [if_pos h4] at h
          obtain ⟨h5, h⟩ := ifn h
          have h5r := fun (q : 0 ≤ x11) => rd_at (l := x1) (i := x11) 0 q h5
          replace h5r := h5r (by omega)
          simp only [↓Bp, ↓Bs, Bo, Bh, Ba, Bc, ↓reduceIte, Nat.reduceAdd, Nat.reduceEqDiff, Nat.reduceLT, Nat.reduceLeDiff, Nat.reduceBEq, Nat.reduceMul, Int.reduceLE, Int.reduceLT, Int.reduceEq, Int.reduceToNat, reduceCtorEq, G37, Tf, b37, ↓Try.f37, F37, TY, H37, h1, h2, h3, h3r, h4, h5, h5r, cashbookref30_worst.l0S]
          refine AtJ.eq (Ij0 _ _ _ _ _ _ _ _ _ _ h) ?_
          simp only [Tf, Int.reduceToNat, Int.toNat_natCast, cashbookref30_worst.j0S]
        · rw [if_neg h4] at h
          simp only [↓Bp, ↓Bs, Bo, Bh, Ba, Bc, ↓reduceIte, Nat.reduceAdd, Nat.reduceEqDiff, Nat.reduceLT, Nat.reduceLeDiff, Nat.reduceBEq, Nat.reduceMul, Int.reduceLE, Int.reduceLT, Int.reduceEq, Int.reduceToNat, reduceCtorEq, G37, Tf, b37, ↓Try.f37, F37, TY, H37, h1, h2, h3, h3r, h4, cashbookref30_worst.l0S]
          refine AtJ.eq (Ij0 _ _ _ _ _ _ _ _ _ _ h) ?_
          simp only [Tf, Int.reduceToNat, Int.toNat_natCast, cashbookref30_worst.j0S]
      · rw [if_neg h1] at h
        obtain rfl := Option.some.inj h
        simp only [↓Bp, ↓Bs, Bo, Bh, Ba, Bc, ↓reduceIte, Nat.reduceAdd, Nat.reduceEqDiff, Nat.reduceLT, Nat.reduceLeDiff, Nat.reduceBEq, Nat.reduceMul, Int.reduceLE, Int.reduceLT, Int.reduceEq, Int.reduceToNat, reduceCtorEq, G37, Tf, b37, ↓Try.f37, F37, TY, H37, h1, cashbookref30_worst.l0S]
    · intro x1 x5 x6 x7 x8 x9 x10 x11 x28 r h
      rw [cashbookref30_worst.j0] at h
      rw [atJ_some]
      by_cases h6 : x28 = true
      · rw [if_pos h6] at h
        obtain ⟨h7, h⟩ := ifn h
        obtain ⟨h8, h⟩ := ifn h
        have h8r := fun (q : 0 ≤ x7) => rd_at (l := x1) (i := x7) 0 q h8
        replace h8r := h8r (by omega)
        simp only [↓Bp, ↓Bs, Bo, Bh, Ba, Bc, ↓reduceIte, Nat.reduceAdd, Nat.reduceEqDiff, Nat.reduceLT, Nat.reduceLeDiff, Nat.reduceBEq, Nat.reduceMul, Int.reduceLE, Int.reduceLT, Int.reduceEq, Int.reduceToNat, reduceCtorEq, G37, Tf, b37, ↓Try.f37, F37, TY, H37, h6, h7, h8, h8r, cashbookref30_worst.j0S]
        refine AtJ.eq (Ij1 _ _ _ _ _ _ _ h) ?_
        simp only [Tf, Int.reduceToNat, Int.toNat_natCast, cashbookref30_worst.j1S]
      · rw [if_neg h6] at h
        simp only [↓Bp, ↓Bs, Bo, Bh, Ba, Bc, ↓reduceIte, Nat.reduceAdd, Nat.reduceEqDiff, Nat.reduceLT, Nat.reduceLeDiff, Nat.reduceBEq, Nat.reduceMul, Int.reduceLE, Int.reduceLT, Int.reduceEq, Int.reduceToNat, reduceCtorEq, G37, Tf, b37, ↓Try.f37, F37, TY, H37, h6, cashbookref30_worst.j0S]
        refine AtJ.eq (Ij1 _ _ _ _ _ _ _ h) ?_
        simp only [Tf, Int.reduceToNat, Int.toNat_natCast, cashbookref30_worst.j1S]
    · intro x1 x5 x6 x9 x10 x11 r h
      rw [cashbookref30_worst.j1] at h
      rw [atJ_some]
      simp only [↓Bp, ↓Bs, Bo, Bh, Ba, Bc, ↓reduceIte, Nat.reduceAdd, Nat.reduceEqDiff, Nat.reduceLT, Nat.reduceLeDiff, Nat.reduceBEq, Nat.reduceMul, Int.reduceLE, Int.reduceLT, Int.reduceEq, Int.reduceToNat, reduceCtorEq, G37, Tf, b37, ↓Try.f37, F37, TY, H37, cashbookref30_worst.j1S]
      refine AtL.eq (Il0 _ _ _ _ _ _ _ h) ?_
      simp only [Tf, Int.reduceToNat, Int.toNat_natCast, cashbookref30_worst.l0S]
theorem cashbookref30_worst.ok (k : Nat) (x0 : List Int) (x1 : List Int) (r : Int) (h : cashbookref30_worst.f k x0 x1 = some r) : Ret C0 37 [(false, [.sl 1 (x0.map e2)]), (false, [.sl 1 (x1.map e2)])] [aV [pI .i64 r]] := by
  refine ret_of (c := b37) Try.func37 rfl rfl ⟨Nat.le_of_ble_eq_true rfl, Nat.le_of_ble_eq_true rfl⟩ ?_
  unfold cashbookref30_worst.f at h
  rw [show Try.f37.results.toList = [.tmp 4] from rfl]
  rw [show Try.f37.ntmps = 39 from rfl]
  obtain ⟨Il0, Ij0, Ij1⟩ := cashbookref30_worst.all k
  simp only [↓Bp, ↓Bs, Bo, Bh, Ba, Bc, ↓reduceIte, Nat.reduceAdd, Nat.reduceEqDiff, Nat.reduceLT, Nat.reduceLeDiff, Nat.reduceBEq, Nat.reduceMul, Int.reduceLE, Int.reduceLT, Int.reduceEq, Int.reduceToNat, reduceCtorEq, G37, Tf, b37, ↓Try.f37, F37, TY, H37]
  refine AtL.eq (Il0 _ _ _ _ _ _ _ h) ?_
  simp only [Tf, Int.reduceToNat, Int.toNat_natCast, cashbookref30_worst.l0S]

mutual
def cashbookref30_without.l0 : Nat → Int → List S58 → List S58 → Int → Int → Option (List S58)
  | 0, _, _, _, _, _ => none
  | k + 1, x1, x5, x9, x10, x11 => (if x11 < x10 then (if 0 ≤ x11 then (if x11 < (x9.length : Int) then (if (x9.getD ((x11 : Int).toNat) z58).f1 = x1 then (cashbookref30_without.j0 k x1 x5 x9 x10 x11 false (⟨(x9.getD ((x11 : Int).toNat) z58).f0, (x9.getD ((x11 : Int).toNat) z58).f1, (x9.getD ((x11 : Int).toNat) z58).f2, ((x9.getD ((x11 : Int).toNat) z58).f3), (x9.getD ((x11 : Int).toNat) z58).f4⟩ : S58)) else (cashbookref30_without.j0 k x1 x5 x9 x10 x11 (!(decide ((x9.getD ((x11 : Int).toNat) z58).f2 = x1))) (⟨(x9.getD ((x11 : Int).toNat) z58).f0, (x9.getD ((x11 : Int).toNat) z58).f1, (x9.getD ((x11 : Int).toNat) z58).f2, ((x9.getD ((x11 : Int).toNat) z58).f3), (x9.getD ((x11 : Int).toNat) z58).f4⟩ : S58))) else none) else none) else (some x5))
def cashbookref30_without.j0 : Nat → Int → List S58 → List S58 → Int → Int → Bool → S58 → Option (List S58)
  | 0, _, _, _, _, _, _, _ => none
  | k + 1, x1, x5, x9, x10, x11, x24, y7 => (if x24 = true then (if x5.length + 1 ≤ 16777216 then (cashbookref30_without.j1 k x1 (x5 ++ [y7]) x9 x10 x11) else none) else (cashbookref30_without.j1 k x1 x5 x9 x10 x11))
def cashbookref30_without.j1 : Nat → Int → List S58 → List S58 → Int → Int → Option (List S58)
  | 0, _, _, _, _, _ => none
  | k + 1, x1, x5, x9, x10, x11 => (cashbookref30_without.l0 k x1 x5 x9 x10 (wrap64 (x11 + 1)))
end
def cashbookref30_without.f (k : Nat) (x0 : List S58) (x1 : Int) : Option (List S58) := (cashbookref30_without.l0 k x1 ([] : List S58) x0 (x0.length : Int) 0)
theorem cashbookref30_without.monos : ∀ k, (∀ x1 x5 x9 x10 x11, LeO (cashbookref30_without.l0 k x1 x5 x9 x10 x11) (cashbookref30_without.l0 (k + 1) x1 x5 x9 x10 x11)) ∧ (∀ x1 x5 x9 x10 x11 x24 y7, LeO (cashbookref30_without.j0 k x1 x5 x9 x10 x11 x24 y7) (cashbookref30_without.j0 (k + 1) x1 x5 x9 x10 x11 x24 y7)) ∧ (∀ x1 x5 x9 x10 x11, LeO (cashbookref30_without.j1 k x1 x5 x9 x10 x11) (cashbookref30_without.j1 (k + 1) x1 x5 x9 x10 x11))
  | 0 => ⟨fun _ _ _ _ _ => leo_none, fun _ _ _ _ _ _ _ => leo_none, fun _ _ _ _ _ => leo_none⟩
  | k + 1 => by
    obtain ⟨Il0, Ij0, Ij1⟩ := cashbookref30_without.monos k
    refine ⟨?_, ?_, ?_⟩
    · intro x1 x5 x9 x10 x11
      rw [cashbookref30_without.l0, cashbookref30_without.l0]
      exact leo_ite (leo_if (leo_if (leo_ite (Ij0 _ _ _ _ _ _ _) (Ij0 _ _ _ _ _ _ _)))) (leo_refl)
    · intro x1 x5 x9 x10 x11 x24 y7
      rw [cashbookref30_without.j0, cashbookref30_without.j0]
      exact leo_ite (leo_if (Ij1 _ _ _ _ _)) (Ij1 _ _ _ _ _)
    · intro x1 x5 x9 x10 x11
      rw [cashbookref30_without.j1, cashbookref30_without.j1]
      exact Il0 _ _ _ _ _
theorem cashbookref30_without.mono (k : Nat) (x0 : List S58) (x1 : Int) : LeO (cashbookref30_without.f k x0 x1) (cashbookref30_without.f (k + 1) x0 x1) := (cashbookref30_without.monos k).1 _ _ _ _ _
noncomputable def b38 : Code := bodyOf Try.f38
def F38 : Fr := ⟨0, 31, 1, [], 38⟩
def cashbookref30_without.l0S (x1 : Int) (x5 : List S58) (x9 : List S58) (x10 : Int) (x11 : Int) : St := ⟨upd (upd (upd (upd (upd (fun _ => .no) 11 (.one (.p none (pI .i64 x11)))) 10 (.one (.p none (pI .i64 x10)))) 9 (.one (.p none (.sl 6 (x9.map e58))))) 5 (.one (.p (some 2) (.sl 6 (x5.map e58))))) 1 (.one (.p none (pI .i64 x1))), noOb, rtP 6, 6⟩
def cashbookref30_without.j0S (x1 : Int) (x5 : List S58) (x9 : List S58) (x10 : Int) (x11 : Int) (x24 : Bool) (y7 : S58) : St := ⟨upd (upd (upd (upd (upd (upd (upd (fun _ => .no) 24 (.one (.p none (pB x24)))) 11 (.one (.p none (pI .i64 x11)))) 10 (.one (.p none (pI .i64 x10)))) 9 (.one (.p none (.sl 6 (x9.map e58))))) 7 (.one (.pt 7 0))) 5 (.one (.p (some 2) (.sl 6 (x5.map e58))))) 1 (.one (.p none (pI .i64 x1))), upd noOb 7 (some (.var [.p none (pI .i64 y7.f0), .p none (pI .i64 y7.f1), .p none (pI .i64 y7.f2), .p none (pI .i64 y7.f3.f0), .p none (pI .i64 y7.f3.f1), .p none (pI .i32 y7.f4)])), rtP 14, 14⟩
def cashbookref30_without.j1S (x1 : Int) (x5 : List S58) (x9 : List S58) (x10 : Int) (x11 : Int) : St := ⟨upd (upd (upd (upd (upd (fun _ => .no) 11 (.one (.p none (pI .i64 x11)))) 10 (.one (.p none (pI .i64 x10)))) 9 (.one (.p none (.sl 6 (x9.map e58))))) 5 (.one (.p (some 2) (.sl 6 (x5.map e58))))) 1 (.one (.p none (pI .i64 x1))), noOb, rtP 6, 6⟩
theorem cashbookref30_without.all : ∀ k, (∀ x1 x5 x9 x10 x11 r, cashbookref30_without.l0 k x1 x5 x9 x10 x11 = some r → AtL C0 F38 (sub [1, 1, 0, 1, 0, 0] b38) [.blk 0, .code (sub [1, 1, 1] b38)] (some (cashbookref30_without.l0S x1 x5 x9 x10 x11)) (RetQ C0 [.tmp 4] [aV [.sl 6 (r.map e58)]])) ∧ (∀ x1 x5 x9 x10 x11 x24 y7 r, cashbookref30_without.j0 k x1 x5 x9 x10 x11 x24 y7 = some r → AtJ C0 F38 (sub [1, 1, 0, 1, 0, 0, 1, 1, 0, 0, 1, 1] b38) [.blk 1, .code (sub [1, 1, 0, 1, 0, 0, 1, 1, 1] b38), .lp (sub [1, 1, 0, 1, 0, 0] b38), .blk 0, .code (sub [1, 1, 1] b38)] (some (cashbookref30_without.j0S x1 x5 x9 x10 x11 x24 y7)) (RetQ C0 [.tmp 4] [aV [.sl 6 (r.map e58)]])) ∧ (∀ x1 x5 x9 x10 x11 r, cashbookref30_without.j1 k x1 x5 x9 x10 x11 = some r → AtJ C0 F38 (sub [1, 1, 0, 1, 0, 0, 1, 1, 1] b38) [.lp (sub [1, 1, 0, 1, 0, 0] b38), .blk 0, .code (sub [1, 1, 1] b38)] (some (cashbookref30_without.j1S x1 x5 x9 x10 x11)) (RetQ C0 [.tmp 4] [aV [.sl 6 (r.map e58)]]))
  | 0 => ⟨fun _ _ _ _ _ r h => (by cases h), fun _ _ _ _ _ _ _ r h => (by cases h), fun _ _ _ _ _ r h => (by cases h)⟩
  | k + 1 => by
    obtain ⟨Il0, Ij0, Ij1⟩ := cashbookref30_without.all k
    refine ⟨?_, ?_, ?_⟩
    · intro x1 x5 x9 x10 x11 r h
      rw [cashbookref30_without.l0] at h
      rw [atL_some]
      by_cases h1 : x11 < x10
      · rw [if_pos h1] at h
        obtain ⟨h2, h⟩ := ifn h
        obtain ⟨h3, h⟩ := ifn h
        have h3r := fun (q : 0 ≤ x11) => rd_at (l := x9) (i := x11) z58 q h3
        replace h3r := h3r (by omega)
        by_cases h4 : (x9.getD ((x11 : Int).toNat) z58).f1 = x1
        · rw [if_pos h4] at h
          simp only [↓Bp, ↓Bs, Bo, Bh, Ba, Bc, ↓reduceIte, Nat.reduceAdd, Nat.reduceEqDiff, Nat.reduceLT, Nat.reduceLeDiff, Nat.reduceBEq, Nat.reduceMul, Int.reduceLE, Int.reduceLT, Int.reduceEq, Int.reduceToNat, reduceCtorEq, G38, Tf, b38, ↓Try.f38, F38, TY, H38, h1, h2, h3, h3r, eq_true h4, cashbookref30_without.l0S]
          refine AtJ.eq (Ij0 _ _ _ _ _ _ _ _ h) ?_
          simp only [Tf, Int.reduceToNat, Int.toNat_natCast, cashbookref30_without.j0S]
        · rw [if_neg h4] at h
          simp only [↓Bp, ↓Bs, Bo, Bh, Ba, Bc, ↓reduceIte, Nat.reduceAdd, Nat.reduceEqDiff, Nat.reduceLT, Nat.reduceLeDiff, Nat.reduceBEq, Nat.reduceMul, Int.reduceLE, Int.reduceLT, Int.reduceEq, Int.reduceToNat, reduceCtorEq, G38, Tf, b38, ↓Try.f38, F38, TY, H38, h1, h2, h3, h3r, h4, cashbookref30_without.l0S]
          refine AtJ.eq (Ij0 _ _ _ _ _ _ _ _ h) ?_
          simp only [Tf, Int.reduceToNat, Int.toNat_natCast, cashbookref30_without.j0S]
      · rw [if_neg h1] at h
        obtain rfl := Option.some.inj h
        simp only [↓Bp, ↓Bs, Bo, Bh, Ba, Bc, ↓reduceIte, Nat.reduceAdd, Nat.reduceEqDiff, Nat.reduceLT, Nat.reduceLeDiff, Nat.reduceBEq, Nat.reduceMul, Int.reduceLE, Int.reduceLT, Int.reduceEq, Int.reduceToNat, reduceCtorEq, G38, Tf, b38, ↓Try.f38, F38, TY, H38, h1, cashbookref30_without.l0S]
    · intro x1 x5 x9 x10 x11 x24 y7 r h
      rw [cashbookref30_without.j0] at h
      rw [atJ_some]
      by_cases h5 : x24 = true
      · rw [if_pos h5] at h
        obtain ⟨h6, h⟩ := ifn h
        simp only [↓Bp, ↓Bs, Bo, Bh, Ba, Bc, ↓reduceIte, Nat.reduceAdd, Nat.reduceEqDiff, Nat.reduceLT, Nat.reduceLeDiff, Nat.reduceBEq, Nat.reduceMul, Int.reduceLE, Int.reduceLT, Int.reduceEq, Int.reduceToNat, reduceCtorEq, G38, Tf, b38, ↓Try.f38, F38, TY, H38, h5, h6, cashbookref30_without.j0S]
        refine AtJ.eq (Ij1 _ _ _ _ _ _ h) ?_
        simp only [Tf, Int.reduceToNat, Int.toNat_natCast, cashbookref30_without.j1S]
      · rw [if_neg h5] at h
        simp only [↓Bp, ↓Bs, Bo, Bh, Ba, Bc, ↓reduceIte, Nat.reduceAdd, Nat.reduceEqDiff, Nat.reduceLT, Nat.reduceLeDiff, Nat.reduceBEq, Nat.reduceMul, Int.reduceLE, Int.reduceLT, Int.reduceEq, Int.reduceToNat, reduceCtorEq, G38, Tf, b38, ↓Try.f38, F38, TY, H38, h5, cashbookref30_without.j0S]
        refine AtJ.eq (Ij1 _ _ _ _ _ _ h) ?_
        simp only [Tf, Int.reduceToNat, Int.toNat_natCast, cashbookref30_without.j1S]
    · intro x1 x5 x9 x10 x11 r h
      rw [cashbookref30_without.j1] at h
      rw [atJ_some]
      simp only [↓Bp, ↓Bs, Bo, Bh, Ba, Bc, ↓reduceIte, Nat.reduceAdd, Nat.reduceEqDiff, Nat.reduceLT, Nat.reduceLeDiff, Nat.reduceBEq, Nat.reduceMul, Int.reduceLE, Int.reduceLT, Int.reduceEq, Int.reduceToNat, reduceCtorEq, G38, Tf, b38, ↓Try.f38, F38, TY, H38, cashbookref30_without.j1S]
      refine AtL.eq (Il0 _ _ _ _ _ _ h) ?_
      simp only [Tf, Int.reduceToNat, Int.toNat_natCast, cashbookref30_without.l0S]
theorem cashbookref30_without.ok (k : Nat) (x0 : List S58) (x1 : Int) (r : List S58) (h : cashbookref30_without.f k x0 x1 = some r) : Ret C0 38 [(false, [.sl 6 (x0.map e58)]), (false, [.sc (.int .i64 x1)])] [aV [.sl 6 (r.map e58)]] := by
  refine ret_of (c := b38) Try.func38 rfl rfl ⟨Nat.le_of_ble_eq_true rfl, Nat.le_of_ble_eq_true rfl⟩ ?_
  unfold cashbookref30_without.f at h
  rw [show Try.f38.results.toList = [.tmp 4] from rfl]
  rw [show Try.f38.ntmps = 31 from rfl]
  obtain ⟨Il0, Ij0, Ij1⟩ := cashbookref30_without.all k
  simp only [↓Bp, ↓Bs, Bo, Bh, Ba, Bc, ↓reduceIte, Nat.reduceAdd, Nat.reduceEqDiff, Nat.reduceLT, Nat.reduceLeDiff, Nat.reduceBEq, Nat.reduceMul, Int.reduceLE, Int.reduceLT, Int.reduceEq, Int.reduceToNat, reduceCtorEq, G38, Tf, b38, ↓Try.f38, F38, TY, H38]
  refine AtL.eq (Il0 _ _ _ _ _ _ h) ?_
  simp only [Tf, Int.reduceToNat, Int.toNat_natCast, cashbookref30_without.l0S]

def cashbookref30_first.l0 : Nat → Int → List Int → Int → Int → Option Int
  | 0, _, _, _, _ => none
  | k + 1, x1, x7, x8, x9 => (if x9 < x8 then (if 0 ≤ x9 then (if x9 < (x7.length : Int) then (if (wrap64 (x1 * (x7.getD ((x9 : Int).toNat) 0))) < 0 then (some x9) else (cashbookref30_first.l0 k x1 x7 x8 (wrap64 (x9 + 1)))) else none) else none) else (some (-1)))
def cashbookref30_first.f (k : Nat) (x0 : List Int) (x1 : Int) : Option Int := (cashbookref30_first.l0 k x1 x0 (x0.length : Int) 0)
theorem cashbookref30_first.monos : ∀ k, (∀ x1 x7 x8 x9, LeO (cashbookref30_first.l0 k x1 x7 x8 x9) (cashbookref30_first.l0 (k + 1) x1 x7 x8 x9))
  | 0 => fun _ _ _ _ => leo_none
  | k + 1 => by
    have I := cashbookref30_first.monos k
    · intro x1 x7 x8 x9
      rw [cashbookref30_first.l0, cashbookref30_first.l0]
      exact leo_ite (leo_if (leo_if (leo_ite (leo_refl) (I _ _ _ _)))) (leo_refl)
theorem cashbookref30_first.mono (k : Nat) (x0 : List Int) (x1 : Int) : LeO (cashbookref30_first.f k x0 x1) (cashbookref30_first.f (k + 1) x0 x1) := (cashbookref30_first.monos k) _ _ _ _
noncomputable def b30 : Code := bodyOf Try.f30
def F30 : Fr := ⟨0, 20, 1, [], 30⟩
def cashbookref30_first.l0S (x1 : Int) (x7 : List Int) (x8 : Int) (x9 : Int) : St := ⟨upd (upd (upd (upd (fun _ => .no) 9 (.one (.p none (pI .i64 x9)))) 8 (.one (.p none (pI .i64 x8)))) 7 (.one (.p none (.sl 1 (x7.map e2))))) 1 (.one (.p none (pI .i64 x1))), noOb, rtP 5, 5⟩
theorem cashbookref30_first.all : ∀ k, (∀ x1 x7 x8 x9 r, cashbookref30_first.l0 k x1 x7 x8 x9 = some r → AtL C0 F30 (sub [1, 0, 1, 0, 0] b30) [.blk 0, .code (sub [1, 1] b30)] (some (cashbookref30_first.l0S x1 x7 x8 x9)) (RetQ C0 [.tmp 4] [aV [pI .i64 r]]))
  | 0 => fun _ _ _ _ r h => (by cases h)
  | k + 1 => by
    have Il0 := cashbookref30_first.all k
    · intro x1 x7 x8 x9 r h
      rw [cashbookref30_first.l0] at h
      rw [atL_some]
      by_cases h1 : x9 < x8
      · rw [if_pos h1] at h
        obtain ⟨h2, h⟩ := ifn h
        obtain ⟨h3, h⟩ := ifn h
        have h3r := fun (q : 0 ≤ x9) => rd_at (l := x7) (i := x9) 0 q h3
        replace h3r := h3r (by omega)
        by_cases h4 : (wrap64 (x1 * (x7.getD ((x9 : Int).toNat) 0))) < 0
        · rw [if_pos h4] at h
          obtain rfl := Option.some.inj h
          simp only [↓Bp, ↓Bs, Bo, Bh, Ba, Bc, ↓reduceIte, Nat.reduceAdd, Nat.reduceEqDiff, Nat.reduceLT, Nat.reduceLeDiff, Nat.reduceBEq, Nat.reduceMul, Int.reduceLE, Int.reduceLT, Int.reduceEq, Int.reduceToNat, reduceCtorEq, G30, Tf, b30, ↓Try.f30, F30, TY, H30, h1, h2, h3, h3r, h4, cashbookref30_first.l0S]
        · rw [if_neg h4] at h
          simp only [↓Bp, ↓Bs, Bo, Bh, Ba, Bc, ↓reduceIte, Nat.reduceAdd, Nat.reduceEqDiff, Nat.reduceLT, Nat.reduceLeDiff, Nat.reduceBEq, Nat.reduceMul, Int.reduceLE, Int.reduceLT, Int.reduceEq, Int.reduceToNat, reduceCtorEq, G30, Tf, b30, ↓Try.f30, F30, TY, H30, h1, h2, h3, h3r, h4, cashbookref30_first.l0S]
          refine AtL.eq (Il0 _ _ _ _ _ h) ?_
          simp only [Tf, Int.reduceToNat, Int.toNat_natCast, cashbookref30_first.l0S]
      · rw [if_neg h1] at h
        obtain rfl := Option.some.inj h
        simp only [↓Bp, ↓Bs, Bo, Bh, Ba, Bc, ↓reduceIte, Nat.reduceAdd, Nat.reduceEqDiff, Nat.reduceLT, Nat.reduceLeDiff, Nat.reduceBEq, Nat.reduceMul, Int.reduceLE, Int.reduceLT, Int.reduceEq, Int.reduceToNat, reduceCtorEq, G30, Tf, b30, ↓Try.f30, F30, TY, H30, h1, cashbookref30_first.l0S]
theorem cashbookref30_first.ok (k : Nat) (x0 : List Int) (x1 : Int) (r : Int) (h : cashbookref30_first.f k x0 x1 = some r) : Ret C0 30 [(false, [.sl 1 (x0.map e2)]), (false, [.sc (.int .i64 x1)])] [aV [pI .i64 r]] := by
  refine ret_of (c := b30) Try.func30 rfl rfl ⟨Nat.le_of_ble_eq_true rfl, Nat.le_of_ble_eq_true rfl⟩ ?_
  unfold cashbookref30_first.f at h
  rw [show Try.f30.results.toList = [.tmp 4] from rfl]
  rw [show Try.f30.ntmps = 20 from rfl]
  have Il0 := cashbookref30_first.all k
  simp only [↓Bp, ↓Bs, Bo, Bh, Ba, Bc, ↓reduceIte, Nat.reduceAdd, Nat.reduceEqDiff, Nat.reduceLT, Nat.reduceLeDiff, Nat.reduceBEq, Nat.reduceMul, Int.reduceLE, Int.reduceLT, Int.reduceEq, Int.reduceToNat, reduceCtorEq, G30, Tf, b30, ↓Try.f30, F30, TY, H30]
  refine AtL.eq (Il0 _ _ _ _ _ h) ?_
  simp only [Tf, Int.reduceToNat, Int.toNat_natCast, cashbookref30_first.l0S]

mutual
def cashbookref30_Settle.l0 : Nat → List S45 → List Int → Option (List S45)
  | 0, _, _ => none
  | k + 1, x4, y11 => ((cashbookref30_first.f k y11 1).bind fun t2 => ((cashbookref30_first.f k y11 (-1)).bind fun t3 => (if t2 < 0 then (cashbookref30_Settle.j0 k x4 t2 t3 true y11) else (cashbookref30_Settle.j0 k x4 t2 t3 (decide (t3 < 0)) y11))))
def cashbookref30_Settle.j0 : Nat → List S45 → Int → Int → Bool → List Int → Option (List S45)
  | 0, _, _, _, _, _ => none
  | k + 1, x4, x5, x6, x22, y11 => (if x22 = true then (some x4) else (if 0 ≤ x5 then (if x5 < (y11.length : Int) then (if 0 ≤ x6 then (if x6 < (y11.length : Int) then (if x4.length + 1 ≤ 16777216 then (if x5 < (y11.length : Int) then (if x5 < (y11.length : Int) then (if x6 < ((y11.set ((x5 : Int).toNat) (wrap64 ((y11.getD ((x5 : Int).toNat) 0) + (min (wrap64 (0 - (y11.getD ((x5 : Int).toNat) 0))) (y11.getD ((x6 : Int).toNat) 0))))).length : Int) then (if x6 < ((y11.set ((x5 : Int).toNat) (wrap64 ((y11.getD ((x5 : Int).toNat) 0) + (min (wrap64 (0 - (y11.getD ((x5 : Int).toNat) 0))) (y11.getD ((x6 : Int).toNat) 0))))).length : Int) then (cashbookref30_Settle.l0 k (x4 ++ [(⟨x5, x6, (min (wrap64 (0 - (y11.getD ((x5 : Int).toNat) 0))) (y11.getD ((x6 : Int).toNat) 0))⟩ : S45)]) ((y11.set ((x5 : Int).toNat) (wrap64 ((y11.getD ((x5 : Int).toNat) 0) + (min (wrap64 (0 - (y11.getD ((x5 : Int).toNat) 0))) (y11.getD ((x6 : Int).toNat) 0))))).set ((x6 : Int).toNat) (wrap64 (((y11.set ((x5 : Int).toNat) (wrap64 ((y11.getD ((x5 : Int).toNat) 0) + (min (wrap64 (0 - (y11.getD ((x5 : Int).toNat) 0))) (y11.getD ((x6 : Int).toNat) 0))))).getD ((x6 : Int).toNat) 0) - (min (wrap64 (0 - (y11.getD ((x5 : Int).toNat) 0))) (y11.getD ((x6 : Int).toNat) 0)))))) else none) else none) else none) else none) else none) else none) else none) else none) else none))
end
def cashbookref30_Settle.f (k : Nat) (x0 : List Int) : Option (List S45) := (if x0.length ≤ 16777216 then (cashbookref30_Settle.l0 k ([] : List S45) x0) else none)
theorem cashbookref30_Settle.monos : ∀ k, (∀ x4 y11, LeO (cashbookref30_Settle.l0 k x4 y11) (cashbookref30_Settle.l0 (k + 1) x4 y11)) ∧ (∀ x4 x5 x6 x22 y11, LeO (cashbookref30_Settle.j0 k x4 x5 x6 x22 y11) (cashbookref30_Settle.j0 (k + 1) x4 x5 x6 x22 y11))
  | 0 => ⟨fun _ _ => leo_none, fun _ _ _ _ _ => leo_none⟩
  | k + 1 => by
    obtain ⟨Il0, Ij0⟩ := cashbookref30_Settle.monos k
    refine ⟨?_, ?_⟩
    · intro x4 y11
      rw [cashbookref30_Settle.l0, cashbookref30_Settle.l0]
      exact leo_bind (cashbookref30_first.mono k _ _) (fun _ => leo_bind (cashbookref30_first.mono k _ _) (fun _ => leo_ite (Ij0 _ _ _ _ _) (Ij0 _ _ _ _ _)))
    · intro x4 x5 x6 x22 y11
      rw [cashbookref30_Settle.j0, cashbookref30_Settle.j0]
      exact leo_ite (leo_refl) (leo_if (leo_if (leo_if (leo_if (leo_if (leo_if (leo_if (leo_if (leo_if (Il0 _ _))))))))))
theorem cashbookref30_Settle.mono (k : Nat) (x0 : List Int) : LeO (cashbookref30_Settle.f k x0) (cashbookref30_Settle.f (k + 1) x0) := leo_if ((cashbookref30_Settle.monos k).1 _ _)
noncomputable def b17 : Code := bodyOf Try.f17
def F17 : Fr := ⟨0, 59, 1, [], 17⟩
theorem D17_8 {k : List It} {s : St} {Q : Post} {ops : Array Oper} {us : List Upd} (ha : apart2 [(0, 1), (0, 5), (1, 5), (2, 5), (3, 5), (4, 5), (0, 6), (1, 6), (2, 6), (3, 6), (4, 6), (5, 6), (0, 7), (1, 7), (2, 7), (3, 7), (4, 7), (0, 8), (1, 8), (2, 8), (3, 8), (4, 8)] (loud 0 us.reverse) = true) (hl : lessAll us.length [(0, 1), (0, 5), (1, 5), (2, 5), (3, 5), (4, 5), (0, 6), (1, 6), (2, 6), (3, 6), (4, 6), (5, 6), (0, 7), (1, 7), (2, 7), (3, 7), (4, 7), (0, 8), (1, 8), (2, 8), (3, 8), (4, 8)] = true) : GR C0 ⟨0, 59, 1, [], 17⟩ k Q 8 true ops [] s us = Fin C0 ⟨0, 59, 1, [], 17⟩ k .fall s Q := gr_nilD (F := F17) rfl ha hl
def cashbookref30_Settle.l0S (x4 : List S45) (y11 : List Int) : St := ⟨upd (upd (fun _ => .no) 4 (.one (.p (some 2) (.sl 3 (x4.map e45))))) 3 (.one (.vw 11 0 y11.length)), upd noOb 11 (some (.arr false 1 (y11.map e2))), rtP 3, 3⟩
def cashbookref30_Settle.j0S (x4 : List S45) (x5 : Int) (x6 : Int) (x22 : Bool) (y11 : List Int) : St := ⟨upd (upd (upd (upd (upd (fun _ => .no) 22 (.one (.p none (pB x22)))) 6 (.one (.p none (pI .i64 x6)))) 5 (.one (.p none (pI .i64 x5)))) 4 (.one (.p (some 2) (.sl 3 (x4.map e45))))) 3 (.one (.vw 11 0 y11.length)), upd noOb 11 (some (.arr false 1 (y11.map e2))), rtP 6, 6⟩
theorem cashbookref30_Settle.all : ∀ k, (∀ x4 y11 r, cashbookref30_Settle.l0 k x4 y11 = some r → AtL C0 F17 (sub [1, 1, 1, 1, 0, 0] b17) [.blk 0] (some (cashbookref30_Settle.l0S x4 y11)) (RetQ C0 [.tmp 2] [aV [.sl 3 (r.map e45)]])) ∧ (∀ x4 x5 x6 x22 y11 r, cashbookref30_Settle.j0 k x4 x5 x6 x22 y11 = some r → AtJ C0 F17 (sub [1, 1, 1, 1, 0, 0, 0, 1, 1, 0, 1] b17) [.code (sub [1, 1, 1, 1, 0, 0, 0, 1, 1, 1] b17), .blk 1, .lp (sub [1, 1, 1, 1, 0, 0] b17), .blk 0] (some (cashbookref30_Settle.j0S x4 x5 x6 x22 y11)) (RetQ C0 [.tmp 2] [aV [.sl 3 (r.map e45)]]))
  | 0 => ⟨fun _ _ r h => (by cases h), fun _ _ _ _ _ r h => (by cases h)⟩
  | k + 1 => by
    obtain ⟨Il0, Ij0⟩ := cashbookref30_Settle.all k
    refine ⟨?_, ?_⟩
    · intro x4 y11 r h
      rw [cashbookref30_Settle.l0] at h
      rw [atL_some]
      obtain ⟨t2, h2, h⟩ := bnd h
      have h2c := (cashbookref30_first.ok _ _ _ _ h2)
      try simp only [Tf, List.nil_append, List.cons_append, Int.reduceToNat] at h2c
      obtain ⟨t3, h3, h⟩ := bnd h
      have h3c := (cashbookref30_first.ok _ _ _ _ h3)
      try simp only [Tf, List.nil_append, List.cons_append, Int.reduceToNat] at h3c
      by_cases h4 : t2 < 0
      · rw [if_pos h4] at h
        simp only [↓Bp, ↓Bs, Bo, Bh, Ba, Bc, Bm, Nat.reduceSub, Int.sub_zero, Bd, ↓reduceIte, Nat.reduceAdd, Nat.reduceEqDiff, Nat.reduceLT, Nat.reduceLeDiff, Nat.reduceBEq, Nat.reduceMul, Int.reduceLE, Int.reduceLT, Int.reduceEq, Int.reduceToNat, reduceCtorEq, G17, Tf, b17, ↓Try.f17, F17, TY, H17, D17_8, callP_eq h2c, callP_eq h3c, h4, cashbookref30_Settle.l0S]
        refine AtJ.eq (Ij0 _ _ _ _ _ _ h) ?_
        simp only [Tf, Int.reduceToNat, Int.toNat_natCast, cashbookref30_Settle.j0S]
      · rw [if_neg h4] at h
        simp only [↓Bp, ↓Bs, Bo, Bh, Ba, Bc, Bm, Nat.reduceSub, Int.sub_zero, Bd, ↓reduceIte, Nat.reduceAdd, Nat.reduceEqDiff, Nat.reduceLT, Nat.reduceLeDiff, Nat.reduceBEq, Nat.reduceMul, Int.reduceLE, Int.reduceLT, Int.reduceEq, Int.reduceToNat, reduceCtorEq, G17, Tf, b17, ↓Try.f17, F17, TY, H17, D17_8, callP_eq h2c, callP_eq h3c, h4, cashbookref30_Settle.l0S]
        refine AtJ.eq (Ij0 _ _ _ _ _ _ h) ?_
        simp only [Tf, Int.reduceToNat, Int.toNat_natCast, cashbookref30_Settle.j0S]
    · intro x4 x5 x6 x22 y11 r h
      rw [cashbookref30_Settle.j0] at h
      rw [atJ_some]
      by_cases h5 : x22 = true
      · rw [if_pos h5] at h
        obtain rfl := Option.some.inj h
        simp only [↓Bp, ↓Bs, Bo, Bh, Ba, Bc, Bm, Nat.reduceSub, Int.sub_zero, Bd, ↓reduceIte, Nat.reduceAdd, Nat.reduceEqDiff, Nat.reduceLT, Nat.reduceLeDiff, Nat.reduceBEq, Nat.reduceMul, Int.reduceLE, Int.reduceLT, Int.reduceEq, Int.reduceToNat, reduceCtorEq, G17, Tf, b17, ↓Try.f17, F17, TY, H17, D17_8, h5, cashbookref30_Settle.j0S]
      · rw [if_neg h5] at h
        obtain ⟨h6, h⟩ := ifn h
        obtain ⟨h7, h⟩ := ifn h
        have h7t := nat_lt (i := x5) (by omega) h7
        have h7g := get_of (l := y11) 0 h7t
        try simp only [List.length_set, List.length_replicate, List.length_map, Int.reduceToNat] at h7t
        obtain ⟨h8, h⟩ := ifn h
        obtain ⟨h9, h⟩ := ifn h
        have h9t := nat_lt (i := x6) (by omega) h9
        have h9g := get_of (l := y11) 0 h9t
        try simp only [List.length_set, List.length_replicate, List.length_map, Int.reduceToNat] at h9t
        obtain ⟨h10, h⟩ := ifn h
        obtain ⟨h11, h⟩ := ifn h
        have h11t := nat_lt (i := x5) (by omega) h11
        have h11g := get_of (l := y11) 0 h11t
        try simp only [List.length_set, List.length_replicate, List.length_map, Int.reduceToNat] at h11t
        obtain ⟨h12, h⟩ := ifn h
        have h12t := nat_lt (i := x5) (by omega) h12
        have h12g := get_of (l := y11) 0 h12t
        try simp only [List.length_set, List.length_replicate, List.length_map, Int.reduceToNat] at h12t
        obtain ⟨h13, h⟩ := ifn h
        have h13t := nat_lt (i := x6) (by omega) h13
        have h13g := get_of (l := (y11.set ((x5 : Int).toNat) (wrap64 ((y11.getD ((x5 : Int).toNat) 0) + (min (wrap64 (0 - (y11.getD ((x5 : Int).toNat) 0))) (y11.getD ((x6 : Int).toNat) 0)))))) 0 h13t
        try simp only [List.length_set, List.length_replicate, List.length_map, Int.reduceToNat] at h13t
        obtain ⟨h14, h⟩ := ifn h
        have h14t := nat_lt (i := x6) (by omega) h14
        have h14g := get_of (l := (y11.set ((x5 : Int).toNat) (wrap64 ((y11.getD ((x5 : Int).toNat) 0) + (min (wrap64 (0 - (y11.getD ((x5 : Int).toNat) 0))) (y11.getD ((x6 : Int).toNat) 0)))))) 0 h14t
        try simp only [List.length_set, List.length_replicate, List.length_map, Int.reduceToNat] at h14t
        simp only [↓Bp, ↓Bs, Bo, Bh, Ba, Bc, Bm, Nat.reduceSub, Int.sub_zero, Bd, ↓reduceIte, Nat.reduceAdd, Nat.reduceEqDiff, Nat.reduceLT, Nat.reduceLeDiff, Nat.reduceBEq, Nat.reduceMul, Int.reduceLE, Int.reduceLT, Int.reduceEq, Int.reduceToNat, reduceCtorEq, G17, Tf, b17, ↓Try.f17, F17, TY, H17, D17_8, h5, h6, h7, h7t, h7g, h8, h9, h9t, h9g, h10, h11, h11t, h11g, h12, h12t, h12g, h13, h13t, h13g, h14, h14t, h14g, cashbookref30_Settle.j0S]
        refine AtL.eq (Il0 _ _ _ h) ?_
        simp only [Tf, Int.reduceToNat, Int.toNat_natCast, cashbookref30_Settle.l0S]
theorem cashbookref30_Settle.ok (k : Nat) (x0 : List Int) (r : List S45) (h : cashbookref30_Settle.f k x0 = some r) : Ret C0 17 [(false, [.sl 1 (x0.map e2)])] [aV [.sl 3 (r.map e45)]] := by
  refine ret_of (c := b17) Try.func17 rfl rfl ⟨Nat.le_of_ble_eq_true rfl, Nat.le_of_ble_eq_true rfl⟩ ?_
  unfold cashbookref30_Settle.f at h
  rw [show Try.f17.results.toList = [.tmp 2] from rfl]
  rw [show Try.f17.ntmps = 59 from rfl]
  obtain ⟨Il0, Ij0⟩ := cashbookref30_Settle.all k
  obtain ⟨h1, h⟩ := ifn h
  simp only [↓Bp, ↓Bs, Bo, Bh, Ba, Bc, Bm, Nat.reduceSub, Int.sub_zero, Bd, ↓reduceIte, Nat.reduceAdd, Nat.reduceEqDiff, Nat.reduceLT, Nat.reduceLeDiff, Nat.reduceBEq, Nat.reduceMul, Int.reduceLE, Int.reduceLT, Int.reduceEq, Int.reduceToNat, reduceCtorEq, G17, Tf, b17, ↓Try.f17, F17, TY, H17, D17_8, h1]
  refine AtL.eq (Il0 _ _ _ h) ?_
  simp only [Tf, Int.reduceToNat, Int.toNat_natCast, cashbookref30_Settle.l0S]

end Go.Proofs.Ytcmaohhcbiienaa.X
