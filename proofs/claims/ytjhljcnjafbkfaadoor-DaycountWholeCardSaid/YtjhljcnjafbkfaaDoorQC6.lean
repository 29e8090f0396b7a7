import Derived.Test.YtjhljcnjafbkfaaDoorQC5
set_option linter.unusedSimpArgs false
set_option linter.unusedVariables false
set_option linter.unusedVariables false
set_option linter.unusedSimpArgs false
set_option linter.defProp false
set_option maxHeartbeats 1000000
set_option maxRecDepth 20000
namespace Go.Proofs.YtjhljcnjafbkfaaDoor.X
open Go.RowKit
noncomputable def ext1 : ExtF := fun f => if f = 10 then some (fun _ => none) else extA f
noncomputable def C1 : Cx := ⟨E0, gen0, H0, ext1⟩
theorem slices_Clone_api_Nat_uint32.ok (x0 : List Int) (r : List Int) (h : slices_Clone_api_Nat_uint32.f x0 = some r) : Ret C1 63 [(false, [.sl 1 (x0.map e78)])] [aV [.sl 1 (r.map e78)]] := slices_Clone_api_Nat_uint32.okE rfl x0 r h
theorem GL : (C1.E.G 0 = some (gt0.map pS)) ∧ (gt0.length = 4) ∧ ((gt0.map pS).map (fun c => [c]) = gt0.map e9) ∧ (C1.E.G 1 = some (gt1.map (pI .i64))) ∧ (gt1.length = 12) ∧ ((gt1.map (pI .i64)).map (fun c => [c]) = gt1.map e3) := ⟨rfl, rfl, rfl, rfl, rfl, rfl⟩
theorem H21 : ((C1.H 21).keep 2 = [0, 1, 7, 8]) ∧ ((C1.H 21).join 1 = none) ∧ ((C1.H 21).join 4 = none) ∧ ((C1.H 21).join 6 = none) ∧ ((C1.H 21).join 7 = none) ∧ ((C1.H 21).join 1000009 = none) ∧ ((C1.H 21).join 1000016 = none) := ⟨rfl, rfl, rfl, rfl, rfl, rfl, rfl⟩
theorem H22 : ((C1.H 22).join 1000011 = some [1, 2, 11]) ∧ ((C1.H 22).join 7 = none) ∧ ((C1.H 22).join 1000007 = none) ∧ ((C1.H 22).join 1000020 = none) := ⟨rfl, rfl, rfl, rfl⟩
theorem H42 : ((C1.H 42).keep 8 = [6, 7, 8, 9]) ∧ ((C1.H 42).join 14 = some [8, 9, 10]) ∧ ((C1.H 42).join 1 = none) ∧ ((C1.H 42).join 3 = none) ∧ ((C1.H 42).join 4 = none) ∧ ((C1.H 42).join 5 = none) ∧ ((C1.H 42).join 6 = none) ∧ ((C1.H 42).join 7 = none) ∧ ((C1.H 42).join 10 = none) ∧ ((C1.H 42).join 11 = none) ∧ ((C1.H 42).join 12 = none) ∧ ((C1.H 42).join 1000013 = none) ∧ ((C1.H 42).join 1000046 = none) ∧ ((C1.H 42).join 1000062 = none) := ⟨rfl, rfl, rfl, rfl, rfl, rfl, rfl, rfl, rfl, rfl, rfl, rfl, rfl, rfl⟩
theorem H60 : ((C1.H 60).keep 2 = [0, 3]) ∧ ((C1.H 60).join 1000015 = some [0, 3, 15]) ∧ ((C1.H 60).join 1 = none) ∧ ((C1.H 60).join 4 = none) := ⟨rfl, rfl, rfl, rfl⟩
theorem H59 : ((C1.H 59).keep 3 = [0, 3, 4]) ∧ ((C1.H 59).join 8 = some [0, 3, 4, 5]) ∧ ((C1.H 59).join 1 = none) ∧ ((C1.H 59).join 2 = none) ∧ ((C1.H 59).join 4 = none) ∧ ((C1.H 59).join 6 = none) ∧ ((C1.H 59).join 9 = none) ∧ ((C1.H 59).join 1000009 = none) ∧ ((C1.H 59).join 1000020 = none) := ⟨rfl, rfl, rfl, rfl, rfl, rfl, rfl, rfl, rfl⟩
theorem H19 : ((C1.H 19).keep 3 = [0, 1, 4, 5, 6]) ∧ ((C1.H 19).join 1 = none) ∧ ((C1.H 19).join 2 = none) ∧ ((C1.H 19).join 5 = none) ∧ ((C1.H 19).join 6 = none) ∧ ((C1.H 19).join 7 = none) ∧ ((C1.H 19).join 1000011 = none) := ⟨rfl, rfl, rfl, rfl, rfl, rfl, rfl⟩
theorem H31 : ((C1.H 31).keep 4 = [0, 1, 5]) ∧ ((C1.H 31).join 1 = none) ∧ ((C1.H 31).join 3 = none) ∧ ((C1.H 31).join 5 = none) ∧ ((C1.H 31).join 8 = none) ∧ ((C1.H 31).join 1000010 = none) ∧ ((C1.H 31).join 1000014 = none) ∧ ((C1.H 31).join 1000025 = none) := ⟨rfl, rfl, rfl, rfl, rfl, rfl, rfl, rfl⟩
theorem H64 : ((C1.H 64).keep 5 = [0, 1, 6]) ∧ ((C1.H 64).join 1 = none) ∧ ((C1.H 64).join 2 = none) ∧ ((C1.H 64).join 4 = none) ∧ ((C1.H 64).join 6 = none) ∧ ((C1.H 64).join 8 = none) ∧ ((C1.H 64).join 10 = none) ∧ ((C1.H 64).join 1000014 = none) ∧ ((C1.H 64).join 1000020 = none) ∧ ((C1.H 64).join 1000033 = none) := ⟨rfl, rfl, rfl, rfl, rfl, rfl, rfl, rfl, rfl, rfl⟩
theorem H66 : ((C1.H 66).keep 1 = [0]) ∧ ((C1.H 66).join 1000014 = some [0, 14]) ∧ ((C1.H 66).join 3 = none) := ⟨rfl, rfl, rfl⟩
theorem H69 : ((C1.H 69).keep 3 = [0, 1, 6, 7, 8]) ∧ ((C1.H 69).join 1 = none) ∧ ((C1.H 69).join 2 = none) ∧ ((C1.H 69).join 4 = none) ∧ ((C1.H 69).join 6 = none) ∧ ((C1.H 69).join 7 = none) ∧ ((C1.H 69).join 8 = none) ∧ ((C1.H 69).join 1000016 = none) := ⟨rfl, rfl, rfl, rfl, rfl, rfl, rfl, rfl⟩
theorem H84 : ((C1.H 84).join 4 = some [0, 2]) ∧ ((C1.H 84).join 7 = some [0, 2]) ∧ ((C1.H 84).join 1 = none) ∧ ((C1.H 84).join 3 = none) ∧ ((C1.H 84).join 6 = none) ∧ ((C1.H 84).join 1000004 = none) ∧ ((C1.H 84).join 1000008 = none) := ⟨rfl, rfl, rfl, rfl, rfl, rfl, rfl⟩
theorem H78 : ((C1.H 78).keep 3 = [0, 1, 7, 13, 14]) ∧ ((C1.H 78).join 8 = some [0, 1, 7, 8, 9, 13, 14]) ∧ ((C1.H 78).join 1 = none) ∧ ((C1.H 78).join 2 = none) ∧ ((C1.H 78).join 5 = none) ∧ ((C1.H 78).join 6 = none) ∧ ((C1.H 78).join 9 = none) ∧ ((C1.H 78).join 10 = none) ∧ ((C1.H 78).join 1000015 = none) ∧ ((C1.H 78).join 1000018 = none) := ⟨rfl, rfl, rfl, rfl, rfl, rfl, rfl, rfl, rfl, rfl⟩
theorem H79 : ((C1.H 79).keep 4 = [0, 1, 2, 7, 9, 10]) ∧ ((C1.H 79).join 8 = some [9]) ∧ ((C1.H 79).join 1000069 = some [0, 1, 2, 7, 9, 10, 69]) ∧ ((C1.H 79).join 2 = none) ∧ ((C1.H 79).join 3 = none) ∧ ((C1.H 79).join 6 = none) ∧ ((C1.H 79).join 7 = none) ∧ ((C1.H 79).join 1000081 = none) := ⟨rfl, rfl, rfl, rfl, rfl, rfl, rfl, rfl⟩
theorem H80 : ((C1.H 80).keep 3 = [0, 1, 2, 3, 9, 10, 15, 16]) ∧ ((C1.H 80).join 1 = none) ∧ ((C1.H 80).join 2 = none) ∧ ((C1.H 80).join 5 = none) ∧ ((C1.H 80).join 6 = none) ∧ ((C1.H 80).join 7 = none) ∧ ((C1.H 80).join 8 = none) ∧ ((C1.H 80).join 9 = none) ∧ ((C1.H 80).join 10 = none) ∧ ((C1.H 80).join 11 = none) ∧ ((C1.H 80).join 1000017 = none) := ⟨rfl, rfl, rfl, rfl, rfl, rfl, rfl, rfl, rfl, rfl, rfl⟩
theorem H81 : ((C1.H 81).keep 2 = [0, 1, 2, 6, 10, 11]) ∧ ((C1.H 81).join 1 = none) ∧ ((C1.H 81).join 4 = none) ∧ ((C1.H 81).join 5 = none) ∧ ((C1.H 81).join 6 = none) ∧ ((C1.H 81).join 7 = none) ∧ ((C1.H 81).join 1000012 = none) := ⟨rfl, rfl, rfl, rfl, rfl, rfl, rfl⟩
theorem H70 : ((C1.H 70).keep 5 = [1, 6, 7, 8, 9, 10]) ∧ ((C1.H 70).keep 14 = [6, 7, 9, 12, 72, 73]) ∧ ((C1.H 70).join 11 = some [1, 6, 7, 8, 9, 10, 11]) ∧ ((C1.H 70).join 1 = none) ∧ ((C1.H 70).join 2 = none) ∧ ((C1.H 70).join 3 = none) ∧ ((C1.H 70).join 4 = none) ∧ ((C1.H 70).join 6 = none) ∧ ((C1.H 70).join 8 = none) ∧ ((C1.H 70).join 10 = none) ∧ ((C1.H 70).join 12 = none) ∧ ((C1.H 70).join 13 = none) ∧ ((C1.H 70).join 16 = none) ∧ ((C1.H 70).join 17 = none) ∧ ((C1.H 70).join 18 = none) ∧ ((C1.H 70).join 1000045 = none) ∧ ((C1.H 70).join 1000056 = none) ∧ ((C1.H 70).join 1000074 = none) := ⟨rfl, rfl, rfl, rfl, rfl, rfl, rfl, rfl, rfl, rfl, rfl, rfl, rfl, rfl, rfl, rfl, rfl, rfl⟩
theorem H52 : ((C1.H 52).keep 3 = [0, 1]) ∧ ((C1.H 52).join 1000015 = some [0, 1, 15]) ∧ ((C1.H 52).join 1 = none) ∧ ((C1.H 52).join 5 = none) ∧ ((C1.H 52).join 6 = none) ∧ ((C1.H 52).join 1000018 = none) := ⟨rfl, rfl, rfl, rfl, rfl, rfl⟩
theorem H53 : ((C1.H 53).join 1000012 = some [0, 1, 12]) ∧ ((C1.H 53).join 1 = none) ∧ ((C1.H 53).join 3 = none) := ⟨rfl, rfl, rfl⟩
theorem H32 : ((C1.H 32).join 1000042 = some [1, 42]) ∧ ((C1.H 32).join 1 = none) ∧ ((C1.H 32).join 3 = none) ∧ ((C1.H 32).join 4 = none) := ⟨rfl, rfl, rfl, rfl⟩
theorem H55 : ((C1.H 55).keep 5 = [1, 6, 26, 27, 28]) ∧ ((C1.H 55).keep 9 = [1, 6, 7, 8, 9, 26, 27, 28, 33, 34, 35]) ∧ ((C1.H 55).join 1000019 = some [0, 1, 19]) ∧ ((C1.H 55).join 1 = none) ∧ ((C1.H 55).join 3 = none) ∧ ((C1.H 55).join 4 = none) ∧ ((C1.H 55).join 7 = none) ∧ ((C1.H 55).join 8 = none) ∧ ((C1.H 55).join 11 = none) ∧ ((C1.H 55).join 12 = none) ∧ ((C1.H 55).join 13 = none) ∧ ((C1.H 55).join 14 = none) ∧ ((C1.H 55).join 15 = none) ∧ ((C1.H 55).join 16 = none) ∧ ((C1.H 55).join 17 = none) ∧ ((C1.H 55).join 1000029 = none) ∧ ((C1.H 55).join 1000036 = none) := ⟨rfl, rfl, rfl, rfl, rfl, rfl, rfl, rfl, rfl, rfl, rfl, rfl, rfl, rfl, rfl, rfl, rfl⟩
theorem H74 : ((C1.H 74).join 1 = none) ∧ ((C1.H 74).join 2 = none) ∧ ((C1.H 74).join 3 = none) ∧ ((C1.H 74).join 4 = none) := ⟨rfl, rfl, rfl, rfl⟩
theorem H73 : ((C1.H 73).keep 3 = [1, 5, 10, 11]) ∧ ((C1.H 73).join 1 = none) ∧ ((C1.H 73).join 2 = none) ∧ ((C1.H 73).join 5 = none) ∧ ((C1.H 73).join 6 = none) ∧ ((C1.H 73).join 7 = none) ∧ ((C1.H 73).join 1000012 = none) := ⟨rfl, rfl, rfl, rfl, rfl, rfl, rfl⟩
theorem H57 : ((C1.H 57).join 1000013 = some [0, 1, 13]) ∧ ((C1.H 57).join 1 = none) ∧ ((C1.H 57).join 3 = none) := ⟨rfl, rfl, rfl⟩
theorem H76 : ((C1.H 76).join 1 = none) ∧ ((C1.H 76).join 2 = none) ∧ ((C1.H 76).join 3 = none) := ⟨rfl, rfl, rfl⟩
theorem H58 : ((C1.H 58).join 1000006 = some [0, 1, 6]) ∧ ((C1.H 58).join 5 = none) ∧ ((C1.H 58).join 1000015 = none) := ⟨rfl, rfl, rfl⟩
theorem H37 : ((C1.H 37).join 6 = some [2, 3, 4]) ∧ ((C1.H 37).join 1 = none) ∧ ((C1.H 37).join 3 = none) ∧ ((C1.H 37).join 4 = none) ∧ ((C1.H 37).join 7 = none) ∧ ((C1.H 37).join 1000013 = none) ∧ ((C1.H 37).join 1000031 = none) := ⟨rfl, rfl, rfl, rfl, rfl, rfl, rfl⟩
theorem H36 : ((C1.H 36).keep 2 = [0, 4, 6, 9, 10, 11]) ∧ ((C1.H 36).join 1 = none) ∧ ((C1.H 36).join 4 = none) ∧ ((C1.H 36).join 5 = none) ∧ ((C1.H 36).join 6 = none) ∧ ((C1.H 36).join 1000012 = none) := ⟨rfl, rfl, rfl, rfl, rfl, rfl⟩
theorem H38 : ((C1.H 38).keep 3 = [0, 5, 9, 10, 11]) ∧ ((C1.H 38).join 1 = none) ∧ ((C1.H 38).join 2 = none) ∧ ((C1.H 38).join 5 = none) ∧ ((C1.H 38).join 6 = none) ∧ ((C1.H 38).join 7 = none) ∧ ((C1.H 38).join 1000012 = none) := ⟨rfl, rfl, rfl, rfl, rfl, rfl, rfl⟩
theorem H56 : ((C1.H 56).join 1000009 = some [0, 1, 9]) ∧ ((C1.H 56).join 5 = none) ∧ ((C1.H 56).join 6 = none) ∧ ((C1.H 56).join 1000018 = none) := ⟨rfl, rfl, rfl, rfl⟩
theorem H35 : ((C1.H 35).join 1000043 = some [2, 4, 8, 11, 43]) ∧ ((C1.H 35).join 1 = none) ∧ ((C1.H 35).join 2 = none) ∧ ((C1.H 35).join 3 = none) ∧ ((C1.H 35).join 4 = none) ∧ ((C1.H 35).join 6 = none) := ⟨rfl, rfl, rfl, rfl, rfl, rfl⟩
theorem H17 : ((C1.H 17).join 1000015 = some [2, 3, 4, 15]) ∧ ((C1.H 17).join 1 = none) ∧ ((C1.H 17).join 3 = none) ∧ ((C1.H 17).join 4 = none) ∧ ((C1.H 17).join 5 = none) := ⟨rfl, rfl, rfl, rfl, rfl⟩
theorem H40 : ((C1.H 40).join 3 = some [0, 1, 2]) ∧ ((C1.H 40).join 1 = none) ∧ ((C1.H 40).join 1000008 = none) := ⟨rfl, rfl, rfl⟩
theorem H18 : ((C1.H 18).join 1000033 = some [0, 1, 2, 33]) ∧ ((C1.H 18).join 1000044 = some [8, 44]) ∧ ((C1.H 18).join 1 = none) ∧ ((C1.H 18).join 3 = none) ∧ ((C1.H 18).join 4 = none) ∧ ((C1.H 18).join 6 = none) := ⟨rfl, rfl, rfl, rfl, rfl, rfl⟩
theorem H20 : ((C1.H 20).join 1000027 = some [1, 6, 7, 8, 27]) ∧ ((C1.H 20).join 1 = none) ∧ ((C1.H 20).join 2 = none) ∧ ((C1.H 20).join 4 = none) ∧ ((C1.H 20).join 5 = none) ∧ ((C1.H 20).join 7 = none) ∧ ((C1.H 20).join 8 = none) ∧ ((C1.H 20).join 1000036 = none) := ⟨rfl, rfl, rfl, rfl, rfl, rfl, rfl, rfl⟩
theorem H48 : ((C1.H 48).keep 3 = [0, 1, 7, 8]) ∧ ((C1.H 48).join 4 = some [0, 1, 7, 8]) ∧ ((C1.H 48).join 1000018 = some [0, 1, 7, 8, 18]) ∧ ((C1.H 48).join 1000032 = some [0, 1, 7, 8, 32]) ∧ ((C1.H 48).join 1 = none) ∧ ((C1.H 48).join 2 = none) ∧ ((C1.H 48).join 12 = none) ∧ ((C1.H 48).join 1000013 = none) ∧ ((C1.H 48).join 1000027 = none) := ⟨rfl, rfl, rfl, rfl, rfl, rfl, rfl, rfl, rfl⟩
theorem H45 : ((C1.H 45).join 4 = some [3]) ∧ ((C1.H 45).join 1 = none) ∧ ((C1.H 45).join 2 = none) ∧ ((C1.H 45).join 1000007 = none) := ⟨rfl, rfl, rfl, rfl⟩
theorem H6 : ∀ r, (C1.H 6).join r = none := fun _ => rfl
theorem H16 : ∀ r, (C1.H 16).join r = none := fun _ => rfl
theorem H43 : ∀ r, (C1.H 43).join r = none := fun _ => rfl
theorem H23 : ∀ r, (C1.H 23).join r = none := fun _ => rfl
theorem H8 : ∀ r, (C1.H 8).join r = none := fun _ => rfl
theorem H41 : ∀ r, (C1.H 41).join r = none := fun _ => rfl
theorem H12 : ∀ r, (C1.H 12).join r = none := fun _ => rfl
theorem H14 : ∀ r, (C1.H 14).join r = none := fun _ => rfl
theorem H51 : ∀ r, (C1.H 51).join r = none := fun _ => rfl
theorem H82 : ∀ r, (C1.H 82).join r = none := fun _ => rfl
theorem H71 : ∀ r, (C1.H 71).join r = none := fun _ => rfl
theorem H83 : ∀ r, (C1.H 83).join r = none := fun _ => rfl
theorem H72 : ∀ r, (C1.H 72).join r = none := fun _ => rfl
theorem H61 : ∀ r, (C1.H 61).join r = none := fun _ => rfl
theorem H77 : ∀ r, (C1.H 77).join r = none := fun _ => rfl
theorem H75 : ∀ r, (C1.H 75).join r = none := fun _ => rfl
theorem H62 : ∀ r, (C1.H 62).join r = none := fun _ => rfl
theorem H54 : ∀ r, (C1.H 54).join r = none := fun _ => rfl
theorem H33 : ∀ r, (C1.H 33).join r = none := fun _ => rfl
theorem H65 : ∀ r, (C1.H 65).join r = none := fun _ => rfl
theorem H34 : ∀ r, (C1.H 34).join r = none := fun _ => rfl
theorem H67 : ∀ r, (C1.H 67).join r = none := fun _ => rfl
theorem H68 : ∀ r, (C1.H 68).join r = none := fun _ => rfl
theorem H47 : ∀ r, (C1.H 47).join r = none := fun _ => rfl
theorem H39 : ∀ r, (C1.H 39).join r = none := fun _ => rfl
theorem H26 : ∀ r, (C1.H 26).join r = none := fun _ => rfl
theorem TY : (C1.E.T 2 = some ⟨1, false, [.p none (.sc (.int .i64 0))], [], 0, 0, 0, 0, false, 0⟩) ∧ (C1.E.T 3 = some ⟨1, false, [.p none (.sc (.int .i64 0))], [], 0, 0, 0, 0, false, 0⟩) ∧ (C1.E.T 4 = some ⟨1, false, [.p none (.sc (.bool false))], [], 0, 0, 0, 0, false, 0⟩) ∧ (C1.E.T 5 = some ⟨1, false, [.p none (.sc (.int .u8 0))], [], 0, 0, 0, 0, false, 0⟩) ∧ (C1.E.T 9 = some ⟨1, false, [.p none (.sc (.string ByteArray.empty))], [], 4, 0, 0, 0, false, 0⟩) ∧ (C1.E.T 22 = some ⟨1, false, [.p none (.sc (.int .i32 0))], [], 0, 0, 0, 0, false, 0⟩) ∧ (C1.E.T 23 = some ⟨2, true, [.p none (.sc (.int .i32 0)), .p none (.sc (.int .i32 0))], [], 2, 2, 22, 1, false, 4⟩) ∧ (C1.E.T 24 = some ⟨1, false, [.p none (.sc (.int .i64 0))], [], 0, 0, 0, 0, false, 0⟩) ∧ (C1.E.T 28 = some ⟨1, false, [.p (some 0) (.sl 1 [])], [], 3, 0, 78, 1, false, 4⟩) ∧ (C1.E.T 29 = some ⟨1, false, [.p (some 0) (.sl 1 [])], [], 3, 0, 78, 1, false, 4⟩) ∧ (C1.E.T 31 = some ⟨3, true, [.p none (.sc (.bool false)), .p (some 0) (.sl 1 []), .p (some 0) (.sl 1 [])], [(0, 1, false, 4), (1, 1, false, 29), (2, 1, false, 29)], 1, 0, 0, 0, false, 0⟩) ∧ (C1.E.T 39 = some ⟨3, true, [.p none (.sc (.int .i32 0)), .p none (.sc (.int .i32 0)), .p none (.sc (.int .i32 0))], [], 2, 3, 22, 1, false, 4⟩) ∧ (C1.E.T 42 = some ⟨2, true, [.p none (.sc (.int .u8 0)), .p none (.sc (.int .u8 0))], [], 2, 2, 5, 1, false, 1⟩) ∧ (C1.E.T 49 = some ⟨1, false, [.p (some 0) (.sl 1 [])], [], 3, 0, 9, 1, false, 16⟩) ∧ (C1.E.T 50 = some ⟨4, true, [.p none (.sc (.string ByteArray.empty)), .p none (.sc (.string ByteArray.empty)), .p none (.sc (.string ByteArray.empty)), .p none (.sc (.string ByteArray.empty))], [], 2, 4, 9, 1, false, 16⟩) ∧ (C1.E.T 56 = some ⟨3, true, [.p none (.sc (.int .i64 0)), .p none (.sc (.int .i64 0)), .p none (.sc (.int .i64 0))], [], 2, 3, 3, 1, false, 8⟩) ∧ (C1.E.T 62 = some ⟨2, true, [.p none (.sc (.bool false)), .p (some 0) (.sl 1 [])], [(0, 1, false, 4), (1, 1, false, 29)], 1, 0, 0, 0, false, 0⟩) ∧ (C1.E.T 67 = some ⟨1, false, [.p none (.sc .nilFunc)], [], 0, 0, 0, 0, false, 0⟩) ∧ (C1.E.T 71 = some ⟨1, false, [.p none (.sc (.int .u64 0))], [], 0, 0, 0, 0, false, 0⟩) ∧ (C1.E.T 78 = some ⟨1, false, [.p none (.sc (.int .u32 0))], [], 0, 0, 0, 0, false, 0⟩) ∧ (C1.E.T 86 = some ⟨1, false, [.p (some 0) (.sl 2 [])], [], 3, 0, 62, 2, true, 32⟩) ∧ (C1.E.T 87 = some ⟨1, false, [.p (some 0) (.sl 1 [])], [], 3, 0, 29, 1, false, 24⟩) ∧ (C1.E.T 88 = some ⟨12, true, [.p none (.sc (.int .i64 0)), .p none (.sc (.int .i64 0)), .p none (.sc (.int .i64 0)), .p none (.sc (.int .i64 0)), .p none (.sc (.int .i64 0)), .p none (.sc (.int .i64 0)), .p none (.sc (.int .i64 0)), .p none (.sc (.int .i64 0)), .p none (.sc (.int .i64 0)), .p none (.sc (.int .i64 0)), .p none (.sc (.int .i64 0)), .p none (.sc (.int .i64 0))], [], 2, 12, 3, 1, false, 8⟩) ∧ (C1.E.T 90 = some ⟨1, false, [.p (some 0) (.sl 1 [])], [], 3, 0, 3, 1, false, 8⟩) ∧ (C1.E.T 104 = some ⟨1, false, [.p none (.sc .nilFunc)], [], 0, 0, 0, 0, false, 0⟩) ∧ (C1.E.P.underlying 2 = some (.int .i64)) ∧ (C1.E.P.underlying 3 = some (.int .i64)) ∧ (C1.E.P.underlying 5 = some (.int .u8)) ∧ (C1.E.P.underlying 22 = some (.int .i32)) ∧ (C1.E.P.underlying 24 = some (.int .i64)) ∧ (C1.E.P.underlying 71 = some (.int .u64)) ∧ (C1.E.P.underlying 78 = some (.int .u32)) ∧ (C1.E.P.underlying 4 = some .bool) ∧ (C1.E.P.underlying 9 = some .string) := TYn
theorem G21 {d : Nat} : C1.gen 21 d = false := rfl
theorem G6 {d : Nat} : C1.gen 6 d = false := rfl
theorem G16 {d : Nat} : C1.gen 16 d = false := rfl
theorem G43 {d : Nat} : C1.gen 43 d = false := rfl
theorem G22 {d : Nat} : C1.gen 22 d = false := rfl
theorem G42 {d : Nat} : C1.gen 42 d = false := rfl
theorem G23 {d : Nat} : C1.gen 23 d = false := rfl
theorem G8 {d : Nat} : C1.gen 8 d = false := rfl
theorem G60 {d : Nat} : C1.gen 60 d = false := rfl
theorem G59 {d : Nat} : C1.gen 59 d = false := rfl
theorem G41 {d : Nat} : C1.gen 41 d = false := rfl
theorem G19 {d : Nat} : C1.gen 19 d = false := rfl
theorem G31 {d : Nat} : C1.gen 31 d = false := rfl
theorem G12 {d : Nat} : C1.gen 12 d = false := rfl
theorem G14 {d : Nat} : C1.gen 14 d = false := rfl
theorem G51 {d : Nat} : C1.gen 51 d = false := rfl
theorem G82 {d : Nat} : C1.gen 82 d = false := rfl
theorem G71 {d : Nat} : C1.gen 71 d = false := rfl
theorem G83 {d : Nat} : C1.gen 83 d = false := rfl
theorem G72 {d : Nat} : C1.gen 72 d = false := rfl
theorem G64 {d : Nat} : C1.gen 64 d = false := rfl
theorem G66 {d : Nat} : C1.gen 66 d = false := rfl
theorem G69 {d : Nat} : C1.gen 69 d = false := rfl
theorem G61 {d : Nat} : C1.gen 61 d = false := rfl
theorem G84 {d : Nat} : C1.gen 84 d = false := rfl
theorem G77 {d : Nat} : C1.gen 77 d = false := rfl
theorem G75 {d : Nat} : C1.gen 75 d = false := rfl
theorem G78 {d : Nat} : C1.gen 78 d = false := rfl
theorem G79 {d : Nat} : C1.gen 79 d = false := rfl
theorem G80 {d : Nat} : C1.gen 80 d = false := rfl
theorem G81 {d : Nat} : C1.gen 81 d = false := rfl
theorem G70 : (C1.gen 70 4 = false) ∧ (C1.gen 70 5 = false) ∧ (C1.gen 70 6 = false) ∧ (C1.gen 70 7 = false) ∧ (C1.gen 70 8 = false) ∧ (C1.gen 70 9 = false) ∧ (C1.gen 70 10 = false) ∧ (C1.gen 70 11 = false) ∧ (C1.gen 70 12 = false) ∧ (C1.gen 70 13 = false) ∧ (C1.gen 70 16 = false) ∧ (C1.gen 70 20 = false) ∧ (C1.gen 70 24 = false) ∧ (C1.gen 70 26 = true) ∧ (C1.gen 70 30 = false) ∧ (C1.gen 70 31 = false) ∧ (C1.gen 70 33 = false) ∧ (C1.gen 70 35 = false) ∧ (C1.gen 70 40 = false) ∧ (C1.gen 70 42 = false) ∧ (C1.gen 70 51 = false) ∧ (C1.gen 70 56 = true) ∧ (C1.gen 70 60 = true) ∧ (C1.gen 70 69 = false) ∧ (C1.gen 70 72 = false) ∧ (C1.gen 70 97 = false) ∧ (C1.gen 70 99 = false) := ⟨rfl, rfl, rfl, rfl, rfl, rfl, rfl, rfl, rfl, rfl, rfl, rfl, rfl, rfl, rfl, rfl, rfl, rfl, rfl, rfl, rfl, rfl, rfl, rfl, rfl, rfl, rfl⟩
theorem G62 {d : Nat} : C1.gen 62 d = false := rfl
theorem G52 {d : Nat} : C1.gen 52 d = false := rfl
theorem G54 {d : Nat} : C1.gen 54 d = false := rfl
theorem G53 {d : Nat} : C1.gen 53 d = false := rfl
theorem G32 {d : Nat} : C1.gen 32 d = false := rfl
theorem G33 {d : Nat} : C1.gen 33 d = false := rfl
theorem G65 {d : Nat} : C1.gen 65 d = false := rfl
theorem G55 {d : Nat} : C1.gen 55 d = false := rfl
theorem G34 {d : Nat} : C1.gen 34 d = false := rfl
theorem G74 {d : Nat} : C1.gen 74 d = false := rfl
theorem G73 : (C1.gen 73 4 = false) ∧ (C1.gen 73 5 = false) ∧ (C1.gen 73 6 = false) ∧ (C1.gen 73 10 = false) ∧ (C1.gen 73 18 = true) ∧ (C1.gen 73 23 = false) := ⟨rfl, rfl, rfl, rfl, rfl, rfl⟩
theorem G67 : (C1.gen 67 4 = false) ∧ (C1.gen 67 7 = false) ∧ (C1.gen 67 9 = false) ∧ (C1.gen 67 10 = false) ∧ (C1.gen 67 13 = true) := ⟨rfl, rfl, rfl, rfl, rfl⟩
theorem G57 {d : Nat} : C1.gen 57 d = false := rfl
theorem G76 {d : Nat} : C1.gen 76 d = false := rfl
theorem G68 : (C1.gen 68 4 = false) ∧ (C1.gen 68 7 = false) ∧ (C1.gen 68 9 = true) := ⟨rfl, rfl, rfl⟩
theorem G58 {d : Nat} : C1.gen 58 d = false := rfl
theorem G37 {d : Nat} : C1.gen 37 d = false := rfl
theorem G36 {d : Nat} : C1.gen 36 d = false := rfl
theorem G38 {d : Nat} : C1.gen 38 d = false := rfl
theorem G56 {d : Nat} : C1.gen 56 d = false := rfl
theorem G35 {d : Nat} : C1.gen 35 d = false := rfl
theorem G17 {d : Nat} : C1.gen 17 d = false := rfl
theorem G47 {d : Nat} : C1.gen 47 d = false := rfl
theorem G39 {d : Nat} : C1.gen 39 d = false := rfl
theorem G40 {d : Nat} : C1.gen 40 d = false := rfl
theorem G18 {d : Nat} : C1.gen 18 d = false := rfl
theorem G20 {d : Nat} : C1.gen 20 d = false := rfl
theorem G48 {d : Nat} : C1.gen 48 d = false := rfl
theorem G45 {d : Nat} : C1.gen 45 d = false := rfl
theorem G26 {d : Nat} : C1.gen 26 d = false := rfl
def Tf := And.intro (@List.map_append.{0, 0}) (And.intro (@List.map_cons.{0, 0}) (And.intro (@List.map_nil.{0, 0}) (And.intro (@List.length_map.{0, 0}) (And.intro (@List.length_set.{0}) (And.intro (@List.length_replicate.{0}) (And.intro (@List.map_take.{0, 0}) (And.intro (@List.map_drop.{0, 0}) (And.intro (@tk_map) (And.intro (@List.map_replicate.{0, 0}) (And.intro zf23 (And.intro zf56 (And.intro zf31 (And.intro zf39 (And.intro zf62 (And.intro zf42 (And.intro (@st3) (And.intro (@st9) (And.intro (@st23) (And.intro (@st78) (And.intro (@st29) (And.intro (@st31) (And.intro (@st39) (And.intro (@st42) (And.intro (@st56) (And.intro (@st62) (And.intro (@pI.eq_1) (And.intro (@pB.eq_1) (And.intro (@pS.eq_1) (And.intro (@e3.eq_1) (And.intro (@e9.eq_1) (And.intro (@e23.eq_1) (And.intro (@e78.eq_1) (And.intro (@e29.eq_1) (And.intro (@e31.eq_1) (And.intro (@e39.eq_1) (And.intro (@e42.eq_1) (And.intro (@e56.eq_1) (@e62.eq_1))))))))))))))))))))))))))))))))))))))
def slices_Index_string_string.l0 : Nat → List ByteArray → ByteArray → Int → Int → Option Int
  | 0, _, _, _, _ => none
  | k + 1, x0, x1, x7, x8 => (if x8 < x7 then (if 0 ≤ x8 then (if x8 < (x0.length : Int) then (if (x1.toList == (x0.getD ((x8 : Int).toNat) ByteArray.empty).toList) = true then (some x8) else (slices_Index_string_string.l0 k x0 x1 x7 (wrap64 (x8 + 1)))) else none) else none) else (some (-1)))
def slices_Index_string_string.f (k : Nat) (x0 : List ByteArray) (x1 : ByteArray) : Option Int := (slices_Index_string_string.l0 k x0 x1 (x0.length : Int) 0)
theorem slices_Index_string_string.monos : ∀ k, (∀ x0 x1 x7 x8, LeO (slices_Index_string_string.l0 k x0 x1 x7 x8) (slices_Index_string_string.l0 (k + 1) x0 x1 x7 x8))
  | 0 => fun _ _ _ _ => leo_none
  | k + 1 => by
    have I := slices_Index_string_string.monos k
    · intro x0 x1 x7 x8
      rw [slices_Index_string_string.l0, slices_Index_string_string.l0]
      exact leo_ite (leo_if (leo_if (leo_ite (leo_refl) (I _ _ _ _)))) (leo_refl)
theorem slices_Index_string_string.mono (k : Nat) (x0 : List ByteArray) (x1 : ByteArray) : LeO (slices_Index_string_string.f k x0 x1) (slices_Index_string_string.f (k + 1) x0 x1) := (slices_Index_string_string.monos k) _ _ _ _
noncomputable def b21 : Code := bodyOf Tryd.f21
def F21 : Fr := ⟨0, 19, 1, [], 21⟩
def slices_Index_string_string.l0S (x0 : List ByteArray) (x1 : ByteArray) (x7 : Int) (x8 : Int) : St := ⟨upd (upd (upd (upd (fun _ => .no) 8 (.one (.p none (pI .i64 x8)))) 7 (.one (.p none (pI .i64 x7)))) 1 (.one (.p none (pS x1)))) 0 (.one (.p none (.sl 1 (x0.map e9)))), noOb, rtP 5, 5⟩
theorem slices_Index_string_string.all : ∀ k, (∀ x0 x1 x7 x8 r, slices_Index_string_string.l0 k x0 x1 x7 x8 = some r → AtL C1 F21 (sub [1, 0, 1, 0, 0] b21) [.blk 0, .code (sub [1, 1] b21)] (some (slices_Index_string_string.l0S x0 x1 x7 x8)) (RetQ C1 [.tmp 4] [aV [pI .i64 r]]))
  | 0 => fun _ _ _ _ r h => (by cases h)
  | k + 1 => by
    have Il0 := slices_Index_string_string.all k
    · intro x0 x1 x7 x8 r h
      rw [slices_Index_string_string.l0] at h
      rw [atL_some]
      by_cases h1 : x8 < x7
      · rw [if_pos h1] at h
        obtain ⟨h2, h⟩ := ifn h
        obtain ⟨h3, h⟩ := ifn h
        have h3r := fun (q : 0 ≤ x8) => rd_at (l := x0) (i := x8) ByteArray.empty q h3
        replace h3r := h3r (by omega)
        by_cases h4 : (x1.toList == (x0.getD ((x8 : Int).toNat) ByteArray.empty).toList) = true
        · rw [if_pos h4] at h
          obtain rfl := Option.some.inj h
          simp only [↓Bp, ↓Bs, Bo, Bh, Ba, Bc, ↓reduceIte, Nat.reduceAdd, Nat.reduceEqDiff, Nat.reduceLT, Nat.reduceLeDiff, Nat.reduceBEq, Nat.reduceMul, Int.reduceLE, Int.reduceLT, Int.reduceEq, Int.reduceToNat, Int.cast_ofNat_Int, reduceCtorEq, G21, Tf, b21, ↓Tryd.f21, F21, TY, H21, h1, h2, h3, h3r, h4, slices_Index_string_string.l0S]
        · rw [if_neg h4] at h
          simp only [↓Bp, ↓Bs, Bo, Bh, Ba, Bc, ↓reduceIte, Nat.reduceAdd, Nat.reduceEqDiff, Nat.reduceLT, Nat.reduceLeDiff, Nat.reduceBEq, Nat.reduceMul, Int.reduceLE, Int.reduceLT, Int.reduceEq, Int.reduceToNat, Int.cast_ofNat_Int, reduceCtorEq, G21, Tf, b21, ↓Tryd.f21, F21, TY, H21, h1, h2, h3, h3r, h4, slices_Index_string_string.l0S]
          refine AtL.eq (Il0 _ _ _ _ _ h) ?_
          simp only [Tf, Int.reduceToNat, Int.toNat_natCast, slices_Index_string_string.l0S, h4]
      · rw [if_neg h1] at h
        obtain rfl := Option.some.inj h
        simp only [↓Bp, ↓Bs, Bo, Bh, Ba, Bc, ↓reduceIte, Nat.reduceAdd, Nat.reduceEqDiff, Nat.reduceLT, Nat.reduceLeDiff, Nat.reduceBEq, Nat.reduceMul, Int.reduceLE, Int.reduceLT, Int.reduceEq, Int.reduceToNat, Int.cast_ofNat_Int, reduceCtorEq, G21, Tf, b21, ↓Tryd.f21, F21, TY, H21, h1, slices_Index_string_string.l0S]
theorem slices_Index_string_string.ok (k : Nat) (x0 : List ByteArray) (x1 : ByteArray) (r : Int) (h : slices_Index_string_string.f k x0 x1 = some r) : Ret C1 21 [(false, [.sl 1 (x0.map e9)]), (false, [.sc (.string x1)])] [aV [pI .i64 r]] := by
  refine ret_of (c := b21) Tryd.func21 rfl rfl ⟨Nat.le_of_ble_eq_true rfl, Nat.le_of_ble_eq_true rfl⟩ ?_
  unfold slices_Index_string_string.f at h
  rw [show Tryd.f21.results.toList = [.tmp 4] from rfl]
  rw [show Tryd.f21.ntmps = 19 from rfl]
  have Il0 := slices_Index_string_string.all k
  simp only [↓Bp, ↓Bs, Bo, Bh, Ba, Bc, ↓reduceIte, Nat.reduceAdd, Nat.reduceEqDiff, Nat.reduceLT, Nat.reduceLeDiff, Nat.reduceBEq, Nat.reduceMul, Int.reduceLE, Int.reduceLT, Int.reduceEq, Int.reduceToNat, Int.cast_ofNat_Int, reduceCtorEq, G21, Tf, b21, ↓Tryd.f21, F21, TY, H21]
  refine AtL.eq (Il0 _ _ _ _ _ h) ?_
  simp only [Tf, Int.reduceToNat, Int.toNat_natCast, slices_Index_string_string.l0S]
def daycount_Parse.f (k : Nat) (x0 : ByteArray) : Option (Int × Int) := ((slices_Index_string_string.f k gt0 x0).bind fun t1 => (if t1 < 0 then (some (0, 8)) else (some (t1, 0))))
theorem daycount_Parse.mono (k : Nat) (x0 : ByteArray) : LeO (daycount_Parse.f k x0) (daycount_Parse.f (k + 1) x0) := leo_bind (slices_Index_string_string.mono k _ _) (fun _ => leo_ite (leo_refl) (leo_refl))
noncomputable def b6 : Code := bodyOf Tryd.f6
def F6 : Fr := ⟨0, 11, 1, [], 6⟩
theorem daycount_Parse.ok (k : Nat) (x0 : ByteArray) (r : Int × Int) (h : daycount_Parse.f k x0 = some r) : Ret C1 6 [(false, [.sc (.string x0)])] [aV [pI .i64 r.1], aV [pI .i64 r.2]] := by
  refine ret_of (c := b6) Tryd.func6 rfl rfl ⟨Nat.le_of_ble_eq_true rfl, Nat.le_of_ble_eq_true rfl⟩ ?_
  unfold daycount_Parse.f at h
  rw [show Tryd.f6.results.toList = [.tmp 2, .tmp 3] from rfl]
  rw [show Tryd.f6.ntmps = 11 from rfl]
  obtain ⟨t1, h1, h⟩ := bnd h
  have h1c := ((slices_Index_string_string.ok _ _ _ _ h1))
  try simp only [Tf, List.nil_append, List.cons_append, Int.reduceToNat] at h1c
  by_cases h2 : t1 < 0
  · rw [if_pos h2] at h
    obtain rfl := Option.some.inj h
    simp only [↓Bp, ↓Bs, Bo, Bh, Ba, Bc, ↓reduceIte, Nat.reduceAdd, Nat.reduceEqDiff, Nat.reduceLT, Nat.reduceLeDiff, Nat.reduceBEq, Nat.reduceMul, Int.reduceLE, Int.reduceLT, Int.reduceEq, Int.reduceToNat, Int.cast_ofNat_Int, reduceCtorEq, G6, Tf, b6, ↓Tryd.f6, F6, TY, H6, GL, callP_eq h1c, h2]
  · rw [if_neg h2] at h
    obtain rfl := Option.some.inj h
    simp only [↓Bp, ↓Bs, Bo, Bh, Ba, Bc, ↓reduceIte, Nat.reduceAdd, Nat.reduceEqDiff, Nat.reduceLT, Nat.reduceLeDiff, Nat.reduceBEq, Nat.reduceMul, Int.reduceLE, Int.reduceLT, Int.reduceEq, Int.reduceToNat, Int.cast_ofNat_Int, reduceCtorEq, G6, Tf, b6, ↓Tryd.f6, F6, TY, H6, GL, callP_eq h1c, h2]
def cashbookref05_Name.f (x0 : Int) : Option ByteArray := (if x0 = 0 then (some (⟨#[97, 99, 116, 51, 54, 53]⟩ : ByteArray)) else (if x0 = 1 then (some (⟨#[97, 99, 116, 51, 54, 48]⟩ : ByteArray)) else (if x0 = 2 then (some (⟨#[116, 104, 105, 114, 116, 121]⟩ : ByteArray)) else (if x0 = 3 then (some (⟨#[97, 99, 116, 97, 99, 116]⟩ : ByteArray)) else (some ByteArray.empty)))))
noncomputable def b7 : Code := bodyOf Tryd.f7
def daycount_Right.f (x0 : Int) : Option Bool := (if 0 ≤ x0 then (some (decide (x0 < 4))) else (some false))
noncomputable def b16 : Code := bodyOf Tryd.f16
def F16 : Fr := ⟨0, 9, 1, [], 16⟩
theorem daycount_Right.ok (x0 : Int) (r : Bool) (h : daycount_Right.f x0 = some r) : Ret C1 16 [(false, [.sc (.int .i64 x0)])] [aV [pB r]] := by
  refine ret_of (c := b16) Tryd.func16 rfl rfl ⟨Nat.le_of_ble_eq_true rfl, Nat.le_of_ble_eq_true rfl⟩ ?_
  unfold daycount_Right.f at h
  rw [show Tryd.f16.results.toList = [.tmp 2] from rfl]
  rw [show Tryd.f16.ntmps = 9 from rfl]
  by_cases h1 : 0 ≤ x0
  · rw [if_pos h1] at h
    obtain rfl := Option.some.inj h
    simp only [↓Bp, ↓Bs, Bo, Bh, Ba, Bc, ↓reduceIte, Nat.reduceAdd, Nat.reduceEqDiff, Nat.reduceLT, Nat.reduceLeDiff, Nat.reduceBEq, Nat.reduceMul, Int.reduceLE, Int.reduceLT, Int.reduceEq, Int.reduceToNat, Int.cast_ofNat_Int, reduceCtorEq, G16, Tf, b16, ↓Tryd.f16, F16, TY, H16, h1]
  · rw [if_neg h1] at h
    obtain rfl := Option.some.inj h
    simp only [↓Bp, ↓Bs, Bo, Bh, Ba, Bc, ↓reduceIte, Nat.reduceAdd, Nat.reduceEqDiff, Nat.reduceLT, Nat.reduceLeDiff, Nat.reduceBEq, Nat.reduceMul, Int.reduceLE, Int.reduceLT, Int.reduceEq, Int.reduceToNat, Int.cast_ofNat_Int, reduceCtorEq, G16, Tf, b16, ↓Tryd.f16, F16, TY, H16, h1]
def date_Right.f (x0 : Int) : Option Bool := (if (-50000) ≤ x0 then (some (decide (x0 ≤ 50000))) else (some false))
noncomputable def b43 : Code := bodyOf Tryd.f43
def F43 : Fr := ⟨0, 9, 1, [], 43⟩
theorem date_Right.ok (x0 : Int) (r : Bool) (h : date_Right.f x0 = some r) : Ret C1 43 [(false, [.sc (.int .i32 x0)])] [aV [pB r]] := by
  refine ret_of (c := b43) Tryd.func43 rfl rfl ⟨Nat.le_of_ble_eq_true rfl, Nat.le_of_ble_eq_true rfl⟩ ?_
  unfold date_Right.f at h
  rw [show Tryd.f43.results.toList = [.tmp 2] from rfl]
  rw [show Tryd.f43.ntmps = 9 from rfl]
  by_cases h1 : (-50000) ≤ x0
  · rw [if_pos h1] at h
    obtain rfl := Option.some.inj h
    simp only [↓Bp, ↓Bs, Bo, Bh, Ba, Bc, ↓reduceIte, Nat.reduceAdd, Nat.reduceEqDiff, Nat.reduceLT, Nat.reduceLeDiff, Nat.reduceBEq, Nat.reduceMul, Int.reduceLE, Int.reduceLT, Int.reduceEq, Int.reduceToNat, Int.cast_ofNat_Int, reduceCtorEq, G43, Tf, b43, ↓Tryd.f43, F43, TY, H43, h1]
  · rw [if_neg h1] at h
    obtain rfl := Option.some.inj h
    simp only [↓Bp, ↓Bs, Bo, Bh, Ba, Bc, ↓reduceIte, Nat.reduceAdd, Nat.reduceEqDiff, Nat.reduceLT, Nat.reduceLeDiff, Nat.reduceBEq, Nat.reduceMul, Int.reduceLE, Int.reduceLT, Int.reduceEq, Int.reduceToNat, Int.cast_ofNat_Int, reduceCtorEq, G43, Tf, b43, ↓Tryd.f43, F43, TY, H43, h1]
def daycount_wrong.j0 : Nat → Int → Int → Bool → Option Int
  | 0, _, _, _ => none
  | k + 1, x1, x2, x11 => (if x11 = true then (some 11) else (if x2 < x1 then (some 20) else (some 0)))
def daycount_wrong.f (k : Nat) (x0 : Int) (x1 : Int) (x2 : Int) : Option Int := ((daycount_Right.f x0).bind fun t1 => (if t1 = true then ((date_Right.f x1).bind fun t3 => (if t3 = true then ((date_Right.f x2).bind fun t5 => (daycount_wrong.j0 k x1 x2 (!t5))) else (daycount_wrong.j0 k x1 x2 true))) else (some 1)))
theorem daycount_wrong.monos : ∀ k, (∀ x1 x2 x11, LeO (daycount_wrong.j0 k x1 x2 x11) (daycount_wrong.j0 (k + 1) x1 x2 x11))
  | 0 => fun _ _ _ => leo_none
  | k + 1 => by
    have I := daycount_wrong.monos k
    · intro x1 x2 x11
      rw [daycount_wrong.j0, daycount_wrong.j0]
      exact leo_ite (leo_refl) (leo_ite (leo_refl) (leo_refl))
theorem daycount_wrong.mono (k : Nat) (x0 : Int) (x1 : Int) (x2 : Int) : LeO (daycount_wrong.f k x0 x1 x2) (daycount_wrong.f (k + 1) x0 x1 x2) := leo_bind leo_refl (fun _ => leo_ite (leo_bind leo_refl (fun _ => leo_ite (leo_bind leo_refl (fun _ => (daycount_wrong.monos k) _ _ _)) ((daycount_wrong.monos k) _ _ _))) (leo_refl))
noncomputable def b22 : Code := bodyOf Tryd.f22
def F22 : Fr := ⟨0, 24, 1, [], 22⟩
def daycount_wrong.j0S (x1 : Int) (x2 : Int) (x11 : Bool) : St := ⟨upd (upd (upd (fun _ => .no) 11 (.one (.p none (pB x11)))) 2 (.one (.p none (pI .i32 x2)))) 1 (.one (.p none (pI .i32 x1))), noOb, rtP 4, 4⟩
theorem daycount_wrong.all : ∀ k, (∀ x1 x2 x11 r, daycount_wrong.j0 k x1 x2 x11 = some r → AtJ C1 F22 (sub [1, 0, 0, 1, 2, 1] b22) [.blk 0, .code (sub [1, 1] b22)] (some (daycount_wrong.j0S x1 x2 x11)) (RetQ C1 [.tmp 6] [aV [pI .i64 r]]))
  | 0 => fun _ _ _ r h => (by cases h)
  | k + 1 => by
    have Ij0 := daycount_wrong.all k
    · intro x1 x2 x11 r h
      rw [daycount_wrong.j0] at h
      rw [atJ_some]
      by_cases h6 : x11 = true
      · rw [if_pos h6] at h
        obtain rfl := Option.some.inj h
        simp only [↓Bp, ↓Bs, Bo, Bh, Ba, Bc, ↓reduceIte, Nat.reduceAdd, Nat.reduceEqDiff, Nat.reduceLT, Nat.reduceLeDiff, Nat.reduceBEq, Nat.reduceMul, Int.reduceLE, Int.reduceLT, Int.reduceEq, Int.reduceToNat, Int.cast_ofNat_Int, reduceCtorEq, G22, Tf, b22, ↓Tryd.f22, F22, TY, H22, h6, daycount_wrong.j0S]
      · rw [if_neg h6] at h
        by_cases h7 : x2 < x1
        · rw [if_pos h7] at h
          obtain rfl := Option.some.inj h
          simp only [↓Bp, ↓Bs, Bo, Bh, Ba, Bc, ↓reduceIte, Nat.reduceAdd, Nat.reduceEqDiff, Nat.reduceLT, Nat.reduceLeDiff, Nat.reduceBEq, Nat.reduceMul, Int.reduceLE, Int.reduceLT, Int.reduceEq, Int.reduceToNat, Int.cast_ofNat_Int, reduceCtorEq, G22, Tf, b22, ↓Tryd.f22, F22, TY, H22, h6, h7, daycount_wrong.j0S]
        · rw [if_neg h7] at h
          obtain rfl := Option.some.inj h
          simp only [↓Bp, ↓Bs, Bo, Bh, Ba, Bc, ↓reduceIte, Nat.reduceAdd, Nat.reduceEqDiff, Nat.reduceLT, Nat.reduceLeDiff, Nat.reduceBEq, Nat.reduceMul, Int.reduceLE, Int.reduceLT, Int.reduceEq, Int.reduceToNat, Int.cast_ofNat_Int, reduceCtorEq, G22, Tf, b22, ↓Tryd.f22, F22, TY, H22, h6, h7, daycount_wrong.j0S]
theorem daycount_wrong.ok (k : Nat) (x0 : Int) (x1 : Int) (x2 : Int) (r : Int) (h : daycount_wrong.f k x0 x1 x2 = some r) : Ret C1 22 [(false, [.sc (.int .i64 x0)]), (false, [.sc (.int .i32 x1)]), (false, [.sc (.int .i32 x2)])] [aV [pI .i64 r]] := by
  refine ret_of (c := b22) Tryd.func22 rfl rfl ⟨Nat.le_of_ble_eq_true rfl, Nat.le_of_ble_eq_true rfl⟩ ?_
  unfold daycount_wrong.f at h
  rw [show Tryd.f22.results.toList = [.tmp 6] from rfl]
  rw [show Tryd.f22.ntmps = 24 from rfl]
  have Ij0 := daycount_wrong.all k
  obtain ⟨t1, h1, h⟩ := bnd h
  have h1c := ((daycount_Right.ok _ _ h1))
  try simp only [Tf, List.nil_append, List.cons_append, Int.reduceToNat] at h1c
  by_cases h2 : t1 = true
  · rw [if_pos h2] at h
    try simp only [h2] at h1c
    obtain ⟨t3, h3, h⟩ := bnd h
    have h3c := ((date_Right.ok _ _ h3))
    try simp only [Tf, List.nil_append, List.cons_append, Int.reduceToNat, h2] at h3c
    by_cases h4 : t3 = true
    · rw [if_pos h4] at h
      try simp only [h4] at h1c
      try simp only [h4] at h3c
      obtain ⟨t5, h5, h⟩ := bnd h
      have h5c := ((date_Right.ok _ _ h5))
      try simp only [Tf, List.nil_append, List.cons_append, Int.reduceToNat, h2, h4] at h5c
      simp only [↓Bp, ↓Bs, Bo, Bh, Ba, Bc, ↓reduceIte, Nat.reduceAdd, Nat.reduceEqDiff, Nat.reduceLT, Nat.reduceLeDiff, Nat.reduceBEq, Nat.reduceMul, Int.reduceLE, Int.reduceLT, Int.reduceEq, Int.reduceToNat, Int.cast_ofNat_Int, reduceCtorEq, G22, Tf, b22, ↓Tryd.f22, F22, TY, H22, callP_eq h1c, h2, callP_eq h3c, h4, callP_eq h5c]
      refine AtJ.eq (Ij0 _ _ _ _ h) ?_
      simp only [Tf, Int.reduceToNat, Int.toNat_natCast, daycount_wrong.j0S, h2, h4]
    · rw [if_neg h4] at h
      try simp only [h4] at h1c
      try simp only [h4] at h3c
      simp only [↓Bp, ↓Bs, Bo, Bh, Ba, Bc, ↓reduceIte, Nat.reduceAdd, Nat.reduceEqDiff, Nat.reduceLT, Nat.reduceLeDiff, Nat.reduceBEq, Nat.reduceMul, Int.reduceLE, Int.reduceLT, Int.reduceEq, Int.reduceToNat, Int.cast_ofNat_Int, reduceCtorEq, G22, Tf, b22, ↓Tryd.f22, F22, TY, H22, callP_eq h1c, h2, callP_eq h3c, h4]
      refine AtJ.eq (Ij0 _ _ _ _ h) ?_
      simp only [Tf, Int.reduceToNat, Int.toNat_natCast, daycount_wrong.j0S, h2, h4]
  · rw [if_neg h2] at h
    try simp only [h2] at h1c
    obtain rfl := Option.some.inj h
    simp only [↓Bp, ↓Bs, Bo, Bh, Ba, Bc, ↓reduceIte, Nat.reduceAdd, Nat.reduceEqDiff, Nat.reduceLT, Nat.reduceLeDiff, Nat.reduceBEq, Nat.reduceMul, Int.reduceLE, Int.reduceLT, Int.reduceEq, Int.reduceToNat, Int.cast_ofNat_Int, reduceCtorEq, G22, Tf, b22, ↓Tryd.f22, F22, TY, H22, callP_eq h1c, h2]
mutual
def date_Split.l0 : Nat → Int → Int → Int → Int → Option (Int × Int × Int × Int)
  | 0, _, _, _, _ => none
  | k + 1, x6, x7, x8, x9 => (if 0 ≤ x9 then (if x9 < 12 then (if x6 < (gt1.getD ((x9 : Int).toNat) 0) then (date_Split.l0 k x6 x7 x8 (wrap64 (x9 - 1))) else (if x9 < 12 then (if 12 < (wrap64 (x9 + 3)) then (date_Split.j0 k (wrap64 ((wrap64 (x8 + (wrap64 (400 * x7)))) + 1)) (wrap64 ((wrap64 (x9 + 3)) - 12)) (wrap64 ((wrap64 (x6 - (gt1.getD ((x9 : Int).toNat) 0))) + 1))) else (date_Split.j0 k (wrap64 (x8 + (wrap64 (400 * x7)))) (wrap64 (x9 + 3)) (wrap64 ((wrap64 (x6 - (gt1.getD ((x9 : Int).toNat) 0))) + 1)))) else none)) else none) else none)
def date_Split.j0 : Nat → Int → Int → Int → Option (Int × Int × Int × Int)
  | 0, _, _, _ => none
  | k + 1, x8, x9, x10 => (some (x8, x9, x10, 0))
end
def date_Split.f (k : Nat) (x0 : Int) : Option (Int × Int × Int × Int) := ((date_Right.f x0).bind fun t1 => (if t1 = true then (date_Split.l0 k (wrap64 ((Int.tmod (wrap64 ((wrap64 (x0)) + 730425)) 146097) - (wrap64 ((wrap64 ((wrap64 ((wrap64 (Int.tdiv (wrap64 ((wrap64 ((wrap64 ((Int.tmod (wrap64 ((wrap64 (x0)) + 730425)) 146097) - (wrap64 (Int.tdiv (Int.tmod (wrap64 ((wrap64 (x0)) + 730425)) 146097) 1460)))) + (wrap64 (Int.tdiv (Int.tmod (wrap64 ((wrap64 (x0)) + 730425)) 146097) 36524)))) - (wrap64 (Int.tdiv (Int.tmod (wrap64 ((wrap64 (x0)) + 730425)) 146097) 146096)))) 365)) * 365)) + (wrap64 (Int.tdiv (wrap64 (Int.tdiv (wrap64 ((wrap64 ((wrap64 ((Int.tmod (wrap64 ((wrap64 (x0)) + 730425)) 146097) - (wrap64 (Int.tdiv (Int.tmod (wrap64 ((wrap64 (x0)) + 730425)) 146097) 1460)))) + (wrap64 (Int.tdiv (Int.tmod (wrap64 ((wrap64 (x0)) + 730425)) 146097) 36524)))) - (wrap64 (Int.tdiv (Int.tmod (wrap64 ((wrap64 (x0)) + 730425)) 146097) 146096)))) 365)) 4)))) - (wrap64 (Int.tdiv (wrap64 (Int.tdiv (wrap64 ((wrap64 ((wrap64 ((Int.tmod (wrap64 ((wrap64 (x0)) + 730425)) 146097) - (wrap64 (Int.tdiv (Int.tmod (wrap64 ((wrap64 (x0)) + 730425)) 146097) 1460)))) + (wrap64 (Int.tdiv (Int.tmod (wrap64 ((wrap64 (x0)) + 730425)) 146097) 36524)))) - (wrap64 (Int.tdiv (Int.tmod (wrap64 ((wrap64 (x0)) + 730425)) 146097) 146096)))) 365)) 100)))))) (wrap64 (Int.tdiv (wrap64 ((wrap64 (x0)) + 730425)) 146097)) (wrap64 (Int.tdiv (wrap64 ((wrap64 ((wrap64 ((Int.tmod (wrap64 ((wrap64 (x0)) + 730425)) 146097) - (wrap64 (Int.tdiv (Int.tmod (wrap64 ((wrap64 (x0)) + 730425)) 146097) 1460)))) + (wrap64 (Int.tdiv (Int.tmod (wrap64 ((wrap64 (x0)) + 730425)) 146097) 36524)))) - (wrap64 (Int.tdiv (Int.tmod (wrap64 ((wrap64 (x0)) + 730425)) 146097) 146096)))) 365)) 11) else (some (0, 0, 0, 11))))
theorem date_Split.monos : ∀ k, (∀ x6 x7 x8 x9, LeO (date_Split.l0 k x6 x7 x8 x9) (date_Split.l0 (k + 1) x6 x7 x8 x9)) ∧ (∀ x8 x9 x10, LeO (date_Split.j0 k x8 x9 x10) (date_Split.j0 (k + 1) x8 x9 x10))
  | 0 => ⟨fun _ _ _ _ => leo_none, fun _ _ _ => leo_none⟩
  | k + 1 => by
    obtain ⟨Il0, Ij0⟩ := date_Split.monos k
    refine ⟨?_, ?_⟩
    · intro x6 x7 x8 x9
      rw [date_Split.l0, date_Split.l0]
      exact leo_if (leo_if (leo_ite (Il0 _ _ _ _) (leo_if (leo_ite (Ij0 _ _ _) (Ij0 _ _ _)))))
    · intro x8 x9 x10
      rw [date_Split.j0, date_Split.j0]
      exact leo_refl
theorem date_Split.mono (k : Nat) (x0 : Int) : LeO (date_Split.f k x0) (date_Split.f (k + 1) x0) := leo_bind leo_refl (fun _ => leo_ite ((date_Split.monos k).1 _ _ _ _) (leo_refl))
noncomputable def b42 : Code := bodyOf Tryd.f42
def F42 : Fr := ⟨0, 70, 1, [], 42⟩
theorem D42_10 {k : List It} {s : St} {Q : Post} {ops : Array Oper} {us : List Upd} (ha : apart2 [(0, 1), (0, 2), (0, 4), (1, 4), (2, 4), (3, 4), (0, 5), (1, 5), (2, 5), (3, 5), (4, 5), (0, 6), (1, 6), (2, 6), (3, 6), (4, 6), (0, 7), (1, 7), (2, 7), (3, 7), (4, 7), (0, 8), (1, 8), (2, 8), (3, 8), (0, 9), (1, 9), (2, 9), (3, 9), (4, 10), (5, 10), (6, 10), (7, 10), (8, 10), (9, 10)] (loud 0 us.reverse) = true) (hl : lessAll us.length [(0, 1), (0, 2), (0, 4), (1, 4), (2, 4), (3, 4), (0, 5), (1, 5), (2, 5), (3, 5), (4, 5), (0, 6), (1, 6), (2, 6), (3, 6), (4, 6), (0, 7), (1, 7), (2, 7), (3, 7), (4, 7), (0, 8), (1, 8), (2, 8), (3, 8), (0, 9), (1, 9), (2, 9), (3, 9), (4, 10), (5, 10), (6, 10), (7, 10), (8, 10), (9, 10)] = true) : GR C1 ⟨0, 70, 1, [], 42⟩ k Q 10 true ops [] s us = Fin C1 ⟨0, 70, 1, [], 42⟩ k .fall s Q := gr_nilD (F := F42) rfl ha hl
def date_Split.l0S (x6 : Int) (x7 : Int) (x8 : Int) (x9 : Int) : St := ⟨upd (upd (upd (upd (fun _ => .no) 9 (.one (.p none (pI .i64 x9)))) 8 (.one (.p none (pI .i64 x8)))) 7 (.one (.p none (pI .i64 x7)))) 6 (.one (.p none (pI .i64 x6))), noOb, rtP 5, 5⟩
def date_Split.j0S (x8 : Int) (x9 : Int) (x10 : Int) : St := ⟨upd (upd (upd (fun _ => .no) 10 (.one (.p none (pI .i64 x10)))) 9 (.one (.p none (pI .i64 x9)))) 8 (.one (.p none (pI .i64 x8))), noOb, rtP 4, 4⟩
theorem date_Split.all : ∀ k, (∀ x6 x7 x8 x9 r, date_Split.l0 k x6 x7 x8 x9 = some r → AtL C1 F42 (sub [1, 1, 1, 1, 1, 1, 1, 0, 0, 0] b42) [.blk 0, .code (sub [1, 1, 1, 1, 1, 1, 1, 1] b42)] (some (date_Split.l0S x6 x7 x8 x9)) (RetQ C1 [.tmp 2, .tmp 3, .tmp 4, .tmp 5] [aV [pI .i64 r.1], aV [pI .i64 r.2.1], aV [pI .i64 r.2.2.1], aV [pI .i64 r.2.2.2]])) ∧ (∀ x8 x9 x10 r, date_Split.j0 k x8 x9 x10 = some r → AtJ C1 F42 (sub [1, 1, 1, 1, 1, 1, 1, 1, 1, 1] b42) [] (some (date_Split.j0S x8 x9 x10)) (RetQ C1 [.tmp 2, .tmp 3, .tmp 4, .tmp 5] [aV [pI .i64 r.1], aV [pI .i64 r.2.1], aV [pI .i64 r.2.2.1], aV [pI .i64 r.2.2.2]]))
  | 0 => ⟨fun _ _ _ _ r h => (by cases h), fun _ _ _ r h => (by cases h)⟩
  | k + 1 => by
    obtain ⟨Il0, Ij0⟩ := date_Split.all k
    refine ⟨?_, ?_⟩
    · intro x6 x7 x8 x9 r h
      rw [date_Split.l0] at h
      rw [atL_some]
      obtain ⟨h3, h⟩ := ifn h
      obtain ⟨h4, h⟩ := ifn h
      have h4t := nat_lt (i := x9) (n := 12) (by omega) h4
      have h4g := get_of (l := gt1) 0 h4t
      try simp only [Int.reduceToNat] at h4g
      by_cases h5 : x6 < (gt1.getD ((x9 : Int).toNat) 0)
      · rw [if_pos h5] at h
        simp only [↓Bp, ↓Bs, Bo, Bh, Ba, Bc, Bd, ↓reduceIte, Nat.reduceAdd, Nat.reduceEqDiff, Nat.reduceLT, Nat.reduceLeDiff, Nat.reduceBEq, Nat.reduceMul, Int.reduceLE, Int.reduceLT, Int.reduceEq, Int.reduceToNat, Int.cast_ofNat_Int, reduceCtorEq, G42, Tf, b42, ↓Tryd.f42, F42, TY, H42, GL, D42_10, h3, h4, h4g, h5, date_Split.l0S]
        refine AtL.eq (Il0 _ _ _ _ _ h) ?_
        simp only [Tf, Int.reduceToNat, Int.toNat_natCast, date_Split.l0S]
      · rw [if_neg h5] at h
        obtain ⟨h6, h⟩ := ifn h
        have h6t := nat_lt (i := x9) (n := 12) (by omega) h6
        have h6g := get_of (l := gt1) 0 h6t
        try simp only [Int.reduceToNat] at h6g
        by_cases h7 : 12 < (wrap64 (x9 + 3))
        · rw [if_pos h7] at h
          simp only [↓Bp, ↓Bs, Bo, Bh, Ba, Bc, Bd, ↓reduceIte, Nat.reduceAdd, Nat.reduceEqDiff, Nat.reduceLT, Nat.reduceLeDiff, Nat.reduceBEq, Nat.reduceMul, Int.reduceLE, Int.reduceLT, Int.reduceEq, Int.reduceToNat, Int.cast_ofNat_Int, reduceCtorEq, G42, Tf, b42, ↓Tryd.f42, F42, TY, H42, GL, D42_10, h3, h4, h4g, h5, h6, h6g, h7, date_Split.l0S]
          refine AtJ.eq (Ij0 _ _ _ _ h) ?_
          simp only [Tf, Int.reduceToNat, Int.toNat_natCast, date_Split.j0S]
        · rw [if_neg h7] at h
          simp only [↓Bp, ↓Bs, Bo, Bh, Ba, Bc, Bd, ↓reduceIte, Nat.reduceAdd, Nat.reduceEqDiff, Nat.reduceLT, Nat.reduceLeDiff, Nat.reduceBEq, Nat.reduceMul, Int.reduceLE, Int.reduceLT, Int.reduceEq, Int.reduceToNat, Int.cast_ofNat_Int, reduceCtorEq, G42, Tf, b42, ↓Tryd.f42, F42, TY, H42, GL, D42_10, h3, h4, h4g, h5, h6, h6g, h7, date_Split.l0S]
          refine AtJ.eq (Ij0 _ _ _ _ h) ?_
          simp only [Tf, Int.reduceToNat, Int.toNat_natCast, date_Split.j0S]
    · intro x8 x9 x10 r h
      rw [date_Split.j0] at h
      rw [atJ_some]
      obtain rfl := Option.some.inj h
      simp only [↓Bp, ↓Bs, Bo, Bh, Ba, Bc, Bd, ↓reduceIte, Nat.reduceAdd, Nat.reduceEqDiff, Nat.reduceLT, Nat.reduceLeDiff, Nat.reduceBEq, Nat.reduceMul, Int.reduceLE, Int.reduceLT, Int.reduceEq, Int.reduceToNat, Int.cast_ofNat_Int, reduceCtorEq, G42, Tf, b42, ↓Tryd.f42, F42, TY, H42, GL, D42_10, date_Split.j0S]
theorem date_Split.ok (k : Nat) (x0 : Int) (r : Int × Int × Int × Int) (h : date_Split.f k x0 = some r) : Ret C1 42 [(false, [.sc (.int .i32 x0)])] [aV [pI .i64 r.1], aV [pI .i64 r.2.1], aV [pI .i64 r.2.2.1], aV [pI .i64 r.2.2.2]] := by
  refine ret_of (c := b42) Tryd.func42 rfl rfl ⟨Nat.le_of_ble_eq_true rfl, Nat.le_of_ble_eq_true rfl⟩ ?_
  unfold date_Split.f at h
  rw [show Tryd.f42.results.toList = [.tmp 2, .tmp 3, .tmp 4, .tmp 5] from rfl]
  rw [show Tryd.f42.ntmps = 70 from rfl]
  obtain ⟨Il0, Ij0⟩ := date_Split.all k
  obtain ⟨t1, h1, h⟩ := bnd h
  have h1c := ((date_Right.ok _ _ h1))
  try simp only [Tf, List.nil_append, List.cons_append, Int.reduceToNat] at h1c
  by_cases h2 : t1 = true
  · rw [if_pos h2] at h
    try simp only [h2] at h1c
    simp only [↓Bp, ↓Bs, Bo, Bh, Ba, Bc, Bd, ↓reduceIte, Nat.reduceAdd, Nat.reduceEqDiff, Nat.reduceLT, Nat.reduceLeDiff, Nat.reduceBEq, Nat.reduceMul, Int.reduceLE, Int.reduceLT, Int.reduceEq, Int.reduceToNat, Int.cast_ofNat_Int, reduceCtorEq, G42, Tf, b42, ↓Tryd.f42, F42, TY, H42, GL, D42_10, callP_eq h1c, h2]
    refine AtL.eq (Il0 _ _ _ _ _ h) ?_
    simp only [Tf, Int.reduceToNat, Int.toNat_natCast, date_Split.l0S, h2]
  · rw [if_neg h2] at h
    try simp only [h2] at h1c
    obtain rfl := Option.some.inj h
    simp only [↓Bp, ↓Bs, Bo, Bh, Ba, Bc, Bd, ↓reduceIte, Nat.reduceAdd, Nat.reduceEqDiff, Nat.reduceLT, Nat.reduceLeDiff, Nat.reduceBEq, Nat.reduceMul, Int.reduceLE, Int.reduceLT, Int.reduceEq, Int.reduceToNat, Int.cast_ofNat_Int, reduceCtorEq, G42, Tf, b42, ↓Tryd.f42, F42, TY, H42, GL, D42_10, callP_eq h1c, h2]
def daycount_place.f (k : Nat) (x0 : Int) : Option Int := ((date_Split.f k x0).bind fun t1 => (some (wrap64 ((wrap64 ((wrap64 (360 * t1.1)) + (wrap64 (30 * t1.2.1)))) + (min t1.2.2.1 30)))))
theorem daycount_place.mono (k : Nat) (x0 : Int) : LeO (daycount_place.f k x0) (daycount_place.f (k + 1) x0) := leo_bind (date_Split.mono k _) (fun _ => leo_refl)
noncomputable def b23 : Code := bodyOf Tryd.f23
def F23 : Fr := ⟨0, 22, 1, [], 23⟩
theorem daycount_place.ok (k : Nat) (x0 : Int) (r : Int) (h : daycount_place.f k x0 = some r) : Ret C1 23 [(false, [.sc (.int .i32 x0)])] [aV [pI .i64 r]] := by
  refine ret_of (c := b23) Tryd.func23 rfl rfl ⟨Nat.le_of_ble_eq_true rfl, Nat.le_of_ble_eq_true rfl⟩ ?_
  unfold daycount_place.f at h
  rw [show Tryd.f23.results.toList = [.tmp 2] from rfl]
  rw [show Tryd.f23.ntmps = 22 from rfl]
  obtain ⟨t1, h1, h⟩ := bnd h
  have h1c := ((date_Split.ok _ _ _ h1))
  try simp only [Tf, List.nil_append, List.cons_append, Int.reduceToNat] at h1c
  obtain rfl := Option.some.inj h
  simp only [↓Bp, ↓Bs, Bo, Bh, Ba, Bc, ↓reduceIte, Nat.reduceAdd, Nat.reduceEqDiff, Nat.reduceLT, Nat.reduceLeDiff, Nat.reduceBEq, Nat.reduceMul, Int.reduceLE, Int.reduceLT, Int.reduceEq, Int.reduceToNat, Int.cast_ofNat_Int, reduceCtorEq, G23, Tf, b23, ↓Tryd.f23, F23, TY, H23, callP_eq h1c]
def daycount_Days.f (k : Nat) (x0 : Int) (x1 : Int) (x2 : Int) : Option (Int × Int) := ((daycount_wrong.f k x0 x1 x2).bind fun t1 => (if t1 = 0 then (if x0 = 2 then ((daycount_place.f k x2).bind fun t4 => ((daycount_place.f k x1).bind fun t5 => (some ((wrap64 (t4 - t5)), 0)))) else (some ((wrap64 ((wrap64 (x2)) - (wrap64 (x1)))), 0))) else (some (0, t1))))
theorem daycount_Days.mono (k : Nat) (x0 : Int) (x1 : Int) (x2 : Int) : LeO (daycount_Days.f k x0 x1 x2) (daycount_Days.f (k + 1) x0 x1 x2) := leo_bind (daycount_wrong.mono k _ _ _) (fun _ => leo_ite (leo_ite (leo_bind (daycount_place.mono k _) (fun _ => leo_bind (daycount_place.mono k _) (fun _ => leo_refl))) (leo_refl)) (leo_refl))
noncomputable def b8 : Code := bodyOf Tryd.f8
def F8 : Fr := ⟨0, 28, 1, [], 8⟩
theorem daycount_Days.ok (k : Nat) (x0 : Int) (x1 : Int) (x2 : Int) (r : Int × Int) (h : daycount_Days.f k x0 x1 x2 = some r) : Ret C1 8 [(false, [.sc (.int .i64 x0)]), (false, [.sc (.int .i32 x1)]), (false, [.sc (.int .i32 x2)])] [aV [pI .i64 r.1], aV [pI .i64 r.2]] := by
  refine ret_of (c := b8) Tryd.func8 rfl rfl ⟨Nat.le_of_ble_eq_true rfl, Nat.le_of_ble_eq_true rfl⟩ ?_
  unfold daycount_Days.f at h
  rw [show Tryd.f8.results.toList = [.tmp 6, .tmp 7] from rfl]
  rw [show Tryd.f8.ntmps = 28 from rfl]
  obtain ⟨t1, h1, h⟩ := bnd h
  have h1c := ((daycount_wrong.ok _ _ _ _ _ h1))
  try simp only [Tf, List.nil_append, List.cons_append, Int.reduceToNat] at h1c
  by_cases h2 : t1 = 0
  · rw [if_pos h2] at h
    by_cases h3 : x0 = 2
    · rw [if_pos h3] at h
      obtain ⟨t4, h4, h⟩ := bnd h
      have h4c := ((daycount_place.ok _ _ _ h4))
      try simp only [Tf, List.nil_append, List.cons_append, Int.reduceToNat] at h4c
      obtain ⟨t5, h5, h⟩ := bnd h
      have h5c := ((daycount_place.ok _ _ _ h5))
      try simp only [Tf, List.nil_append, List.cons_append, Int.reduceToNat] at h5c
      obtain rfl := Option.some.inj h
      simp only [↓Bp, ↓Bs, Bo, Bh, Ba, Bc, ↓reduceIte, Nat.reduceAdd, Nat.reduceEqDiff, Nat.reduceLT, Nat.reduceLeDiff, Nat.reduceBEq, Nat.reduceMul, Int.reduceLE, Int.reduceLT, Int.reduceEq, Int.reduceToNat, Int.cast_ofNat_Int, reduceCtorEq, G8, Tf, b8, ↓Tryd.f8, F8, TY, H8, callP_eq h1c, eq_true h2, eq_true h3, callP_eq h4c, callP_eq h5c]
    · rw [if_neg h3] at h
      obtain rfl := Option.some.inj h
      simp only [↓Bp, ↓Bs, Bo, Bh, Ba, Bc, ↓reduceIte, Nat.reduceAdd, Nat.reduceEqDiff, Nat.reduceLT, Nat.reduceLeDiff, Nat.reduceBEq, Nat.reduceMul, Int.reduceLE, Int.reduceLT, Int.reduceEq, Int.reduceToNat, Int.cast_ofNat_Int, reduceCtorEq, G8, Tf, b8, ↓Tryd.f8, F8, TY, H8, callP_eq h1c, eq_true h2, h3]
  · rw [if_neg h2] at h
    obtain rfl := Option.some.inj h
    simp only [↓Bp, ↓Bs, Bo, Bh, Ba, Bc, ↓reduceIte, Nat.reduceAdd, Nat.reduceEqDiff, Nat.reduceLT, Nat.reduceLeDiff, Nat.reduceBEq, Nat.reduceMul, Int.reduceLE, Int.reduceLT, Int.reduceEq, Int.reduceToNat, Int.cast_ofNat_Int, reduceCtorEq, G8, Tf, b8, ↓Tryd.f8, F8, TY, H8, callP_eq h1c, h2]
def cashbookref04_Right.f (x0 : Int) : Option Bool := (if (-50000) ≤ x0 then (some (decide (x0 ≤ 50000))) else (some false))
def cashbookref05_wrong.j0 : Nat → Int → Int → Bool → Option Int
  | 0, _, _, _ => none
  | k + 1, x1, x2, x21 => (if x21 = true then (some 11) else (if x2 < x1 then (some 20) else (some 0)))
def cashbookref05_wrong.f (k : Nat) (x0 : Int) (x1 : Int) (x2 : Int) : Option Int := ((cashbookref05_Name.f x0).bind fun t1 => (if (t1.toList == ByteArray.empty.toList) = true then (some 1) else ((cashbookref04_Right.f x1).bind fun t3 => ((cashbookref04_Right.f x2).bind fun t4 => (if t3 = true then (cashbookref05_wrong.j0 k x1 x2 (!t4)) else (cashbookref05_wrong.j0 k x1 x2 true))))))
def cashbookref04_Long.f (x0 : Int) : Option Bool := (if (Int.tmod x0 4) = 0 then (if (Int.tmod x0 100) = 0 then (some (decide ((Int.tmod x0 400) = 0))) else (some true)) else (some (decide ((Int.tmod x0 400) = 0))))
def cashbookref04_year.f (x0 : Int) : Option Int := ((cashbookref04_Long.f x0).bind fun t1 => (if t1 = true then (some 366) else (some 365)))
def cashbookref04_Days.j0 : Nat → Bool → Option Int
  | 0, _ => none
  | k + 1, x22 => (if x22 = true then (some 30) else (some 31))
def cashbookref04_Days.f (k : Nat) (x0 : Int) (x1 : Int) : Option Int := (if x1 = 2 then ((cashbookref04_Long.f x0).bind fun t2 => (if t2 = true then (some 29) else (some 28))) else (if x1 = 4 then (cashbookref04_Days.j0 k true) else (if x1 = 6 then (cashbookref04_Days.j0 k true) else (if x1 = 9 then (cashbookref04_Days.j0 k true) else (cashbookref04_Days.j0 k (decide (x1 = 11)))))))
mutual
def cashbookref04_Parts.l0 : Nat → Int → Int → S56 → Option S56
  | 0, _, _, _ => none
  | k + 1, x3, x4, y2 => (if x3 < 0 then ((cashbookref04_year.f (wrap64 (x4 - 1))).bind fun t2 => (cashbookref04_Parts.l0 k (wrap64 (x3 + t2)) (wrap64 (x4 - 1)) y2)) else (cashbookref04_Parts.l1 k x3 x4 y2))
def cashbookref04_Parts.l1 : Nat → Int → Int → S56 → Option S56
  | 0, _, _, _ => none
  | k + 1, x3, x4, y2 => ((cashbookref04_year.f x4).bind fun t3 => (if t3 ≤ x3 then (cashbookref04_Parts.l1 k (wrap64 (x3 - t3)) (wrap64 (x4 + 1)) y2) else (cashbookref04_Parts.l2 k x3 x4 1 y2)))
def cashbookref04_Parts.l2 : Nat → Int → Int → Int → S56 → Option S56
  | 0, _, _, _, _ => none
  | k + 1, x3, x4, x5, y2 => ((cashbookref04_Days.f k x4 x5).bind fun t5 => (if t5 ≤ x3 then (cashbookref04_Parts.l2 k (wrap64 (x3 - t5)) x4 (wrap64 (x5 + 1)) y2) else (some (⟨x4, x5, (wrap64 (x3 + 1))⟩ : S56))))
end
def cashbookref04_Parts.f (k : Nat) (x0 : Int) : Option S56 := (cashbookref04_Parts.l0 k (wrap64 (x0)) 2000 (⟨0, 0, 0⟩ : S56))
def cashbookref05_place.f (k : Nat) (x0 : Int) : Option Int := ((cashbookref04_Parts.f k x0).bind fun t1 => (some (wrap64 ((wrap64 ((wrap64 (360 * t1.f0)) + (wrap64 (30 * t1.f1)))) + (min t1.f2 30)))))
def cashbookref05_Days.f (k : Nat) (x0 : Int) (x1 : Int) (x2 : Int) : Option (Int × Int) := ((cashbookref05_wrong.f k x0 x1 x2).bind fun t1 => (if t1 = 0 then (if x0 = 2 then ((cashbookref05_place.f k x2).bind fun t4 => ((cashbookref05_place.f k x1).bind fun t5 => (some ((wrap64 (t4 - t5)), 0)))) else (some ((wrap64 ((wrap64 (x2)) - (wrap64 (x1)))), 0))) else (some (0, t1))))
mutual
def cashbookref01_trim.l0 : Nat → List Int → Int → Option (List Int)
  | 0, _, _ => none
  | k + 1, x0, x3 => (if 0 < x3 then (if 0 ≤ (wrap64 (x3 - 1)) then (if (wrap64 (x3 - 1)) < (x0.length : Int) then (cashbookref01_trim.j0 k x0 x3 (decide ((x0.getD (((wrap64 (x3 - 1)) : Int).toNat) 0) = 0))) else none) else none) else (cashbookref01_trim.j0 k x0 x3 false))
def cashbookref01_trim.j0 : Nat → List Int → Int → Bool → Option (List Int)
  | 0, _, _, _ => none
  | k + 1, x0, x3, x15 => (if x15 = true then (cashbookref01_trim.l0 k x0 (wrap64 (x3 - 1))) else (if 0 ≤ x3 then (if x3 ≤ (x0.length : Int) then (some (x0.take ((x3 : Int).toNat))) else none) else none))
end
def cashbookref01_trim.f (k : Nat) (x0 : List Int) : Option (List Int) := (cashbookref01_trim.l0 k x0 (x0.length : Int))
theorem cashbookref01_trim.monos : ∀ k, (∀ x0 x3, LeO (cashbookref01_trim.l0 k x0 x3) (cashbookref01_trim.l0 (k + 1) x0 x3)) ∧ (∀ x0 x3 x15, LeO (cashbookref01_trim.j0 k x0 x3 x15) (cashbookref01_trim.j0 (k + 1) x0 x3 x15))
  | 0 => ⟨fun _ _ => leo_none, fun _ _ _ => leo_none⟩
  | k + 1 => by
    obtain ⟨Il0, Ij0⟩ := cashbookref01_trim.monos k
    refine ⟨?_, ?_⟩
    · intro x0 x3
      rw [cashbookref01_trim.l0, cashbookref01_trim.l0]
      exact leo_ite (leo_if (leo_if (Ij0 _ _ _))) (Ij0 _ _ _)
    · intro x0 x3 x15
      rw [cashbookref01_trim.j0, cashbookref01_trim.j0]
      exact leo_ite (Il0 _ _) (leo_if (leo_if (leo_refl)))
theorem cashbookref01_trim.mono (k : Nat) (x0 : List Int) : LeO (cashbookref01_trim.f k x0) (cashbookref01_trim.f (k + 1) x0) := (cashbookref01_trim.monos k).1 _ _
noncomputable def b60 : Code := bodyOf Tryd.f60
def F60 : Fr := ⟨0, 21, 1, [], 60⟩
def cashbookref01_trim.l0S (x0 : List Int) (x3 : Int) : St := ⟨upd (upd (fun _ => .no) 3 (.one (.p none (pI .i64 x3)))) 0 (.one (.p none (.sl 1 (x0.map e3)))), noOb, rtP 3, 3⟩
def cashbookref01_trim.j0S (x0 : List Int) (x3 : Int) (x15 : Bool) : St := ⟨upd (upd (upd (fun _ => .no) 15 (.one (.p none (pB x15)))) 3 (.one (.p none (pI .i64 x3)))) 0 (.one (.p none (.sl 1 (x0.map e3)))), noOb, rtP 4, 4⟩
theorem cashbookref01_trim.all : ∀ k, (∀ x0 x3 r, cashbookref01_trim.l0 k x0 x3 = some r → AtL C1 F60 (sub [1, 1, 0, 0, 0] b60) [.blk 0, .code (sub [1, 1, 1] b60)] (some (cashbookref01_trim.l0S x0 x3)) (RetQ C1 [.tmp 2] [aV [.sl 1 (r.map e3)]])) ∧ (∀ x0 x3 x15 r, cashbookref01_trim.j0 k x0 x3 x15 = some r → AtJ C1 F60 (sub [1, 1, 0, 0, 0, 0, 1] b60) [.code (sub [1, 1, 0, 0, 0, 1] b60), .lp (sub [1, 1, 0, 0, 0] b60), .blk 0, .code (sub [1, 1, 1] b60)] (some (cashbookref01_trim.j0S x0 x3 x15)) (RetQ C1 [.tmp 2] [aV [.sl 1 (r.map e3)]]))
  | 0 => ⟨fun _ _ r h => (by cases h), fun _ _ _ r h => (by cases h)⟩
  | k + 1 => by
    obtain ⟨Il0, Ij0⟩ := cashbookref01_trim.all k
    refine ⟨?_, ?_⟩
    · intro x0 x3 r h
      rw [cashbookref01_trim.l0] at h
      rw [atL_some]
      by_cases h1 : 0 < x3
      · rw [if_pos h1] at h
        obtain ⟨h2, h⟩ := ifn h
        obtain ⟨h3, h⟩ := ifn h
        have h3r := fun (q : 0 ≤ (wrap64 (x3 - 1))) => rd_at (l := x0) (i := (wrap64 (x3 - 1))) 0 q h3
        replace h3r := h3r (by omega)
        simp only [↓Bp, ↓Bs, Bo, Bh, Ba, Bc, ↓reduceIte, Nat.reduceAdd, Nat.reduceEqDiff, Nat.reduceLT, Nat.reduceLeDiff, Nat.reduceBEq, Nat.reduceMul, Int.reduceLE, Int.reduceLT, Int.reduceEq, Int.reduceToNat, Int.cast_ofNat_Int, reduceCtorEq, G60, Tf, b60, ↓Tryd.f60, F60, TY, H60, h1, h2, h3, h3r, cashbookref01_trim.l0S]
        refine AtJ.eq (Ij0 _ _ _ _ h) ?_
        simp only [Tf, Int.reduceToNat, Int.toNat_natCast, cashbookref01_trim.j0S]
      · rw [if_neg h1] at h
        simp only [↓Bp, ↓Bs, Bo, Bh, Ba, Bc, ↓reduceIte, Nat.reduceAdd, Nat.reduceEqDiff, Nat.reduceLT, Nat.reduceLeDiff, Nat.reduceBEq, Nat.reduceMul, Int.reduceLE, Int.reduceLT, Int.reduceEq, Int.reduceToNat, Int.cast_ofNat_Int, reduceCtorEq, G60, Tf, b60, ↓Tryd.f60, F60, TY, H60, h1, cashbookref01_trim.l0S]
        refine AtJ.eq (Ij0 _ _ _ _ h) ?_
        simp only [Tf, Int.reduceToNat, Int.toNat_natCast, cashbookref01_trim.j0S]
    · intro x0 x3 x15 r h
      rw [cashbookref01_trim.j0] at h
      rw [atJ_some]
      by_cases h4 : x15 = true
      · rw [if_pos h4] at h
        simp only [↓Bp, ↓Bs, Bo, Bh, Ba, Bc, ↓reduceIte, Nat.reduceAdd, Nat.reduceEqDiff, Nat.reduceLT, Nat.reduceLeDiff, Nat.reduceBEq, Nat.reduceMul, Int.reduceLE, Int.reduceLT, Int.reduceEq, Int.reduceToNat, Int.cast_ofNat_Int, reduceCtorEq, G60, Tf, b60, ↓Tryd.f60, F60, TY, H60, h4, cashbookref01_trim.j0S]
        refine AtL.eq (Il0 _ _ _ h) ?_
        simp only [Tf, Int.reduceToNat, Int.toNat_natCast, cashbookref01_trim.l0S, h4]
      · rw [if_neg h4] at h
        obtain ⟨h5, h⟩ := ifn h
        obtain ⟨h6, h⟩ := ifn h
        obtain rfl := Option.some.inj h
        simp only [↓Bp, ↓Bs, Bo, Bh, Ba, Bc, ↓reduceIte, Nat.reduceAdd, Nat.reduceEqDiff, Nat.reduceLT, Nat.reduceLeDiff, Nat.reduceBEq, Nat.reduceMul, Int.reduceLE, Int.reduceLT, Int.reduceEq, Int.reduceToNat, Int.cast_ofNat_Int, reduceCtorEq, G60, Tf, b60, ↓Tryd.f60, F60, TY, H60, h4, h5, h6, cashbookref01_trim.j0S]
theorem cashbookref01_trim.ok (k : Nat) (x0 : List Int) (r : List Int) (h : cashbookref01_trim.f k x0 = some r) : Ret C1 60 [(false, [.sl 1 (x0.map e3)])] [aV [.sl 1 (r.map e3)]] := by
  refine ret_of (c := b60) Tryd.func60 rfl rfl ⟨Nat.le_of_ble_eq_true rfl, Nat.le_of_ble_eq_true rfl⟩ ?_
  unfold cashbookref01_trim.f at h
  rw [show Tryd.f60.results.toList = [.tmp 2] from rfl]
  rw [show Tryd.f60.ntmps = 21 from rfl]
  obtain ⟨Il0, Ij0⟩ := cashbookref01_trim.all k
  simp only [↓Bp, ↓Bs, Bo, Bh, Ba, Bc, ↓reduceIte, Nat.reduceAdd, Nat.reduceEqDiff, Nat.reduceLT, Nat.reduceLeDiff, Nat.reduceBEq, Nat.reduceMul, Int.reduceLE, Int.reduceLT, Int.reduceEq, Int.reduceToNat, Int.cast_ofNat_Int, reduceCtorEq, G60, Tf, b60, ↓Tryd.f60, F60, TY, H60]
  refine AtL.eq (Il0 _ _ _ h) ?_
  simp only [Tf, Int.reduceToNat, Int.toNat_natCast, cashbookref01_trim.l0S]
mutual
def cashbookref01_nat.l0 : Nat → List Int → List Int → Int → Option (List Int)
  | 0, _, _, _ => none
  | k + 1, x0, x3, x4 => (if x4 < (x0.length : Int) then (if 0 ≤ x4 then (if x4 < (x0.length : Int) then (if (wrap64 (x4 + 1)) < (x0.length : Int) then (if 0 ≤ (wrap64 (x4 + 1)) then (if (wrap64 (x4 + 1)) < (x0.length : Int) then (cashbookref01_nat.j0 k x0 x3 x4 (wrap64 ((x0.getD ((x4 : Int).toNat) 0) + (wrap64 (65536 * (x0.getD (((wrap64 (x4 + 1)) : Int).toNat) 0)))))) else none) else none) else (cashbookref01_nat.j0 k x0 x3 x4 (x0.getD ((x4 : Int).toNat) 0))) else none) else none) else (some x3))
def cashbookref01_nat.j0 : Nat → List Int → List Int → Int → Int → Option (List Int)
  | 0, _, _, _, _ => none
  | k + 1, x0, x3, x4, x5 => (if x3.length + 1 ≤ 16777216 then (cashbookref01_nat.l0 k x0 (x3 ++ [(IntKind.u32.wrap (x5))]) (wrap64 (x4 + 2))) else none)
end
def cashbookref01_nat.f (k : Nat) (x0 : List Int) : Option (List Int) := (cashbookref01_nat.l0 k x0 ([] : List Int) 0)
theorem cashbookref01_nat.monos : ∀ k, (∀ x0 x3 x4, LeO (cashbookref01_nat.l0 k x0 x3 x4) (cashbookref01_nat.l0 (k + 1) x0 x3 x4)) ∧ (∀ x0 x3 x4 x5, LeO (cashbookref01_nat.j0 k x0 x3 x4 x5) (cashbookref01_nat.j0 (k + 1) x0 x3 x4 x5))
  | 0 => ⟨fun _ _ _ => leo_none, fun _ _ _ _ => leo_none⟩
  | k + 1 => by
    obtain ⟨Il0, Ij0⟩ := cashbookref01_nat.monos k
    refine ⟨?_, ?_⟩
    · intro x0 x3 x4
      rw [cashbookref01_nat.l0, cashbookref01_nat.l0]
      exact leo_ite (leo_if (leo_if (leo_ite (leo_if (leo_if (Ij0 _ _ _ _))) (Ij0 _ _ _ _)))) (leo_refl)
    · intro x0 x3 x4 x5
      rw [cashbookref01_nat.j0, cashbookref01_nat.j0]
      exact leo_if (Il0 _ _ _)
theorem cashbookref01_nat.mono (k : Nat) (x0 : List Int) : LeO (cashbookref01_nat.f k x0) (cashbookref01_nat.f (k + 1) x0) := (cashbookref01_nat.monos k).1 _ _ _
noncomputable def b59 : Code := bodyOf Tryd.f59
def F59 : Fr := ⟨0, 35, 1, [], 59⟩
def cashbookref01_nat.l0S (x0 : List Int) (x3 : List Int) (x4 : Int) : St := ⟨upd (upd (upd (fun _ => .no) 4 (.one (.p none (pI .i64 x4)))) 3 (.one (.p (some 2) (.sl 1 (x3.map e78))))) 0 (.one (.p none (.sl 1 (x0.map e3)))), noOb, rtP 4, 4⟩
def cashbookref01_nat.j0S (x0 : List Int) (x3 : List Int) (x4 : Int) (x5 : Int) : St := ⟨upd (upd (upd (upd (fun _ => .no) 5 (.one (.p none (pI .i64 x5)))) 4 (.one (.p none (pI .i64 x4)))) 3 (.one (.p (some 2) (.sl 1 (x3.map e78))))) 0 (.one (.p none (.sl 1 (x0.map e3)))), noOb, rtP 5, 5⟩
theorem cashbookref01_nat.all : ∀ k, (∀ x0 x3 x4 r, cashbookref01_nat.l0 k x0 x3 x4 = some r → AtL C1 F59 (sub [1, 1, 0, 1, 0, 0] b59) [.blk 0, .code (sub [1, 1, 1] b59)] (some (cashbookref01_nat.l0S x0 x3 x4)) (RetQ C1 [.tmp 2] [aV [.sl 1 (r.map e78)]])) ∧ (∀ x0 x3 x4 x5 r, cashbookref01_nat.j0 k x0 x3 x4 x5 = some r → AtJ C1 F59 (sub [1, 1, 0, 1, 0, 0, 1, 0, 0, 1, 1] b59) [.blk 1, .code (sub [1, 1, 0, 1, 0, 0, 1, 1] b59), .lp (sub [1, 1, 0, 1, 0, 0] b59), .blk 0, .code (sub [1, 1, 1] b59)] (some (cashbookref01_nat.j0S x0 x3 x4 x5)) (RetQ C1 [.tmp 2] [aV [.sl 1 (r.map e78)]]))
  | 0 => ⟨fun _ _ _ r h => (by cases h), fun _ _ _ _ r h => (by cases h)⟩
  | k + 1 => by
    obtain ⟨Il0, Ij0⟩ := cashbookref01_nat.all k
    refine ⟨?_, ?_⟩
    · intro x0 x3 x4 r h
      rw [cashbookref01_nat.l0] at h
      rw [atL_some]
      by_cases h1 : x4 < (x0.length : Int)
      · rw [if_pos h1] at h
        obtain ⟨h2, h⟩ := ifn h
        obtain ⟨h3, h⟩ := ifn h
        have h3r := fun (q : 0 ≤ x4) => rd_at (l := x0) (i := x4) 0 q h3
        replace h3r := h3r (by omega)
        by_cases h4 : (wrap64 (x4 + 1)) < (x0.length : Int)
        · rw [if_pos h4] at h
          obtain ⟨h5, h⟩ := ifn h
          obtain ⟨h6, h⟩ := ifn h
          have h6r := fun (q : 0 ≤ (wrap64 (x4 + 1))) => rd_at (l := x0) (i := (wrap64 (x4 + 1))) 0 q h6
          replace h6r := h6r (by omega)
          simp only [↓Bp, ↓Bs, Bo, Bh, Ba, Bc, ↓reduceIte, Nat.reduceAdd, Nat.reduceEqDiff, Nat.reduceLT, Nat.reduceLeDiff, Nat.reduceBEq, Nat.reduceMul, Int.reduceLE, Int.reduceLT, Int.reduceEq, Int.reduceToNat, Int.cast_ofNat_Int, reduceCtorEq, G59, Tf, b59, ↓Tryd.f59, F59, TY, H59, h1, h2, h3, h3r, h4, h5, h6, h6r, cashbookref01_nat.l0S]
          refine AtJ.eq (Ij0 _ _ _ _ _ h) ?_
          simp only [Tf, Int.reduceToNat, Int.toNat_natCast, cashbookref01_nat.j0S]
        · rw [if_neg h4] at h
          simp only [↓Bp, ↓Bs, Bo, Bh, Ba, Bc, ↓reduceIte, Nat.reduceAdd, Nat.reduceEqDiff, Nat.reduceLT, Nat.reduceLeDiff, Nat.reduceBEq, Nat.reduceMul, Int.reduceLE, Int.reduceLT, Int.reduceEq, Int.reduceToNat, Int.cast_ofNat_Int, reduceCtorEq, G59, Tf, b59, ↓Tryd.f59, F59, TY, H59, h1, h2, h3, h3r, h4, cashbookref01_nat.l0S]
          refine AtJ.eq (Ij0 _ _ _ _ _ h) ?_
          simp only [Tf, Int.reduceToNat, Int.toNat_natCast, cashbookref01_nat.j0S]
      · rw [if_neg h1] at h
        obtain rfl := Option.some.inj h
        simp only [↓Bp, ↓Bs, Bo, Bh, Ba, Bc, ↓reduceIte, Nat.reduceAdd, Nat.reduceEqDiff, Nat.reduceLT, Nat.reduceLeDiff, Nat.reduceBEq, Nat.reduceMul, Int.reduceLE, Int.reduceLT, Int.reduceEq, Int.reduceToNat, Int.cast_ofNat_Int, reduceCtorEq, G59, Tf, b59, ↓Tryd.f59, F59, TY, H59, h1, cashbookref01_nat.l0S]
    · intro x0 x3 x4 x5 r h
      rw [cashbookref01_nat.j0] at h
      rw [atJ_some]
      obtain ⟨h7, h⟩ := ifn h
      simp only [↓Bp, ↓Bs, Bo, Bh, Ba, Bc, ↓reduceIte, Nat.reduceAdd, Nat.reduceEqDiff, Nat.reduceLT, Nat.reduceLeDiff, Nat.reduceBEq, Nat.reduceMul, Int.reduceLE, Int.reduceLT, Int.reduceEq, Int.reduceToNat, Int.cast_ofNat_Int, reduceCtorEq, G59, Tf, b59, ↓Tryd.f59, F59, TY, H59, h7, cashbookref01_nat.j0S]
      refine AtL.eq (Il0 _ _ _ _ h) ?_
      simp only [Tf, Int.reduceToNat, Int.toNat_natCast, cashbookref01_nat.l0S]
theorem cashbookref01_nat.ok (k : Nat) (x0 : List Int) (r : List Int) (h : cashbookref01_nat.f k x0 = some r) : Ret C1 59 [(false, [.sl 1 (x0.map e3)])] [aV [.sl 1 (r.map e78)]] := by
  refine ret_of (c := b59) Tryd.func59 rfl rfl ⟨Nat.le_of_ble_eq_true rfl, Nat.le_of_ble_eq_true rfl⟩ ?_
  unfold cashbookref01_nat.f at h
  rw [show Tryd.f59.results.toList = [.tmp 2] from rfl]
  rw [show Tryd.f59.ntmps = 35 from rfl]
  obtain ⟨Il0, Ij0⟩ := cashbookref01_nat.all k
  simp only [↓Bp, ↓Bs, Bo, Bh, Ba, Bc, ↓reduceIte, Nat.reduceAdd, Nat.reduceEqDiff, Nat.reduceLT, Nat.reduceLeDiff, Nat.reduceBEq, Nat.reduceMul, Int.reduceLE, Int.reduceLT, Int.reduceEq, Int.reduceToNat, Int.cast_ofNat_Int, reduceCtorEq, G59, Tf, b59, ↓Tryd.f59, F59, TY, H59]
  refine AtL.eq (Il0 _ _ _ _ h) ?_
  simp only [Tf, Int.reduceToNat, Int.toNat_natCast, cashbookref01_nat.l0S]
def cashbookref01_Of.f (k : Nat) (x0 : Int) : Option (List Int) := ((cashbookref01_trim.f k [(wrap64 ((Int.tmod x0 65536))), (wrap64 ((Int.tmod (IntKind.u64.wrap (Int.tdiv x0 65536)) 65536))), (wrap64 ((Int.tmod (IntKind.u64.wrap (Int.tdiv x0 4294967296)) 65536))), (wrap64 ((IntKind.u64.wrap (Int.tdiv x0 281474976710656))))]).bind fun t1 => ((cashbookref01_nat.f k t1).bind fun t2 => (some t2)))
theorem cashbookref01_Of.mono (k : Nat) (x0 : Int) : LeO (cashbookref01_Of.f k x0) (cashbookref01_Of.f (k + 1) x0) := leo_bind (cashbookref01_trim.mono k _) (fun _ => leo_bind (cashbookref01_nat.mono k _) (fun _ => leo_refl))
noncomputable def b41 : Code := bodyOf Tryd.f41
def F41 : Fr := ⟨0, 20, 1, [], 41⟩
theorem cashbookref01_Of.ok (k : Nat) (x0 : Int) (r : List Int) (h : cashbookref01_Of.f k x0 = some r) : Ret C1 41 [(false, [.sc (.int .u64 x0)])] [aV [.sl 1 (r.map e78)]] := by
  refine ret_of (c := b41) Tryd.func41 rfl rfl ⟨Nat.le_of_ble_eq_true rfl, Nat.le_of_ble_eq_true rfl⟩ ?_
  unfold cashbookref01_Of.f at h
  rw [show Tryd.f41.results.toList = [.tmp 2] from rfl]
  rw [show Tryd.f41.ntmps = 20 from rfl]
  obtain ⟨t1, h1, h⟩ := bnd h
  have h1c := ((cashbookref01_trim.ok _ _ _ h1))
  try simp only [Tf, List.nil_append, List.cons_append, Int.reduceToNat] at h1c
  obtain ⟨t2, h2, h⟩ := bnd h
  have h2c := ((cashbookref01_nat.ok _ _ _ h2))
  try simp only [Tf, List.nil_append, List.cons_append, Int.reduceToNat] at h2c
  obtain rfl := Option.some.inj h
  simp only [↓Bp, ↓Bs, Bo, Bh, Ba, Bc, ↓reduceIte, Nat.reduceAdd, Nat.reduceEqDiff, Nat.reduceLT, Nat.reduceLeDiff, Nat.reduceBEq, Nat.reduceMul, Int.reduceLE, Int.reduceLT, Int.reduceEq, Int.reduceToNat, Int.cast_ofNat_Int, reduceCtorEq, G41, Tf, b41, ↓Tryd.f41, F41, TY, H41, callP_eq h1c, callP_eq h2c]
def cashbookref05_Of.l0 : Nat → Int → Int → Int → Int → S31 → Option S31
  | 0, _, _, _, _, _ => none
  | k + 1, x0, x1, x5, x6, y4 => (if 0 < x6 then (if x6 = 0 then none else (cashbookref05_Of.l0 k x0 x1 x6 (Int.tmod x5 x6) y4)) else (if x5 = 0 then none else ((cashbookref01_Of.f k (IntKind.u64.wrap ((wrap64 (Int.tdiv x0 x5))))).bind fun t4 => (if x5 = 0 then none else ((cashbookref01_Of.f k (IntKind.u64.wrap ((wrap64 (Int.tdiv x1 x5))))).bind fun t6 => (some (⟨false, t4, t6⟩ : S31)))))))
def cashbookref05_Of.f (k : Nat) (x0 : Int) (x1 : Int) : Option S31 := (cashbookref05_Of.l0 k x0 x1 x0 x1 (⟨false, ([] : List Int), ([] : List Int)⟩ : S31))
theorem cashbookref05_Of.monos : ∀ k, (∀ x0 x1 x5 x6 y4, LeO (cashbookref05_Of.l0 k x0 x1 x5 x6 y4) (cashbookref05_Of.l0 (k + 1) x0 x1 x5 x6 y4))
  | 0 => fun _ _ _ _ _ => leo_none
  | k + 1 => by
    have I := cashbookref05_Of.monos k
    · intro x0 x1 x5 x6 y4
      rw [cashbookref05_Of.l0, cashbookref05_Of.l0]
      exact leo_ite (leo_ifz (I _ _ _ _ _)) (leo_ifz (leo_bind (cashbookref01_Of.mono k _) (fun _ => leo_ifz (leo_bind (cashbookref01_Of.mono k _) (fun _ => leo_refl)))))
theorem cashbookref05_Of.mono (k : Nat) (x0 : Int) (x1 : Int) : LeO (cashbookref05_Of.f k x0 x1) (cashbookref05_Of.f (k + 1) x0 x1) := (cashbookref05_Of.monos k) _ _ _ _ _
noncomputable def b19 : Code := bodyOf Tryd.f19
def F19 : Fr := ⟨0, 28, 1, [], 19⟩
theorem D19_7 {k : List It} {s : St} {Q : Post} {ops : Array Oper} {us : List Upd} (ha : apart2 [(0, 1), (0, 5), (1, 5), (2, 5), (3, 5), (4, 5), (0, 6), (1, 6), (2, 6), (3, 6), (4, 6), (5, 6), (0, 7), (1, 7), (2, 7), (3, 7), (4, 7), (0, 8), (1, 8), (2, 8), (3, 8), (4, 8)] (loud 0 us.reverse) = true) (hl : lessAll us.length [(0, 1), (0, 5), (1, 5), (2, 5), (3, 5), (4, 5), (0, 6), (1, 6), (2, 6), (3, 6), (4, 6), (5, 6), (0, 7), (1, 7), (2, 7), (3, 7), (4, 7), (0, 8), (1, 8), (2, 8), (3, 8), (4, 8)] = true) : GR C1 ⟨0, 28, 1, [], 19⟩ k Q 7 true ops [] s us = Fin C1 ⟨0, 28, 1, [], 19⟩ k .fall s Q := gr_nilD (F := F19) rfl ha hl
def cashbookref05_Of.l0S (x0 : Int) (x1 : Int) (x5 : Int) (x6 : Int) (y4 : S31) : St := ⟨upd (upd (upd (upd (upd (fun _ => .no) 6 (.one (.p none (pI .i64 x6)))) 5 (.one (.p none (pI .i64 x5)))) 4 (.one (.pt 4 0))) 1 (.one (.p none (pI .i64 x1)))) 0 (.one (.p none (pI .i64 x0))), upd noOb 4 (some (.var [.p none (pB y4.f0), .p (some 7) (.sl 1 (y4.f1.map e78)), .p (some 8) (.sl 1 (y4.f2.map e78))])), rtP 9, 9⟩
theorem cashbookref05_Of.all : ∀ k, (∀ x0 x1 x5 x6 y4 r, cashbookref05_Of.l0 k x0 x1 x5 x6 y4 = some r → AtL C1 F19 (sub [1, 1, 1, 0, 0, 0] b19) [.blk 0, .code (sub [1, 1, 1, 1] b19)] (some (cashbookref05_Of.l0S x0 x1 x5 x6 y4)) (RetQ C1 [.cell 4 31] [aA [pB r.f0, .sl 1 (r.f1.map e78), .sl 1 (r.f2.map e78)]]))
  | 0 => fun _ _ _ _ _ r h => (by cases h)
  | k + 1 => by
    have Il0 := cashbookref05_Of.all k
    · intro x0 x1 x5 x6 y4 r h
      rw [cashbookref05_Of.l0] at h
      rw [atL_some]
      by_cases h1 : 0 < x6
      · rw [if_pos h1] at h
        obtain ⟨h2, h⟩ := ifz h
        simp only [↓Bp, ↓Bs, Bo, Bh, Ba, Bc, Bd, ↓reduceIte, Nat.reduceAdd, Nat.reduceEqDiff, Nat.reduceLT, Nat.reduceLeDiff, Nat.reduceBEq, Nat.reduceMul, Int.reduceLE, Int.reduceLT, Int.reduceEq, Int.reduceToNat, Int.cast_ofNat_Int, reduceCtorEq, G19, Tf, b19, ↓Tryd.f19, F19, TY, H19, D19_7, h1, h2, cashbookref05_Of.l0S]
        refine AtL.eq (Il0 _ _ _ _ _ _ h) ?_
        simp only [Tf, Int.reduceToNat, Int.toNat_natCast, cashbookref05_Of.l0S]
      · rw [if_neg h1] at h
        obtain ⟨h3, h⟩ := ifz h
        obtain ⟨t4, h4, h⟩ := bnd h
        have h4c := ((cashbookref01_Of.ok _ _ _ h4))
        try simp only [Tf, List.nil_append, List.cons_append, Int.reduceToNat] at h4c
        obtain ⟨h5, h⟩ := ifz h
        obtain ⟨t6, h6, h⟩ := bnd h
        have h6c := ((cashbookref01_Of.ok _ _ _ h6))
        try simp only [Tf, List.nil_append, List.cons_append, Int.reduceToNat] at h6c
        obtain rfl := Option.some.inj h
        simp only [↓Bp, ↓Bs, Bo, Bh, Ba, Bc, Bd, ↓reduceIte, Nat.reduceAdd, Nat.reduceEqDiff, Nat.reduceLT, Nat.reduceLeDiff, Nat.reduceBEq, Nat.reduceMul, Int.reduceLE, Int.reduceLT, Int.reduceEq, Int.reduceToNat, Int.cast_ofNat_Int, reduceCtorEq, G19, Tf, b19, ↓Tryd.f19, F19, TY, H19, D19_7, h1, h3, callP_eq h4c, h5, callP_eq h6c, cashbookref05_Of.l0S]
theorem cashbookref05_Of.ok (k : Nat) (x0 : Int) (x1 : Int) (r : S31) (h : cashbookref05_Of.f k x0 x1 = some r) : Ret C1 19 [(false, [.sc (.int .i64 x0)]), (false, [.sc (.int .i64 x1)])] [aA [pB r.f0, .sl 1 (r.f1.map e78), .sl 1 (r.f2.map e78)]] := by
  refine ret_of (c := b19) Tryd.func19 rfl rfl ⟨Nat.le_of_ble_eq_true rfl, Nat.le_of_ble_eq_true rfl⟩ ?_
  unfold cashbookref05_Of.f at h
  rw [show Tryd.f19.results.toList = [.cell 4 31] from rfl]
  rw [show Tryd.f19.ntmps = 28 from rfl]
  have Il0 := cashbookref05_Of.all k
  simp only [↓Bp, ↓Bs, Bo, Bh, Ba, Bc, Bd, ↓reduceIte, Nat.reduceAdd, Nat.reduceEqDiff, Nat.reduceLT, Nat.reduceLeDiff, Nat.reduceBEq, Nat.reduceMul, Int.reduceLE, Int.reduceLT, Int.reduceEq, Int.reduceToNat, Int.cast_ofNat_Int, reduceCtorEq, G19, Tf, b19, ↓Tryd.f19, F19, TY, H19, D19_7]
  refine AtL.eq (Il0 _ _ _ _ _ _ h) ?_
  simp only [Tf, Int.reduceToNat, Int.toNat_natCast, cashbookref05_Of.l0S]
mutual
def cashbookref04_Of.l0 : Nat → Int → Int → Int → Int → Option Int
  | 0, _, _, _, _ => none
  | k + 1, x0, x1, x7, x8 => (if x8 < x1 then ((cashbookref04_Days.f k x0 x8).bind fun t2 => (cashbookref04_Of.l0 k x0 x1 (wrap64 (x7 + t2)) (wrap64 (x8 + 1)))) else (cashbookref04_Of.l1 k x0 x7 2000))
def cashbookref04_Of.l1 : Nat → Int → Int → Int → Option Int
  | 0, _, _, _ => none
  | k + 1, x0, x7, x9 => (if x9 < x0 then ((cashbookref04_year.f x9).bind fun t4 => (cashbookref04_Of.l1 k x0 (wrap64 (x7 + t4)) (wrap64 (x9 + 1)))) else (cashbookref04_Of.l2 k x7 x0))
def cashbookref04_Of.l2 : Nat → Int → Int → Option Int
  | 0, _, _ => none
  | k + 1, x7, x10 => (if x10 < 2000 then ((cashbookref04_year.f x10).bind fun t6 => (cashbookref04_Of.l2 k (wrap64 (x7 - t6)) (wrap64 (x10 + 1)))) else (some x7))
end
def cashbookref04_Of.f (k : Nat) (x0 : Int) (x1 : Int) (x2 : Int) : Option Int := (cashbookref04_Of.l0 k x0 x1 (wrap64 (x2 - 1)) 1)
mutual
def cashbookref05_Part.l0 : Nat → Int → Int → Int → Int → Int → S56 → S31 → Option (S31 × Int)
  | 0, _, _, _, _, _, _, _ => none
  | k + 1, x1, x2, x10, x11, x14, y13, y6 => (if x14 ≤ y13.f0 then ((cashbookref04_Of.f k x14 1 1).bind fun t10 => ((cashbookref04_Of.f k (wrap64 (x14 + 1)) 1 1).bind fun t11 => ((cashbookref04_Long.f x14).bind fun t12 => (if t12 = true then (cashbookref05_Part.j0 k x1 x2 x10 (wrap64 ((wrap64 (x11 + (min (wrap64 (x2)) t11))) - (max (wrap64 (x1)) t10))) x14 y13 y6) else (cashbookref05_Part.j0 k x1 x2 (wrap64 ((wrap64 (x10 + (min (wrap64 (x2)) t11))) - (max (wrap64 (x1)) t10))) x11 x14 y13 y6))))) else ((cashbookref05_Of.f k (wrap64 ((wrap64 (366 * x10)) + (wrap64 (365 * x11)))) 133590).bind fun t14 => (some (t14, 0))))
def cashbookref05_Part.j0 : Nat → Int → Int → Int → Int → Int → S56 → S31 → Option (S31 × Int)
  | 0, _, _, _, _, _, _, _ => none
  | k + 1, x1, x2, x10, x11, x14, y13, y6 => (cashbookref05_Part.l0 k x1 x2 x10 x11 (wrap64 (x14 + 1)) y13 y6)
end
def cashbookref05_Part.f (k : Nat) (x0 : Int) (x1 : Int) (x2 : Int) : Option (S31 × Int) := ((cashbookref05_Days.f k x0 x1 x2).bind fun t1 => (if t1.2 = 0 then (if x0 = 0 then ((cashbookref05_Of.f k t1.1 365).bind fun t4 => (some (t4, 0))) else (if x0 < 3 then ((cashbookref05_Of.f k t1.1 360).bind fun t6 => (some (t6, 0))) else ((cashbookref04_Parts.f k x1).bind fun t7 => ((cashbookref04_Parts.f k x2).bind fun t8 => (cashbookref05_Part.l0 k x1 x2 0 0 t7.f0 t8 (⟨false, ([] : List Int), ([] : List Int)⟩ : S31)))))) else (some ((⟨false, ([] : List Int), ([] : List Int)⟩ : S31), t1.2))))
def cashbookref01_Same.l0 : Nat → List Int → List Int → Int → Option Bool
  | 0, _, _, _ => none
  | k + 1, x0, x1, x5 => (if x5 < (x0.length : Int) then (if 0 ≤ x5 then (if x5 < (x0.length : Int) then (if x5 < (x1.length : Int) then (if (x0.getD ((x5 : Int).toNat) 0) = (x1.getD ((x5 : Int).toNat) 0) then (cashbookref01_Same.l0 k x0 x1 (wrap64 (x5 + 1))) else (some false)) else none) else none) else none) else (some true))
def cashbookref01_Same.f (k : Nat) (x0 : List Int) (x1 : List Int) : Option Bool := (if (x0.length : Int) = (x1.length : Int) then (cashbookref01_Same.l0 k x0 x1 0) else (some false))
theorem cashbookref01_Same.monos : ∀ k, (∀ x0 x1 x5, LeO (cashbookref01_Same.l0 k x0 x1 x5) (cashbookref01_Same.l0 (k + 1) x0 x1 x5))
  | 0 => fun _ _ _ => leo_none
  | k + 1 => by
    have I := cashbookref01_Same.monos k
    · intro x0 x1 x5
      rw [cashbookref01_Same.l0, cashbookref01_Same.l0]
      exact leo_ite (leo_if (leo_if (leo_if (leo_ite (I _ _ _) (leo_refl))))) (leo_refl)
theorem cashbookref01_Same.mono (k : Nat) (x0 : List Int) (x1 : List Int) : LeO (cashbookref01_Same.f k x0 x1) (cashbookref01_Same.f (k + 1) x0 x1) := leo_ite ((cashbookref01_Same.monos k) _ _ _) (leo_refl)
noncomputable def b31 : Code := bodyOf Tryd.f31
def F31 : Fr := ⟨0, 26, 1, [], 31⟩
theorem D31_6 {k : List It} {s : St} {Q : Post} {ops : Array Oper} {us : List Upd} (ha : apart2 [(0, 1), (0, 4), (1, 4), (2, 4), (3, 4), (0, 5), (1, 5), (2, 5), (3, 5), (4, 5), (0, 6), (1, 6), (2, 6), (3, 6), (0, 7), (1, 7), (2, 7), (3, 7)] (loud 0 us.reverse) = true) (hl : lessAll us.length [(0, 1), (0, 4), (1, 4), (2, 4), (3, 4), (0, 5), (1, 5), (2, 5), (3, 5), (4, 5), (0, 6), (1, 6), (2, 6), (3, 6), (0, 7), (1, 7), (2, 7), (3, 7)] = true) : GR C1 ⟨0, 26, 1, [], 31⟩ k Q 6 true ops [] s us = Fin C1 ⟨0, 26, 1, [], 31⟩ k .fall s Q := gr_nilD (F := F31) rfl ha hl
def cashbookref01_Same.l0S (x0 : List Int) (x1 : List Int) (x5 : Int) : St := ⟨upd (upd (upd (fun _ => .no) 5 (.one (.p none (pI .i64 x5)))) 1 (.one (.p none (.sl 1 (x1.map e78))))) 0 (.one (.p none (.sl 1 (x0.map e78)))), noOb, rtP 4, 4⟩
theorem cashbookref01_Same.all : ∀ k, (∀ x0 x1 x5 r, cashbookref01_Same.l0 k x0 x1 x5 = some r → AtL C1 F31 (sub [1, 1, 0, 1, 0, 0] b31) [.blk 0, .code (sub [1, 1, 1] b31)] (some (cashbookref01_Same.l0S x0 x1 x5)) (RetQ C1 [.tmp 4] [aV [pB r]]))
  | 0 => fun _ _ _ r h => (by cases h)
  | k + 1 => by
    have Il0 := cashbookref01_Same.all k
    · intro x0 x1 x5 r h
      rw [cashbookref01_Same.l0] at h
      rw [atL_some]
      by_cases h2 : x5 < (x0.length : Int)
      · rw [if_pos h2] at h
        obtain ⟨h3, h⟩ := ifn h
        obtain ⟨h4, h⟩ := ifn h
        have h4r := fun (q : 0 ≤ x5) => rd_at (l := x0) (i := x5) 0 q h4
        replace h4r := h4r (by omega)
        obtain ⟨h5, h⟩ := ifn h
        have h5r := fun (q : 0 ≤ x5) => rd_at (l := x1) (i := x5) 0 q h5
        replace h5r := h5r (by omega)
        by_cases h6 : (x0.getD ((x5 : Int).toNat) 0) = (x1.getD ((x5 : Int).toNat) 0)
        · rw [if_pos h6] at h
          simp only [↓Bp, ↓Bs, Bo, Bh, Ba, Bc, Bd, ↓reduceIte, Nat.reduceAdd, Nat.reduceEqDiff, Nat.reduceLT, Nat.reduceLeDiff, Nat.reduceBEq, Nat.reduceMul, Int.reduceLE, Int.reduceLT, Int.reduceEq, Int.reduceToNat, Int.cast_ofNat_Int, reduceCtorEq, G31, Tf, b31, ↓Tryd.f31, F31, TY, H31, D31_6, h2, h3, h4, h4r, h5, h5r, eq_true h6, cashbookref01_Same.l0S]
          refine AtL.eq (Il0 _ _ _ _ h) ?_
          simp only [Tf, Int.reduceToNat, Int.toNat_natCast, cashbookref01_Same.l0S]
        · rw [if_neg h6] at h
          obtain rfl := Option.some.inj h
          simp only [↓Bp, ↓Bs, Bo, Bh, Ba, Bc, Bd, ↓reduceIte, Nat.reduceAdd, Nat.reduceEqDiff, Nat.reduceLT, Nat.reduceLeDiff, Nat.reduceBEq, Nat.reduceMul, Int.reduceLE, Int.reduceLT, Int.reduceEq, Int.reduceToNat, Int.cast_ofNat_Int, reduceCtorEq, G31, Tf, b31, ↓Tryd.f31, F31, TY, H31, D31_6, h2, h3, h4, h4r, h5, h5r, h6, cashbookref01_Same.l0S]
      · rw [if_neg h2] at h
        obtain rfl := Option.some.inj h
        simp only [↓Bp, ↓Bs, Bo, Bh, Ba, Bc, Bd, ↓reduceIte, Nat.reduceAdd, Nat.reduceEqDiff, Nat.reduceLT, Nat.reduceLeDiff, Nat.reduceBEq, Nat.reduceMul, Int.reduceLE, Int.reduceLT, Int.reduceEq, Int.reduceToNat, Int.cast_ofNat_Int, reduceCtorEq, G31, Tf, b31, ↓Tryd.f31, F31, TY, H31, D31_6, h2, cashbookref01_Same.l0S]
theorem cashbookref01_Same.ok (k : Nat) (x0 : List Int) (x1 : List Int) (r : Bool) (h : cashbookref01_Same.f k x0 x1 = some r) : Ret C1 31 [(false, [.sl 1 (x0.map e78)]), (false, [.sl 1 (x1.map e78)])] [aV [pB r]] := by
  refine ret_of (c := b31) Tryd.func31 rfl rfl ⟨Nat.le_of_ble_eq_true rfl, Nat.le_of_ble_eq_true rfl⟩ ?_
  unfold cashbookref01_Same.f at h
  rw [show Tryd.f31.results.toList = [.tmp 4] from rfl]
  rw [show Tryd.f31.ntmps = 26 from rfl]
  have Il0 := cashbookref01_Same.all k
  by_cases h1 : (x0.length : Int) = (x1.length : Int)
  · rw [if_pos h1] at h
    simp only [↓Bp, ↓Bs, Bo, Bh, Ba, Bc, Bd, ↓reduceIte, Nat.reduceAdd, Nat.reduceEqDiff, Nat.reduceLT, Nat.reduceLeDiff, Nat.reduceBEq, Nat.reduceMul, Int.reduceLE, Int.reduceLT, Int.reduceEq, Int.reduceToNat, Int.cast_ofNat_Int, reduceCtorEq, G31, Tf, b31, ↓Tryd.f31, F31, TY, H31, D31_6, eq_true h1]
    refine AtL.eq (Il0 _ _ _ _ h) ?_
    simp only [Tf, Int.reduceToNat, Int.toNat_natCast, cashbookref01_Same.l0S]
  · rw [if_neg h1] at h
    obtain rfl := Option.some.inj h
    simp only [↓Bp, ↓Bs, Bo, Bh, Ba, Bc, Bd, ↓reduceIte, Nat.reduceAdd, Nat.reduceEqDiff, Nat.reduceLT, Nat.reduceLeDiff, Nat.reduceBEq, Nat.reduceMul, Int.reduceLE, Int.reduceLT, Int.reduceEq, Int.reduceToNat, Int.cast_ofNat_Int, reduceCtorEq, G31, Tf, b31, ↓Tryd.f31, F31, TY, H31, D31_6, h1]
def cashbookref05_Same.f (k : Nat) (x0 : S31) (x1 : S31) : Option Bool := ((cashbookref01_Same.f k x0.f1 x1.f1).bind fun t1 => ((cashbookref01_Same.f k x0.f2 x1.f2).bind fun t2 => (if t1 = true then (if t2 = true then (some (x0.f0 == x1.f0)) else (some false)) else (some false))))
theorem cashbookref05_Same.mono (k : Nat) (x0 : S31) (x1 : S31) : LeO (cashbookref05_Same.f k x0 x1) (cashbookref05_Same.f (k + 1) x0 x1) := leo_bind (cashbookref01_Same.mono k _ _) (fun _ => leo_bind (cashbookref01_Same.mono k _ _) (fun _ => leo_ite (leo_ite (leo_refl) (leo_refl)) (leo_refl)))
noncomputable def b12 : Code := bodyOf Tryd.f12
def F12 : Fr := ⟨0, 28, 1, [], 12⟩
theorem cashbookref05_Same.ok (k : Nat) (x0 : S31) (x1 : S31) (r : Bool) (h : cashbookref05_Same.f k x0 x1 = some r) : Ret C1 12 [(true, [.sc (.bool x0.f0), .sl 1 (x0.f1.map e78), .sl 1 (x0.f2.map e78)]), (true, [.sc (.bool x1.f0), .sl 1 (x1.f1.map e78), .sl 1 (x1.f2.map e78)])] [aV [pB r]] := by
  refine ret_of (c := b12) Tryd.func12 rfl rfl ⟨Nat.le_of_ble_eq_true rfl, Nat.le_of_ble_eq_true rfl⟩ ?_
  unfold cashbookref05_Same.f at h
  rw [show Tryd.f12.results.toList = [.tmp 4] from rfl]
  rw [show Tryd.f12.ntmps = 28 from rfl]
  obtain ⟨t1, h1, h⟩ := bnd h
  have h1c := ((cashbookref01_Same.ok _ _ _ _ h1))
  try simp only [Tf, List.nil_append, List.cons_append, Int.reduceToNat] at h1c
  obtain ⟨t2, h2, h⟩ := bnd h
  have h2c := ((cashbookref01_Same.ok _ _ _ _ h2))
  try simp only [Tf, List.nil_append, List.cons_append, Int.reduceToNat] at h2c
  by_cases h3 : t1 = true
  · rw [if_pos h3] at h
    try simp only [h3] at h1c
    try simp only [h3] at h2c
    by_cases h4 : t2 = true
    · rw [if_pos h4] at h
      try simp only [h4] at h1c
      try simp only [h4] at h2c
      obtain rfl := Option.some.inj h
      simp only [↓Bp, ↓Bs, Bo, Bh, Ba, Bc, ↓reduceIte, Nat.reduceAdd, Nat.reduceEqDiff, Nat.reduceLT, Nat.reduceLeDiff, Nat.reduceBEq, Nat.reduceMul, Int.reduceLE, Int.reduceLT, Int.reduceEq, Int.reduceToNat, Int.cast_ofNat_Int, reduceCtorEq, G12, Tf, b12, ↓Tryd.f12, F12, TY, H12, callP_eq h1c, callP_eq h2c, h3, h4]
    · rw [if_neg h4] at h
      try simp only [h4] at h1c
      try simp only [h4] at h2c
      obtain rfl := Option.some.inj h
      simp only [↓Bp, ↓Bs, Bo, Bh, Ba, Bc, ↓reduceIte, Nat.reduceAdd, Nat.reduceEqDiff, Nat.reduceLT, Nat.reduceLeDiff, Nat.reduceBEq, Nat.reduceMul, Int.reduceLE, Int.reduceLT, Int.reduceEq, Int.reduceToNat, Int.cast_ofNat_Int, reduceCtorEq, G12, Tf, b12, ↓Tryd.f12, F12, TY, H12, callP_eq h1c, callP_eq h2c, h3, h4]
  · rw [if_neg h3] at h
    try simp only [h3] at h1c
    try simp only [h3] at h2c
    obtain rfl := Option.some.inj h
    simp only [↓Bp, ↓Bs, Bo, Bh, Ba, Bc, ↓reduceIte, Nat.reduceAdd, Nat.reduceEqDiff, Nat.reduceLT, Nat.reduceLeDiff, Nat.reduceBEq, Nat.reduceMul, Int.reduceLE, Int.reduceLT, Int.reduceEq, Int.reduceToNat, Int.cast_ofNat_Int, reduceCtorEq, G12, Tf, b12, ↓Tryd.f12, F12, TY, H12, callP_eq h1c, callP_eq h2c, h3]
def daycount_Name.f (x0 : Int) : Option ByteArray := ((daycount_Right.f x0).bind fun t1 => (if t1 = true then (if 0 ≤ x0 then (if x0 < 4 then (some (gt0.getD ((x0 : Int).toNat) ByteArray.empty)) else none) else none) else (some ByteArray.empty)))
noncomputable def b14 : Code := bodyOf Tryd.f14
def F14 : Fr := ⟨0, 9, 1, [], 14⟩
theorem daycount_Name.ok (x0 : Int) (r : ByteArray) (h : daycount_Name.f x0 = some r) : Ret C1 14 [(false, [.sc (.int .i64 x0)])] [aV [pS r]] := by
  refine ret_of (c := b14) Tryd.func14 rfl rfl ⟨Nat.le_of_ble_eq_true rfl, Nat.le_of_ble_eq_true rfl⟩ ?_
  unfold daycount_Name.f at h
  rw [show Tryd.f14.results.toList = [.tmp 2] from rfl]
  rw [show Tryd.f14.ntmps = 9 from rfl]
  obtain ⟨t1, h1, h⟩ := bnd h
  have h1c := ((daycount_Right.ok _ _ h1))
  try simp only [Tf, List.nil_append, List.cons_append, Int.reduceToNat] at h1c
  by_cases h2 : t1 = true
  · rw [if_pos h2] at h
    try simp only [h2] at h1c
    obtain ⟨h3, h⟩ := ifn h
    obtain ⟨h4, h⟩ := ifn h
    have h4t := nat_lt (i := x0) (n := 4) (by omega) h4
    have h4g := get_of (l := gt0) ByteArray.empty h4t
    try simp only [Int.reduceToNat] at h4g
    obtain rfl := Option.some.inj h
    simp only [↓Bp, ↓Bs, Bo, Bh, Ba, Bc, ↓reduceIte, Nat.reduceAdd, Nat.reduceEqDiff, Nat.reduceLT, Nat.reduceLeDiff, Nat.reduceBEq, Nat.reduceMul, Int.reduceLE, Int.reduceLT, Int.reduceEq, Int.reduceToNat, Int.cast_ofNat_Int, reduceCtorEq, G14, Tf, b14, ↓Tryd.f14, F14, TY, H14, GL, callP_eq h1c, h2, h3, h4, h4g]
  · rw [if_neg h2] at h
    try simp only [h2] at h1c
    obtain rfl := Option.some.inj h
    simp only [↓Bp, ↓Bs, Bo, Bh, Ba, Bc, ↓reduceIte, Nat.reduceAdd, Nat.reduceEqDiff, Nat.reduceLT, Nat.reduceLeDiff, Nat.reduceBEq, Nat.reduceMul, Int.reduceLE, Int.reduceLT, Int.reduceEq, Int.reduceToNat, Int.cast_ofNat_Int, reduceCtorEq, G14, Tf, b14, ↓Tryd.f14, F14, TY, H14, GL, callP_eq h1c, h2]
def nat_Right.f (x0 : List Int) : Option Bool := (if (x0.length : Int) ≤ 256 then (if (x0.length : Int) = 0 then (some true) else (if 0 ≤ (wrap64 ((x0.length : Int) - 1)) then (if (wrap64 ((x0.length : Int) - 1)) < (x0.length : Int) then (some (!(decide ((x0.getD (((wrap64 ((x0.length : Int) - 1)) : Int).toNat) 0) = 0)))) else none) else none)) else (some false))
noncomputable def b51 : Code := bodyOf Tryd.f51
def F51 : Fr := ⟨0, 20, 1, [], 51⟩
theorem nat_Right.ok (x0 : List Int) (r : Bool) (h : nat_Right.f x0 = some r) : Ret C1 51 [(false, [.sl 1 (x0.map e78)])] [aV [pB r]] := by
  refine ret_of (c := b51) Tryd.func51 rfl rfl ⟨Nat.le_of_ble_eq_true rfl, Nat.le_of_ble_eq_true rfl⟩ ?_
  unfold nat_Right.f at h
  rw [show Tryd.f51.results.toList = [.tmp 2] from rfl]
  rw [show Tryd.f51.ntmps = 20 from rfl]
  by_cases h1 : (x0.length : Int) ≤ 256
  · rw [if_pos h1] at h
    by_cases h2 : (x0.length : Int) = 0
    · rw [if_pos h2] at h
      obtain rfl := Option.some.inj h
      simp only [↓Bp, ↓Bs, Bo, Bh, Ba, Bc, ↓reduceIte, Nat.reduceAdd, Nat.reduceEqDiff, Nat.reduceLT, Nat.reduceLeDiff, Nat.reduceBEq, Nat.reduceMul, Int.reduceLE, Int.reduceLT, Int.reduceEq, Int.reduceToNat, Int.cast_ofNat_Int, reduceCtorEq, G51, Tf, b51, ↓Tryd.f51, F51, TY, H51, h1, eq_true h2]
    · rw [if_neg h2] at h
      obtain ⟨h3, h⟩ := ifn h
      obtain ⟨h4, h⟩ := ifn h
      have h4r := fun (q : 0 ≤ (wrap64 ((x0.length : Int) - 1))) => rd_at (l := x0) (i := (wrap64 ((x0.length : Int) - 1))) 0 q h4
      replace h4r := h4r (by omega)
      obtain rfl := Option.some.inj h
      simp only [↓Bp, ↓Bs, Bo, Bh, Ba, Bc, ↓reduceIte, Nat.reduceAdd, Nat.reduceEqDiff, Nat.reduceLT, Nat.reduceLeDiff, Nat.reduceBEq, Nat.reduceMul, Int.reduceLE, Int.reduceLT, Int.reduceEq, Int.reduceToNat, Int.cast_ofNat_Int, reduceCtorEq, G51, Tf, b51, ↓Tryd.f51, F51, TY, H51, h1, h2, h3, h4, h4r]
  · rw [if_neg h1] at h
    obtain rfl := Option.some.inj h
    simp only [↓Bp, ↓Bs, Bo, Bh, Ba, Bc, ↓reduceIte, Nat.reduceAdd, Nat.reduceEqDiff, Nat.reduceLT, Nat.reduceLeDiff, Nat.reduceBEq, Nat.reduceMul, Int.reduceLE, Int.reduceLT, Int.reduceEq, Int.reduceToNat, Int.cast_ofNat_Int, reduceCtorEq, G51, Tf, b51, ↓Tryd.f51, F51, TY, H51, h1]
def cmp_isNaN_int.f (x0 : Int) : Option Bool := (some (!(decide (x0 = x0))))
noncomputable def b82 : Code := bodyOf Tryd.f82
def F82 : Fr := ⟨0, 6, 1, [], 82⟩
theorem cmp_isNaN_int.ok (x0 : Int) (r : Bool) (h : cmp_isNaN_int.f x0 = some r) : Ret C1 82 [(false, [.sc (.int .i64 x0)])] [aV [pB r]] := by
  refine ret_of (c := b82) Tryd.func82 rfl rfl ⟨Nat.le_of_ble_eq_true rfl, Nat.le_of_ble_eq_true rfl⟩ ?_
  unfold cmp_isNaN_int.f at h
  rw [show Tryd.f82.results.toList = [.tmp 2] from rfl]
  rw [show Tryd.f82.ntmps = 6 from rfl]
  obtain rfl := Option.some.inj h
  simp only [↓Bp, ↓Bs, Bo, Bh, Ba, Bc, ↓reduceIte, Nat.reduceAdd, Nat.reduceEqDiff, Nat.reduceLT, Nat.reduceLeDiff, Nat.reduceBEq, Nat.reduceMul, Int.reduceLE, Int.reduceLT, Int.reduceEq, Int.reduceToNat, Int.cast_ofNat_Int, reduceCtorEq, G82, Tf, b82, ↓Tryd.f82, F82, TY, H82]
def cmp_Compare_int.f (x0 : Int) (x1 : Int) : Option Int := ((cmp_isNaN_int.f x0).bind fun t1 => ((cmp_isNaN_int.f x1).bind fun t2 => (if t1 = true then (if t2 = true then (some 0) else (some (-1))) else (if t2 = true then (some 1) else (if x0 < x1 then (some (-1)) else (if x1 < x0 then (some 1) else (some 0)))))))
noncomputable def b71 : Code := bodyOf Tryd.f71
def F71 : Fr := ⟨0, 20, 1, [], 71⟩
theorem cmp_Compare_int.ok (x0 : Int) (x1 : Int) (r : Int) (h : cmp_Compare_int.f x0 x1 = some r) : Ret C1 71 [(false, [.sc (.int .i64 x0)]), (false, [.sc (.int .i64 x1)])] [aV [pI .i64 r]] := by
  refine ret_of (c := b71) Tryd.func71 rfl rfl ⟨Nat.le_of_ble_eq_true rfl, Nat.le_of_ble_eq_true rfl⟩ ?_
  unfold cmp_Compare_int.f at h
  rw [show Tryd.f71.results.toList = [.tmp 4] from rfl]
  rw [show Tryd.f71.ntmps = 20 from rfl]
  obtain ⟨t1, h1, h⟩ := bnd h
  have h1c := ((cmp_isNaN_int.ok _ _ h1))
  try simp only [Tf, List.nil_append, List.cons_append, Int.reduceToNat] at h1c
  obtain ⟨t2, h2, h⟩ := bnd h
  have h2c := ((cmp_isNaN_int.ok _ _ h2))
  try simp only [Tf, List.nil_append, List.cons_append, Int.reduceToNat] at h2c
  by_cases h3 : t1 = true
  · rw [if_pos h3] at h
    try simp only [h3] at h1c
    try simp only [h3] at h2c
    by_cases h4 : t2 = true
    · rw [if_pos h4] at h
      try simp only [h4] at h1c
      try simp only [h4] at h2c
      obtain rfl := Option.some.inj h
      simp only [↓Bp, ↓Bs, Bo, Bh, Ba, Bc, ↓reduceIte, Nat.reduceAdd, Nat.reduceEqDiff, Nat.reduceLT, Nat.reduceLeDiff, Nat.reduceBEq, Nat.reduceMul, Int.reduceLE, Int.reduceLT, Int.reduceEq, Int.reduceToNat, Int.cast_ofNat_Int, reduceCtorEq, G71, Tf, b71, ↓Tryd.f71, F71, TY, H71, callP_eq h1c, callP_eq h2c, h3, h4]
    · rw [if_neg h4] at h
      try simp only [h4] at h1c
      try simp only [h4] at h2c
      obtain rfl := Option.some.inj h
      simp only [↓Bp, ↓Bs, Bo, Bh, Ba, Bc, ↓reduceIte, Nat.reduceAdd, Nat.reduceEqDiff, Nat.reduceLT, Nat.reduceLeDiff, Nat.reduceBEq, Nat.reduceMul, Int.reduceLE, Int.reduceLT, Int.reduceEq, Int.reduceToNat, Int.cast_ofNat_Int, reduceCtorEq, G71, Tf, b71, ↓Tryd.f71, F71, TY, H71, callP_eq h1c, callP_eq h2c, h3, h4]
  · rw [if_neg h3] at h
    try simp only [h3] at h1c
    try simp only [h3] at h2c
    by_cases h5 : t2 = true
    · rw [if_pos h5] at h
      try simp only [h5] at h1c
      try simp only [h5] at h2c
      obtain rfl := Option.some.inj h
      simp only [↓Bp, ↓Bs, Bo, Bh, Ba, Bc, ↓reduceIte, Nat.reduceAdd, Nat.reduceEqDiff, Nat.reduceLT, Nat.reduceLeDiff, Nat.reduceBEq, Nat.reduceMul, Int.reduceLE, Int.reduceLT, Int.reduceEq, Int.reduceToNat, Int.cast_ofNat_Int, reduceCtorEq, G71, Tf, b71, ↓Tryd.f71, F71, TY, H71, callP_eq h1c, callP_eq h2c, h3, h5]
    · rw [if_neg h5] at h
      try simp only [h5] at h1c
      try simp only [h5] at h2c
      by_cases h6 : x0 < x1
      · rw [if_pos h6] at h
        obtain rfl := Option.some.inj h
        simp only [↓Bp, ↓Bs, Bo, Bh, Ba, Bc, ↓reduceIte, Nat.reduceAdd, Nat.reduceEqDiff, Nat.reduceLT, Nat.reduceLeDiff, Nat.reduceBEq, Nat.reduceMul, Int.reduceLE, Int.reduceLT, Int.reduceEq, Int.reduceToNat, Int.cast_ofNat_Int, reduceCtorEq, G71, Tf, b71, ↓Tryd.f71, F71, TY, H71, callP_eq h1c, callP_eq h2c, h3, h5, h6]
      · rw [if_neg h6] at h
        by_cases h7 : x1 < x0
        · rw [if_pos h7] at h
          obtain rfl := Option.some.inj h
          simp only [↓Bp, ↓Bs, Bo, Bh, Ba, Bc, ↓reduceIte, Nat.reduceAdd, Nat.reduceEqDiff, Nat.reduceLT, Nat.reduceLeDiff, Nat.reduceBEq, Nat.reduceMul, Int.reduceLE, Int.reduceLT, Int.reduceEq, Int.reduceToNat, Int.cast_ofNat_Int, reduceCtorEq, G71, Tf, b71, ↓Tryd.f71, F71, TY, H71, callP_eq h1c, callP_eq h2c, h3, h5, h6, h7]
        · rw [if_neg h7] at h
          obtain rfl := Option.some.inj h
          simp only [↓Bp, ↓Bs, Bo, Bh, Ba, Bc, ↓reduceIte, Nat.reduceAdd, Nat.reduceEqDiff, Nat.reduceLT, Nat.reduceLeDiff, Nat.reduceBEq, Nat.reduceMul, Int.reduceLE, Int.reduceLT, Int.reduceEq, Int.reduceToNat, Int.cast_ofNat_Int, reduceCtorEq, G71, Tf, b71, ↓Tryd.f71, F71, TY, H71, callP_eq h1c, callP_eq h2c, h3, h5, h6, h7]
def cmp_isNaN_uint32.f (x0 : Int) : Option Bool := (some (!(decide (x0 = x0))))
noncomputable def b83 : Code := bodyOf Tryd.f83
def F83 : Fr := ⟨0, 6, 1, [], 83⟩
theorem cmp_isNaN_uint32.ok (x0 : Int) (r : Bool) (h : cmp_isNaN_uint32.f x0 = some r) : Ret C1 83 [(false, [.sc (.int .u32 x0)])] [aV [pB r]] := by
  refine ret_of (c := b83) Tryd.func83 rfl rfl ⟨Nat.le_of_ble_eq_true rfl, Nat.le_of_ble_eq_true rfl⟩ ?_
  unfold cmp_isNaN_uint32.f at h
  rw [show Tryd.f83.results.toList = [.tmp 2] from rfl]
  rw [show Tryd.f83.ntmps = 6 from rfl]
  obtain rfl := Option.some.inj h
  simp only [↓Bp, ↓Bs, Bo, Bh, Ba, Bc, ↓reduceIte, Nat.reduceAdd, Nat.reduceEqDiff, Nat.reduceLT, Nat.reduceLeDiff, Nat.reduceBEq, Nat.reduceMul, Int.reduceLE, Int.reduceLT, Int.reduceEq, Int.reduceToNat, Int.cast_ofNat_Int, reduceCtorEq, G83, Tf, b83, ↓Tryd.f83, F83, TY, H83]
def cmp_Compare_uint32.f (x0 : Int) (x1 : Int) : Option Int := ((cmp_isNaN_uint32.f x0).bind fun t1 => ((cmp_isNaN_uint32.f x1).bind fun t2 => (if t1 = true then (if t2 = true then (some 0) else (some (-1))) else (if t2 = true then (some 1) else (if x0 < x1 then (some (-1)) else (if x1 < x0 then (some 1) else (some 0)))))))
noncomputable def b72 : Code := bodyOf Tryd.f72
def F72 : Fr := ⟨0, 20, 1, [], 72⟩
theorem cmp_Compare_uint32.ok (x0 : Int) (x1 : Int) (r : Int) (h : cmp_Compare_uint32.f x0 x1 = some r) : Ret C1 72 [(false, [.sc (.int .u32 x0)]), (false, [.sc (.int .u32 x1)])] [aV [pI .i64 r]] := by
  refine ret_of (c := b72) Tryd.func72 rfl rfl ⟨Nat.le_of_ble_eq_true rfl, Nat.le_of_ble_eq_true rfl⟩ ?_
  unfold cmp_Compare_uint32.f at h
  rw [show Tryd.f72.results.toList = [.tmp 4] from rfl]
  rw [show Tryd.f72.ntmps = 20 from rfl]
  obtain ⟨t1, h1, h⟩ := bnd h
  have h1c := ((cmp_isNaN_uint32.ok _ _ h1))
  try simp only [Tf, List.nil_append, List.cons_append, Int.reduceToNat] at h1c
  obtain ⟨t2, h2, h⟩ := bnd h
  have h2c := ((cmp_isNaN_uint32.ok _ _ h2))
  try simp only [Tf, List.nil_append, List.cons_append, Int.reduceToNat] at h2c
  by_cases h3 : t1 = true
  · rw [if_pos h3] at h
    try simp only [h3] at h1c
    try simp only [h3] at h2c
    by_cases h4 : t2 = true
    · rw [if_pos h4] at h
      try simp only [h4] at h1c
      try simp only [h4] at h2c
      obtain rfl := Option.some.inj h
      simp only [↓Bp, ↓Bs, Bo, Bh, Ba, Bc, ↓reduceIte, Nat.reduceAdd, Nat.reduceEqDiff, Nat.reduceLT, Nat.reduceLeDiff, Nat.reduceBEq, Nat.reduceMul, Int.reduceLE, Int.reduceLT, Int.reduceEq, Int.reduceToNat, Int.cast_ofNat_Int, reduceCtorEq, G72, Tf, b72, ↓Tryd.f72, F72, TY, H72, callP_eq h1c, callP_eq h2c, h3, h4]
    · rw [if_neg h4] at h
      try simp only [h4] at h1c
      try simp only [h4] at h2c
      obtain rfl := Option.some.inj h
      simp only [↓Bp, ↓Bs, Bo, Bh, Ba, Bc, ↓reduceIte, Nat.reduceAdd, Nat.reduceEqDiff, Nat.reduceLT, Nat.reduceLeDiff, Nat.reduceBEq, Nat.reduceMul, Int.reduceLE, Int.reduceLT, Int.reduceEq, Int.reduceToNat, Int.cast_ofNat_Int, reduceCtorEq, G72, Tf, b72, ↓Tryd.f72, F72, TY, H72, callP_eq h1c, callP_eq h2c, h3, h4]
  · rw [if_neg h3] at h
    try simp only [h3] at h1c
    try simp only [h3] at h2c
    by_cases h5 : t2 = true
    · rw [if_pos h5] at h
      try simp only [h5] at h1c
      try simp only [h5] at h2c
      obtain rfl := Option.some.inj h
      simp only [↓Bp, ↓Bs, Bo, Bh, Ba, Bc, ↓reduceIte, Nat.reduceAdd, Nat.reduceEqDiff, Nat.reduceLT, Nat.reduceLeDiff, Nat.reduceBEq, Nat.reduceMul, Int.reduceLE, Int.reduceLT, Int.reduceEq, Int.reduceToNat, Int.cast_ofNat_Int, reduceCtorEq, G72, Tf, b72, ↓Tryd.f72, F72, TY, H72, callP_eq h1c, callP_eq h2c, h3, h5]
    · rw [if_neg h5] at h
      try simp only [h5] at h1c
      try simp only [h5] at h2c
      by_cases h6 : x0 < x1
      · rw [if_pos h6] at h
        obtain rfl := Option.some.inj h
        simp only [↓Bp, ↓Bs, Bo, Bh, Ba, Bc, ↓reduceIte, Nat.reduceAdd, Nat.reduceEqDiff, Nat.reduceLT, Nat.reduceLeDiff, Nat.reduceBEq, Nat.reduceMul, Int.reduceLE, Int.reduceLT, Int.reduceEq, Int.reduceToNat, Int.cast_ofNat_Int, reduceCtorEq, G72, Tf, b72, ↓Tryd.f72, F72, TY, H72, callP_eq h1c, callP_eq h2c, h3, h5, h6]
      · rw [if_neg h6] at h
        by_cases h7 : x1 < x0
        · rw [if_pos h7] at h
          obtain rfl := Option.some.inj h
          simp only [↓Bp, ↓Bs, Bo, Bh, Ba, Bc, ↓reduceIte, Nat.reduceAdd, Nat.reduceEqDiff, Nat.reduceLT, Nat.reduceLeDiff, Nat.reduceBEq, Nat.reduceMul, Int.reduceLE, Int.reduceLT, Int.reduceEq, Int.reduceToNat, Int.cast_ofNat_Int, reduceCtorEq, G72, Tf, b72, ↓Tryd.f72, F72, TY, H72, callP_eq h1c, callP_eq h2c, h3, h5, h6, h7]
        · rw [if_neg h7] at h
          obtain rfl := Option.some.inj h
          simp only [↓Bp, ↓Bs, Bo, Bh, Ba, Bc, ↓reduceIte, Nat.reduceAdd, Nat.reduceEqDiff, Nat.reduceLT, Nat.reduceLeDiff, Nat.reduceBEq, Nat.reduceMul, Int.reduceLE, Int.reduceLT, Int.reduceEq, Int.reduceToNat, Int.cast_ofNat_Int, reduceCtorEq, G72, Tf, b72, ↓Tryd.f72, F72, TY, H72, callP_eq h1c, callP_eq h2c, h3, h5, h6, h7]
def nat_order.l0 : Nat → List Int → List Int → Int → Option Int
  | 0, _, _, _ => none
  | k + 1, x0, x1, x6 => (if 0 ≤ x6 then (if x6 < (x0.length : Int) then (if x6 < (x1.length : Int) then ((cmp_Compare_uint32.f (x0.getD ((x6 : Int).toNat) 0) (x1.getD ((x6 : Int).toNat) 0)).bind fun t6 => (if t6 = 0 then (nat_order.l0 k x0 x1 (wrap64 (x6 - 1))) else (some t6))) else none) else none) else (some 0))
def nat_order.f (k : Nat) (x0 : List Int) (x1 : List Int) : Option Int := ((cmp_Compare_int.f (x0.length : Int) (x1.length : Int)).bind fun t1 => (if t1 = 0 then (nat_order.l0 k x0 x1 (wrap64 ((x0.length : Int) - 1))) else (some t1)))
theorem nat_order.monos : ∀ k, (∀ x0 x1 x6, LeO (nat_order.l0 k x0 x1 x6) (nat_order.l0 (k + 1) x0 x1 x6))
  | 0 => fun _ _ _ => leo_none
  | k + 1 => by
    have I := nat_order.monos k
    · intro x0 x1 x6
      rw [nat_order.l0, nat_order.l0]
      exact leo_ite (leo_if (leo_if (leo_bind leo_refl (fun _ => leo_ite (I _ _ _) (leo_refl))))) (leo_refl)
theorem nat_order.mono (k : Nat) (x0 : List Int) (x1 : List Int) : LeO (nat_order.f k x0 x1) (nat_order.f (k + 1) x0 x1) := leo_bind leo_refl (fun _ => leo_ite ((nat_order.monos k) _ _ _) (leo_refl))
noncomputable def b64 : Code := bodyOf Tryd.f64
def F64 : Fr := ⟨0, 35, 1, [], 64⟩
theorem D64_7 {k : List It} {s : St} {Q : Post} {ops : Array Oper} {us : List Upd} (ha : apart2 [(0, 1), (0, 4), (1, 4), (2, 4), (3, 4), (0, 5), (1, 5), (2, 5), (3, 5), (4, 5), (0, 6), (1, 6), (2, 6), (3, 6), (0, 7), (1, 7), (2, 7), (3, 7)] (loud 0 us.reverse) = true) (hl : lessAll us.length [(0, 1), (0, 4), (1, 4), (2, 4), (3, 4), (0, 5), (1, 5), (2, 5), (3, 5), (4, 5), (0, 6), (1, 6), (2, 6), (3, 6), (0, 7), (1, 7), (2, 7), (3, 7)] = true) : GR C1 ⟨0, 35, 1, [], 64⟩ k Q 7 true ops [] s us = Fin C1 ⟨0, 35, 1, [], 64⟩ k .fall s Q := gr_nilD (F := F64) rfl ha hl
def nat_order.l0S (x0 : List Int) (x1 : List Int) (x6 : Int) : St := ⟨upd (upd (upd (fun _ => .no) 6 (.one (.p none (pI .i64 x6)))) 1 (.one (.p none (.sl 1 (x1.map e78))))) 0 (.one (.p none (.sl 1 (x0.map e78)))), noOb, rtP 4, 4⟩
theorem nat_order.all : ∀ k, (∀ x0 x1 x6 r, nat_order.l0 k x0 x1 x6 = some r → AtL C1 F64 (sub [1, 1, 0, 1, 0, 0] b64) [.blk 0, .code (sub [1, 1, 1] b64)] (some (nat_order.l0S x0 x1 x6)) (RetQ C1 [.tmp 4] [aV [pI .i64 r]]))
  | 0 => fun _ _ _ r h => (by cases h)
  | k + 1 => by
    have Il0 := nat_order.all k
    · intro x0 x1 x6 r h
      rw [nat_order.l0] at h
      rw [atL_some]
      by_cases h3 : 0 ≤ x6
      · rw [if_pos h3] at h
        obtain ⟨h4, h⟩ := ifn h
        have h4r := fun (q : 0 ≤ x6) => rd_at (l := x0) (i := x6) 0 q h4
        replace h4r := h4r (by omega)
        obtain ⟨h5, h⟩ := ifn h
        have h5r := fun (q : 0 ≤ x6) => rd_at (l := x1) (i := x6) 0 q h5
        replace h5r := h5r (by omega)
        obtain ⟨t6, h6, h⟩ := bnd h
        have h6c := ((cmp_Compare_uint32.ok _ _ _ h6))
        try simp only [Tf, List.nil_append, List.cons_append, Int.reduceToNat] at h6c
        by_cases h7 : t6 = 0
        · rw [if_pos h7] at h
          simp only [↓Bp, ↓Bs, Bo, Bh, Ba, Bc, Bd, ↓reduceIte, Nat.reduceAdd, Nat.reduceEqDiff, Nat.reduceLT, Nat.reduceLeDiff, Nat.reduceBEq, Nat.reduceMul, Int.reduceLE, Int.reduceLT, Int.reduceEq, Int.reduceToNat, Int.cast_ofNat_Int, reduceCtorEq, G64, Tf, b64, ↓Tryd.f64, F64, TY, H64, D64_7, h3, h4, h4r, h5, h5r, callP_eq h6c, eq_true h7, nat_order.l0S]
          refine AtL.eq (Il0 _ _ _ _ h) ?_
          simp only [Tf, Int.reduceToNat, Int.toNat_natCast, nat_order.l0S]
        · rw [if_neg h7] at h
          obtain rfl := Option.some.inj h
          simp only [↓Bp, ↓Bs, Bo, Bh, Ba, Bc, Bd, ↓reduceIte, Nat.reduceAdd, Nat.reduceEqDiff, Nat.reduceLT, Nat.reduceLeDiff, Nat.reduceBEq, Nat.reduceMul, Int.reduceLE, Int.reduceLT, Int.reduceEq, Int.reduceToNat, Int.cast_ofNat_Int, reduceCtorEq, G64, Tf, b64, ↓Tryd.f64, F64, TY, H64, D64_7, h3, h4, h4r, h5, h5r, callP_eq h6c, h7, nat_order.l0S]
      · rw [if_neg h3] at h
        obtain rfl := Option.some.inj h
        simp only [↓Bp, ↓Bs, Bo, Bh, Ba, Bc, Bd, ↓reduceIte, Nat.reduceAdd, Nat.reduceEqDiff, Nat.reduceLT, Nat.reduceLeDiff, Nat.reduceBEq, Nat.reduceMul, Int.reduceLE, Int.reduceLT, Int.reduceEq, Int.reduceToNat, Int.cast_ofNat_Int, reduceCtorEq, G64, Tf, b64, ↓Tryd.f64, F64, TY, H64, D64_7, h3, nat_order.l0S]
theorem nat_order.ok (k : Nat) (x0 : List Int) (x1 : List Int) (r : Int) (h : nat_order.f k x0 x1 = some r) : Ret C1 64 [(false, [.sl 1 (x0.map e78)]), (false, [.sl 1 (x1.map e78)])] [aV [pI .i64 r]] := by
  refine ret_of (c := b64) Tryd.func64 rfl rfl ⟨Nat.le_of_ble_eq_true rfl, Nat.le_of_ble_eq_true rfl⟩ ?_
  unfold nat_order.f at h
  rw [show Tryd.f64.results.toList = [.tmp 4] from rfl]
  rw [show Tryd.f64.ntmps = 35 from rfl]
  have Il0 := nat_order.all k
  obtain ⟨t1, h1, h⟩ := bnd h
  have h1c := ((cmp_Compare_int.ok _ _ _ h1))
  try simp only [Tf, List.nil_append, List.cons_append, Int.reduceToNat] at h1c
  by_cases h2 : t1 = 0
  · rw [if_pos h2] at h
    simp only [↓Bp, ↓Bs, Bo, Bh, Ba, Bc, Bd, ↓reduceIte, Nat.reduceAdd, Nat.reduceEqDiff, Nat.reduceLT, Nat.reduceLeDiff, Nat.reduceBEq, Nat.reduceMul, Int.reduceLE, Int.reduceLT, Int.reduceEq, Int.reduceToNat, Int.cast_ofNat_Int, reduceCtorEq, G64, Tf, b64, ↓Tryd.f64, F64, TY, H64, D64_7, callP_eq h1c, eq_true h2]
    refine AtL.eq (Il0 _ _ _ _ h) ?_
    simp only [Tf, Int.reduceToNat, Int.toNat_natCast, nat_order.l0S]
  · rw [if_neg h2] at h
    obtain rfl := Option.some.inj h
    simp only [↓Bp, ↓Bs, Bo, Bh, Ba, Bc, Bd, ↓reduceIte, Nat.reduceAdd, Nat.reduceEqDiff, Nat.reduceLT, Nat.reduceLeDiff, Nat.reduceBEq, Nat.reduceMul, Int.reduceLE, Int.reduceLT, Int.reduceEq, Int.reduceToNat, Int.cast_ofNat_Int, reduceCtorEq, G64, Tf, b64, ↓Tryd.f64, F64, TY, H64, D64_7, callP_eq h1c, h2]
mutual
def nat_trim.l0 : Nat → List Int → Option (List Int)
  | 0, _ => none
  | k + 1, x0 => (if 0 < (x0.length : Int) then (if 0 ≤ (wrap64 ((x0.length : Int) - 1)) then (if (wrap64 ((x0.length : Int) - 1)) < (x0.length : Int) then (nat_trim.j0 k x0 (decide ((x0.getD (((wrap64 ((x0.length : Int) - 1)) : Int).toNat) 0) = 0))) else none) else none) else (nat_trim.j0 k x0 false))
def nat_trim.j0 : Nat → List Int → Bool → Option (List Int)
  | 0, _, _ => none
  | k + 1, x0, x14 => (if x14 = true then (if 0 ≤ (wrap64 ((x0.length : Int) - 1)) then (if (wrap64 ((x0.length : Int) - 1)) ≤ (x0.length : Int) then (nat_trim.l0 k (x0.take (((wrap64 ((x0.length : Int) - 1)) : Int).toNat))) else none) else none) else (some x0))
end
def nat_trim.f (k : Nat) (x0 : List Int) : Option (List Int) := (nat_trim.l0 k x0)
theorem nat_trim.monos : ∀ k, (∀ x0, LeO (nat_trim.l0 k x0) (nat_trim.l0 (k + 1) x0)) ∧ (∀ x0 x14, LeO (nat_trim.j0 k x0 x14) (nat_trim.j0 (k + 1) x0 x14))
  | 0 => ⟨fun _ => leo_none, fun _ _ => leo_none⟩
  | k + 1 => by
    obtain ⟨Il0, Ij0⟩ := nat_trim.monos k
    refine ⟨?_, ?_⟩
    · intro x0
      rw [nat_trim.l0, nat_trim.l0]
      exact leo_ite (leo_if (leo_if (Ij0 _ _))) (Ij0 _ _)
    · intro x0 x14
      rw [nat_trim.j0, nat_trim.j0]
      exact leo_ite (leo_if (leo_if (Il0 _))) (leo_refl)
theorem nat_trim.mono (k : Nat) (x0 : List Int) : LeO (nat_trim.f k x0) (nat_trim.f (k + 1) x0) := (nat_trim.monos k).1 _
noncomputable def b66 : Code := bodyOf Tryd.f66
def F66 : Fr := ⟨0, 21, 1, [], 66⟩
def nat_trim.l0S (x0 : List Int) : St := ⟨upd (fun _ => .no) 0 (.one (.p none (.sl 1 (x0.map e78)))), noOb, rtP 2, 2⟩
def nat_trim.j0S (x0 : List Int) (x14 : Bool) : St := ⟨upd (upd (fun _ => .no) 14 (.one (.p none (pB x14)))) 0 (.one (.p none (.sl 1 (x0.map e78)))), noOb, rtP 3, 3⟩
theorem nat_trim.all : ∀ k, (∀ x0 r, nat_trim.l0 k x0 = some r → AtL C1 F66 (sub [1, 0, 0, 0] b66) [.blk 0, .code (sub [1, 1] b66)] (some (nat_trim.l0S x0)) (RetQ C1 [.tmp 2] [aV [.sl 1 (r.map e78)]])) ∧ (∀ x0 x14 r, nat_trim.j0 k x0 x14 = some r → AtJ C1 F66 (sub [1, 0, 0, 0, 0, 1] b66) [.code (sub [1, 0, 0, 0, 1] b66), .lp (sub [1, 0, 0, 0] b66), .blk 0, .code (sub [1, 1] b66)] (some (nat_trim.j0S x0 x14)) (RetQ C1 [.tmp 2] [aV [.sl 1 (r.map e78)]]))
  | 0 => ⟨fun _ r h => (by cases h), fun _ _ r h => (by cases h)⟩
  | k + 1 => by
    obtain ⟨Il0, Ij0⟩ := nat_trim.all k
    refine ⟨?_, ?_⟩
    · intro x0 r h
      rw [nat_trim.l0] at h
      rw [atL_some]
      by_cases h1 : 0 < (x0.length : Int)
      · rw [if_pos h1] at h
        obtain ⟨h2, h⟩ := ifn h
        obtain ⟨h3, h⟩ := ifn h
        have h3r := fun (q : 0 ≤ (wrap64 ((x0.length : Int) - 1))) => rd_at (l := x0) (i := (wrap64 ((x0.length : Int) - 1))) 0 q h3
        replace h3r := h3r (by omega)
        simp only [↓Bp, ↓Bs, Bo, Bh, Ba, Bc, ↓reduceIte, Nat.reduceAdd, Nat.reduceEqDiff, Nat.reduceLT, Nat.reduceLeDiff, Nat.reduceBEq, Nat.reduceMul, Int.reduceLE, Int.reduceLT, Int.reduceEq, Int.reduceToNat, Int.cast_ofNat_Int, reduceCtorEq, G66, Tf, b66, ↓Tryd.f66, F66, TY, H66, h1, h2, h3, h3r, nat_trim.l0S]
        refine AtJ.eq (Ij0 _ _ _ h) ?_
        simp only [Tf, Int.reduceToNat, Int.toNat_natCast, nat_trim.j0S]
      · rw [if_neg h1] at h
        simp only [↓Bp, ↓Bs, Bo, Bh, Ba, Bc, ↓reduceIte, Nat.reduceAdd, Nat.reduceEqDiff, Nat.reduceLT, Nat.reduceLeDiff, Nat.reduceBEq, Nat.reduceMul, Int.reduceLE, Int.reduceLT, Int.reduceEq, Int.reduceToNat, Int.cast_ofNat_Int, reduceCtorEq, G66, Tf, b66, ↓Tryd.f66, F66, TY, H66, h1, nat_trim.l0S]
        refine AtJ.eq (Ij0 _ _ _ h) ?_
        simp only [Tf, Int.reduceToNat, Int.toNat_natCast, nat_trim.j0S]
    · intro x0 x14 r h
      rw [nat_trim.j0] at h
      rw [atJ_some]
      by_cases h4 : x14 = true
      · rw [if_pos h4] at h
        obtain ⟨h5, h⟩ := ifn h
        obtain ⟨h6, h⟩ := ifn h
        simp only [↓Bp, ↓Bs, Bo, Bh, Ba, Bc, ↓reduceIte, Nat.reduceAdd, Nat.reduceEqDiff, Nat.reduceLT, Nat.reduceLeDiff, Nat.reduceBEq, Nat.reduceMul, Int.reduceLE, Int.reduceLT, Int.reduceEq, Int.reduceToNat, Int.cast_ofNat_Int, reduceCtorEq, G66, Tf, b66, ↓Tryd.f66, F66, TY, H66, h4, h5, h6, nat_trim.j0S]
        refine AtL.eq (Il0 _ _ h) ?_
        simp only [Tf, Int.reduceToNat, Int.toNat_natCast, nat_trim.l0S, h4]
      · rw [if_neg h4] at h
        obtain rfl := Option.some.inj h
        simp only [↓Bp, ↓Bs, Bo, Bh, Ba, Bc, ↓reduceIte, Nat.reduceAdd, Nat.reduceEqDiff, Nat.reduceLT, Nat.reduceLeDiff, Nat.reduceBEq, Nat.reduceMul, Int.reduceLE, Int.reduceLT, Int.reduceEq, Int.reduceToNat, Int.cast_ofNat_Int, reduceCtorEq, G66, Tf, b66, ↓Tryd.f66, F66, TY, H66, h4, nat_trim.j0S]
theorem nat_trim.ok (k : Nat) (x0 : List Int) (r : List Int) (h : nat_trim.f k x0 = some r) : Ret C1 66 [(false, [.sl 1 (x0.map e78)])] [aV [.sl 1 (r.map e78)]] := by
  refine ret_of (c := b66) Tryd.func66 rfl rfl ⟨Nat.le_of_ble_eq_true rfl, Nat.le_of_ble_eq_true rfl⟩ ?_
  unfold nat_trim.f at h
  rw [show Tryd.f66.results.toList = [.tmp 2] from rfl]
  rw [show Tryd.f66.ntmps = 21 from rfl]
  obtain ⟨Il0, Ij0⟩ := nat_trim.all k
  simp only [↓Bp, ↓Bs, Bo, Bh, Ba, Bc, ↓reduceIte, Nat.reduceAdd, Nat.reduceEqDiff, Nat.reduceLT, Nat.reduceLeDiff, Nat.reduceBEq, Nat.reduceMul, Int.reduceLE, Int.reduceLT, Int.reduceEq, Int.reduceToNat, Int.cast_ofNat_Int, reduceCtorEq, G66, Tf, b66, ↓Tryd.f66, F66, TY, H66]
  refine AtL.eq (Il0 _ _ h) ?_
  simp only [Tf, Int.reduceToNat, Int.toNat_natCast, nat_trim.l0S]
def nat_small.l0 : Nat → List Int → Int → Int → Int → List Int → Option ((List Int) × Int)
  | 0, _, _, _, _, _ => none
  | k + 1, x0, x1, x7, x8, y11 => (if 0 ≤ x8 then (if x8 < (x0.length : Int) then (if x1 = 0 then none else (if x8 < (y11.length : Int) then (if x1 = 0 then none else (nat_small.l0 k x0 x1 (Int.tmod (Go.bits .or .u64 (IntKind.u64.wrap (x7 * 2 ^ min (32 : Int).toNat (IntKind.bits .u64))) (IntKind.u64.wrap ((x0.getD ((x8 : Int).toNat) 0)))) x1) (wrap64 (x8 - 1)) (y11.set ((x8 : Int).toNat) (IntKind.u32.wrap ((IntKind.u64.wrap (Int.tdiv (Go.bits .or .u64 (IntKind.u64.wrap (x7 * 2 ^ min (32 : Int).toNat (IntKind.bits .u64))) (IntKind.u64.wrap ((x0.getD ((x8 : Int).toNat) 0)))) x1))))))) else none)) else none) else ((nat_trim.f k y11).bind fun t8 => (some (t8, x7))))
def nat_small.f (k : Nat) (x0 : List Int) (x1 : Int) : Option ((List Int) × Int) := (if 0 ≤ (x0.length : Int) then (if (x0.length : Int) ≤ 16777216 then (nat_small.l0 k x0 x1 0 (wrap64 ((x0.length : Int) - 1)) (List.replicate (((x0.length : Int) : Int).toNat) 0)) else none) else none)
theorem nat_small.monos : ∀ k, (∀ x0 x1 x7 x8 y11, LeO (nat_small.l0 k x0 x1 x7 x8 y11) (nat_small.l0 (k + 1) x0 x1 x7 x8 y11))
  | 0 => fun _ _ _ _ _ => leo_none
  | k + 1 => by
    have I := nat_small.monos k
    · intro x0 x1 x7 x8 y11
      rw [nat_small.l0, nat_small.l0]
      exact leo_ite (leo_if (leo_ifz (leo_if (leo_ifz (I _ _ _ _ _))))) (leo_bind (nat_trim.mono k _) (fun _ => leo_refl))
theorem nat_small.mono (k : Nat) (x0 : List Int) (x1 : Int) : LeO (nat_small.f k x0 x1) (nat_small.f (k + 1) x0 x1) := leo_if (leo_if ((nat_small.monos k) _ _ _ _ _))
noncomputable def b69 : Code := bodyOf Tryd.f69
def F69 : Fr := ⟨0, 40, 1, [], 69⟩
def nat_small.l0S (x0 : List Int) (x1 : Int) (x7 : Int) (x8 : Int) (y11 : List Int) : St := ⟨upd (upd (upd (upd (upd (fun _ => .no) 8 (.one (.p none (pI .i64 x8)))) 7 (.one (.p none (pI .u64 x7)))) 6 (.one (.vw 11 0 y11.length))) 1 (.one (.p none (pI .u64 x1)))) 0 (.one (.p none (.sl 1 (x0.map e78)))), upd noOb 11 (some (.arr false 1 (y11.map e78))), rtP 6, 6⟩
theorem nat_small.all : ∀ k, (∀ x0 x1 x7 x8 y11 r, nat_small.l0 k x0 x1 x7 x8 y11 = some r → AtL C1 F69 (sub [1, 1, 0, 1, 0, 0] b69) [.blk 0, .code (sub [1, 1, 1] b69)] (some (nat_small.l0S x0 x1 x7 x8 y11)) (RetQ C1 [.tmp 4, .tmp 5] [aV [.sl 1 (r.1.map e78)], aV [pI .u64 r.2]]))
  | 0 => fun _ _ _ _ _ r h => (by cases h)
  | k + 1 => by
    have Il0 := nat_small.all k
    · intro x0 x1 x7 x8 y11 r h
      rw [nat_small.l0] at h
      rw [atL_some]
      by_cases h3 : 0 ≤ x8
      · rw [if_pos h3] at h
        obtain ⟨h4, h⟩ := ifn h
        have h4r := fun (q : 0 ≤ x8) => rd_at (l := x0) (i := x8) 0 q h4
        replace h4r := h4r (by omega)
        obtain ⟨h5, h⟩ := ifz h
        obtain ⟨h6, h⟩ := ifn h
        have h6t := nat_lt (i := x8) (by omega) h6
        have h6g := get_of (l := y11) 0 h6t
        try simp only [List.length_set, List.length_replicate, List.length_map, Int.reduceToNat] at h6t
        obtain ⟨h7, h⟩ := ifz h
        simp only [↓Bp, ↓Bs, Bo, Bh, Ba, Bc, ↓reduceIte, Nat.reduceAdd, Nat.reduceEqDiff, Nat.reduceLT, Nat.reduceLeDiff, Nat.reduceBEq, Nat.reduceMul, Int.reduceLE, Int.reduceLT, Int.reduceEq, Int.reduceToNat, Int.cast_ofNat_Int, reduceCtorEq, G69, Tf, b69, ↓Tryd.f69, F69, TY, H69, h3, h4, h4r, h5, h6, h6t, h6g, h7, nat_small.l0S]
        refine AtL.eq (Il0 _ _ _ _ _ _ h) ?_
        simp only [Tf, Int.reduceToNat, Int.toNat_natCast, nat_small.l0S]
      · rw [if_neg h3] at h
        obtain ⟨t8, h8, h⟩ := bnd h
        have h8c := ((nat_trim.ok _ _ _ h8))
        try simp only [Tf, List.nil_append, List.cons_append, Int.reduceToNat] at h8c
        obtain rfl := Option.some.inj h
        simp only [↓Bp, ↓Bs, Bo, Bh, Ba, Bc, ↓reduceIte, Nat.reduceAdd, Nat.reduceEqDiff, Nat.reduceLT, Nat.reduceLeDiff, Nat.reduceBEq, Nat.reduceMul, Int.reduceLE, Int.reduceLT, Int.reduceEq, Int.reduceToNat, Int.cast_ofNat_Int, reduceCtorEq, G69, Tf, b69, ↓Tryd.f69, F69, TY, H69, h3, callP_eq h8c, nat_small.l0S]
theorem nat_small.ok (k : Nat) (x0 : List Int) (x1 : Int) (r : (List Int) × Int) (h : nat_small.f k x0 x1 = some r) : Ret C1 69 [(false, [.sl 1 (x0.map e78)]), (false, [.sc (.int .u64 x1)])] [aV [.sl 1 (r.1.map e78)], aV [pI .u64 r.2]] := by
  refine ret_of (c := b69) Tryd.func69 rfl rfl ⟨Nat.le_of_ble_eq_true rfl, Nat.le_of_ble_eq_true rfl⟩ ?_
  unfold nat_small.f at h
  rw [show Tryd.f69.results.toList = [.tmp 4, .tmp 5] from rfl]
  rw [show Tryd.f69.ntmps = 40 from rfl]
  have Il0 := nat_small.all k
  obtain ⟨h1, h⟩ := ifn h
  obtain ⟨h2, h⟩ := ifn h
  simp only [↓Bp, ↓Bs, Bo, Bh, Ba, Bc, ↓reduceIte, Nat.reduceAdd, Nat.reduceEqDiff, Nat.reduceLT, Nat.reduceLeDiff, Nat.reduceBEq, Nat.reduceMul, Int.reduceLE, Int.reduceLT, Int.reduceEq, Int.reduceToNat, Int.cast_ofNat_Int, reduceCtorEq, G69, Tf, b69, ↓Tryd.f69, F69, TY, H69, h1, h2]
  refine AtL.eq (Il0 _ _ _ _ _ _ h) ?_
  simp only [Tf, Int.reduceToNat, Int.toNat_natCast, nat_small.l0S]
def nat_Of.f (k : Nat) (x0 : Int) : Option (List Int) := ((nat_trim.f k [(IntKind.u32.wrap (x0)), (IntKind.u32.wrap ((Int.fdiv x0 (2 ^ min (32 : Int).toNat (IntKind.bits .u64)))))]).bind fun t1 => (some t1))
theorem nat_Of.mono (k : Nat) (x0 : Int) : LeO (nat_Of.f k x0) (nat_Of.f (k + 1) x0) := leo_bind (nat_trim.mono k _) (fun _ => leo_refl)
noncomputable def b61 : Code := bodyOf Tryd.f61
def F61 : Fr := ⟨0, 10, 1, [], 61⟩
theorem nat_Of.ok (k : Nat) (x0 : Int) (r : List Int) (h : nat_Of.f k x0 = some r) : Ret C1 61 [(false, [.sc (.int .u64 x0)])] [aV [.sl 1 (r.map e78)]] := by
  refine ret_of (c := b61) Tryd.func61 rfl rfl ⟨Nat.le_of_ble_eq_true rfl, Nat.le_of_ble_eq_true rfl⟩ ?_
  unfold nat_Of.f at h
  rw [show Tryd.f61.results.toList = [.tmp 2] from rfl]
  rw [show Tryd.f61.ntmps = 10 from rfl]
  obtain ⟨t1, h1, h⟩ := bnd h
  have h1c := ((nat_trim.ok _ _ _ h1))
  try simp only [Tf, List.nil_append, List.cons_append, Int.reduceToNat] at h1c
  obtain rfl := Option.some.inj h
  simp only [↓Bp, ↓Bs, Bo, Bh, Ba, Bc, ↓reduceIte, Nat.reduceAdd, Nat.reduceEqDiff, Nat.reduceLT, Nat.reduceLeDiff, Nat.reduceBEq, Nat.reduceMul, Int.reduceLE, Int.reduceLT, Int.reduceEq, Int.reduceToNat, Int.cast_ofNat_Int, reduceCtorEq, G61, Tf, b61, ↓Tryd.f61, F61, TY, H61, callP_eq h1c]
mutual
def math_bits_Len32.j0 : Nat → Int → Int → Option Int
  | 0, _, _ => none
  | k + 1, x0, x2 => (if 256 ≤ x0 then (math_bits_Len32.j1 k (Int.fdiv x0 (2 ^ min (8 : Int).toNat (IntKind.bits .u32))) (wrap64 (x2 + 8))) else (math_bits_Len32.j1 k x0 x2))
def math_bits_Len32.j1 : Nat → Int → Int → Option Int
  | 0, _, _ => none
  | k + 1, x0, x2 => (if 0 ≤ (IntKind.u8.wrap (x0)) then (if (IntKind.u8.wrap (x0)) < ((⟨List.toArray (List.append (List.append (0 :: 1 :: 2 :: 2 :: 3 :: 3 :: 3 :: 3 :: 4 :: 4 :: 4 :: 4 :: 4 :: 4 :: 4 :: 4 :: 5 :: 5 :: 5 :: 5 :: 5 :: 5 :: 5 :: 5 :: 5 :: 5 :: 5 :: 5 :: 5 :: 5 :: 5 :: 5 :: 6 :: 6 :: 6 :: 6 :: 6 :: 6 :: 6 :: 6 :: 6 :: 6 :: 6 :: 6 :: 6 :: 6 :: 6 :: 6 :: 6 :: 6 :: 6 :: 6 :: 6 :: 6 :: 6 :: 6 :: 6 :: 6 :: 6 :: 6 :: 6 :: 6 :: 6 :: 6 :: ([] : List UInt8)) (7 :: 7 :: 7 :: 7 :: 7 :: 7 :: 7 :: 7 :: 7 :: 7 :: 7 :: 7 :: 7 :: 7 :: 7 :: 7 :: 7 :: 7 :: 7 :: 7 :: 7 :: 7 :: 7 :: 7 :: 7 :: 7 :: 7 :: 7 :: 7 :: 7 :: 7 :: 7 :: 7 :: 7 :: 7 :: 7 :: 7 :: 7 :: 7 :: 7 :: 7 :: 7 :: 7 :: 7 :: 7 :: 7 :: 7 :: 7 :: 7 :: 7 :: 7 :: 7 :: 7 :: 7 :: 7 :: 7 :: 7 :: 7 :: 7 :: 7 :: 7 :: 7 :: 7 :: 7 :: ([] : List UInt8))) (List.append (8 :: 8 :: 8 :: 8 :: 8 :: 8 :: 8 :: 8 :: 8 :: 8 :: 8 :: 8 :: 8 :: 8 :: 8 :: 8 :: 8 :: 8 :: 8 :: 8 :: 8 :: 8 :: 8 :: 8 :: 8 :: 8 :: 8 :: 8 :: 8 :: 8 :: 8 :: 8 :: 8 :: 8 :: 8 :: 8 :: 8 :: 8 :: 8 :: 8 :: 8 :: 8 :: 8 :: 8 :: 8 :: 8 :: 8 :: 8 :: 8 :: 8 :: 8 :: 8 :: 8 :: 8 :: 8 :: 8 :: 8 :: 8 :: 8 :: 8 :: 8 :: 8 :: 8 :: 8 :: ([] : List UInt8)) (8 :: 8 :: 8 :: 8 :: 8 :: 8 :: 8 :: 8 :: 8 :: 8 :: 8 :: 8 :: 8 :: 8 :: 8 :: 8 :: 8 :: 8 :: 8 :: 8 :: 8 :: 8 :: 8 :: 8 :: 8 :: 8 :: 8 :: 8 :: 8 :: 8 :: 8 :: 8 :: 8 :: 8 :: 8 :: 8 :: 8 :: 8 :: 8 :: 8 :: 8 :: 8 :: 8 :: 8 :: 8 :: 8 :: 8 :: 8 :: 8 :: 8 :: 8 :: 8 :: 8 :: 8 :: 8 :: 8 :: 8 :: 8 :: 8 :: 8 :: 8 :: 8 :: 8 :: 8 :: ([] : List UInt8))))⟩ : ByteArray).size : Int) then (some (wrap64 (x2 + (wrap64 ((gB (⟨List.toArray (List.append (List.append (0 :: 1 :: 2 :: 2 :: 3 :: 3 :: 3 :: 3 :: 4 :: 4 :: 4 :: 4 :: 4 :: 4 :: 4 :: 4 :: 5 :: 5 :: 5 :: 5 :: 5 :: 5 :: 5 :: 5 :: 5 :: 5 :: 5 :: 5 :: 5 :: 5 :: 5 :: 5 :: 6 :: 6 :: 6 :: 6 :: 6 :: 6 :: 6 :: 6 :: 6 :: 6 :: 6 :: 6 :: 6 :: 6 :: 6 :: 6 :: 6 :: 6 :: 6 :: 6 :: 6 :: 6 :: 6 :: 6 :: 6 :: 6 :: 6 :: 6 :: 6 :: 6 :: 6 :: 6 :: ([] : List UInt8)) (7 :: 7 :: 7 :: 7 :: 7 :: 7 :: 7 :: 7 :: 7 :: 7 :: 7 :: 7 :: 7 :: 7 :: 7 :: 7 :: 7 :: 7 :: 7 :: 7 :: 7 :: 7 :: 7 :: 7 :: 7 :: 7 :: 7 :: 7 :: 7 :: 7 :: 7 :: 7 :: 7 :: 7 :: 7 :: 7 :: 7 :: 7 :: 7 :: 7 :: 7 :: 7 :: 7 :: 7 :: 7 :: 7 :: 7 :: 7 :: 7 :: 7 :: 7 :: 7 :: 7 :: 7 :: 7 :: 7 :: 7 :: 7 :: 7 :: 7 :: 7 :: 7 :: 7 :: 7 :: ([] : List UInt8))) (List.append (8 :: 8 :: 8 :: 8 :: 8 :: 8 :: 8 :: 8 :: 8 :: 8 :: 8 :: 8 :: 8 :: 8 :: 8 :: 8 :: 8 :: 8 :: 8 :: 8 :: 8 :: 8 :: 8 :: 8 :: 8 :: 8 :: 8 :: 8 :: 8 :: 8 :: 8 :: 8 :: 8 :: 8 :: 8 :: 8 :: 8 :: 8 :: 8 :: 8 :: 8 :: 8 :: 8 :: 8 :: 8 :: 8 :: 8 :: 8 :: 8 :: 8 :: 8 :: 8 :: 8 :: 8 :: 8 :: 8 :: 8 :: 8 :: 8 :: 8 :: 8 :: 8 :: 8 :: 8 :: ([] : List UInt8)) (8 :: 8 :: 8 :: 8 :: 8 :: 8 :: 8 :: 8 :: 8 :: 8 :: 8 :: 8 :: 8 :: 8 :: 8 :: 8 :: 8 :: 8 :: 8 :: 8 :: 8 :: 8 :: 8 :: 8 :: 8 :: 8 :: 8 :: 8 :: 8 :: 8 :: 8 :: 8 :: 8 :: 8 :: 8 :: 8 :: 8 :: 8 :: 8 :: 8 :: 8 :: 8 :: 8 :: 8 :: 8 :: 8 :: 8 :: 8 :: 8 :: 8 :: 8 :: 8 :: 8 :: 8 :: 8 :: 8 :: 8 :: 8 :: 8 :: 8 :: 8 :: 8 :: 8 :: 8 :: ([] : List UInt8))))⟩ : ByteArray) (IntKind.u8.wrap (x0)))))))) else none) else none)
end
def math_bits_Len32.f (k : Nat) (x0 : Int) : Option Int := (if 65536 ≤ x0 then (math_bits_Len32.j0 k (Int.fdiv x0 (2 ^ min (16 : Int).toNat (IntKind.bits .u32))) 16) else (math_bits_Len32.j0 k x0 0))
theorem math_bits_Len32.monos : ∀ k, (∀ x0 x2, LeO (math_bits_Len32.j0 k x0 x2) (math_bits_Len32.j0 (k + 1) x0 x2)) ∧ (∀ x0 x2, LeO (math_bits_Len32.j1 k x0 x2) (math_bits_Len32.j1 (k + 1) x0 x2))
  | 0 => ⟨fun _ _ => leo_none, fun _ _ => leo_none⟩
  | k + 1 => by
    obtain ⟨Ij0, Ij1⟩ := math_bits_Len32.monos k
    refine ⟨?_, ?_⟩
    · intro x0 x2
      rw [math_bits_Len32.j0, math_bits_Len32.j0]
      exact leo_ite (Ij1 _ _) (Ij1 _ _)
    · intro x0 x2
      rw [math_bits_Len32.j1, math_bits_Len32.j1]
      exact leo_if (leo_if (leo_refl))
theorem math_bits_Len32.mono (k : Nat) (x0 : Int) : LeO (math_bits_Len32.f k x0) (math_bits_Len32.f (k + 1) x0) := leo_ite ((math_bits_Len32.monos k).1 _ _) ((math_bits_Len32.monos k).1 _ _)
noncomputable def b84 : Code := bodyOf Tryd.f84
def F84 : Fr := ⟨0, 19, 1, [], 84⟩
def math_bits_Len32.j0S (x0 : Int) (x2 : Int) : St := ⟨upd (upd (fun _ => .no) 2 (.one (.p none (pI .i64 x2)))) 0 (.one (.p none (pI .u32 x0))), noOb, rtP 3, 3⟩
def math_bits_Len32.j1S (x0 : Int) (x2 : Int) : St := ⟨upd (upd (fun _ => .no) 2 (.one (.p none (pI .i64 x2)))) 0 (.one (.p none (pI .u32 x0))), noOb, rtP 3, 3⟩
theorem math_bits_Len32.all : ∀ k, (∀ x0 x2 r, math_bits_Len32.j0 k x0 x2 = some r → AtJ C1 F84 (sub [1, 1] b84) [] (some (math_bits_Len32.j0S x0 x2)) (RetQ C1 [.tmp 2] [aV [pI .i64 r]])) ∧ (∀ x0 x2 r, math_bits_Len32.j1 k x0 x2 = some r → AtJ C1 F84 (sub [1, 1, 1] b84) [] (some (math_bits_Len32.j1S x0 x2)) (RetQ C1 [.tmp 2] [aV [pI .i64 r]]))
  | 0 => ⟨fun _ _ r h => (by cases h), fun _ _ r h => (by cases h)⟩
  | k + 1 => by
    obtain ⟨Ij0, Ij1⟩ := math_bits_Len32.all k
    refine ⟨?_, ?_⟩
    · intro x0 x2 r h
      rw [math_bits_Len32.j0] at h
      rw [atJ_some]
      by_cases h2 : 256 ≤ x0
      · rw [if_pos h2] at h
        simp only [↓Bp, ↓Bs, Bo, Bh, Ba, Bc, ↓reduceIte, Nat.reduceAdd, Nat.reduceEqDiff, Nat.reduceLT, Nat.reduceLeDiff, Nat.reduceBEq, Nat.reduceMul, Int.reduceLE, Int.reduceLT, Int.reduceEq, Int.reduceToNat, Int.cast_ofNat_Int, reduceCtorEq, G84, Tf, b84, ↓Tryd.f84, F84, TY, H84, h2, math_bits_Len32.j0S]
        refine AtJ.eq (Ij1 _ _ _ h) ?_
        simp only [Tf, Int.reduceToNat, Int.toNat_natCast, math_bits_Len32.j1S]
      · rw [if_neg h2] at h
        simp only [↓Bp, ↓Bs, Bo, Bh, Ba, Bc, ↓reduceIte, Nat.reduceAdd, Nat.reduceEqDiff, Nat.reduceLT, Nat.reduceLeDiff, Nat.reduceBEq, Nat.reduceMul, Int.reduceLE, Int.reduceLT, Int.reduceEq, Int.reduceToNat, Int.cast_ofNat_Int, reduceCtorEq, G84, Tf, b84, ↓Tryd.f84, F84, TY, H84, h2, math_bits_Len32.j0S]
        refine AtJ.eq (Ij1 _ _ _ h) ?_
        simp only [Tf, Int.reduceToNat, Int.toNat_natCast, math_bits_Len32.j1S]
    · intro x0 x2 r h
      rw [math_bits_Len32.j1] at h
      rw [atJ_some]
      obtain ⟨h3, h⟩ := ifn h
      obtain ⟨h4, h⟩ := ifn h
      obtain rfl := Option.some.inj h
      simp only [↓Bp, ↓Bs, Bo, Bh, Ba, Bc, ↓reduceIte, Nat.reduceAdd, Nat.reduceEqDiff, Nat.reduceLT, Nat.reduceLeDiff, Nat.reduceBEq, Nat.reduceMul, Int.reduceLE, Int.reduceLT, Int.reduceEq, Int.reduceToNat, Int.cast_ofNat_Int, reduceCtorEq, G84, Tf, b84, ↓Tryd.f84, F84, TY, H84, h3, h4, math_bits_Len32.j1S]
theorem math_bits_Len32.ok (k : Nat) (x0 : Int) (r : Int) (h : math_bits_Len32.f k x0 = some r) : Ret C1 84 [(false, [.sc (.int .u32 x0)])] [aV [pI .i64 r]] := by
  refine ret_of (c := b84) Tryd.func84 rfl rfl ⟨Nat.le_of_ble_eq_true rfl, Nat.le_of_ble_eq_true rfl⟩ ?_
  unfold math_bits_Len32.f at h
  rw [show Tryd.f84.results.toList = [.tmp 2] from rfl]
  rw [show Tryd.f84.ntmps = 19 from rfl]
  obtain ⟨Ij0, Ij1⟩ := math_bits_Len32.all k
  by_cases h1 : 65536 ≤ x0
  · rw [if_pos h1] at h
    simp only [↓Bp, ↓Bs, Bo, Bh, Ba, Bc, ↓reduceIte, Nat.reduceAdd, Nat.reduceEqDiff, Nat.reduceLT, Nat.reduceLeDiff, Nat.reduceBEq, Nat.reduceMul, Int.reduceLE, Int.reduceLT, Int.reduceEq, Int.reduceToNat, Int.cast_ofNat_Int, reduceCtorEq, G84, Tf, b84, ↓Tryd.f84, F84, TY, H84, h1]
    refine AtJ.eq (Ij0 _ _ _ h) ?_
    simp only [Tf, Int.reduceToNat, Int.toNat_natCast, math_bits_Len32.j0S]
  · rw [if_neg h1] at h
    simp only [↓Bp, ↓Bs, Bo, Bh, Ba, Bc, ↓reduceIte, Nat.reduceAdd, Nat.reduceEqDiff, Nat.reduceLT, Nat.reduceLeDiff, Nat.reduceBEq, Nat.reduceMul, Int.reduceLE, Int.reduceLT, Int.reduceEq, Int.reduceToNat, Int.cast_ofNat_Int, reduceCtorEq, G84, Tf, b84, ↓Tryd.f84, F84, TY, H84, h1]
    refine AtJ.eq (Ij0 _ _ _ h) ?_
    simp only [Tf, Int.reduceToNat, Int.toNat_natCast, math_bits_Len32.j0S]
def math_bits_LeadingZeros32.f (k : Nat) (x0 : Int) : Option Int := ((math_bits_Len32.f k x0).bind fun t1 => (some (wrap64 (32 - t1))))
theorem math_bits_LeadingZeros32.mono (k : Nat) (x0 : Int) : LeO (math_bits_LeadingZeros32.f k x0) (math_bits_LeadingZeros32.f (k + 1) x0) := leo_bind (math_bits_Len32.mono k _) (fun _ => leo_refl)
noncomputable def b77 : Code := bodyOf Tryd.f77
def F77 : Fr := ⟨0, 6, 1, [], 77⟩
theorem math_bits_LeadingZeros32.ok (k : Nat) (x0 : Int) (r : Int) (h : math_bits_LeadingZeros32.f k x0 = some r) : Ret C1 77 [(false, [.sc (.int .u32 x0)])] [aV [pI .i64 r]] := by
  refine ret_of (c := b77) Tryd.func77 rfl rfl ⟨Nat.le_of_ble_eq_true rfl, Nat.le_of_ble_eq_true rfl⟩ ?_
  unfold math_bits_LeadingZeros32.f at h
  rw [show Tryd.f77.results.toList = [.tmp 2] from rfl]
  rw [show Tryd.f77.ntmps = 6 from rfl]
  obtain ⟨t1, h1, h⟩ := bnd h
  have h1c := ((math_bits_Len32.ok _ _ _ h1))
  try simp only [Tf, List.nil_append, List.cons_append, Int.reduceToNat] at h1c
  obtain rfl := Option.some.inj h
  simp only [↓Bp, ↓Bs, Bo, Bh, Ba, Bc, ↓reduceIte, Nat.reduceAdd, Nat.reduceEqDiff, Nat.reduceLT, Nat.reduceLeDiff, Nat.reduceBEq, Nat.reduceMul, Int.reduceLE, Int.reduceLT, Int.reduceEq, Int.reduceToNat, Int.cast_ofNat_Int, reduceCtorEq, G77, Tf, b77, ↓Tryd.f77, F77, TY, H77, callP_eq h1c]
def nat_at.f (x0 : List Int) (x1 : Int) : Option Int := (if (x0.length : Int) ≤ x1 then (some 0) else (if 0 ≤ x1 then (if x1 < (x0.length : Int) then (some (IntKind.u64.wrap ((x0.getD ((x1 : Int).toNat) 0)))) else none) else none))
noncomputable def b75 : Code := bodyOf Tryd.f75
def F75 : Fr := ⟨0, 14, 1, [], 75⟩
theorem nat_at.ok (x0 : List Int) (x1 : Int) (r : Int) (h : nat_at.f x0 x1 = some r) : Ret C1 75 [(false, [.sl 1 (x0.map e78)]), (false, [.sc (.int .i64 x1)])] [aV [pI .u64 r]] := by
  refine ret_of (c := b75) Tryd.func75 rfl rfl ⟨Nat.le_of_ble_eq_true rfl, Nat.le_of_ble_eq_true rfl⟩ ?_
  unfold nat_at.f at h
  rw [show Tryd.f75.results.toList = [.tmp 4] from rfl]
  rw [show Tryd.f75.ntmps = 14 from rfl]
  by_cases h1 : (x0.length : Int) ≤ x1
  · rw [if_pos h1] at h
    obtain rfl := Option.some.inj h
    simp only [↓Bp, ↓Bs, Bo, Bh, Ba, Bc, ↓reduceIte, Nat.reduceAdd, Nat.reduceEqDiff, Nat.reduceLT, Nat.reduceLeDiff, Nat.reduceBEq, Nat.reduceMul, Int.reduceLE, Int.reduceLT, Int.reduceEq, Int.reduceToNat, Int.cast_ofNat_Int, reduceCtorEq, G75, Tf, b75, ↓Tryd.f75, F75, TY, H75, h1]
  · rw [if_neg h1] at h
    obtain ⟨h2, h⟩ := ifn h
    obtain ⟨h3, h⟩ := ifn h
    have h3r := fun (q : 0 ≤ x1) => rd_at (l := x0) (i := x1) 0 q h3
    replace h3r := h3r (by omega)
    obtain rfl := Option.some.inj h
    simp only [↓Bp, ↓Bs, Bo, Bh, Ba, Bc, ↓reduceIte, Nat.reduceAdd, Nat.reduceEqDiff, Nat.reduceLT, Nat.reduceLeDiff, Nat.reduceBEq, Nat.reduceMul, Int.reduceLE, Int.reduceLT, Int.reduceEq, Int.reduceToNat, Int.cast_ofNat_Int, reduceCtorEq, G75, Tf, b75, ↓Tryd.f75, F75, TY, H75, h1, h2, h3, h3r]
mutual
def nat_shift.l0 : Nat → List Int → Int → Int → Int → List Int → Option (List Int)
  | 0, _, _, _, _, _ => none
  | k + 1, x0, x1, x13, x14, y11 => (if x14 < x13 then (if 0 < x14 then ((nat_at.f x0 (wrap64 (x14 - 1))).bind fun t5 => (nat_shift.j0 k x0 x1 x14 t5 x13 x14 y11)) else (nat_shift.j0 k x0 x1 x14 0 x13 x14 y11)) else (some y11))
def nat_shift.j0 : Nat → List Int → Int → Int → Int → Int → Int → List Int → Option (List Int)
  | 0, _, _, _, _, _, _, _ => none
  | k + 1, x0, x1, x8, x9, x13, x14, y11 => ((nat_at.f x0 x8).bind fun t6 => (if x1 < 0 then none else (if 0 ≤ x8 then (if x8 < (y11.length : Int) then (nat_shift.l0 k x0 x1 x13 (wrap64 (x14 + 1)) (y11.set ((x8 : Int).toNat) (IntKind.u32.wrap ((Int.fdiv (IntKind.u64.wrap ((Go.bits .or .u64 (IntKind.u64.wrap (t6 * 2 ^ min (32 : Int).toNat (IntKind.bits .u64))) x9) * 2 ^ min (x1 : Int).toNat (IntKind.bits .u64))) (2 ^ min (32 : Int).toNat (IntKind.bits .u64))))))) else none) else none)))
end
def nat_shift.f (k : Nat) (x0 : List Int) (x1 : Int) (x2 : Int) : Option (List Int) := (if 0 ≤ x2 then (if x2 ≤ 16777216 then (nat_shift.l0 k x0 x1 ((List.replicate ((x2 : Int).toNat) 0).length : Int) 0 (List.replicate ((x2 : Int).toNat) 0)) else none) else none)
theorem nat_shift.monos : ∀ k, (∀ x0 x1 x13 x14 y11, LeO (nat_shift.l0 k x0 x1 x13 x14 y11) (nat_shift.l0 (k + 1) x0 x1 x13 x14 y11)) ∧ (∀ x0 x1 x8 x9 x13 x14 y11, LeO (nat_shift.j0 k x0 x1 x8 x9 x13 x14 y11) (nat_shift.j0 (k + 1) x0 x1 x8 x9 x13 x14 y11))
  | 0 => ⟨fun _ _ _ _ _ => leo_none, fun _ _ _ _ _ _ _ => leo_none⟩
  | k + 1 => by
    obtain ⟨Il0, Ij0⟩ := nat_shift.monos k
    refine ⟨?_, ?_⟩
    · intro x0 x1 x13 x14 y11
      rw [nat_shift.l0, nat_shift.l0]
      exact leo_ite (leo_ite (leo_bind leo_refl (fun _ => Ij0 _ _ _ _ _ _ _)) (Ij0 _ _ _ _ _ _ _)) (leo_refl)
    · intro x0 x1 x8 x9 x13 x14 y11
      rw [nat_shift.j0, nat_shift.j0]
      exact leo_bind leo_refl (fun _ => leo_ifz (leo_if (leo_if (Il0 _ _ _ _ _))))
theorem nat_shift.mono (k : Nat) (x0 : List Int) (x1 : Int) (x2 : Int) : LeO (nat_shift.f k x0 x1 x2) (nat_shift.f (k + 1) x0 x1 x2) := leo_if (leo_if ((nat_shift.monos k).1 _ _ _ _ _))
noncomputable def b78 : Code := bodyOf Tryd.f78
def F78 : Fr := ⟨0, 38, 1, [], 78⟩
def nat_shift.l0S (x0 : List Int) (x1 : Int) (x13 : Int) (x14 : Int) (y11 : List Int) : St := ⟨upd (upd (upd (upd (upd (fun _ => .no) 14 (.one (.p none (pI .i64 x14)))) 13 (.one (.p none (pI .i64 x13)))) 7 (.one (.vw 11 0 y11.length))) 1 (.one (.p none (pI .i64 x1)))) 0 (.one (.p none (.sl 1 (x0.map e78)))), upd noOb 11 (some (.arr false 1 (y11.map e78))), rtP 6, 6⟩
def nat_shift.j0S (x0 : List Int) (x1 : Int) (x8 : Int) (x9 : Int) (x13 : Int) (x14 : Int) (y11 : List Int) : St := ⟨upd (upd (upd (upd (upd (upd (upd (fun _ => .no) 14 (.one (.p none (pI .i64 x14)))) 13 (.one (.p none (pI .i64 x13)))) 9 (.one (.p none (pI .u64 x9)))) 8 (.one (.p none (pI .i64 x8)))) 7 (.one (.vw 11 0 y11.length))) 1 (.one (.p none (pI .i64 x1)))) 0 (.one (.p none (.sl 1 (x0.map e78)))), upd noOb 11 (some (.arr false 1 (y11.map e78))), rtP 8, 8⟩
theorem nat_shift.all : ∀ k, (∀ x0 x1 x13 x14 y11 r, nat_shift.l0 k x0 x1 x13 x14 y11 = some r → AtL C1 F78 (sub [1, 1, 0, 1, 0, 0] b78) [.blk 0, .code (sub [1, 1, 1] b78)] (some (nat_shift.l0S x0 x1 x13 x14 y11)) (RetQ C1 [.tmp 6] [aV [.sl 1 (r.map e78)]])) ∧ (∀ x0 x1 x8 x9 x13 x14 y11 r, nat_shift.j0 k x0 x1 x8 x9 x13 x14 y11 = some r → AtJ C1 F78 (sub [1, 1, 0, 1, 0, 0, 1, 1, 0, 0, 1, 1, 1] b78) [.blk 1, .code (sub [1, 1, 0, 1, 0, 0, 1, 1, 1] b78), .lp (sub [1, 1, 0, 1, 0, 0] b78), .blk 0, .code (sub [1, 1, 1] b78)] (some (nat_shift.j0S x0 x1 x8 x9 x13 x14 y11)) (RetQ C1 [.tmp 6] [aV [.sl 1 (r.map e78)]]))
  | 0 => ⟨fun _ _ _ _ _ r h => (by cases h), fun _ _ _ _ _ _ _ r h => (by cases h)⟩
  | k + 1 => by
    obtain ⟨Il0, Ij0⟩ := nat_shift.all k
    refine ⟨?_, ?_⟩
    · intro x0 x1 x13 x14 y11 r h
      rw [nat_shift.l0] at h
      rw [atL_some]
      by_cases h3 : x14 < x13
      · rw [if_pos h3] at h
        by_cases h4 : 0 < x14
        · rw [if_pos h4] at h
          obtain ⟨t5, h5, h⟩ := bnd h
          have h5c := ((nat_at.ok _ _ _ h5))
          try simp only [Tf, List.nil_append, List.cons_append, Int.reduceToNat] at h5c
          simp only [↓Bp, ↓Bs, Bo, Bh, Ba, Bc, ↓reduceIte, Nat.reduceAdd, Nat.reduceEqDiff, Nat.reduceLT, Nat.reduceLeDiff, Nat.reduceBEq, Nat.reduceMul, Int.reduceLE, Int.reduceLT, Int.reduceEq, Int.reduceToNat, Int.cast_ofNat_Int, reduceCtorEq, G78, Tf, b78, ↓Tryd.f78, F78, TY, H78, h3, h4, callP_eq h5c, nat_shift.l0S]
          refine AtJ.eq (Ij0 _ _ _ _ _ _ _ _ h) ?_
          simp only [Tf, Int.reduceToNat, Int.toNat_natCast, nat_shift.j0S]
        · rw [if_neg h4] at h
          simp only [↓Bp, ↓Bs, Bo, Bh, Ba, Bc, ↓reduceIte, Nat.reduceAdd, Nat.reduceEqDiff, Nat.reduceLT, Nat.reduceLeDiff, Nat.reduceBEq, Nat.reduceMul, Int.reduceLE, Int.reduceLT, Int.reduceEq, Int.reduceToNat, Int.cast_ofNat_Int, reduceCtorEq, G78, Tf, b78, ↓Tryd.f78, F78, TY, H78, h3, h4, nat_shift.l0S]
          refine AtJ.eq (Ij0 _ _ _ _ _ _ _ _ h) ?_
          simp only [Tf, Int.reduceToNat, Int.toNat_natCast, nat_shift.j0S]
      · rw [if_neg h3] at h
        obtain rfl := Option.some.inj h
        simp only [↓Bp, ↓Bs, Bo, Bh, Ba, Bc, ↓reduceIte, Nat.reduceAdd, Nat.reduceEqDiff, Nat.reduceLT, Nat.reduceLeDiff, Nat.reduceBEq, Nat.reduceMul, Int.reduceLE, Int.reduceLT, Int.reduceEq, Int.reduceToNat, Int.cast_ofNat_Int, reduceCtorEq, G78, Tf, b78, ↓Tryd.f78, F78, TY, H78, h3, nat_shift.l0S]
    · intro x0 x1 x8 x9 x13 x14 y11 r h
      rw [nat_shift.j0] at h
      rw [atJ_some]
      obtain ⟨t6, h6, h⟩ := bnd h
      have h6c := ((nat_at.ok _ _ _ h6))
      try simp only [Tf, List.nil_append, List.cons_append, Int.reduceToNat] at h6c
      obtain ⟨h7, h⟩ := ifz h
      obtain ⟨h8, h⟩ := ifn h
      obtain ⟨h9, h⟩ := ifn h
      have h9t := nat_lt (i := x8) (by omega) h9
      have h9g := get_of (l := y11) 0 h9t
      try simp only [List.length_set, List.length_replicate, List.length_map, Int.reduceToNat] at h9t
      simp only [↓Bp, ↓Bs, Bo, Bh, Ba, Bc, ↓reduceIte, Nat.reduceAdd, Nat.reduceEqDiff, Nat.reduceLT, Nat.reduceLeDiff, Nat.reduceBEq, Nat.reduceMul, Int.reduceLE, Int.reduceLT, Int.reduceEq, Int.reduceToNat, Int.cast_ofNat_Int, reduceCtorEq, G78, Tf, b78, ↓Tryd.f78, F78, TY, H78, callP_eq h6c, h7, h8, h9, h9t, h9g, nat_shift.j0S]
      refine AtL.eq (Il0 _ _ _ _ _ _ h) ?_
      simp only [Tf, Int.reduceToNat, Int.toNat_natCast, nat_shift.l0S]
theorem nat_shift.ok (k : Nat) (x0 : List Int) (x1 : Int) (x2 : Int) (r : List Int) (h : nat_shift.f k x0 x1 x2 = some r) : Ret C1 78 [(false, [.sl 1 (x0.map e78)]), (false, [.sc (.int .i64 x1)]), (false, [.sc (.int .i64 x2)])] [aV [.sl 1 (r.map e78)]] := by
  refine ret_of (c := b78) Tryd.func78 rfl rfl ⟨Nat.le_of_ble_eq_true rfl, Nat.le_of_ble_eq_true rfl⟩ ?_
  unfold nat_shift.f at h
  rw [show Tryd.f78.results.toList = [.tmp 6] from rfl]
  rw [show Tryd.f78.ntmps = 38 from rfl]
  obtain ⟨Il0, Ij0⟩ := nat_shift.all k
  obtain ⟨h1, h⟩ := ifn h
  obtain ⟨h2, h⟩ := ifn h
  simp only [↓Bp, ↓Bs, Bo, Bh, Ba, Bc, ↓reduceIte, Nat.reduceAdd, Nat.reduceEqDiff, Nat.reduceLT, Nat.reduceLeDiff, Nat.reduceBEq, Nat.reduceMul, Int.reduceLE, Int.reduceLT, Int.reduceEq, Int.reduceToNat, Int.cast_ofNat_Int, reduceCtorEq, G78, Tf, b78, ↓Tryd.f78, F78, TY, H78, h1, h2]
  refine AtL.eq (Il0 _ _ _ _ _ _ h) ?_
  simp only [Tf, Int.reduceToNat, Int.toNat_natCast, nat_shift.l0S]
mutual
def nat_guess.l0 : Nat → List Int → List Int → Int → Int → Int → Int → Option Int
  | 0, _, _, _, _, _, _ => none
  | k + 1, x0, x1, x2, x7, x9, x10 => (if 4294967296 ≤ x9 then (nat_guess.j0 k x0 x1 x2 x7 x9 x10 true) else (if 0 ≤ (wrap64 (x7 - 2)) then (if (wrap64 (x7 - 2)) < (x1.length : Int) then (if 0 ≤ (wrap64 ((wrap64 (x2 + x7)) - 2)) then (if (wrap64 ((wrap64 (x2 + x7)) - 2)) < (x0.length : Int) then (nat_guess.j0 k x0 x1 x2 x7 x9 x10 (decide ((Go.bits .or .u64 (IntKind.u64.wrap (x10 * 2 ^ min (32 : Int).toNat (IntKind.bits .u64))) (IntKind.u64.wrap ((x0.getD (((wrap64 ((wrap64 (x2 + x7)) - 2)) : Int).toNat) 0)))) < (IntKind.u64.wrap (x9 * (IntKind.u64.wrap ((x1.getD (((wrap64 (x7 - 2)) : Int).toNat) 0)))))))) else none) else none) else none) else none))
def nat_guess.j0 : Nat → List Int → List Int → Int → Int → Int → Int → Bool → Option Int
  | 0, _, _, _, _, _, _, _ => none
  | k + 1, x0, x1, x2, x7, x9, x10, x69 => (if x69 = true then (if 0 ≤ (wrap64 (x7 - 1)) then (if (wrap64 (x7 - 1)) < (x1.length : Int) then (if 4294967296 ≤ (IntKind.u64.wrap (x10 + (IntKind.u64.wrap ((x1.getD (((wrap64 (x7 - 1)) : Int).toNat) 0))))) then (nat_guess.j1 k (IntKind.u64.wrap (x9 - 1))) else (nat_guess.l0 k x0 x1 x2 x7 (IntKind.u64.wrap (x9 - 1)) (IntKind.u64.wrap (x10 + (IntKind.u64.wrap ((x1.getD (((wrap64 (x7 - 1)) : Int).toNat) 0))))))) else none) else none) else (nat_guess.j1 k x9))
def nat_guess.j1 : Nat → Int → Option Int
  | 0, _ => none
  | k + 1, x9 => (some x9)
end
def nat_guess.f (k : Nat) (x0 : List Int) (x1 : List Int) (x2 : Int) : Option Int := (if 0 ≤ (wrap64 (x2 + (x1.length : Int))) then (if (wrap64 (x2 + (x1.length : Int))) < (x0.length : Int) then (if 0 ≤ (wrap64 ((wrap64 (x2 + (x1.length : Int))) - 1)) then (if (wrap64 ((wrap64 (x2 + (x1.length : Int))) - 1)) < (x0.length : Int) then (if 0 ≤ (wrap64 ((x1.length : Int) - 1)) then (if (wrap64 ((x1.length : Int) - 1)) < (x1.length : Int) then (if (IntKind.u64.wrap ((x1.getD (((wrap64 ((x1.length : Int) - 1)) : Int).toNat) 0))) = 0 then none else (if (wrap64 ((x1.length : Int) - 1)) < (x1.length : Int) then (if (IntKind.u64.wrap ((x1.getD (((wrap64 ((x1.length : Int) - 1)) : Int).toNat) 0))) = 0 then none else (nat_guess.l0 k x0 x1 x2 (x1.length : Int) (IntKind.u64.wrap (Int.tdiv (Go.bits .or .u64 (IntKind.u64.wrap ((IntKind.u64.wrap ((x0.getD (((wrap64 (x2 + (x1.length : Int))) : Int).toNat) 0))) * 2 ^ min (32 : Int).toNat (IntKind.bits .u64))) (IntKind.u64.wrap ((x0.getD (((wrap64 ((wrap64 (x2 + (x1.length : Int))) - 1)) : Int).toNat) 0)))) (IntKind.u64.wrap ((x1.getD (((wrap64 ((x1.length : Int) - 1)) : Int).toNat) 0))))) (Int.tmod (Go.bits .or .u64 (IntKind.u64.wrap ((IntKind.u64.wrap ((x0.getD (((wrap64 (x2 + (x1.length : Int))) : Int).toNat) 0))) * 2 ^ min (32 : Int).toNat (IntKind.bits .u64))) (IntKind.u64.wrap ((x0.getD (((wrap64 ((wrap64 (x2 + (x1.length : Int))) - 1)) : Int).toNat) 0)))) (IntKind.u64.wrap ((x1.getD (((wrap64 ((x1.length : Int) - 1)) : Int).toNat) 0)))))) else none)) else none) else none) else none) else none) else none) else none)
theorem nat_guess.monos : ∀ k, (∀ x0 x1 x2 x7 x9 x10, LeO (nat_guess.l0 k x0 x1 x2 x7 x9 x10) (nat_guess.l0 (k + 1) x0 x1 x2 x7 x9 x10)) ∧ (∀ x0 x1 x2 x7 x9 x10 x69, LeO (nat_guess.j0 k x0 x1 x2 x7 x9 x10 x69) (nat_guess.j0 (k + 1) x0 x1 x2 x7 x9 x10 x69)) ∧ (∀ x9, LeO (nat_guess.j1 k x9) (nat_guess.j1 (k + 1) x9))
  | 0 => ⟨fun _ _ _ _ _ _ => leo_none, fun _ _ _ _ _ _ _ => leo_none, fun _ => leo_none⟩
  | k + 1 => by
    obtain ⟨Il0, Ij0, Ij1⟩ := nat_guess.monos k
    refine ⟨?_, ?_, ?_⟩
    · intro x0 x1 x2 x7 x9 x10
      rw [nat_guess.l0, nat_guess.l0]
      exact leo_ite (Ij0 _ _ _ _ _ _ _) (leo_if (leo_if (leo_if (leo_if (Ij0 _ _ _ _ _ _ _)))))
    · intro x0 x1 x2 x7 x9 x10 x69
      rw [nat_guess.j0, nat_guess.j0]
      exact leo_ite (leo_if (leo_if (leo_ite (Ij1 _) (Il0 _ _ _ _ _ _)))) (Ij1 _)
    · intro x9
      rw [nat_guess.j1, nat_guess.j1]
      exact leo_refl
theorem nat_guess.mono (k : Nat) (x0 : List Int) (x1 : List Int) (x2 : Int) : LeO (nat_guess.f k x0 x1 x2) (nat_guess.f (k + 1) x0 x1 x2) := leo_if (leo_if (leo_if (leo_if (leo_if (leo_if (leo_ifz (leo_if (leo_ifz ((nat_guess.monos k).1 _ _ _ _ _ _)))))))))
noncomputable def b79 : Code := bodyOf Tryd.f79
def F79 : Fr := ⟨0, 83, 1, [], 79⟩
theorem D79_2 {k : List It} {s : St} {Q : Post} {ops : Array Oper} {us : List Upd} (ha : apart2 [(0, 1), (0, 2), (1, 2), (0, 3), (0, 8), (1, 8), (2, 8), (3, 8), (4, 8), (5, 8), (6, 8), (7, 8), (0, 9), (1, 9), (2, 9), (3, 9), (4, 9), (5, 9), (6, 9), (7, 9), (8, 9), (0, 10), (1, 10), (2, 10), (3, 10), (4, 10), (5, 10), (6, 10), (7, 10), (8, 10), (9, 10), (0, 11), (1, 11), (2, 11), (3, 11), (4, 11), (5, 11), (6, 11), (7, 11), (8, 11), (0, 12), (1, 12), (2, 12), (3, 12), (4, 12), (5, 12), (6, 12), (7, 12), (8, 12), (0, 13), (1, 13), (2, 13), (3, 13), (4, 13), (5, 13), (6, 13), (7, 13), (0, 14), (1, 14), (2, 14), (3, 14), (4, 14), (5, 14), (6, 14), (7, 14), (0, 15), (1, 15), (2, 15), (3, 15), (4, 15), (5, 15), (6, 15), (7, 15)] (loud 0 us.reverse) = true) (hl : lessAll us.length [(0, 1), (0, 2), (1, 2), (0, 3), (0, 8), (1, 8), (2, 8), (3, 8), (4, 8), (5, 8), (6, 8), (7, 8), (0, 9), (1, 9), (2, 9), (3, 9), (4, 9), (5, 9), (6, 9), (7, 9), (8, 9), (0, 10), (1, 10), (2, 10), (3, 10), (4, 10), (5, 10), (6, 10), (7, 10), (8, 10), (9, 10), (0, 11), (1, 11), (2, 11), (3, 11), (4, 11), (5, 11), (6, 11), (7, 11), (8, 11), (0, 12), (1, 12), (2, 12), (3, 12), (4, 12), (5, 12), (6, 12), (7, 12), (8, 12), (0, 13), (1, 13), (2, 13), (3, 13), (4, 13), (5, 13), (6, 13), (7, 13), (0, 14), (1, 14), (2, 14), (3, 14), (4, 14), (5, 14), (6, 14), (7, 14), (0, 15), (1, 15), (2, 15), (3, 15), (4, 15), (5, 15), (6, 15), (7, 15)] = true) : GR C1 ⟨0, 83, 1, [], 79⟩ k Q 2 true ops [] s us = Fin C1 ⟨0, 83, 1, [], 79⟩ k .fall s Q := gr_nilD (F := F79) rfl ha hl
theorem D79_3 {k : List It} {s : St} {Q : Post} {ops : Array Oper} {us : List Upd} (ha : apart2 [(0, 1), (0, 2), (1, 2), (0, 3), (1, 3), (0, 4), (0, 5), (0, 6), (0, 8), (1, 8), (2, 8), (3, 8), (4, 8), (5, 8), (6, 8), (7, 8), (0, 9), (1, 9), (2, 9), (3, 9), (4, 9), (5, 9), (6, 9), (7, 9), (8, 9), (0, 10), (1, 10), (2, 10), (3, 10), (4, 10), (5, 10), (6, 10), (7, 10), (8, 10), (9, 10), (0, 11), (1, 11), (2, 11), (3, 11), (4, 11), (5, 11), (6, 11), (7, 11), (8, 11), (9, 11), (0, 12), (1, 12), (2, 12), (3, 12), (4, 12), (5, 12), (6, 12), (7, 12), (8, 12), (0, 13), (1, 13), (2, 13), (3, 13), (4, 13), (5, 13), (6, 13), (7, 13), (8, 13), (0, 14), (1, 14), (2, 14), (3, 14), (4, 14), (5, 14), (6, 14), (7, 14), (8, 14), (0, 15), (1, 15), (2, 15), (3, 15), (4, 15), (5, 15), (6, 15), (7, 15), (8, 16), (9, 16), (10, 16), (11, 16), (12, 16), (13, 16), (14, 16), (15, 16)] (loud 0 us.reverse) = true) (hl : lessAll us.length [(0, 1), (0, 2), (1, 2), (0, 3), (1, 3), (0, 4), (0, 5), (0, 6), (0, 8), (1, 8), (2, 8), (3, 8), (4, 8), (5, 8), (6, 8), (7, 8), (0, 9), (1, 9), (2, 9), (3, 9), (4, 9), (5, 9), (6, 9), (7, 9), (8, 9), (0, 10), (1, 10), (2, 10), (3, 10), (4, 10), (5, 10), (6, 10), (7, 10), (8, 10), (9, 10), (0, 11), (1, 11), (2, 11), (3, 11), (4, 11), (5, 11), (6, 11), (7, 11), (8, 11), (9, 11), (0, 12), (1, 12), (2, 12), (3, 12), (4, 12), (5, 12), (6, 12), (7, 12), (8, 12), (0, 13), (1, 13), (2, 13), (3, 13), (4, 13), (5, 13), (6, 13), (7, 13), (8, 13), (0, 14), (1, 14), (2, 14), (3, 14), (4, 14), (5, 14), (6, 14), (7, 14), (8, 14), (0, 15), (1, 15), (2, 15), (3, 15), (4, 15), (5, 15), (6, 15), (7, 15), (8, 16), (9, 16), (10, 16), (11, 16), (12, 16), (13, 16), (14, 16), (15, 16)] = true) : GR C1 ⟨0, 83, 1, [], 79⟩ k Q 3 true ops [] s us = Fin C1 ⟨0, 83, 1, [], 79⟩ k .fall s Q := gr_nilD (F := F79) rfl ha hl
theorem D79_4 {k : List It} {s : St} {Q : Post} {ops : Array Oper} {us : List Upd} (ha : apart2 [(3, 4), (3, 5), (4, 5), (3, 6), (4, 6), (3, 7), (3, 8), (3, 9), (3, 11), (4, 11), (5, 11), (6, 11), (7, 11), (8, 11), (9, 11), (10, 11), (3, 12), (4, 12), (5, 12), (6, 12), (7, 12), (8, 12), (9, 12), (10, 12), (3, 13), (4, 13), (5, 13), (6, 13), (7, 13), (8, 13), (9, 13), (10, 13), (11, 13), (12, 13), (3, 14), (4, 14), (5, 14), (6, 14), (7, 14), (8, 14), (9, 14), (10, 14), (11, 14), (12, 14), (13, 14), (3, 15), (4, 15), (5, 15), (6, 15), (7, 15), (8, 15), (9, 15), (10, 15), (11, 15), (12, 15), (13, 15), (14, 15), (3, 16), (4, 16), (5, 16), (6, 16), (7, 16), (8, 16), (9, 16), (10, 16), (11, 16), (12, 16), (13, 16), (3, 17), (4, 17), (5, 17), (6, 17), (7, 17), (8, 17), (9, 17), (10, 17), (11, 17), (12, 17), (13, 17), (3, 18), (4, 18), (5, 18), (6, 18), (7, 18), (8, 18), (9, 18), (10, 18), (11, 18), (12, 18), (3, 19), (4, 19), (5, 19), (6, 19), (7, 19), (8, 19), (9, 19), (10, 19), (11, 19), (12, 19), (3, 20), (4, 20), (5, 20), (6, 20), (7, 20), (8, 20), (9, 20), (10, 20), (11, 20), (12, 20), (3, 21), (4, 21), (5, 21), (6, 21), (7, 21), (8, 21), (9, 21), (10, 21)] (loud 0 us.reverse) = true) (hl : lessAll us.length [(3, 4), (3, 5), (4, 5), (3, 6), (4, 6), (3, 7), (3, 8), (3, 9), (3, 11), (4, 11), (5, 11), (6, 11), (7, 11), (8, 11), (9, 11), (10, 11), (3, 12), (4, 12), (5, 12), (6, 12), (7, 12), (8, 12), (9, 12), (10, 12), (3, 13), (4, 13), (5, 13), (6, 13), (7, 13), (8, 13), (9, 13), (10, 13), (11, 13), (12, 13), (3, 14), (4, 14), (5, 14), (6, 14), (7, 14), (8, 14), (9, 14), (10, 14), (11, 14), (12, 14), (13, 14), (3, 15), (4, 15), (5, 15), (6, 15), (7, 15), (8, 15), (9, 15), (10, 15), (11, 15), (12, 15), (13, 15), (14, 15), (3, 16), (4, 16), (5, 16), (6, 16), (7, 16), (8, 16), (9, 16), (10, 16), (11, 16), (12, 16), (13, 16), (3, 17), (4, 17), (5, 17), (6, 17), (7, 17), (8, 17), (9, 17), (10, 17), (11, 17), (12, 17), (13, 17), (3, 18), (4, 18), (5, 18), (6, 18), (7, 18), (8, 18), (9, 18), (10, 18), (11, 18), (12, 18), (3, 19), (4, 19), (5, 19), (6, 19), (7, 19), (8, 19), (9, 19), (10, 19), (11, 19), (12, 19), (3, 20), (4, 20), (5, 20), (6, 20), (7, 20), (8, 20), (9, 20), (10, 20), (11, 20), (12, 20), (3, 21), (4, 21), (5, 21), (6, 21), (7, 21), (8, 21), (9, 21), (10, 21)] = true) : GR C1 ⟨0, 83, 1, [], 79⟩ k Q 4 true ops [] s us = Fin C1 ⟨0, 83, 1, [], 79⟩ k .fall s Q := gr_nilD (F := F79) rfl ha hl
def nat_guess.l0S (x0 : List Int) (x1 : List Int) (x2 : Int) (x7 : Int) (x9 : Int) (x10 : Int) : St := ⟨upd (upd (upd (upd (upd (upd (fun _ => .no) 10 (.one (.p none (pI .u64 x10)))) 9 (.one (.p none (pI .u64 x9)))) 7 (.one (.p none (pI .i64 x7)))) 2 (.one (.p none (pI .i64 x2)))) 1 (.one (.p none (.sl 1 (x1.map e78))))) 0 (.one (.p none (.sl 1 (x0.map e78)))), noOb, rtP 7, 7⟩
def nat_guess.j0S (x0 : List Int) (x1 : List Int) (x2 : Int) (x7 : Int) (x9 : Int) (x10 : Int) (x69 : Bool) : St := ⟨upd (upd (upd (upd (upd (upd (upd (fun _ => .no) 69 (.one (.p none (pB x69)))) 10 (.one (.p none (pI .u64 x10)))) 9 (.one (.p none (pI .u64 x9)))) 7 (.one (.p none (pI .i64 x7)))) 2 (.one (.p none (pI .i64 x2)))) 1 (.one (.p none (.sl 1 (x1.map e78))))) 0 (.one (.p none (.sl 1 (x0.map e78)))), noOb, rtP 8, 8⟩
def nat_guess.j1S (x9 : Int) : St := ⟨upd (fun _ => .no) 9 (.one (.p none (pI .u64 x9))), noOb, rtP 2, 2⟩
theorem nat_guess.all : ∀ k, (∀ x0 x1 x2 x7 x9 x10 r, nat_guess.l0 k x0 x1 x2 x7 x9 x10 = some r → AtL C1 F79 (sub [1, 0, 1, 1, 1, 1, 0, 0, 0] b79) [.blk 0, .code (sub [1, 0, 1, 1, 1, 1, 1] b79)] (some (nat_guess.l0S x0 x1 x2 x7 x9 x10)) (RetQ C1 [.tmp 6] [aV [pI .u64 r]])) ∧ (∀ x0 x1 x2 x7 x9 x10 x69 r, nat_guess.j0 k x0 x1 x2 x7 x9 x10 x69 = some r → AtJ C1 F79 (sub [1, 0, 1, 1, 1, 1, 0, 0, 0, 0, 1] b79) [.code (sub [1, 0, 1, 1, 1, 1, 0, 0, 0, 1] b79), .lp (sub [1, 0, 1, 1, 1, 1, 0, 0, 0] b79), .blk 0, .code (sub [1, 0, 1, 1, 1, 1, 1] b79)] (some (nat_guess.j0S x0 x1 x2 x7 x9 x10 x69)) (RetQ C1 [.tmp 6] [aV [pI .u64 r]])) ∧ (∀ x9 r, nat_guess.j1 k x9 = some r → AtJ C1 F79 (sub [1, 0, 1, 1, 1, 1, 1] b79) [] (some (nat_guess.j1S x9)) (RetQ C1 [.tmp 6] [aV [pI .u64 r]]))
  | 0 => ⟨fun _ _ _ _ _ _ r h => (by cases h), fun _ _ _ _ _ _ _ r h => (by cases h), fun _ r h => (by cases h)⟩
  | k + 1 => by
    obtain ⟨Il0, Ij0, Ij1⟩ := nat_guess.all k
    refine ⟨?_, ?_, ?_⟩
    · intro x0 x1 x2 x7 x9 x10 r h
      rw [nat_guess.l0] at h
      rw [atL_some]
      by_cases h10 : 4294967296 ≤ x9
      · rw [if_pos h10] at h
        simp only [↓Bp, ↓Bs, Bo, Bh, Ba, Bc, Bd, ↓reduceIte, Nat.reduceAdd, Nat.reduceEqDiff, Nat.reduceLT, Nat.reduceLeDiff, Nat.reduceBEq, Nat.reduceMul, Int.reduceLE, Int.reduceLT, Int.reduceEq, Int.reduceToNat, Int.cast_ofNat_Int, reduceCtorEq, G79, Tf, b79, ↓Tryd.f79, F79, TY, H79, D79_2, D79_3, D79_4, h10, nat_guess.l0S]
        refine AtJ.eq (Ij0 _ _ _ _ _ _ _ _ h) ?_
        simp only [Tf, Int.reduceToNat, Int.toNat_natCast, nat_guess.j0S]
      · rw [if_neg h10] at h
        obtain ⟨h11, h⟩ := ifn h
        obtain ⟨h12, h⟩ := ifn h
        have h12r := fun (q : 0 ≤ (wrap64 (x7 - 2))) => rd_at (l := x1) (i := (wrap64 (x7 - 2))) 0 q h12
        replace h12r := h12r (by omega)
        obtain ⟨h13, h⟩ := ifn h
        obtain ⟨h14, h⟩ := ifn h
        have h14r := fun (q : 0 ≤ (wrap64 ((wrap64 (x2 + x7)) - 2))) => rd_at (l := x0) (i := (wrap64 ((wrap64 (x2 + x7)) - 2))) 0 q h14
        replace h14r := h14r (by omega)
        simp only [↓Bp, ↓Bs, Bo, Bh, Ba, Bc, Bd, ↓reduceIte, Nat.reduceAdd, Nat.reduceEqDiff, Nat.reduceLT, Nat.reduceLeDiff, Nat.reduceBEq, Nat.reduceMul, Int.reduceLE, Int.reduceLT, Int.reduceEq, Int.reduceToNat, Int.cast_ofNat_Int, reduceCtorEq, G79, Tf, b79, ↓Tryd.f79, F79, TY, H79, D79_2, D79_3, D79_4, h10, h11, h12, h12r, h13, h14, h14r, nat_guess.l0S]
        refine AtJ.eq (Ij0 _ _ _ _ _ _ _ _ h) ?_
        simp only [Tf, Int.reduceToNat, Int.toNat_natCast, nat_guess.j0S]
    · intro x0 x1 x2 x7 x9 x10 x69 r h
      rw [nat_guess.j0] at h
      rw [atJ_some]
      by_cases h15 : x69 = true
      · rw [if_pos h15] at h
        obtain ⟨h16, h⟩ := ifn h
        obtain ⟨h17, h⟩ := ifn h
        have h17r := fun (q : 0 ≤ (wrap64 (x7 - 1))) => rd_at (l := x1) (i := (wrap64 (x7 - 1))) 0 q h17
        replace h17r := h17r (by omega)
        by_cases h18 : 4294967296 ≤ (IntKind.u64.wrap (x10 + (IntKind.u64.wrap ((x1.getD (((wrap64 (x7 - 1)) : Int).toNat) 0)))))
        · rw [if_pos h18] at h
          simp only [↓Bp, ↓Bs, Bo, Bh, Ba, Bc, Bd, ↓reduceIte, Nat.reduceAdd, Nat.reduceEqDiff, Nat.reduceLT, Nat.reduceLeDiff, Nat.reduceBEq, Nat.reduceMul, Int.reduceLE, Int.reduceLT, Int.reduceEq, Int.reduceToNat, Int.cast_ofNat_Int, reduceCtorEq, G79, Tf, b79, ↓Tryd.f79, F79, TY, H79, D79_2, D79_3, D79_4, h15, h16, h17, h17r, h18, nat_guess.j0S]
          refine AtJ.eq (Ij1 _ _ h) ?_
          simp only [Tf, Int.reduceToNat, Int.toNat_natCast, nat_guess.j1S, h15]
        · rw [if_neg h18] at h
          simp only [↓Bp, ↓Bs, Bo, Bh, Ba, Bc, Bd, ↓reduceIte, Nat.reduceAdd, Nat.reduceEqDiff, Nat.reduceLT, Nat.reduceLeDiff, Nat.reduceBEq, Nat.reduceMul, Int.reduceLE, Int.reduceLT, Int.reduceEq, Int.reduceToNat, Int.cast_ofNat_Int, reduceCtorEq, G79, Tf, b79, ↓Tryd.f79, F79, TY, H79, D79_2, D79_3, D79_4, h15, h16, h17, h17r, h18, nat_guess.j0S]
          refine AtL.eq (Il0 _ _ _ _ _ _ _ h) ?_
          simp only [Tf, Int.reduceToNat, Int.toNat_natCast, nat_guess.l0S, h15]
      · rw [if_neg h15] at h
        simp only [↓Bp, ↓Bs, Bo, Bh, Ba, Bc, Bd, ↓reduceIte, Nat.reduceAdd, Nat.reduceEqDiff, Nat.reduceLT, Nat.reduceLeDiff, Nat.reduceBEq, Nat.reduceMul, Int.reduceLE, Int.reduceLT, Int.reduceEq, Int.reduceToNat, Int.cast_ofNat_Int, reduceCtorEq, G79, Tf, b79, ↓Tryd.f79, F79, TY, H79, D79_2, D79_3, D79_4, h15, nat_guess.j0S]
        refine AtJ.eq (Ij1 _ _ h) ?_
        simp only [Tf, Int.reduceToNat, Int.toNat_natCast, nat_guess.j1S, h15]
    · intro x9 r h
      rw [nat_guess.j1] at h
      rw [atJ_some]
      obtain rfl := Option.some.inj h
      simp only [↓Bp, ↓Bs, Bo, Bh, Ba, Bc, Bd, ↓reduceIte, Nat.reduceAdd, Nat.reduceEqDiff, Nat.reduceLT, Nat.reduceLeDiff, Nat.reduceBEq, Nat.reduceMul, Int.reduceLE, Int.reduceLT, Int.reduceEq, Int.reduceToNat, Int.cast_ofNat_Int, reduceCtorEq, G79, Tf, b79, ↓Tryd.f79, F79, TY, H79, D79_2, D79_3, D79_4, nat_guess.j1S]
theorem nat_guess.ok (k : Nat) (x0 : List Int) (x1 : List Int) (x2 : Int) (r : Int) (h : nat_guess.f k x0 x1 x2 = some r) : Ret C1 79 [(false, [.sl 1 (x0.map e78)]), (false, [.sl 1 (x1.map e78)]), (false, [.sc (.int .i64 x2)])] [aV [pI .u64 r]] := by
  refine ret_of (c := b79) Tryd.func79 rfl rfl ⟨Nat.le_of_ble_eq_true rfl, Nat.le_of_ble_eq_true rfl⟩ ?_
  unfold nat_guess.f at h
  rw [show Tryd.f79.results.toList = [.tmp 6] from rfl]
  rw [show Tryd.f79.ntmps = 83 from rfl]
  obtain ⟨Il0, Ij0, Ij1⟩ := nat_guess.all k
  obtain ⟨h1, h⟩ := ifn h
  obtain ⟨h2, h⟩ := ifn h
  have h2r := fun (q : 0 ≤ (wrap64 (x2 + (x1.length : Int)))) => rd_at (l := x0) (i := (wrap64 (x2 + (x1.length : Int)))) 0 q h2
  replace h2r := h2r (by omega)
  obtain ⟨h3, h⟩ := ifn h
  obtain ⟨h4, h⟩ := ifn h
  have h4r := fun (q : 0 ≤ (wrap64 ((wrap64 (x2 + (x1.length : Int))) - 1))) => rd_at (l := x0) (i := (wrap64 ((wrap64 (x2 + (x1.length : Int))) - 1))) 0 q h4
  replace h4r := h4r (by omega)
  obtain ⟨h5, h⟩ := ifn h
  obtain ⟨h6, h⟩ := ifn h
  have h6r := fun (q : 0 ≤ (wrap64 ((x1.length : Int) - 1))) => rd_at (l := x1) (i := (wrap64 ((x1.length : Int) - 1))) 0 q h6
  replace h6r := h6r (by omega)
  obtain ⟨h7, h⟩ := ifz h
  obtain ⟨h8, h⟩ := ifn h
  have h8r := fun (q : 0 ≤ (wrap64 ((x1.length : Int) - 1))) => rd_at (l := x1) (i := (wrap64 ((x1.length : Int) - 1))) 0 q h8
  replace h8r := h8r (by omega)
  obtain ⟨h9, h⟩ := ifz h
  simp only [↓Bp, ↓Bs, Bo, Bh, Ba, Bc, Bd, ↓reduceIte, Nat.reduceAdd, Nat.reduceEqDiff, Nat.reduceLT, Nat.reduceLeDiff, Nat.reduceBEq, Nat.reduceMul, Int.reduceLE, Int.reduceLT, Int.reduceEq, Int.reduceToNat, Int.cast_ofNat_Int, reduceCtorEq, G79, Tf, b79, ↓Tryd.f79, F79, TY, H79, D79_2, D79_3, D79_4, h1, h2, h2r, h3, h4, h4r, h5, h6, h6r, h7, h8, h8r, h9]
  refine AtL.eq (Il0 _ _ _ _ _ _ _ h) ?_
  simp only [Tf, Int.reduceToNat, Int.toNat_natCast, nat_guess.l0S]
mutual
def nat_shift_s0.l0 : Nat → List Int → Int → Int → Int → List Int → Option (List Int)
  | 0, _, _, _, _, _ => none
  | k + 1, x0, x1, x13, x14, y11 => (if x14 < x13 then (if 0 < x14 then ((nat_at.f x0 (wrap64 (x14 - 1))).bind fun t5 => (nat_shift_s0.j0 k x0 x1 x14 t5 x13 x14 y11)) else (nat_shift_s0.j0 k x0 x1 x14 0 x13 x14 y11)) else (some y11))
def nat_shift_s0.j0 : Nat → List Int → Int → Int → Int → Int → Int → List Int → Option (List Int)
  | 0, _, _, _, _, _, _, _ => none
  | k + 1, x0, x1, x8, x9, x13, x14, y11 => ((nat_at.f x0 x8).bind fun t6 => (if x1 < 0 then none else (if 0 ≤ x8 then (if x8 < (y11.length : Int) then (nat_shift_s0.l0 k x0 x1 x13 (wrap64 (x14 + 1)) (y11.set ((x8 : Int).toNat) (IntKind.u32.wrap ((Int.fdiv (IntKind.u64.wrap ((Go.bits .or .u64 (IntKind.u64.wrap (t6 * 2 ^ min (32 : Int).toNat (IntKind.bits .u64))) x9) * 2 ^ min (x1 : Int).toNat (IntKind.bits .u64))) (2 ^ min (32 : Int).toNat (IntKind.bits .u64))))))) else none) else none)))
end
def nat_shift_s0.f (k : Nat) (x0 : List Int) (x1 : Int) (x2 : Int) : Option (List Int) := (if 0 ≤ x2 then (if x2 ≤ 16777216 then (nat_shift_s0.l0 k x0 x1 ((List.replicate ((x2 : Int).toNat) 0).length : Int) 0 (List.replicate ((x2 : Int).toNat) 0)) else none) else none)
theorem nat_shift_s0.monos : ∀ k, (∀ x0 x1 x13 x14 y11, LeO (nat_shift_s0.l0 k x0 x1 x13 x14 y11) (nat_shift_s0.l0 (k + 1) x0 x1 x13 x14 y11)) ∧ (∀ x0 x1 x8 x9 x13 x14 y11, LeO (nat_shift_s0.j0 k x0 x1 x8 x9 x13 x14 y11) (nat_shift_s0.j0 (k + 1) x0 x1 x8 x9 x13 x14 y11))
  | 0 => ⟨fun _ _ _ _ _ => leo_none, fun _ _ _ _ _ _ _ => leo_none⟩
  | k + 1 => by
    obtain ⟨Il0, Ij0⟩ := nat_shift_s0.monos k
    refine ⟨?_, ?_⟩
    · intro x0 x1 x13 x14 y11
      rw [nat_shift_s0.l0, nat_shift_s0.l0]
      exact leo_ite (leo_ite (leo_bind leo_refl (fun _ => Ij0 _ _ _ _ _ _ _)) (Ij0 _ _ _ _ _ _ _)) (leo_refl)
    · intro x0 x1 x8 x9 x13 x14 y11
      rw [nat_shift_s0.j0, nat_shift_s0.j0]
      exact leo_bind leo_refl (fun _ => leo_ifz (leo_if (leo_if (Il0 _ _ _ _ _))))
theorem nat_shift_s0.mono (k : Nat) (x0 : List Int) (x1 : Int) (x2 : Int) : LeO (nat_shift_s0.f k x0 x1 x2) (nat_shift_s0.f (k + 1) x0 x1 x2) := leo_if (leo_if ((nat_shift_s0.monos k).1 _ _ _ _ _))
def F78_0 : Fr := ⟨0, 38, 4, [], 78⟩
def nat_shift_s0.l0S (x0 : List Int) (x1 : Int) (x13 : Int) (x14 : Int) (y11 : List Int) : St := ⟨upd (upd (upd (upd (upd (fun _ => .no) 14 (.one (.p none (pI .i64 x14)))) 13 (.one (.p none (pI .i64 x13)))) 7 (.one (.vw 11 0 y11.length))) 1 (.one (.p none (pI .i64 x1)))) 0 (.one (.p none (.sl 1 (x0.map e78)))), upd noOb 11 (some (.arr false 1 (y11.map e78))), rtP 9, 9⟩
def nat_shift_s0.j0S (x0 : List Int) (x1 : Int) (x8 : Int) (x9 : Int) (x13 : Int) (x14 : Int) (y11 : List Int) : St := ⟨upd (upd (upd (upd (upd (upd (upd (fun _ => .no) 14 (.one (.p none (pI .i64 x14)))) 13 (.one (.p none (pI .i64 x13)))) 9 (.one (.p none (pI .u64 x9)))) 8 (.one (.p none (pI .i64 x8)))) 7 (.one (.vw 11 0 y11.length))) 1 (.one (.p none (pI .i64 x1)))) 0 (.one (.p none (.sl 1 (x0.map e78)))), upd noOb 11 (some (.arr false 1 (y11.map e78))), rtP 11, 11⟩
theorem nat_shift_s0.all : ∀ k, (∀ x0 x1 x13 x14 y11 r, nat_shift_s0.l0 k x0 x1 x13 x14 y11 = some r → AtL C1 F78_0 (sub [1, 1, 0, 1, 0, 0] b78) [.blk 0, .code (sub [1, 1, 1] b78)] (some (nat_shift_s0.l0S x0 x1 x13 x14 y11)) (RetQM C1 0 4 [.tmp 6] [.one (.vw 0 0 r.length)] (upd noOb 0 (some (.arr false 1 (r.map e78)))) (rtP 5) 5)) ∧ (∀ x0 x1 x8 x9 x13 x14 y11 r, nat_shift_s0.j0 k x0 x1 x8 x9 x13 x14 y11 = some r → AtJ C1 F78_0 (sub [1, 1, 0, 1, 0, 0, 1, 1, 0, 0, 1, 1, 1] b78) [.blk 1, .code (sub [1, 1, 0, 1, 0, 0, 1, 1, 1] b78), .lp (sub [1, 1, 0, 1, 0, 0] b78), .blk 0, .code (sub [1, 1, 1] b78)] (some (nat_shift_s0.j0S x0 x1 x8 x9 x13 x14 y11)) (RetQM C1 0 4 [.tmp 6] [.one (.vw 0 0 r.length)] (upd noOb 0 (some (.arr false 1 (r.map e78)))) (rtP 5) 5))
  | 0 => ⟨fun _ _ _ _ _ r h => (by cases h), fun _ _ _ _ _ _ _ r h => (by cases h)⟩
  | k + 1 => by
    obtain ⟨Il0, Ij0⟩ := nat_shift_s0.all k
    refine ⟨?_, ?_⟩
    · intro x0 x1 x13 x14 y11 r h
      rw [nat_shift_s0.l0] at h
      rw [atL_some]
      by_cases h3 : x14 < x13
      · rw [if_pos h3] at h
        by_cases h4 : 0 < x14
        · rw [if_pos h4] at h
          obtain ⟨t5, h5, h⟩ := bnd h
          have h5c := ((nat_at.ok _ _ _ h5))
          try simp only [Tf, List.nil_append, List.cons_append, Int.reduceToNat] at h5c
          simp only [↓Bp, ↓Bs, Bo, Bh, Ba, Bc, Bm, Nat.reduceSub, Int.sub_zero, ↓reduceIte, Nat.reduceAdd, Nat.reduceEqDiff, Nat.reduceLT, Nat.reduceLeDiff, Nat.reduceBEq, Nat.reduceMul, Int.reduceLE, Int.reduceLT, Int.reduceEq, Int.reduceToNat, Int.cast_ofNat_Int, reduceCtorEq, G78, Tf, b78, ↓Tryd.f78, F78_0, TY, H78, h3, h4, callP_eq h5c, nat_shift_s0.l0S]
          refine AtJ.eq (Ij0 _ _ _ _ _ _ _ _ h) ?_
          simp only [Tf, Int.reduceToNat, Int.toNat_natCast, nat_shift_s0.j0S]
        · rw [if_neg h4] at h
          simp only [↓Bp, ↓Bs, Bo, Bh, Ba, Bc, Bm, Nat.reduceSub, Int.sub_zero, ↓reduceIte, Nat.reduceAdd, Nat.reduceEqDiff, Nat.reduceLT, Nat.reduceLeDiff, Nat.reduceBEq, Nat.reduceMul, Int.reduceLE, Int.reduceLT, Int.reduceEq, Int.reduceToNat, Int.cast_ofNat_Int, reduceCtorEq, G78, Tf, b78, ↓Tryd.f78, F78_0, TY, H78, h3, h4, nat_shift_s0.l0S]
          refine AtJ.eq (Ij0 _ _ _ _ _ _ _ _ h) ?_
          simp only [Tf, Int.reduceToNat, Int.toNat_natCast, nat_shift_s0.j0S]
      · rw [if_neg h3] at h
        obtain rfl := Option.some.inj h
        simp only [↓Bp, ↓Bs, Bo, Bh, Ba, Bc, Bm, Nat.reduceSub, Int.sub_zero, ↓reduceIte, Nat.reduceAdd, Nat.reduceEqDiff, Nat.reduceLT, Nat.reduceLeDiff, Nat.reduceBEq, Nat.reduceMul, Int.reduceLE, Int.reduceLT, Int.reduceEq, Int.reduceToNat, Int.cast_ofNat_Int, reduceCtorEq, G78, Tf, b78, ↓Tryd.f78, F78_0, TY, H78, h3, nat_shift_s0.l0S]
    · intro x0 x1 x8 x9 x13 x14 y11 r h
      rw [nat_shift_s0.j0] at h
      rw [atJ_some]
      obtain ⟨t6, h6, h⟩ := bnd h
      have h6c := ((nat_at.ok _ _ _ h6))
      try simp only [Tf, List.nil_append, List.cons_append, Int.reduceToNat] at h6c
      obtain ⟨h7, h⟩ := ifz h
      obtain ⟨h8, h⟩ := ifn h
      obtain ⟨h9, h⟩ := ifn h
      have h9t := nat_lt (i := x8) (by omega) h9
      have h9g := get_of (l := y11) 0 h9t
      try simp only [List.length_set, List.length_replicate, List.length_map, Int.reduceToNat] at h9t
      simp only [↓Bp, ↓Bs, Bo, Bh, Ba, Bc, Bm, Nat.reduceSub, Int.sub_zero, ↓reduceIte, Nat.reduceAdd, Nat.reduceEqDiff, Nat.reduceLT, Nat.reduceLeDiff, Nat.reduceBEq, Nat.reduceMul, Int.reduceLE, Int.reduceLT, Int.reduceEq, Int.reduceToNat, Int.cast_ofNat_Int, reduceCtorEq, G78, Tf, b78, ↓Tryd.f78, F78_0, TY, H78, callP_eq h6c, h7, h8, h9, h9t, h9g, nat_shift_s0.j0S]
      refine AtL.eq (Il0 _ _ _ _ _ _ h) ?_
      simp only [Tf, Int.reduceToNat, Int.toNat_natCast, nat_shift_s0.l0S]
theorem nat_shift_s0.ok (k : Nat) (x0 : List Int) (x1 : Int) (x2 : Int) (r : List Int) (h : nat_shift_s0.f k x0 x1 x2 = some r) : RetM C1 0 78 [.one (.p none (.sl 1 (x0.map e78))), .one (.p none (.sc (.int .i64 x1))), .one (.p none (.sc (.int .i64 x2)))] (noOb) (rtP 4) 4 [.one (.vw 0 0 r.length)] (upd noOb 0 (some (.arr false 1 (r.map e78)))) (rtP 5) 5 := by
  refine retM_of (c := b78) (vis := []) Tryd.func78 rfl rfl ⟨Nat.le_of_ble_eq_true rfl, Nat.le_of_ble_eq_true rfl⟩ rfl ?_
  unfold nat_shift_s0.f at h
  rw [show Tryd.f78.results.toList = [.tmp 6] from rfl]
  rw [show Tryd.f78.ntmps = 38 from rfl]
  obtain ⟨Il0, Ij0⟩ := nat_shift_s0.all k
  obtain ⟨h1, h⟩ := ifn h
  obtain ⟨h2, h⟩ := ifn h
  simp only [↓Bp, ↓Bs, Bo, Bh, Ba, Bc, Bm, Nat.reduceSub, Int.sub_zero, ↓reduceIte, Nat.reduceAdd, Nat.reduceEqDiff, Nat.reduceLT, Nat.reduceLeDiff, Nat.reduceBEq, Nat.reduceMul, Int.reduceLE, Int.reduceLT, Int.reduceEq, Int.reduceToNat, Int.cast_ofNat_Int, reduceCtorEq, G78, Tf, b78, ↓Tryd.f78, F78_0, TY, H78, h1, h2]
  refine AtL.eq (Il0 _ _ _ _ _ _ h) ?_
  simp only [Tf, Int.reduceToNat, Int.toNat_natCast, nat_shift_s0.l0S]
def nat_take_s1.l0 : Nat → List Int → Int → Int → Int → Int → Int → Int → List Int → Option (Bool × (List Int))
  | 0, _, _, _, _, _, _, _, _ => none
  | k + 1, x1, x2, x3, x9, x10, x15, x16, y0 => (if x16 < x15 then ((nat_at.f x1 x16).bind fun t2 => (if 0 ≤ (wrap64 (x2 + x16)) then (if (wrap64 (x2 + x16)) < (y0.length : Int) then (if (wrap64 (x2 + x16)) < (y0.length : Int) then (nat_take_s1.l0 k x1 x2 x3 (Go.bits .and .u64 (Int.fdiv (IntKind.u64.wrap ((IntKind.u64.wrap ((IntKind.u64.wrap ((y0.getD (((wrap64 (x2 + x16)) : Int).toNat) 0))) - (Go.bits .and .u64 (IntKind.u64.wrap (x10 + (IntKind.u64.wrap (x3 * t2)))) 4294967295))) - x9)) (2 ^ min (33 : Int).toNat (IntKind.bits .u64))) 1) (Int.fdiv (IntKind.u64.wrap (x10 + (IntKind.u64.wrap (x3 * t2)))) (2 ^ min (32 : Int).toNat (IntKind.bits .u64))) x15 (wrap64 (x16 + 1)) (y0.set (((wrap64 (x2 + x16)) : Int).toNat) (IntKind.u32.wrap ((IntKind.u64.wrap ((IntKind.u64.wrap ((IntKind.u64.wrap ((y0.getD (((wrap64 (x2 + x16)) : Int).toNat) 0))) - (Go.bits .and .u64 (IntKind.u64.wrap (x10 + (IntKind.u64.wrap (x3 * t2)))) 4294967295))) - x9)))))) else none) else none) else none)) else (some ((decide (x9 = 1)), y0)))
def nat_take_s1.f (k : Nat) (x1 : List Int) (x2 : Int) (x3 : Int) (y0 : List Int) : Option (Bool × (List Int)) := (nat_take_s1.l0 k x1 x2 x3 0 0 (wrap64 ((x1.length : Int) + 1)) 0 y0)
theorem nat_take_s1.monos : ∀ k, (∀ x1 x2 x3 x9 x10 x15 x16 y0, LeO (nat_take_s1.l0 k x1 x2 x3 x9 x10 x15 x16 y0) (nat_take_s1.l0 (k + 1) x1 x2 x3 x9 x10 x15 x16 y0))
  | 0 => fun _ _ _ _ _ _ _ _ => leo_none
  | k + 1 => by
    have I := nat_take_s1.monos k
    · intro x1 x2 x3 x9 x10 x15 x16 y0
      rw [nat_take_s1.l0, nat_take_s1.l0]
      exact leo_ite (leo_bind leo_refl (fun _ => leo_if (leo_if (leo_if (I _ _ _ _ _ _ _ _))))) (leo_refl)
theorem nat_take_s1.mono (k : Nat) (x1 : List Int) (x2 : Int) (x3 : Int) (y0 : List Int) : LeO (nat_take_s1.f k x1 x2 x3 y0) (nat_take_s1.f (k + 1) x1 x2 x3 y0) := (nat_take_s1.monos k) _ _ _ _ _ _ _ _
noncomputable def b80 : Code := bodyOf Tryd.f80
def F80_1 : Fr := ⟨1, 53, 5, [0], 80⟩
def nat_take_s1.l0S (x1 : List Int) (x2 : Int) (x3 : Int) (x9 : Int) (x10 : Int) (x15 : Int) (x16 : Int) (y0 : List Int) : St := ⟨upd (upd (upd (upd (upd (upd (upd (upd (fun _ => .no) 16 (.one (.p none (pI .i64 x16)))) 15 (.one (.p none (pI .i64 x15)))) 10 (.one (.p none (pI .u64 x10)))) 9 (.one (.p none (pI .u64 x9)))) 3 (.one (.p none (pI .u64 x3)))) 2 (.one (.p none (pI .i64 x2)))) 1 (.one (.p none (.sl 1 (x1.map e78))))) 0 (.one (.vw 0 0 y0.length)), upd noOb 0 (some (.arr false 1 (y0.map e78))), rtP 13, 13⟩
theorem nat_take_s1.all : ∀ k, (∀ x1 x2 x3 x9 x10 x15 x16 y0 r, nat_take_s1.l0 k x1 x2 x3 x9 x10 x15 x16 y0 = some r → AtL C1 F80_1 (sub [1, 1, 0, 1, 0, 0] b80) [.blk 0, .code (sub [1, 1, 1] b80)] (some (nat_take_s1.l0S x1 x2 x3 x9 x10 x15 x16 y0)) (RetQM C1 1 5 [.tmp 8] [.one (.p none (.sc (.bool r.1)))] (upd noOb 0 (some (.arr false 1 (r.2.map e78)))) (rtP 6) 6))
  | 0 => fun _ _ _ _ _ _ _ _ r h => (by cases h)
  | k + 1 => by
    have Il0 := nat_take_s1.all k
    · intro x1 x2 x3 x9 x10 x15 x16 y0 r h
      rw [nat_take_s1.l0] at h
      rw [atL_some]
      by_cases h1 : x16 < x15
      · rw [if_pos h1] at h
        obtain ⟨t2, h2, h⟩ := bnd h
        have h2c := ((nat_at.ok _ _ _ h2))
        try simp only [Tf, List.nil_append, List.cons_append, Int.reduceToNat] at h2c
        obtain ⟨h3, h⟩ := ifn h
        obtain ⟨h4, h⟩ := ifn h
        have h4t := nat_lt (i := (wrap64 (x2 + x16))) (by omega) h4
        have h4g := get_of (l := y0) 0 h4t
        try simp only [List.length_set, List.length_replicate, List.length_map, Int.reduceToNat] at h4t
        obtain ⟨h5, h⟩ := ifn h
        have h5t := nat_lt (i := (wrap64 (x2 + x16))) (by omega) h5
        have h5g := get_of (l := y0) 0 h5t
        try simp only [List.length_set, List.length_replicate, List.length_map, Int.reduceToNat] at h5t
        simp only [↓Bp, ↓Bs, Bo, Bh, Ba, Bc, Bm, Nat.reduceSub, Int.sub_zero, ↓reduceIte, Nat.reduceAdd, Nat.reduceEqDiff, Nat.reduceLT, Nat.reduceLeDiff, Nat.reduceBEq, Nat.reduceMul, Int.reduceLE, Int.reduceLT, Int.reduceEq, Int.reduceToNat, Int.cast_ofNat_Int, reduceCtorEq, G80, Tf, b80, ↓Tryd.f80, F80_1, TY, H80, h1, callP_eq h2c, h3, h4, h4t, h4g, h5, h5t, h5g, nat_take_s1.l0S]
        refine AtL.eq (Il0 _ _ _ _ _ _ _ _ _ h) ?_
        simp only [Tf, Int.reduceToNat, Int.toNat_natCast, nat_take_s1.l0S]
      · rw [if_neg h1] at h
        obtain rfl := Option.some.inj h
        simp only [↓Bp, ↓Bs, Bo, Bh, Ba, Bc, Bm, Nat.reduceSub, Int.sub_zero, ↓reduceIte, Nat.reduceAdd, Nat.reduceEqDiff, Nat.reduceLT, Nat.reduceLeDiff, Nat.reduceBEq, Nat.reduceMul, Int.reduceLE, Int.reduceLT, Int.reduceEq, Int.reduceToNat, Int.cast_ofNat_Int, reduceCtorEq, G80, Tf, b80, ↓Tryd.f80, F80_1, TY, H80, h1, nat_take_s1.l0S]
theorem nat_take_s1.ok (k : Nat) (x1 : List Int) (x2 : Int) (x3 : Int) (y0 : List Int) (r : Bool × (List Int)) (h : nat_take_s1.f k x1 x2 x3 y0 = some r) : RetM C1 1 80 [.one (.vw 0 0 y0.length), .one (.p none (.sl 1 (x1.map e78))), .one (.p none (.sc (.int .i64 x2))), .one (.p none (.sc (.int .u64 x3)))] (upd noOb 0 (some (.arr false 1 (y0.map e78)))) (rtP 5) 5 [.one (.p none (.sc (.bool r.1)))] (upd noOb 0 (some (.arr false 1 (r.2.map e78)))) (rtP 6) 6 := by
  refine retM_of (c := b80) (vis := [0]) Tryd.func80 rfl rfl ⟨Nat.le_of_ble_eq_true rfl, Nat.le_of_ble_eq_true rfl⟩ rfl ?_
  unfold nat_take_s1.f at h
  rw [show Tryd.f80.results.toList = [.tmp 8] from rfl]
  rw [show Tryd.f80.ntmps = 53 from rfl]
  have Il0 := nat_take_s1.all k
  simp only [↓Bp, ↓Bs, Bo, Bh, Ba, Bc, Bm, Nat.reduceSub, Int.sub_zero, ↓reduceIte, Nat.reduceAdd, Nat.reduceEqDiff, Nat.reduceLT, Nat.reduceLeDiff, Nat.reduceBEq, Nat.reduceMul, Int.reduceLE, Int.reduceLT, Int.reduceEq, Int.reduceToNat, Int.cast_ofNat_Int, reduceCtorEq, G80, Tf, b80, ↓Tryd.f80, F80_1, TY, H80]
  refine AtL.eq (Il0 _ _ _ _ _ _ _ _ _ h) ?_
  simp only [Tf, Int.reduceToNat, Int.toNat_natCast, nat_take_s1.l0S]
def nat_back_s0.l0 : Nat → List Int → Int → Int → Int → Int → List Int → Option (List Int)
  | 0, _, _, _, _, _, _ => none
  | k + 1, x1, x2, x6, x10, x11, y0 => (if x11 < x10 then (if 0 ≤ (wrap64 (x2 + x11)) then (if (wrap64 (x2 + x11)) < (y0.length : Int) then ((nat_at.f x1 x11).bind fun t4 => (if (wrap64 (x2 + x11)) < (y0.length : Int) then (nat_back_s0.l0 k x1 x2 (Int.fdiv (IntKind.u64.wrap (x6 + (IntKind.u64.wrap ((IntKind.u64.wrap ((y0.getD (((wrap64 (x2 + x11)) : Int).toNat) 0))) + t4)))) (2 ^ min (32 : Int).toNat (IntKind.bits .u64))) x10 (wrap64 (x11 + 1)) (y0.set (((wrap64 (x2 + x11)) : Int).toNat) (IntKind.u32.wrap ((IntKind.u64.wrap (x6 + (IntKind.u64.wrap ((IntKind.u64.wrap ((y0.getD (((wrap64 (x2 + x11)) : Int).toNat) 0))) + t4)))))))) else none)) else none) else none) else (some y0))
def nat_back_s0.f (k : Nat) (x1 : List Int) (x2 : Int) (y0 : List Int) : Option (List Int) := (nat_back_s0.l0 k x1 x2 0 (wrap64 ((x1.length : Int) + 1)) 0 y0)
theorem nat_back_s0.monos : ∀ k, (∀ x1 x2 x6 x10 x11 y0, LeO (nat_back_s0.l0 k x1 x2 x6 x10 x11 y0) (nat_back_s0.l0 (k + 1) x1 x2 x6 x10 x11 y0))
  | 0 => fun _ _ _ _ _ _ => leo_none
  | k + 1 => by
    have I := nat_back_s0.monos k
    · intro x1 x2 x6 x10 x11 y0
      rw [nat_back_s0.l0, nat_back_s0.l0]
      exact leo_ite (leo_if (leo_if (leo_bind leo_refl (fun _ => leo_if (I _ _ _ _ _ _))))) (leo_refl)
theorem nat_back_s0.mono (k : Nat) (x1 : List Int) (x2 : Int) (y0 : List Int) : LeO (nat_back_s0.f k x1 x2 y0) (nat_back_s0.f (k + 1) x1 x2 y0) := (nat_back_s0.monos k) _ _ _ _ _ _
noncomputable def b81 : Code := bodyOf Tryd.f81
def F81_0 : Fr := ⟨1, 37, 4, [0], 81⟩
theorem D81_0_4 {k : List It} {s : St} {Q : Post} {ops : Array Oper} {us : List Upd} (ha : apart2 [(0, 1), (0, 2), (1, 2), (0, 3), (1, 3), (2, 3), (0, 4), (1, 4), (0, 5), (0, 6), (0, 7), (0, 8), (1, 8), (2, 8), (3, 8), (4, 8), (5, 8), (6, 8), (7, 8), (0, 9), (1, 9), (2, 9), (3, 9), (4, 9), (5, 9), (6, 9), (7, 9), (8, 9), (0, 10), (1, 10), (2, 10), (3, 10), (4, 10), (5, 10), (6, 10), (7, 10), (0, 11)] (loud 0 us.reverse) = true) (hl : lessAll us.length [(0, 1), (0, 2), (1, 2), (0, 3), (1, 3), (2, 3), (0, 4), (1, 4), (0, 5), (0, 6), (0, 7), (0, 8), (1, 8), (2, 8), (3, 8), (4, 8), (5, 8), (6, 8), (7, 8), (0, 9), (1, 9), (2, 9), (3, 9), (4, 9), (5, 9), (6, 9), (7, 9), (8, 9), (0, 10), (1, 10), (2, 10), (3, 10), (4, 10), (5, 10), (6, 10), (7, 10), (0, 11)] = true) : GR C1 ⟨1, 37, 4, [0], 81⟩ k Q 4 true ops [] s us = Fin C1 ⟨1, 37, 4, [0], 81⟩ k .fall s Q := gr_nilD (F := F81_0) rfl ha hl
def nat_back_s0.l0S (x1 : List Int) (x2 : Int) (x6 : Int) (x10 : Int) (x11 : Int) (y0 : List Int) : St := ⟨upd (upd (upd (upd (upd (upd (fun _ => .no) 11 (.one (.p none (pI .i64 x11)))) 10 (.one (.p none (pI .i64 x10)))) 6 (.one (.p none (pI .u64 x6)))) 2 (.one (.p none (pI .i64 x2)))) 1 (.one (.p none (.sl 1 (x1.map e78))))) 0 (.one (.vw 0 0 y0.length)), upd noOb 0 (some (.arr false 1 (y0.map e78))), rtP 10, 10⟩
theorem nat_back_s0.all : ∀ k, (∀ x1 x2 x6 x10 x11 y0 r, nat_back_s0.l0 k x1 x2 x6 x10 x11 y0 = some r → AtL C1 F81_0 (sub [1, 1, 0, 0] b81) [.blk 0] (some (nat_back_s0.l0S x1 x2 x6 x10 x11 y0)) (RetQM C1 1 4 [] [] (upd noOb 0 (some (.arr false 1 (r.map e78)))) (rtP 4) 4))
  | 0 => fun _ _ _ _ _ _ r h => (by cases h)
  | k + 1 => by
    have Il0 := nat_back_s0.all k
    · intro x1 x2 x6 x10 x11 y0 r h
      rw [nat_back_s0.l0] at h
      rw [atL_some]
      by_cases h1 : x11 < x10
      · rw [if_pos h1] at h
        obtain ⟨h2, h⟩ := ifn h
        obtain ⟨h3, h⟩ := ifn h
        have h3t := nat_lt (i := (wrap64 (x2 + x11))) (by omega) h3
        have h3g := get_of (l := y0) 0 h3t
        try simp only [List.length_set, List.length_replicate, List.length_map, Int.reduceToNat] at h3t
        obtain ⟨t4, h4, h⟩ := bnd h
        have h4c := ((nat_at.ok _ _ _ h4))
        try simp only [Tf, List.nil_append, List.cons_append, Int.reduceToNat] at h4c
        obtain ⟨h5, h⟩ := ifn h
        have h5t := nat_lt (i := (wrap64 (x2 + x11))) (by omega) h5
        have h5g := get_of (l := y0) 0 h5t
        try simp only [List.length_set, List.length_replicate, List.length_map, Int.reduceToNat] at h5t
        simp only [↓Bp, ↓Bs, Bo, Bh, Ba, Bc, Bm, Nat.reduceSub, Int.sub_zero, Bd, ↓reduceIte, Nat.reduceAdd, Nat.reduceEqDiff, Nat.reduceLT, Nat.reduceLeDiff, Nat.reduceBEq, Nat.reduceMul, Int.reduceLE, Int.reduceLT, Int.reduceEq, Int.reduceToNat, Int.cast_ofNat_Int, reduceCtorEq, G81, Tf, b81, ↓Tryd.f81, F81_0, TY, H81, D81_0_4, h1, h2, h3, h3t, h3g, callP_eq h4c, h5, h5t, h5g, nat_back_s0.l0S]
        refine AtL.eq (Il0 _ _ _ _ _ _ _ h) ?_
        simp only [Tf, Int.reduceToNat, Int.toNat_natCast, nat_back_s0.l0S]
      · rw [if_neg h1] at h
        obtain rfl := Option.some.inj h
        simp only [↓Bp, ↓Bs, Bo, Bh, Ba, Bc, Bm, Nat.reduceSub, Int.sub_zero, Bd, ↓reduceIte, Nat.reduceAdd, Nat.reduceEqDiff, Nat.reduceLT, Nat.reduceLeDiff, Nat.reduceBEq, Nat.reduceMul, Int.reduceLE, Int.reduceLT, Int.reduceEq, Int.reduceToNat, Int.cast_ofNat_Int, reduceCtorEq, G81, Tf, b81, ↓Tryd.f81, F81_0, TY, H81, D81_0_4, h1, nat_back_s0.l0S]
theorem nat_back_s0.ok (k : Nat) (x1 : List Int) (x2 : Int) (y0 : List Int) (r : List Int) (h : nat_back_s0.f k x1 x2 y0 = some r) : RetM C1 1 81 [.one (.vw 0 0 y0.length), .one (.p none (.sl 1 (x1.map e78))), .one (.p none (.sc (.int .i64 x2)))] (upd noOb 0 (some (.arr false 1 (y0.map e78)))) (rtP 4) 4 [] (upd noOb 0 (some (.arr false 1 (r.map e78)))) (rtP 4) 4 := by
  refine retM_of (c := b81) (vis := [0]) Tryd.func81 rfl rfl ⟨Nat.le_of_ble_eq_true rfl, Nat.le_of_ble_eq_true rfl⟩ rfl ?_
  unfold nat_back_s0.f at h
  rw [show Tryd.f81.results.toList = [] from rfl]
  rw [show Tryd.f81.ntmps = 37 from rfl]
  have Il0 := nat_back_s0.all k
  simp only [↓Bp, ↓Bs, Bo, Bh, Ba, Bc, Bm, Nat.reduceSub, Int.sub_zero, Bd, ↓reduceIte, Nat.reduceAdd, Nat.reduceEqDiff, Nat.reduceLT, Nat.reduceLeDiff, Nat.reduceBEq, Nat.reduceMul, Int.reduceLE, Int.reduceLT, Int.reduceEq, Int.reduceToNat, Int.cast_ofNat_Int, reduceCtorEq, G81, Tf, b81, ↓Tryd.f81, F81_0, TY, H81, D81_0_4]
  refine AtL.eq (Il0 _ _ _ _ _ _ _ h) ?_
  simp only [Tf, Int.reduceToNat, Int.toNat_natCast, nat_back_s0.l0S]
end Go.Proofs.YtjhljcnjafbkfaaDoor.X
