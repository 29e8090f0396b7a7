import Derived.Test.YtjhljcnjafbkfaaDoorQB9
set_option linter.unusedSimpArgs false
set_option linter.unusedVariables false
set_option linter.unusedVariables false
set_option linter.unusedSimpArgs false
set_option linter.defProp false
set_option maxHeartbeats 1000000
set_option maxRecDepth 20000
namespace Go.Proofs.YtjhljcnjafbkfaaDoor.X
open Go.RowKit
theorem H13 : ((C0.H 13).join 1 = none) ∧ ((C0.H 13).join 2 = none) ∧ ((C0.H 13).join 3 = none) ∧ ((C0.H 13).join 4 = none) ∧ ((C0.H 13).join 5 = none) ∧ ((C0.H 13).join 6 = none) ∧ ((C0.H 13).join 7 = none) ∧ ((C0.H 13).join 8 = none) ∧ ((C0.H 13).join 9 = none) := ⟨rfl, rfl, rfl, rfl, rfl, rfl, rfl, rfl, rfl⟩
theorem H4 : ((C0.H 4).join 1000092 = some [3, 5, 6, 7, 8, 9, 10, 11, 12, 14, 16, 92]) ∧ ((C0.H 4).join 1000098 = some [3, 5, 6, 8, 10, 11, 12, 14, 16, 98]) ∧ ((C0.H 4).join 1 = none) ∧ ((C0.H 4).join 2 = none) ∧ ((C0.H 4).join 3 = none) ∧ ((C0.H 4).join 4 = none) ∧ ((C0.H 4).join 5 = none) ∧ ((C0.H 4).join 6 = none) ∧ ((C0.H 4).join 7 = none) ∧ ((C0.H 4).join 8 = none) ∧ ((C0.H 4).join 10 = none) ∧ ((C0.H 4).join 12 = none) ∧ ((C0.H 4).join 13 = none) ∧ ((C0.H 4).join 14 = none) ∧ ((C0.H 4).join 15 = none) := ⟨rfl, rfl, rfl, rfl, rfl, rfl, rfl, rfl, rfl, rfl, rfl, rfl, rfl, rfl, rfl⟩
theorem TYz : (C0.E.T 2 = some ⟨1, false, [.p none (.sc (.int .i64 0))], [], 0, 0, 0, 0, false, 0⟩) ∧ (C0.E.T 3 = some ⟨1, false, [.p none (.sc (.int .i64 0))], [], 0, 0, 0, 0, false, 0⟩) ∧ (C0.E.T 4 = some ⟨1, false, [.p none (.sc (.bool false))], [], 0, 0, 0, 0, false, 0⟩) ∧ (C0.E.T 5 = some ⟨1, false, [.p none (.sc (.int .u8 0))], [], 0, 0, 0, 0, false, 0⟩) ∧ (C0.E.T 9 = some ⟨1, false, [.p none (.sc (.string ByteArray.empty))], [], 4, 0, 0, 0, false, 0⟩) ∧ (C0.E.T 22 = some ⟨1, false, [.p none (.sc (.int .i32 0))], [], 0, 0, 0, 0, false, 0⟩) ∧ (C0.E.T 23 = some ⟨2, true, [.p none (.sc (.int .i32 0)), .p none (.sc (.int .i32 0))], [], 2, 2, 22, 1, false, 4⟩) ∧ (C0.E.T 24 = some ⟨1, false, [.p none (.sc (.int .i64 0))], [], 0, 0, 0, 0, false, 0⟩) ∧ (C0.E.T 28 = some ⟨1, false, [.p (some 0) (.sl 1 [])], [], 3, 0, 78, 1, false, 4⟩) ∧ (C0.E.T 29 = some ⟨1, false, [.p (some 0) (.sl 1 [])], [], 3, 0, 78, 1, false, 4⟩) ∧ (C0.E.T 31 = some ⟨3, true, [.p none (.sc (.bool false)), .p (some 0) (.sl 1 []), .p (some 0) (.sl 1 [])], [(0, 1, false, 4), (1, 1, false, 29), (2, 1, false, 29)], 1, 0, 0, 0, false, 0⟩) ∧ (C0.E.T 39 = some ⟨3, true, [.p none (.sc (.int .i32 0)), .p none (.sc (.int .i32 0)), .p none (.sc (.int .i32 0))], [], 2, 3, 22, 1, false, 4⟩) ∧ (C0.E.T 42 = some ⟨2, true, [.p none (.sc (.int .u8 0)), .p none (.sc (.int .u8 0))], [], 2, 2, 5, 1, false, 1⟩) ∧ (C0.E.T 49 = some ⟨1, false, [.p (some 0) (.sl 1 [])], [], 3, 0, 9, 1, false, 16⟩) ∧ (C0.E.T 50 = some ⟨4, true, [.p none (.sc (.string ByteArray.empty)), .p none (.sc (.string ByteArray.empty)), .p none (.sc (.string ByteArray.empty)), .p none (.sc (.string ByteArray.empty))], [], 2, 4, 9, 1, false, 16⟩) ∧ (C0.E.T 56 = some ⟨3, true, [.p none (.sc (.int .i64 0)), .p none (.sc (.int .i64 0)), .p none (.sc (.int .i64 0))], [], 2, 3, 3, 1, false, 8⟩) ∧ (C0.E.T 62 = some ⟨2, true, [.p none (.sc (.bool false)), .p (some 0) (.sl 1 [])], [(0, 1, false, 4), (1, 1, false, 29)], 1, 0, 0, 0, false, 0⟩) ∧ (C0.E.T 67 = some ⟨1, false, [.p none (.sc .nilFunc)], [], 0, 0, 0, 0, false, 0⟩) ∧ (C0.E.T 71 = some ⟨1, false, [.p none (.sc (.int .u64 0))], [], 0, 0, 0, 0, false, 0⟩) ∧ (C0.E.T 78 = some ⟨1, false, [.p none (.sc (.int .u32 0))], [], 0, 0, 0, 0, false, 0⟩) ∧ (C0.E.T 86 = some ⟨1, false, [.p (some 0) (.sl 2 [])], [], 3, 0, 62, 2, true, 32⟩) ∧ (C0.E.T 87 = some ⟨1, false, [.p (some 0) (.sl 1 [])], [], 3, 0, 29, 1, false, 24⟩) ∧ (C0.E.T 88 = some ⟨12, true, [.p none (.sc (.int .i64 0)), .p none (.sc (.int .i64 0)), .p none (.sc (.int .i64 0)), .p none (.sc (.int .i64 0)), .p none (.sc (.int .i64 0)), .p none (.sc (.int .i64 0)), .p none (.sc (.int .i64 0)), .p none (.sc (.int .i64 0)), .p none (.sc (.int .i64 0)), .p none (.sc (.int .i64 0)), .p none (.sc (.int .i64 0)), .p none (.sc (.int .i64 0))], [], 2, 12, 3, 1, false, 8⟩) ∧ (C0.E.T 90 = some ⟨1, false, [.p (some 0) (.sl 1 [])], [], 3, 0, 3, 1, false, 8⟩) ∧ (C0.E.T 104 = some ⟨1, false, [.p none (.sc .nilFunc)], [], 0, 0, 0, 0, false, 0⟩) ∧ (C0.E.P.underlying 2 = some (.int .i64)) ∧ (C0.E.P.underlying 3 = some (.int .i64)) ∧ (C0.E.P.underlying 5 = some (.int .u8)) ∧ (C0.E.P.underlying 22 = some (.int .i32)) ∧ (C0.E.P.underlying 24 = some (.int .i64)) ∧ (C0.E.P.underlying 71 = some (.int .u64)) ∧ (C0.E.P.underlying 78 = some (.int .u32)) ∧ (C0.E.P.underlying 4 = some .bool) ∧ (C0.E.P.underlying 9 = some .string) := TYn
theorem G13 {d : Nat} : C0.gen 13 d = false := rfl
theorem G4 {d : Nat} : C0.gen 4 d = false := rfl
def Tfz := And.intro (@List.map_append.{0, 0}) (And.intro (@List.map_cons.{0, 0}) (And.intro (@List.map_nil.{0, 0}) (And.intro (@List.length_map.{0, 0}) (And.intro (@List.length_set.{0}) (And.intro (@List.length_replicate.{0}) (And.intro (@List.map_take.{0, 0}) (And.intro (@List.map_drop.{0, 0}) (And.intro (@tk_map) (And.intro (@List.map_replicate.{0, 0}) (And.intro zf23 (And.intro zf56 (And.intro zf31 (And.intro zf39 (And.intro zf62 (And.intro zf42 (And.intro (@st3) (And.intro (@st9) (And.intro (@st23) (And.intro (@st78) (And.intro (@st29) (And.intro (@st31) (And.intro (@st39) (And.intro (@st42) (And.intro (@st56) (And.intro (@st62) (And.intro (@pI.eq_1) (And.intro (@pB.eq_1) (And.intro (@pS.eq_1) (And.intro (@e3.eq_1) (And.intro (@e9.eq_1) (And.intro (@e23.eq_1) (And.intro (@e78.eq_1) (And.intro (@e29.eq_1) (And.intro (@e31.eq_1) (And.intro (@e39.eq_1) (And.intro (@e42.eq_1) (And.intro (@e56.eq_1) (@e62.eq_1))))))))))))))))))))))))))))))))))))))
def cashbooklaw05_alive.f (k : Nat)  : Option Bool := ((daycount_Days.f k 2 30 60).bind fun t1 => ((daycount_Days.f k 0 30 60).bind fun t2 => ((daycount_Part.f k 3 (-31) 31).bind fun t3 => ((daycount_Part.f k 1 0 90).bind fun t4 => ((daycount_Part.f k 4 0 0).bind fun t5 => ((daycount_Part.f k 0 1 0).bind fun t6 => ((daycount_Part.f k 0 0 50001).bind fun t7 => ((daycount_Parse.f k (⟨#[97, 99, 116, 97, 99, 116]⟩ : ByteArray)).bind fun t8 => (if t1.1 = 31 then (if t1.2 = 0 then (if t2.1 = 30 then (if t2.2 = 0 then ((cashbookref05_Of.f k 22661 133590).bind fun t13 => ((cashbookref05_Same.f k t3.1 t13).bind fun t14 => (if t14 = true then (if t3.2 = 0 then ((cashbookref05_Of.f k 1 4).bind fun t17 => ((cashbookref05_Same.f k t4.1 t17).bind fun t18 => (if t18 = true then (if t4.2 = 0 then (if t5.2 = 1 then (if t6.2 = 20 then (if t7.2 = 11 then (if t8.1 = 3 then (if t8.2 = 0 then ((daycount_Name.f 2).bind fun t26 => (if (t26.toList == (⟨#[116, 104, 105, 114, 116, 121]⟩ : ByteArray).toList) = true then ((daycount_Right.f 0).bind fun t28 => (if t28 = true then ((daycount_Right.f 4).bind fun t30 => (some (!t30))) else (some false))) else (some false))) else (some false)) else (some false)) else (some false)) else (some false)) else (some false)) else (some false)) else (some false)))) else (some false)) else (some false)))) else (some false)) else (some false)) else (some false)) else (some false))))))))))
theorem cashbooklaw05_alive.mono (k : Nat)  : LeO (cashbooklaw05_alive.f k ) (cashbooklaw05_alive.f (k + 1) ) := leo_bind (daycount_Days.mono k _ _ _) (fun _ => leo_bind (daycount_Days.mono k _ _ _) (fun _ => leo_bind (daycount_Part.mono k _ _ _) (fun _ => leo_bind (daycount_Part.mono k _ _ _) (fun _ => leo_bind (daycount_Part.mono k _ _ _) (fun _ => leo_bind (daycount_Part.mono k _ _ _) (fun _ => leo_bind (daycount_Part.mono k _ _ _) (fun _ => leo_bind (daycount_Parse.mono k _) (fun _ => leo_ite (leo_ite (leo_ite (leo_ite (leo_bind (cashbookref05_Of.mono k _ _) (fun _ => leo_bind (cashbookref05_Same.mono k _ _) (fun _ => leo_ite (leo_ite (leo_bind (cashbookref05_Of.mono k _ _) (fun _ => leo_bind (cashbookref05_Same.mono k _ _) (fun _ => leo_ite (leo_ite (leo_ite (leo_ite (leo_ite (leo_ite (leo_ite (leo_bind leo_refl (fun _ => leo_ite (leo_bind leo_refl (fun _ => leo_ite (leo_bind leo_refl (fun _ => leo_refl)) (leo_refl))) (leo_refl))) (leo_refl)) (leo_refl)) (leo_refl)) (leo_refl)) (leo_refl)) (leo_refl)) (leo_refl)))) (leo_refl)) (leo_refl)))) (leo_refl)) (leo_refl)) (leo_refl)) (leo_refl)))))))))
noncomputable def b13 : Code := bodyOf Tryd.f13
def F13 : Fr := ⟨0, 112, 1, [], 13⟩
theorem D13_9 {k : List It} {s : St} {Q : Post} {ops : Array Oper} {us : List Upd} (ha : apart2 [(15, 16), (24, 25)] (loud 0 us.reverse) = true) (hl : lessAll us.length [(15, 16), (24, 25)] = true) : GR C0 ⟨0, 112, 1, [], 13⟩ k Q 9 true ops [] s us = Fin C0 ⟨0, 112, 1, [], 13⟩ k .fall s Q := gr_nilD (F := F13) rfl ha hl
theorem cashbooklaw05_alive.ok (k : Nat)  (r : Bool) (h : cashbooklaw05_alive.f k  = some r) : Ret C0 13 [] [aV [pB r]] := by
  refine ret_of (c := b13) Tryd.func13 rfl rfl ⟨Nat.le_of_ble_eq_true rfl, Nat.le_of_ble_eq_true rfl⟩ ?_
  unfold cashbooklaw05_alive.f at h
  rw [show Tryd.f13.results.toList = [.tmp 0] from rfl]
  rw [show Tryd.f13.ntmps = 112 from rfl]
  obtain ⟨t1, h1, h⟩ := bnd h
  have h1c := (up0 (daycount_Days.ok _ _ _ _ _ h1))
  try simp only [Tfz, List.nil_append, List.cons_append, Int.reduceToNat] at h1c
  obtain ⟨t2, h2, h⟩ := bnd h
  have h2c := (up0 (daycount_Days.ok _ _ _ _ _ h2))
  try simp only [Tfz, List.nil_append, List.cons_append, Int.reduceToNat] at h2c
  obtain ⟨t3, h3, h⟩ := bnd h
  have h3c := ((daycount_Part.ok _ _ _ _ _ h3))
  try simp only [Tfz, List.nil_append, List.cons_append, Int.reduceToNat] at h3c
  obtain ⟨t4, h4, h⟩ := bnd h
  have h4c := ((daycount_Part.ok _ _ _ _ _ h4))
  try simp only [Tfz, List.nil_append, List.cons_append, Int.reduceToNat] at h4c
  obtain ⟨t5, h5, h⟩ := bnd h
  have h5c := ((daycount_Part.ok _ _ _ _ _ h5))
  try simp only [Tfz, List.nil_append, List.cons_append, Int.reduceToNat] at h5c
  obtain ⟨t6, h6, h⟩ := bnd h
  have h6c := ((daycount_Part.ok _ _ _ _ _ h6))
  try simp only [Tfz, List.nil_append, List.cons_append, Int.reduceToNat] at h6c
  obtain ⟨t7, h7, h⟩ := bnd h
  have h7c := ((daycount_Part.ok _ _ _ _ _ h7))
  try simp only [Tfz, List.nil_append, List.cons_append, Int.reduceToNat] at h7c
  obtain ⟨t8, h8, h⟩ := bnd h
  have h8c := (up0 (daycount_Parse.ok _ _ _ h8))
  try simp only [Tfz, List.nil_append, List.cons_append, Int.reduceToNat] at h8c
  by_cases h9 : t1.1 = 31
  · rw [if_pos h9] at h
    by_cases h10 : t1.2 = 0
    · rw [if_pos h10] at h
      by_cases h11 : t2.1 = 30
      · rw [if_pos h11] at h
        by_cases h12 : t2.2 = 0
        · rw [if_pos h12] at h
          obtain ⟨t13, h13, h⟩ := bnd h
          have h13c := (up0 (cashbookref05_Of.ok _ _ _ _ h13))
          try simp only [Tfz, List.nil_append, List.cons_append, Int.reduceToNat] at h13c
          obtain ⟨t14, h14, h⟩ := bnd h
          have h14c := (up0 (cashbookref05_Same.ok _ _ _ _ h14))
          try simp only [Tfz, List.nil_append, List.cons_append, Int.reduceToNat] at h14c
          by_cases h15 : t14 = true
          · rw [if_pos h15] at h
            try simp only [h15] at h1c
            try simp only [h15] at h2c
            try simp only [h15] at h3c
            try simp only [h15] at h4c
            try simp only [h15] at h5c
            try simp only [h15] at h6c
            try simp only [h15] at h7c
            try simp only [h15] at h8c
            try simp only [h15] at h13c
            try simp only [h15] at h14c
            by_cases h16 : t3.2 = 0
            · rw [if_pos h16] at h
              obtain ⟨t17, h17, h⟩ := bnd h
              have h17c := (up0 (cashbookref05_Of.ok _ _ _ _ h17))
              try simp only [Tfz, List.nil_append, List.cons_append, Int.reduceToNat, h15] at h17c
              obtain ⟨t18, h18, h⟩ := bnd h
              have h18c := (up0 (cashbookref05_Same.ok _ _ _ _ h18))
              try simp only [Tfz, List.nil_append, List.cons_append, Int.reduceToNat, h15] at h18c
              by_cases h19 : t18 = true
              · rw [if_pos h19] at h
                try simp only [h19] at h1c
                try simp only [h19] at h2c
                try simp only [h19] at h3c
                try simp only [h19] at h4c
                try simp only [h19] at h5c
                try simp only [h19] at h6c
                try simp only [h19] at h7c
                try simp only [h19] at h8c
                try simp only [h19] at h13c
                try simp only [h19] at h14c
                try simp only [h19] at h17c
                try simp only [h19] at h18c
                by_cases h20 : t4.2 = 0
                · rw [if_pos h20] at h
                  by_cases h21 : t5.2 = 1
                  · rw [if_pos h21] at h
                    by_cases h22 : t6.2 = 20
                    · rw [if_pos h22] at h
                      by_cases h23 : t7.2 = 11
                      · rw [if_pos h23] at h
                        by_cases h24 : t8.1 = 3
                        · rw [if_pos h24] at h
                          by_cases h25 : t8.2 = 0
                          · rw [if_pos h25] at h
                            obtain ⟨t26, h26, h⟩ := bnd h
                            have h26c := (up0 (daycount_Name.ok _ _ h26))
                            try simp only [Tfz, List.nil_append, List.cons_append, Int.reduceToNat, h15, h19] at h26c
                            by_cases h27 : (t26.toList == (⟨#[116, 104, 105, 114, 116, 121]⟩ : ByteArray).toList) = true
                            · rw [if_pos h27] at h
                              try simp only [h27] at h1c
                              try simp only [h27] at h2c
                              try simp only [h27] at h3c
                              try simp only [h27] at h4c
                              try simp only [h27] at h5c
                              try simp only [h27] at h6c
                              try simp only [h27] at h7c
                              try simp only [h27] at h8c
                              try simp only [h27] at h13c
                              try simp only [h27] at h14c
                              try simp only [h27] at h17c
                              try simp only [h27] at h18c
                              try simp only [h27] at h26c
                              obtain ⟨t28, h28, h⟩ := bnd h
                              have h28c := (up0 (daycount_Right.ok _ _ h28))
                              try simp only [Tfz, List.nil_append, List.cons_append, Int.reduceToNat, h15, h19, h27] at h28c
                              by_cases h29 : t28 = true
                              · rw [if_pos h29] at h
                                try simp only [h29] at h1c
                                try simp only [h29] at h2c
                                try simp only [h29] at h3c
                                try simp only [h29] at h4c
                                try simp only [h29] at h5c
                                try simp only [h29] at h6c
                                try simp only [h29] at h7c
                                try simp only [h29] at h8c
                                try simp only [h29] at h13c
                                try simp only [h29] at h14c
                                try simp only [h29] at h17c
                                try simp only [h29] at h18c
                                try simp only [h29] at h26c
                                try simp only [h29] at h28c
                                obtain ⟨t30, h30, h⟩ := bnd h
                                have h30c := (up0 (daycount_Right.ok _ _ h30))
                                try simp only [Tfz, List.nil_append, List.cons_append, Int.reduceToNat, h15, h19, h27, h29] at h30c
                                obtain rfl := Option.some.inj h
                                simp only [↓Bp, ↓Bs, Bo, Bh, Ba, Bc, Bd, ↓reduceIte, Nat.reduceAdd, Nat.reduceEqDiff, Nat.reduceLT, Nat.reduceLeDiff, Nat.reduceBEq, Nat.reduceMul, Int.reduceLE, Int.reduceLT, Int.reduceEq, Int.reduceToNat, Int.cast_ofNat_Int, reduceCtorEq, G13, Tfz, b13, ↓Tryd.f13, F13, TYz, H13, D13_9, callP_eq h1c, callP_eq h2c, callP_eq h3c, callP_eq h4c, callP_eq h5c, callP_eq h6c, callP_eq h7c, callP_eq h8c, eq_true h9, eq_true h10, eq_true h11, eq_true h12, callP_eq h13c, callP_eq h14c, h15, eq_true h16, callP_eq h17c, callP_eq h18c, h19, eq_true h20, eq_true h21, eq_true h22, eq_true h23, eq_true h24, eq_true h25, callP_eq h26c, h27, callP_eq h28c, h29, callP_eq h30c]
                              · rw [if_neg h29] at h
                                try simp only [h29] at h1c
                                try simp only [h29] at h2c
                                try simp only [h29] at h3c
                                try simp only [h29] at h4c
                                try simp only [h29] at h5c
                                try simp only [h29] at h6c
                                try simp only [h29] at h7c
                                try simp only [h29] at h8c
                                try simp only [h29] at h13c
                                try simp only [h29] at h14c
                                try simp only [h29] at h17c
                                try simp only [h29] at h18c
                                try simp only [h29] at h26c
                                try simp only [h29] at h28c
                                obtain rfl := Option.some.inj h
                                simp only [↓Bp, ↓Bs, Bo, Bh, Ba, Bc, Bd, ↓reduceIte, Nat.reduceAdd, Nat.reduceEqDiff, Nat.reduceLT, Nat.reduceLeDiff, Nat.reduceBEq, Nat.reduceMul, Int.reduceLE, Int.reduceLT, Int.reduceEq, Int.reduceToNat, Int.cast_ofNat_Int, reduceCtorEq, G13, Tfz, b13, ↓Tryd.f13, F13, TYz, H13, D13_9, callP_eq h1c, callP_eq h2c, callP_eq h3c, callP_eq h4c, callP_eq h5c, callP_eq h6c, callP_eq h7c, callP_eq h8c, eq_true h9, eq_true h10, eq_true h11, eq_true h12, callP_eq h13c, callP_eq h14c, h15, eq_true h16, callP_eq h17c, callP_eq h18c, h19, eq_true h20, eq_true h21, eq_true h22, eq_true h23, eq_true h24, eq_true h25, callP_eq h26c, h27, callP_eq h28c, h29]
                            · rw [if_neg h27] at h
                              try simp only [h27] at h1c
                              try simp only [h27] at h2c
                              try simp only [h27] at h3c
                              try simp only [h27] at h4c
                              try simp only [h27] at h5c
                              try simp only [h27] at h6c
                              try simp only [h27] at h7c
                              try simp only [h27] at h8c
                              try simp only [h27] at h13c
                              try simp only [h27] at h14c
                              try simp only [h27] at h17c
                              try simp only [h27] at h18c
                              try simp only [h27] at h26c
                              obtain rfl := Option.some.inj h
                              simp only [↓Bp, ↓Bs, Bo, Bh, Ba, Bc, Bd, ↓reduceIte, Nat.reduceAdd, Nat.reduceEqDiff, Nat.reduceLT, Nat.reduceLeDiff, Nat.reduceBEq, Nat.reduceMul, Int.reduceLE, Int.reduceLT, Int.reduceEq, Int.reduceToNat, Int.cast_ofNat_Int, reduceCtorEq, G13, Tfz, b13, ↓Tryd.f13, F13, TYz, H13, D13_9, callP_eq h1c, callP_eq h2c, callP_eq h3c, callP_eq h4c, callP_eq h5c, callP_eq h6c, callP_eq h7c, callP_eq h8c, eq_true h9, eq_true h10, eq_true h11, eq_true h12, callP_eq h13c, callP_eq h14c, h15, eq_true h16, callP_eq h17c, callP_eq h18c, h19, eq_true h20, eq_true h21, eq_true h22, eq_true h23, eq_true h24, eq_true h25, callP_eq h26c, h27]
                          · rw [if_neg h25] at h
                            obtain rfl := Option.some.inj h
                            simp only [↓Bp, ↓Bs, Bo, Bh, Ba, Bc, Bd, ↓reduceIte, Nat.reduceAdd, Nat.reduceEqDiff, Nat.reduceLT, Nat.reduceLeDiff, Nat.reduceBEq, Nat.reduceMul, Int.reduceLE, Int.reduceLT, Int.reduceEq, Int.reduceToNat, Int.cast_ofNat_Int, reduceCtorEq, G13, Tfz, b13, ↓Tryd.f13, F13, TYz, H13, D13_9, callP_eq h1c, callP_eq h2c, callP_eq h3c, callP_eq h4c, callP_eq h5c, callP_eq h6c, callP_eq h7c, callP_eq h8c, eq_true h9, eq_true h10, eq_true h11, eq_true h12, callP_eq h13c, callP_eq h14c, h15, eq_true h16, callP_eq h17c, callP_eq h18c, h19, eq_true h20, eq_true h21, eq_true h22, eq_true h23, eq_true h24, h25]
                        · rw [if_neg h24] at h
                          obtain rfl := Option.some.inj h
                          simp only [↓Bp, ↓Bs, Bo, Bh, Ba, Bc, Bd, ↓reduceIte, Nat.reduceAdd, Nat.reduceEqDiff, Nat.reduceLT, Nat.reduceLeDiff, Nat.reduceBEq, Nat.reduceMul, Int.reduceLE, Int.reduceLT, Int.reduceEq, Int.reduceToNat, Int.cast_ofNat_Int, reduceCtorEq, G13, Tfz, b13, ↓Tryd.f13, F13, TYz, H13, D13_9, callP_eq h1c, callP_eq h2c, callP_eq h3c, callP_eq h4c, callP_eq h5c, callP_eq h6c, callP_eq h7c, callP_eq h8c, eq_true h9, eq_true h10, eq_true h11, eq_true h12, callP_eq h13c, callP_eq h14c, h15, eq_true h16, callP_eq h17c, callP_eq h18c, h19, eq_true h20, eq_true h21, eq_true h22, eq_true h23, h24]
                      · rw [if_neg h23] at h
                        obtain rfl := Option.some.inj h
                        simp only [↓Bp, ↓Bs, Bo, Bh, Ba, Bc, Bd, ↓reduceIte, Nat.reduceAdd, Nat.reduceEqDiff, Nat.reduceLT, Nat.reduceLeDiff, Nat.reduceBEq, Nat.reduceMul, Int.reduceLE, Int.reduceLT, Int.reduceEq, Int.reduceToNat, Int.cast_ofNat_Int, reduceCtorEq, G13, Tfz, b13, ↓Tryd.f13, F13, TYz, H13, D13_9, callP_eq h1c, callP_eq h2c, callP_eq h3c, callP_eq h4c, callP_eq h5c, callP_eq h6c, callP_eq h7c, callP_eq h8c, eq_true h9, eq_true h10, eq_true h11, eq_true h12, callP_eq h13c, callP_eq h14c, h15, eq_true h16, callP_eq h17c, callP_eq h18c, h19, eq_true h20, eq_true h21, eq_true h22, h23]
                    · rw [if_neg h22] at h
                      obtain rfl := Option.some.inj h
                      simp only [↓Bp, ↓Bs, Bo, Bh, Ba, Bc, Bd, ↓reduceIte, Nat.reduceAdd, Nat.reduceEqDiff, Nat.reduceLT, Nat.reduceLeDiff, Nat.reduceBEq, Nat.reduceMul, Int.reduceLE, Int.reduceLT, Int.reduceEq, Int.reduceToNat, Int.cast_ofNat_Int, reduceCtorEq, G13, Tfz, b13, ↓Tryd.f13, F13, TYz, H13, D13_9, callP_eq h1c, callP_eq h2c, callP_eq h3c, callP_eq h4c, callP_eq h5c, callP_eq h6c, callP_eq h7c, callP_eq h8c, eq_true h9, eq_true h10, eq_true h11, eq_true h12, callP_eq h13c, callP_eq h14c, h15, eq_true h16, callP_eq h17c, callP_eq h18c, h19, eq_true h20, eq_true h21, h22]
                  · rw [if_neg h21] at h
                    obtain rfl := Option.some.inj h
                    simp only [↓Bp, ↓Bs, Bo, Bh, Ba, Bc, Bd, ↓reduceIte, Nat.reduceAdd, Nat.reduceEqDiff, Nat.reduceLT, Nat.reduceLeDiff, Nat.reduceBEq, Nat.reduceMul, Int.reduceLE, Int.reduceLT, Int.reduceEq, Int.reduceToNat, Int.cast_ofNat_Int, reduceCtorEq, G13, Tfz, b13, ↓Tryd.f13, F13, TYz, H13, D13_9, callP_eq h1c, callP_eq h2c, callP_eq h3c, callP_eq h4c, callP_eq h5c, callP_eq h6c, callP_eq h7c, callP_eq h8c, eq_true h9, eq_true h10, eq_true h11, eq_true h12, callP_eq h13c, callP_eq h14c, h15, eq_true h16, callP_eq h17c, callP_eq h18c, h19, eq_true h20, h21]
                · rw [if_neg h20] at h
                  obtain rfl := Option.some.inj h
                  simp only [↓Bp, ↓Bs, Bo, Bh, Ba, Bc, Bd, ↓reduceIte, Nat.reduceAdd, Nat.reduceEqDiff, Nat.reduceLT, Nat.reduceLeDiff, Nat.reduceBEq, Nat.reduceMul, Int.reduceLE, Int.reduceLT, Int.reduceEq, Int.reduceToNat, Int.cast_ofNat_Int, reduceCtorEq, G13, Tfz, b13, ↓Tryd.f13, F13, TYz, H13, D13_9, callP_eq h1c, callP_eq h2c, callP_eq h3c, callP_eq h4c, callP_eq h5c, callP_eq h6c, callP_eq h7c, callP_eq h8c, eq_true h9, eq_true h10, eq_true h11, eq_true h12, callP_eq h13c, callP_eq h14c, h15, eq_true h16, callP_eq h17c, callP_eq h18c, h19, h20]
              · rw [if_neg h19] at h
                try simp only [h19] at h1c
                try simp only [h19] at h2c
                try simp only [h19] at h3c
                try simp only [h19] at h4c
                try simp only [h19] at h5c
                try simp only [h19] at h6c
                try simp only [h19] at h7c
                try simp only [h19] at h8c
                try simp only [h19] at h13c
                try simp only [h19] at h14c
                try simp only [h19] at h17c
                try simp only [h19] at h18c
                obtain rfl := Option.some.inj h
                simp only [↓Bp, ↓Bs, Bo, Bh, Ba, Bc, Bd, ↓reduceIte, Nat.reduceAdd, Nat.reduceEqDiff, Nat.reduceLT, Nat.reduceLeDiff, Nat.reduceBEq, Nat.reduceMul, Int.reduceLE, Int.reduceLT, Int.reduceEq, Int.reduceToNat, Int.cast_ofNat_Int, reduceCtorEq, G13, Tfz, b13, ↓Tryd.f13, F13, TYz, H13, D13_9, callP_eq h1c, callP_eq h2c, callP_eq h3c, callP_eq h4c, callP_eq h5c, callP_eq h6c, callP_eq h7c, callP_eq h8c, eq_true h9, eq_true h10, eq_true h11, eq_true h12, callP_eq h13c, callP_eq h14c, h15, eq_true h16, callP_eq h17c, callP_eq h18c, h19]
            · rw [if_neg h16] at h
              obtain rfl := Option.some.inj h
              simp only [↓Bp, ↓Bs, Bo, Bh, Ba, Bc, Bd, ↓reduceIte, Nat.reduceAdd, Nat.reduceEqDiff, Nat.reduceLT, Nat.reduceLeDiff, Nat.reduceBEq, Nat.reduceMul, Int.reduceLE, Int.reduceLT, Int.reduceEq, Int.reduceToNat, Int.cast_ofNat_Int, reduceCtorEq, G13, Tfz, b13, ↓Tryd.f13, F13, TYz, H13, D13_9, callP_eq h1c, callP_eq h2c, callP_eq h3c, callP_eq h4c, callP_eq h5c, callP_eq h6c, callP_eq h7c, callP_eq h8c, eq_true h9, eq_true h10, eq_true h11, eq_true h12, callP_eq h13c, callP_eq h14c, h15, h16]
          · rw [if_neg h15] at h
            try simp only [h15] at h1c
            try simp only [h15] at h2c
            try simp only [h15] at h3c
            try simp only [h15] at h4c
            try simp only [h15] at h5c
            try simp only [h15] at h6c
            try simp only [h15] at h7c
            try simp only [h15] at h8c
            try simp only [h15] at h13c
            try simp only [h15] at h14c
            obtain rfl := Option.some.inj h
            simp only [↓Bp, ↓Bs, Bo, Bh, Ba, Bc, Bd, ↓reduceIte, Nat.reduceAdd, Nat.reduceEqDiff, Nat.reduceLT, Nat.reduceLeDiff, Nat.reduceBEq, Nat.reduceMul, Int.reduceLE, Int.reduceLT, Int.reduceEq, Int.reduceToNat, Int.cast_ofNat_Int, reduceCtorEq, G13, Tfz, b13, ↓Tryd.f13, F13, TYz, H13, D13_9, callP_eq h1c, callP_eq h2c, callP_eq h3c, callP_eq h4c, callP_eq h5c, callP_eq h6c, callP_eq h7c, callP_eq h8c, eq_true h9, eq_true h10, eq_true h11, eq_true h12, callP_eq h13c, callP_eq h14c, h15]
        · rw [if_neg h12] at h
          obtain rfl := Option.some.inj h
          simp only [↓Bp, ↓Bs, Bo, Bh, Ba, Bc, Bd, ↓reduceIte, Nat.reduceAdd, Nat.reduceEqDiff, Nat.reduceLT, Nat.reduceLeDiff, Nat.reduceBEq, Nat.reduceMul, Int.reduceLE, Int.reduceLT, Int.reduceEq, Int.reduceToNat, Int.cast_ofNat_Int, reduceCtorEq, G13, Tfz, b13, ↓Tryd.f13, F13, TYz, H13, D13_9, callP_eq h1c, callP_eq h2c, callP_eq h3c, callP_eq h4c, callP_eq h5c, callP_eq h6c, callP_eq h7c, callP_eq h8c, eq_true h9, eq_true h10, eq_true h11, h12]
      · rw [if_neg h11] at h
        obtain rfl := Option.some.inj h
        simp only [↓Bp, ↓Bs, Bo, Bh, Ba, Bc, Bd, ↓reduceIte, Nat.reduceAdd, Nat.reduceEqDiff, Nat.reduceLT, Nat.reduceLeDiff, Nat.reduceBEq, Nat.reduceMul, Int.reduceLE, Int.reduceLT, Int.reduceEq, Int.reduceToNat, Int.cast_ofNat_Int, reduceCtorEq, G13, Tfz, b13, ↓Tryd.f13, F13, TYz, H13, D13_9, callP_eq h1c, callP_eq h2c, callP_eq h3c, callP_eq h4c, callP_eq h5c, callP_eq h6c, callP_eq h7c, callP_eq h8c, eq_true h9, eq_true h10, h11]
    · rw [if_neg h10] at h
      obtain rfl := Option.some.inj h
      simp only [↓Bp, ↓Bs, Bo, Bh, Ba, Bc, Bd, ↓reduceIte, Nat.reduceAdd, Nat.reduceEqDiff, Nat.reduceLT, Nat.reduceLeDiff, Nat.reduceBEq, Nat.reduceMul, Int.reduceLE, Int.reduceLT, Int.reduceEq, Int.reduceToNat, Int.cast_ofNat_Int, reduceCtorEq, G13, Tfz, b13, ↓Tryd.f13, F13, TYz, H13, D13_9, callP_eq h1c, callP_eq h2c, callP_eq h3c, callP_eq h4c, callP_eq h5c, callP_eq h6c, callP_eq h7c, callP_eq h8c, eq_true h9, h10]
  · rw [if_neg h9] at h
    obtain rfl := Option.some.inj h
    simp only [↓Bp, ↓Bs, Bo, Bh, Ba, Bc, Bd, ↓reduceIte, Nat.reduceAdd, Nat.reduceEqDiff, Nat.reduceLT, Nat.reduceLeDiff, Nat.reduceBEq, Nat.reduceMul, Int.reduceLE, Int.reduceLT, Int.reduceEq, Int.reduceToNat, Int.cast_ofNat_Int, reduceCtorEq, G13, Tfz, b13, ↓Tryd.f13, F13, TYz, H13, D13_9, callP_eq h1c, callP_eq h2c, callP_eq h3c, callP_eq h4c, callP_eq h5c, callP_eq h6c, callP_eq h7c, callP_eq h8c, h9]
noncomputable def b3 : Code := bodyOf Tryd.f3
mutual
def cashbooklaw05_DaycountPieces.j0 : Nat → Int → Int → Int → Int → Int → Int → Int → Bool → S31 → S31 → S31 → S39 → Option Bool
  | 0, _, _, _, _, _, _, _, _, _, _, _, _ => none
  | k + 1, x5, x6, x7, x8, x9, x10, x11, x92, y16, y14, y12, y3 => (if x92 = true then (some false) else (if x7 = 0 then (cashbooklaw05_DaycountPieces.j1 k x5 x6 x8 x10 x11 (!(decide (x9 = 0))) y16 y14 y12 y3) else (cashbooklaw05_DaycountPieces.j1 k x5 x6 x8 x10 x11 true y16 y14 y12 y3)))
def cashbooklaw05_DaycountPieces.j1 : Nat → Int → Int → Int → Int → Int → Bool → S31 → S31 → S31 → S39 → Option Bool
  | 0, _, _, _, _, _, _, _, _, _, _ => none
  | k + 1, x5, x6, x8, x10, x11, x98, y16, y14, y12, y3 => (if x98 = true then ((cashbooklaw05_alive.f k).bind fun t12 => (some t12)) else ((ratio_Add.f k y12 y14).bind fun t13 => ((cashbookref05_Same.f k t13.1 y16).bind fun t14 => ((daycount_Days.f k x5 y3.f0 y3.f0).bind fun t15 => ((cashbooklaw05_alive.f k).bind fun t16 => (if t16 = true then (if x11 = 0 then (if t13.2 = 0 then (if t15.2 = 0 then (if 0 ≤ x6 then (if 0 ≤ x8 then (if (wrap64 (x6 + x8)) = x10 then (if t14 = true then (if y12.f0 = true then (some false) else (if t15.1 = 0 then (if 0 < x6 then (some true) else (some (decide ((y12.f1.length : Int) = 0)))) else (some false))) else (some false)) else (some false)) else (some false)) else (some false)) else (some false)) else (some false)) else (some false)) else (some false)))))))
end
def cashbooklaw05_DaycountPieces.f (k : Nat) (x0 : Int) (x1 : S39) : Option Bool := ((daycount_Days.f k (wrap64 ((Int.tmod x0 4))) x1.f0 x1.f1).bind fun t1 => ((daycount_Days.f k (wrap64 ((Int.tmod x0 4))) x1.f1 x1.f2).bind fun t2 => ((daycount_Days.f k (wrap64 ((Int.tmod x0 4))) x1.f0 x1.f2).bind fun t3 => ((daycount_Part.f k (wrap64 ((Int.tmod x0 4))) x1.f0 x1.f1).bind fun t4 => ((daycount_Part.f k (wrap64 ((Int.tmod x0 4))) x1.f1 x1.f2).bind fun t5 => ((daycount_Part.f k (wrap64 ((Int.tmod x0 4))) x1.f0 x1.f2).bind fun t6 => (if t1.2 = t4.2 then (if t2.2 = t5.2 then (cashbooklaw05_DaycountPieces.j0 k (wrap64 ((Int.tmod x0 4))) t1.1 t1.2 t2.1 t2.2 t3.1 t3.2 (!(decide (t3.2 = t6.2))) t6.1 t5.1 t4.1 x1) else (cashbooklaw05_DaycountPieces.j0 k (wrap64 ((Int.tmod x0 4))) t1.1 t1.2 t2.1 t2.2 t3.1 t3.2 true t6.1 t5.1 t4.1 x1)) else (cashbooklaw05_DaycountPieces.j0 k (wrap64 ((Int.tmod x0 4))) t1.1 t1.2 t2.1 t2.2 t3.1 t3.2 true t6.1 t5.1 t4.1 x1))))))))
noncomputable def b4 : Code := bodyOf Tryd.f4
def F4 : Fr := ⟨0, 168, 1, [], 4⟩
def cashbooklaw05_DaycountPieces.j0S (x5 : Int) (x6 : Int) (x7 : Int) (x8 : Int) (x9 : Int) (x10 : Int) (x11 : Int) (x92 : Bool) (y16 : S31) (y14 : S31) (y12 : S31) (y3 : S39) : St := ⟨upd (upd (upd (upd (upd (upd (upd (upd (upd (upd (upd (upd (fun _ => .no) 92 (.one (.p none (pB x92)))) 16 (.one (.pt 16 0))) 14 (.one (.pt 14 0))) 12 (.one (.pt 12 0))) 11 (.one (.p none (pI .i64 x11)))) 10 (.one (.p none (pI .i64 x10)))) 9 (.one (.p none (pI .i64 x9)))) 8 (.one (.p none (pI .i64 x8)))) 7 (.one (.p none (pI .i64 x7)))) 6 (.one (.p none (pI .i64 x6)))) 5 (.one (.p none (pI .i64 x5)))) 3 (.one (.pt 3 0)), upd (upd (upd (upd noOb 3 (some (.var [.p none (pI .i32 y3.f0), .p none (pI .i32 y3.f1), .p none (pI .i32 y3.f2)]))) 12 (some (.var [.p none (pB y12.f0), .p none (.sl 1 (y12.f1.map e78)), .p none (.sl 1 (y12.f2.map e78))]))) 14 (some (.var [.p none (pB y14.f0), .p none (.sl 1 (y14.f1.map e78)), .p none (.sl 1 (y14.f2.map e78))]))) 16 (some (.var [.p none (pB y16.f0), .p none (.sl 1 (y16.f1.map e78)), .p none (.sl 1 (y16.f2.map e78))])), rtP 25, 25⟩
def cashbooklaw05_DaycountPieces.j1S (x5 : Int) (x6 : Int) (x8 : Int) (x10 : Int) (x11 : Int) (x98 : Bool) (y16 : S31) (y14 : S31) (y12 : S31) (y3 : S39) : St := ⟨upd (upd (upd (upd (upd (upd (upd (upd (upd (upd (fun _ => .no) 98 (.one (.p none (pB x98)))) 16 (.one (.pt 16 0))) 14 (.one (.pt 14 0))) 12 (.one (.pt 12 0))) 11 (.one (.p none (pI .i64 x11)))) 10 (.one (.p none (pI .i64 x10)))) 8 (.one (.p none (pI .i64 x8)))) 6 (.one (.p none (pI .i64 x6)))) 5 (.one (.p none (pI .i64 x5)))) 3 (.one (.pt 3 0)), upd (upd (upd (upd noOb 3 (some (.var [.p none (pI .i32 y3.f0), .p none (pI .i32 y3.f1), .p none (pI .i32 y3.f2)]))) 12 (some (.var [.p none (pB y12.f0), .p none (.sl 1 (y12.f1.map e78)), .p none (.sl 1 (y12.f2.map e78))]))) 14 (some (.var [.p none (pB y14.f0), .p none (.sl 1 (y14.f1.map e78)), .p none (.sl 1 (y14.f2.map e78))]))) 16 (some (.var [.p none (pB y16.f0), .p none (.sl 1 (y16.f1.map e78)), .p none (.sl 1 (y16.f2.map e78))])), rtP 23, 23⟩
theorem cashbooklaw05_DaycountPieces.all : ∀ k, (∀ x5 x6 x7 x8 x9 x10 x11 x92 y16 y14 y12 y3 r, cashbooklaw05_DaycountPieces.j0 k x5 x6 x7 x8 x9 x10 x11 x92 y16 y14 y12 y3 = some r → AtJ C0 F4 (sub [1, 1, 1, 1, 1, 1, 1, 1, 0, 1] b4) [.code (sub [1, 1, 1, 1, 1, 1, 1, 1, 1] b4)] (some (cashbooklaw05_DaycountPieces.j0S x5 x6 x7 x8 x9 x10 x11 x92 y16 y14 y12 y3)) (RetQ C0 [.tmp 4] [aV [pB r]])) ∧ (∀ x5 x6 x8 x10 x11 x98 y16 y14 y12 y3 r, cashbooklaw05_DaycountPieces.j1 k x5 x6 x8 x10 x11 x98 y16 y14 y12 y3 = some r → AtJ C0 F4 (sub [1, 1, 1, 1, 1, 1, 1, 1, 1, 0, 1] b4) [.code (sub [1, 1, 1, 1, 1, 1, 1, 1, 1, 1] b4)] (some (cashbooklaw05_DaycountPieces.j1S x5 x6 x8 x10 x11 x98 y16 y14 y12 y3)) (RetQ C0 [.tmp 4] [aV [pB r]]))
  | 0 => ⟨fun _ _ _ _ _ _ _ _ _ _ _ _ r h => (by cases h), fun _ _ _ _ _ _ _ _ _ _ r h => (by cases h)⟩
  | k + 1 => by
    obtain ⟨Ij0, Ij1⟩ := cashbooklaw05_DaycountPieces.all k
    refine ⟨?_, ?_⟩
    · intro x5 x6 x7 x8 x9 x10 x11 x92 y16 y14 y12 y3 r h
      rw [cashbooklaw05_DaycountPieces.j0] at h
      rw [atJ_some]
      by_cases h9 : x92 = true
      · rw [if_pos h9] at h
        obtain rfl := Option.some.inj h
        simp only [↓Bp, ↓Bs, Bo, Bh, Ba, Bc, ↓reduceIte, Nat.reduceAdd, Nat.reduceEqDiff, Nat.reduceLT, Nat.reduceLeDiff, Nat.reduceBEq, Nat.reduceMul, Int.reduceLE, Int.reduceLT, Int.reduceEq, Int.reduceToNat, Int.cast_ofNat_Int, reduceCtorEq, G4, Tfz, b4, ↓Tryd.f4, F4, TYz, H4, h9, cashbooklaw05_DaycountPieces.j0S]
      · rw [if_neg h9] at h
        by_cases h10 : x7 = 0
        · rw [if_pos h10] at h
          simp only [↓Bp, ↓Bs, Bo, Bh, Ba, Bc, ↓reduceIte, Nat.reduceAdd, Nat.reduceEqDiff, Nat.reduceLT, Nat.reduceLeDiff, Nat.reduceBEq, Nat.reduceMul, Int.reduceLE, Int.reduceLT, Int.reduceEq, Int.reduceToNat, Int.cast_ofNat_Int, reduceCtorEq, G4, Tfz, b4, ↓Tryd.f4, F4, TYz, H4, h9, eq_true h10, cashbooklaw05_DaycountPieces.j0S]
          refine AtJ.eq (Ij1 _ _ _ _ _ _ _ _ _ _ _ h) ?_
          simp only [Tfz, Int.reduceToNat, Int.toNat_natCast, cashbooklaw05_DaycountPieces.j1S, h9]
        · rw [if_neg h10] at h
          simp only [↓Bp, ↓Bs, Bo, Bh, Ba, Bc, ↓reduceIte, Nat.reduceAdd, Nat.reduceEqDiff, Nat.reduceLT, Nat.reduceLeDiff, Nat.reduceBEq, Nat.reduceMul, Int.reduceLE, Int.reduceLT, Int.reduceEq, Int.reduceToNat, Int.cast_ofNat_Int, reduceCtorEq, G4, Tfz, b4, ↓Tryd.f4, F4, TYz, H4, h9, h10, cashbooklaw05_DaycountPieces.j0S]
          refine AtJ.eq (Ij1 _ _ _ _ _ _ _ _ _ _ _ h) ?_
          simp only [Tfz, Int.reduceToNat, Int.toNat_natCast, cashbooklaw05_DaycountPieces.j1S, h9]
    · intro x5 x6 x8 x10 x11 x98 y16 y14 y12 y3 r h
      rw [cashbooklaw05_DaycountPieces.j1] at h
      rw [atJ_some]
      by_cases h11 : x98 = true
      · rw [if_pos h11] at h
        obtain ⟨t12, h12, h⟩ := bnd h
        have h12c := ((cashbooklaw05_alive.ok _  _ h12))
        try simp only [Tfz, List.nil_append, List.cons_append, Int.reduceToNat, h11] at h12c
        obtain rfl := Option.some.inj h
        simp only [↓Bp, ↓Bs, Bo, Bh, Ba, Bc, ↓reduceIte, Nat.reduceAdd, Nat.reduceEqDiff, Nat.reduceLT, Nat.reduceLeDiff, Nat.reduceBEq, Nat.reduceMul, Int.reduceLE, Int.reduceLT, Int.reduceEq, Int.reduceToNat, Int.cast_ofNat_Int, reduceCtorEq, G4, Tfz, b4, ↓Tryd.f4, F4, TYz, H4, h11, callP_eq h12c, cashbooklaw05_DaycountPieces.j1S]
      · rw [if_neg h11] at h
        obtain ⟨t13, h13, h⟩ := bnd h
        have h13c := (up0 (ratio_Add.ok _ _ _ _ h13))
        try simp only [Tfz, List.nil_append, List.cons_append, Int.reduceToNat, h11] at h13c
        obtain ⟨t14, h14, h⟩ := bnd h
        have h14c := (up0 (cashbookref05_Same.ok _ _ _ _ h14))
        try simp only [Tfz, List.nil_append, List.cons_append, Int.reduceToNat, h11] at h14c
        obtain ⟨t15, h15, h⟩ := bnd h
        have h15c := (up0 (daycount_Days.ok _ _ _ _ _ h15))
        try simp only [Tfz, List.nil_append, List.cons_append, Int.reduceToNat, h11] at h15c
        obtain ⟨t16, h16, h⟩ := bnd h
        have h16c := ((cashbooklaw05_alive.ok _  _ h16))
        try simp only [Tfz, List.nil_append, List.cons_append, Int.reduceToNat, h11] at h16c
        by_cases h17 : t16 = true
        · rw [if_pos h17] at h
          try simp only [h17] at h13c
          try simp only [h17] at h14c
          try simp only [h17] at h15c
          try simp only [h17] at h16c
          by_cases h18 : x11 = 0
          · rw [if_pos h18] at h
            by_cases h19 : t13.2 = 0
            · rw [if_pos h19] at h
              by_cases h20 : t15.2 = 0
              · rw [if_pos h20] at h
                by_cases h21 : 0 ≤ x6
                · rw [if_pos h21] at h
                  by_cases h22 : 0 ≤ x8
                  · rw [if_pos h22] at h
                    by_cases h23 : (wrap64 (x6 + x8)) = x10
                    · rw [if_pos h23] at h
                      by_cases h24 : t14 = true
                      · rw [if_pos h24] at h
                        try simp only [h24] at h13c
                        try simp only [h24] at h14c
                        try simp only [h24] at h15c
                        try simp only [h24] at h16c
                        by_cases h25 : y12.f0 = true
                        · rw [if_pos h25] at h
                          try simp only [h25] at h13c
                          try simp only [h25] at h14c
                          try simp only [h25] at h15c
                          try simp only [h25] at h16c
                          obtain rfl := Option.some.inj h
                          simp only [↓Bp, ↓Bs, Bo, Bh, Ba, Bc, ↓reduceIte, Nat.reduceAdd, Nat.reduceEqDiff, Nat.reduceLT, Nat.reduceLeDiff, Nat.reduceBEq, Nat.reduceMul, Int.reduceLE, Int.reduceLT, Int.reduceEq, Int.reduceToNat, Int.cast_ofNat_Int, reduceCtorEq, G4, Tfz, b4, ↓Tryd.f4, F4, TYz, H4, h11, callP_eq h13c, callP_eq h14c, callP_eq h15c, callP_eq h16c, h17, eq_true h18, eq_true h19, eq_true h20, h21, h22, eq_true h23, h24, h25, cashbooklaw05_DaycountPieces.j1S]
                        · rw [if_neg h25] at h
                          try simp only [h25] at h13c
                          try simp only [h25] at h14c
                          try simp only [h25] at h15c
                          try simp only [h25] at h16c
                          by_cases h26 : t15.1 = 0
                          · rw [if_pos h26] at h
                            by_cases h27 : 0 < x6
                            · rw [if_pos h27] at h
                              obtain rfl := Option.some.inj h
                              simp only [↓Bp, ↓Bs, Bo, Bh, Ba, Bc, ↓reduceIte, Nat.reduceAdd, Nat.reduceEqDiff, Nat.reduceLT, Nat.reduceLeDiff, Nat.reduceBEq, Nat.reduceMul, Int.reduceLE, Int.reduceLT, Int.reduceEq, Int.reduceToNat, Int.cast_ofNat_Int, reduceCtorEq, G4, Tfz, b4, ↓Tryd.f4, F4, TYz, H4, h11, callP_eq h13c, callP_eq h14c, callP_eq h15c, callP_eq h16c, h17, eq_true h18, eq_true h19, eq_true h20, h21, h22, eq_true h23, h24, h25, eq_true h26, h27, cashbooklaw05_DaycountPieces.j1S]
                            · rw [if_neg h27] at h
                              obtain rfl := Option.some.inj h
                              simp only [↓Bp, ↓Bs, Bo, Bh, Ba, Bc, ↓reduceIte, Nat.reduceAdd, Nat.reduceEqDiff, Nat.reduceLT, Nat.reduceLeDiff, Nat.reduceBEq, Nat.reduceMul, Int.reduceLE, Int.reduceLT, Int.reduceEq, Int.reduceToNat, Int.cast_ofNat_Int, reduceCtorEq, G4, Tfz, b4, ↓Tryd.f4, F4, TYz, H4, h11, callP_eq h13c, callP_eq h14c, callP_eq h15c, callP_eq h16c, h17, eq_true h18, eq_true h19, eq_true h20, h21, h22, eq_true h23, h24, h25, eq_true h26, h27, cashbooklaw05_DaycountPieces.j1S]
                          · rw [if_neg h26] at h
                            obtain rfl := Option.some.inj h
                            simp only [↓Bp, ↓Bs, Bo, Bh, Ba, Bc, ↓reduceIte, Nat.reduceAdd, Nat.reduceEqDiff, Nat.reduceLT, Nat.reduceLeDiff, Nat.reduceBEq, Nat.reduceMul, Int.reduceLE, Int.reduceLT, Int.reduceEq, Int.reduceToNat, Int.cast_ofNat_Int, reduceCtorEq, G4, Tfz, b4, ↓Tryd.f4, F4, TYz, H4, h11, callP_eq h13c, callP_eq h14c, callP_eq h15c, callP_eq h16c, h17, eq_true h18, eq_true h19, eq_true h20, h21, h22, eq_true h23, h24, h25, h26, cashbooklaw05_DaycountPieces.j1S]
                      · rw [if_neg h24] at h
                        try simp only [h24] at h13c
                        try simp only [h24] at h14c
                        try simp only [h24] at h15c
                        try simp only [h24] at h16c
                        obtain rfl := Option.some.inj h
                        simp only [↓Bp, ↓Bs, Bo, Bh, Ba, Bc, ↓reduceIte, Nat.reduceAdd, Nat.reduceEqDiff, Nat.reduceLT, Nat.reduceLeDiff, Nat.reduceBEq, Nat.reduceMul, Int.reduceLE, Int.reduceLT, Int.reduceEq, Int.reduceToNat, Int.cast_ofNat_Int, reduceCtorEq, G4, Tfz, b4, ↓Tryd.f4, F4, TYz, H4, h11, callP_eq h13c, callP_eq h14c, callP_eq h15c, callP_eq h16c, h17, eq_true h18, eq_true h19, eq_true h20, h21, h22, eq_true h23, h24, cashbooklaw05_DaycountPieces.j1S]
                    · rw [if_neg h23] at h
                      obtain rfl := Option.some.inj h
                      simp only [↓Bp, ↓Bs, Bo, Bh, Ba, Bc, ↓reduceIte, Nat.reduceAdd, Nat.reduceEqDiff, Nat.reduceLT, Nat.reduceLeDiff, Nat.reduceBEq, Nat.reduceMul, Int.reduceLE, Int.reduceLT, Int.reduceEq, Int.reduceToNat, Int.cast_ofNat_Int, reduceCtorEq, G4, Tfz, b4, ↓Tryd.f4, F4, TYz, H4, h11, callP_eq h13c, callP_eq h14c, callP_eq h15c, callP_eq h16c, h17, eq_true h18, eq_true h19, eq_true h20, h21, h22, h23, cashbooklaw05_DaycountPieces.j1S]
                  · rw [if_neg h22] at h
                    obtain rfl := Option.some.inj h
                    simp only [↓Bp, ↓Bs, Bo, Bh, Ba, Bc, ↓reduceIte, Nat.reduceAdd, Nat.reduceEqDiff, Nat.reduceLT, Nat.reduceLeDiff, Nat.reduceBEq, Nat.reduceMul, Int.reduceLE, Int.reduceLT, Int.reduceEq, Int.reduceToNat, Int.cast_ofNat_Int, reduceCtorEq, G4, Tfz, b4, ↓Tryd.f4, F4, TYz, H4, h11, callP_eq h13c, callP_eq h14c, callP_eq h15c, callP_eq h16c, h17, eq_true h18, eq_true h19, eq_true h20, h21, h22, cashbooklaw05_DaycountPieces.j1S]
                · rw [if_neg h21] at h
                  obtain rfl := Option.some.inj h
                  simp only [↓Bp, ↓Bs, Bo, Bh, Ba, Bc, ↓reduceIte, Nat.reduceAdd, Nat.reduceEqDiff, Nat.reduceLT, Nat.reduceLeDiff, Nat.reduceBEq, Nat.reduceMul, Int.reduceLE, Int.reduceLT, Int.reduceEq, Int.reduceToNat, Int.cast_ofNat_Int, reduceCtorEq, G4, Tfz, b4, ↓Tryd.f4, F4, TYz, H4, h11, callP_eq h13c, callP_eq h14c, callP_eq h15c, callP_eq h16c, h17, eq_true h18, eq_true h19, eq_true h20, h21, cashbooklaw05_DaycountPieces.j1S]
              · rw [if_neg h20] at h
                obtain rfl := Option.some.inj h
                simp only [↓Bp, ↓Bs, Bo, Bh, Ba, Bc, ↓reduceIte, Nat.reduceAdd, Nat.reduceEqDiff, Nat.reduceLT, Nat.reduceLeDiff, Nat.reduceBEq, Nat.reduceMul, Int.reduceLE, Int.reduceLT, Int.reduceEq, Int.reduceToNat, Int.cast_ofNat_Int, reduceCtorEq, G4, Tfz, b4, ↓Tryd.f4, F4, TYz, H4, h11, callP_eq h13c, callP_eq h14c, callP_eq h15c, callP_eq h16c, h17, eq_true h18, eq_true h19, h20, cashbooklaw05_DaycountPieces.j1S]
            · rw [if_neg h19] at h
              obtain rfl := Option.some.inj h
              simp only [↓Bp, ↓Bs, Bo, Bh, Ba, Bc, ↓reduceIte, Nat.reduceAdd, Nat.reduceEqDiff, Nat.reduceLT, Nat.reduceLeDiff, Nat.reduceBEq, Nat.reduceMul, Int.reduceLE, Int.reduceLT, Int.reduceEq, Int.reduceToNat, Int.cast_ofNat_Int, reduceCtorEq, G4, Tfz, b4, ↓Tryd.f4, F4, TYz, H4, h11, callP_eq h13c, callP_eq h14c, callP_eq h15c, callP_eq h16c, h17, eq_true h18, h19, cashbooklaw05_DaycountPieces.j1S]
          · rw [if_neg h18] at h
            obtain rfl := Option.some.inj h
            simp only [↓Bp, ↓Bs, Bo, Bh, Ba, Bc, ↓reduceIte, Nat.reduceAdd, Nat.reduceEqDiff, Nat.reduceLT, Nat.reduceLeDiff, Nat.reduceBEq, Nat.reduceMul, Int.reduceLE, Int.reduceLT, Int.reduceEq, Int.reduceToNat, Int.cast_ofNat_Int, reduceCtorEq, G4, Tfz, b4, ↓Tryd.f4, F4, TYz, H4, h11, callP_eq h13c, callP_eq h14c, callP_eq h15c, callP_eq h16c, h17, h18, cashbooklaw05_DaycountPieces.j1S]
        · rw [if_neg h17] at h
          try simp only [h17] at h13c
          try simp only [h17] at h14c
          try simp only [h17] at h15c
          try simp only [h17] at h16c
          obtain rfl := Option.some.inj h
          simp only [↓Bp, ↓Bs, Bo, Bh, Ba, Bc, ↓reduceIte, Nat.reduceAdd, Nat.reduceEqDiff, Nat.reduceLT, Nat.reduceLeDiff, Nat.reduceBEq, Nat.reduceMul, Int.reduceLE, Int.reduceLT, Int.reduceEq, Int.reduceToNat, Int.cast_ofNat_Int, reduceCtorEq, G4, Tfz, b4, ↓Tryd.f4, F4, TYz, H4, h11, callP_eq h13c, callP_eq h14c, callP_eq h15c, callP_eq h16c, h17, cashbooklaw05_DaycountPieces.j1S]
theorem cashbooklaw05_DaycountPieces.ok (k : Nat) (x0 : Int) (x1 : S39) (r : Bool) (h : cashbooklaw05_DaycountPieces.f k x0 x1 = some r) : Ret C0 4 [(false, [.sc (.int .u8 x0)]), (true, [.sc (.int .i32 x1.f0), .sc (.int .i32 x1.f1), .sc (.int .i32 x1.f2)])] [aV [pB r]] := by
  refine ret_of (c := b4) Tryd.func4 rfl rfl ⟨Nat.le_of_ble_eq_true rfl, Nat.le_of_ble_eq_true rfl⟩ ?_
  unfold cashbooklaw05_DaycountPieces.f at h
  rw [show Tryd.f4.results.toList = [.tmp 4] from rfl]
  rw [show Tryd.f4.ntmps = 168 from rfl]
  obtain ⟨Ij0, Ij1⟩ := cashbooklaw05_DaycountPieces.all k
  obtain ⟨t1, h1, h⟩ := bnd h
  have h1c := (up0 (daycount_Days.ok _ _ _ _ _ h1))
  try simp only [Tfz, List.nil_append, List.cons_append, Int.reduceToNat] at h1c
  obtain ⟨t2, h2, h⟩ := bnd h
  have h2c := (up0 (daycount_Days.ok _ _ _ _ _ h2))
  try simp only [Tfz, List.nil_append, List.cons_append, Int.reduceToNat] at h2c
  obtain ⟨t3, h3, h⟩ := bnd h
  have h3c := (up0 (daycount_Days.ok _ _ _ _ _ h3))
  try simp only [Tfz, List.nil_append, List.cons_append, Int.reduceToNat] at h3c
  obtain ⟨t4, h4, h⟩ := bnd h
  have h4c := ((daycount_Part.ok _ _ _ _ _ h4))
  try simp only [Tfz, List.nil_append, List.cons_append, Int.reduceToNat] at h4c
  obtain ⟨t5, h5, h⟩ := bnd h
  have h5c := ((daycount_Part.ok _ _ _ _ _ h5))
  try simp only [Tfz, List.nil_append, List.cons_append, Int.reduceToNat] at h5c
  obtain ⟨t6, h6, h⟩ := bnd h
  have h6c := ((daycount_Part.ok _ _ _ _ _ h6))
  try simp only [Tfz, List.nil_append, List.cons_append, Int.reduceToNat] at h6c
  by_cases h7 : t1.2 = t4.2
  · rw [if_pos h7] at h
    by_cases h8 : t2.2 = t5.2
    · rw [if_pos h8] at h
      simp only [↓Bp, ↓Bs, Bo, Bh, Ba, Bc, ↓reduceIte, Nat.reduceAdd, Nat.reduceEqDiff, Nat.reduceLT, Nat.reduceLeDiff, Nat.reduceBEq, Nat.reduceMul, Int.reduceLE, Int.reduceLT, Int.reduceEq, Int.reduceToNat, Int.cast_ofNat_Int, reduceCtorEq, G4, Tfz, b4, ↓Tryd.f4, F4, TYz, H4, callP_eq h1c, callP_eq h2c, callP_eq h3c, callP_eq h4c, callP_eq h5c, callP_eq h6c, eq_true h7, eq_true h8]
      refine AtJ.eq (Ij0 _ _ _ _ _ _ _ _ _ _ _ _ _ h) ?_
      simp only [Tfz, Int.reduceToNat, Int.toNat_natCast, cashbooklaw05_DaycountPieces.j0S]
    · rw [if_neg h8] at h
      simp only [↓Bp, ↓Bs, Bo, Bh, Ba, Bc, ↓reduceIte, Nat.reduceAdd, Nat.reduceEqDiff, Nat.reduceLT, Nat.reduceLeDiff, Nat.reduceBEq, Nat.reduceMul, Int.reduceLE, Int.reduceLT, Int.reduceEq, Int.reduceToNat, Int.cast_ofNat_Int, reduceCtorEq, G4, Tfz, b4, ↓Tryd.f4, F4, TYz, H4, callP_eq h1c, callP_eq h2c, callP_eq h3c, callP_eq h4c, callP_eq h5c, callP_eq h6c, eq_true h7, h8]
      refine AtJ.eq (Ij0 _ _ _ _ _ _ _ _ _ _ _ _ _ h) ?_
      simp only [Tfz, Int.reduceToNat, Int.toNat_natCast, cashbooklaw05_DaycountPieces.j0S]
  · rw [if_neg h7] at h
    simp only [↓Bp, ↓Bs, Bo, Bh, Ba, Bc, ↓reduceIte, Nat.reduceAdd, Nat.reduceEqDiff, Nat.reduceLT, Nat.reduceLeDiff, Nat.reduceBEq, Nat.reduceMul, Int.reduceLE, Int.reduceLT, Int.reduceEq, Int.reduceToNat, Int.cast_ofNat_Int, reduceCtorEq, G4, Tfz, b4, ↓Tryd.f4, F4, TYz, H4, callP_eq h1c, callP_eq h2c, callP_eq h3c, callP_eq h4c, callP_eq h5c, callP_eq h6c, h7]
    refine AtJ.eq (Ij0 _ _ _ _ _ _ _ _ _ _ _ _ _ h) ?_
    simp only [Tfz, Int.reduceToNat, Int.toNat_natCast, cashbooklaw05_DaycountPieces.j0S]
noncomputable def b5 : Code := bodyOf Tryd.f5
end Go.Proofs.YtjhljcnjafbkfaaDoor.X
