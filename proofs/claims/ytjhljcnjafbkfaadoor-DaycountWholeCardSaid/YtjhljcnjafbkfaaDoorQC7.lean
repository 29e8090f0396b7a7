import Derived.Test.YtjhljcnjafbkfaaDoorQC6
set_option linter.unusedSimpArgs false
set_option linter.unusedVariables false
set_option linter.unusedVariables false
set_option linter.unusedSimpArgs false
set_option linter.defProp false
set_option maxHeartbeats 1000000
set_option maxRecDepth 20000
namespace Go.Proofs.YtjhljcnjafbkfaaDoor.X
open Go.RowKit
mutual
def nat_divide.l0 : Nat → List Int → Int → List Int → Int → List Int → List Int → Option ((List Int) × (List Int))
  | 0, _, _, _, _, _, _ => none
  | k + 1, x1, x6, x8, x10, y38, y26 => (if 0 ≤ x10 then ((nat_guess.f k y26 x8 x10).bind fun t9 => ((nat_take_s1.f k x8 x10 t9 y26).bind fun t10 => (if t10.1 = true then (if t10.2.length = y26.length then ((nat_back_s0.f k x8 x10 t10.2).bind fun t13 => (if t13.length = t10.2.length then (nat_divide.j0 k x1 x6 x8 x10 (IntKind.u64.wrap (t9 - 1)) y38 t13) else none)) else none) else (if t10.2.length = y26.length then (nat_divide.j0 k x1 x6 x8 x10 t9 y38 t10.2) else none)))) else (if 0 ≤ (x1.length : Int) then (if (x1.length : Int) ≤ 16777216 then (nat_divide.l1 k x6 ((List.replicate (((x1.length : Int) : Int).toNat) 0).length : Int) 0 (List.replicate (((x1.length : Int) : Int).toNat) 0) y38 y26) else none) else none))
def nat_divide.j0 : Nat → List Int → Int → List Int → Int → Int → List Int → List Int → Option ((List Int) × (List Int))
  | 0, _, _, _, _, _, _, _ => none
  | k + 1, x1, x6, x8, x10, x11, y38, y26 => (if 0 ≤ x10 then (if x10 < (y38.length : Int) then (nat_divide.l0 k x1 x6 x8 (wrap64 (x10 - 1)) (y38.set ((x10 : Int).toNat) (IntKind.u32.wrap (x11))) y26) else none) else none)
def nat_divide.l1 : Nat → Int → Int → Int → List Int → List Int → List Int → Option ((List Int) × (List Int))
  | 0, _, _, _, _, _, _ => none
  | k + 1, x6, x72, x73, y70, y38, y26 => (if x73 < x72 then (if 0 ≤ (wrap64 (x73 + 1)) then (if (wrap64 (x73 + 1)) < (y26.length : Int) then (if 0 ≤ x73 then (if x73 < (y26.length : Int) then (if x6 < 0 then none else (if x73 < (y70.length : Int) then (nat_divide.l1 k x6 x72 (wrap64 (x73 + 1)) (y70.set ((x73 : Int).toNat) (IntKind.u32.wrap ((Int.fdiv (Go.bits .or .u64 (IntKind.u64.wrap ((IntKind.u64.wrap ((y26.getD (((wrap64 (x73 + 1)) : Int).toNat) 0))) * 2 ^ min (32 : Int).toNat (IntKind.bits .u64))) (IntKind.u64.wrap ((y26.getD ((x73 : Int).toNat) 0)))) (2 ^ min (x6 : Int).toNat (IntKind.bits .u64)))))) y38 y26) else none)) else none) else none) else none) else none) else ((nat_trim.f k y38).bind fun t27 => ((nat_trim.f k y70).bind fun t28 => (some (t27, t28)))))
end
def nat_divide.f (k : Nat) (x0 : List Int) (x1 : List Int) : Option ((List Int) × (List Int)) := (if 0 ≤ (wrap64 ((x1.length : Int) - 1)) then (if (wrap64 ((x1.length : Int) - 1)) < (x1.length : Int) then ((math_bits_LeadingZeros32.f k (x1.getD (((wrap64 ((x1.length : Int) - 1)) : Int).toNat) 0)).bind fun t3 => ((nat_shift_s0.f k x0 t3 (wrap64 ((x0.length : Int) + 1))).bind fun t4 => ((nat_shift.f k x1 t3 (x1.length : Int)).bind fun t5 => (if 0 ≤ (wrap64 ((wrap64 ((x0.length : Int) - (x1.length : Int))) + 1)) then (if (wrap64 ((wrap64 ((x0.length : Int) - (x1.length : Int))) + 1)) ≤ 16777216 then (nat_divide.l0 k x1 t3 t5 (wrap64 ((x0.length : Int) - (x1.length : Int))) (List.replicate (((wrap64 ((wrap64 ((x0.length : Int) - (x1.length : Int))) + 1)) : Int).toNat) 0) t4) else none) else none)))) else none) else none)
theorem nat_divide.monos : ∀ k, (∀ x1 x6 x8 x10 y38 y26, LeO (nat_divide.l0 k x1 x6 x8 x10 y38 y26) (nat_divide.l0 (k + 1) x1 x6 x8 x10 y38 y26)) ∧ (∀ x1 x6 x8 x10 x11 y38 y26, LeO (nat_divide.j0 k x1 x6 x8 x10 x11 y38 y26) (nat_divide.j0 (k + 1) x1 x6 x8 x10 x11 y38 y26)) ∧ (∀ x6 x72 x73 y70 y38 y26, LeO (nat_divide.l1 k x6 x72 x73 y70 y38 y26) (nat_divide.l1 (k + 1) x6 x72 x73 y70 y38 y26))
  | 0 => ⟨fun _ _ _ _ _ _ => leo_none, fun _ _ _ _ _ _ _ => leo_none, fun _ _ _ _ _ _ => leo_none⟩
  | k + 1 => by
    obtain ⟨Il0, Ij0, Il1⟩ := nat_divide.monos k
    refine ⟨?_, ?_, ?_⟩
    · intro x1 x6 x8 x10 y38 y26
      rw [nat_divide.l0, nat_divide.l0]
      exact leo_ite (leo_bind (nat_guess.mono k _ _ _) (fun _ => leo_bind (nat_take_s1.mono k _ _ _ _) (fun _ => leo_ite (leo_if (leo_bind (nat_back_s0.mono k _ _ _) (fun _ => leo_if (Ij0 _ _ _ _ _ _ _)))) (leo_if (Ij0 _ _ _ _ _ _ _))))) (leo_if (leo_if (Il1 _ _ _ _ _ _)))
    · intro x1 x6 x8 x10 x11 y38 y26
      rw [nat_divide.j0, nat_divide.j0]
      exact leo_if (leo_if (Il0 _ _ _ _ _ _))
    · intro x6 x72 x73 y70 y38 y26
      rw [nat_divide.l1, nat_divide.l1]
      exact leo_ite (leo_if (leo_if (leo_if (leo_if (leo_ifz (leo_if (Il1 _ _ _ _ _ _))))))) (leo_bind (nat_trim.mono k _) (fun _ => leo_bind (nat_trim.mono k _) (fun _ => leo_refl)))
theorem nat_divide.mono (k : Nat) (x0 : List Int) (x1 : List Int) : LeO (nat_divide.f k x0 x1) (nat_divide.f (k + 1) x0 x1) := leo_if (leo_if (leo_bind (math_bits_LeadingZeros32.mono k _) (fun _ => leo_bind (nat_shift_s0.mono k _ _ _) (fun _ => leo_bind (nat_shift.mono k _ _ _) (fun _ => leo_if (leo_if ((nat_divide.monos k).1 _ _ _ _ _ _)))))))
noncomputable def b70 : Code := bodyOf Tryd.f70
def F70 : Fr := ⟨0, 100, 1, [], 70⟩
theorem D70_16 {k : List It} {s : St} {Q : Post} {ops : Array Oper} {us : List Upd} (ha : apart2 [(0, 1), (0, 2), (1, 2), (0, 3), (1, 3), (2, 3), (0, 4), (1, 4), (2, 4), (0, 5), (1, 5), (0, 6), (1, 6), (0, 7), (1, 7), (0, 8), (1, 8), (0, 9), (1, 9), (2, 9), (3, 9), (4, 9), (5, 9), (6, 9), (7, 9), (8, 9), (0, 10), (1, 10), (2, 10), (3, 10), (4, 10), (5, 10), (6, 10), (7, 10), (8, 10), (9, 10), (0, 11), (1, 11), (2, 11), (3, 11), (4, 11), (5, 11), (6, 11), (7, 11), (8, 11), (0, 12), (1, 12), (2, 12), (3, 12), (4, 12), (5, 12), (6, 12), (7, 12), (8, 12), (0, 13), (1, 13), (2, 13), (3, 13), (4, 13), (5, 13), (6, 13), (7, 13), (8, 13), (0, 14), (1, 14), (0, 15), (1, 15), (2, 15), (3, 15), (4, 15), (5, 15), (6, 15), (7, 15), (8, 15), (9, 15), (10, 15), (11, 15), (12, 15), (13, 15), (14, 15), (0, 16), (1, 16), (0, 17), (1, 17)] (loud 0 us.reverse) = true) (hl : lessAll us.length [(0, 1), (0, 2), (1, 2), (0, 3), (1, 3), (2, 3), (0, 4), (1, 4), (2, 4), (0, 5), (1, 5), (0, 6), (1, 6), (0, 7), (1, 7), (0, 8), (1, 8), (0, 9), (1, 9), (2, 9), (3, 9), (4, 9), (5, 9), (6, 9), (7, 9), (8, 9), (0, 10), (1, 10), (2, 10), (3, 10), (4, 10), (5, 10), (6, 10), (7, 10), (8, 10), (9, 10), (0, 11), (1, 11), (2, 11), (3, 11), (4, 11), (5, 11), (6, 11), (7, 11), (8, 11), (0, 12), (1, 12), (2, 12), (3, 12), (4, 12), (5, 12), (6, 12), (7, 12), (8, 12), (0, 13), (1, 13), (2, 13), (3, 13), (4, 13), (5, 13), (6, 13), (7, 13), (8, 13), (0, 14), (1, 14), (0, 15), (1, 15), (2, 15), (3, 15), (4, 15), (5, 15), (6, 15), (7, 15), (8, 15), (9, 15), (10, 15), (11, 15), (12, 15), (13, 15), (14, 15), (0, 16), (1, 16), (0, 17), (1, 17)] = true) : GR C1 ⟨0, 100, 1, [], 70⟩ k Q 16 true ops [] s us = Fin C1 ⟨0, 100, 1, [], 70⟩ k .fall s Q := gr_nilD (F := F70) rfl ha hl
def nat_divide.l0S (x1 : List Int) (x6 : Int) (x8 : List Int) (x10 : Int) (y38 : List Int) (y26 : List Int) : St := ⟨upd (upd (upd (upd (upd (upd (fun _ => .no) 10 (.one (.p none (pI .i64 x10)))) 9 (.one (.vw 38 0 y38.length))) 8 (.one (.p none (.sl 1 (x8.map e78))))) 7 (.one (.vw 26 0 y26.length))) 6 (.one (.p none (pI .i64 x6)))) 1 (.one (.p none (.sl 1 (x1.map e78)))), upd (upd noOb 26 (some (.arr false 1 (y26.map e78)))) 38 (some (.arr false 1 (y38.map e78))), rtP 7, 7⟩
def nat_divide.j0S (x1 : List Int) (x6 : Int) (x8 : List Int) (x10 : Int) (x11 : Int) (y38 : List Int) (y26 : List Int) : St := ⟨upd (upd (upd (upd (upd (upd (upd (fun _ => .no) 11 (.one (.p none (pI .u64 x11)))) 10 (.one (.p none (pI .i64 x10)))) 9 (.one (.vw 38 0 y38.length))) 8 (.one (.p none (.sl 1 (x8.map e78))))) 7 (.one (.vw 26 0 y26.length))) 6 (.one (.p none (pI .i64 x6)))) 1 (.one (.p none (.sl 1 (x1.map e78)))), upd (upd noOb 26 (some (.arr false 1 (y26.map e78)))) 38 (some (.arr false 1 (y38.map e78))), rtP 8, 8⟩
def nat_divide.l1S (x6 : Int) (x72 : Int) (x73 : Int) (y70 : List Int) (y38 : List Int) (y26 : List Int) : St := ⟨upd (upd (upd (upd (upd (upd (fun _ => .no) 73 (.one (.p none (pI .i64 x73)))) 72 (.one (.p none (pI .i64 x72)))) 12 (.one (.vw 70 0 y70.length))) 9 (.one (.vw 38 0 y38.length))) 7 (.one (.vw 26 0 y26.length))) 6 (.one (.p none (pI .i64 x6))), upd (upd (upd noOb 26 (some (.arr false 1 (y26.map e78)))) 38 (some (.arr false 1 (y38.map e78)))) 70 (some (.arr false 1 (y70.map e78))), rtP 7, 7⟩
theorem nat_divide.all : ∀ k, (∀ x1 x6 x8 x10 y38 y26 r, nat_divide.l0 k x1 x6 x8 x10 y38 y26 = some r → AtL C1 F70 (sub [1, 1, 1, 1, 0, 1, 0, 0] b70) [.blk 0, .code (sub [1, 1, 1, 1, 1] b70)] (some (nat_divide.l0S x1 x6 x8 x10 y38 y26)) (RetQ C1 [.tmp 4, .tmp 5] [aV [.sl 1 (r.1.map e78)], aV [.sl 1 (r.2.map e78)]])) ∧ (∀ x1 x6 x8 x10 x11 y38 y26 r, nat_divide.j0 k x1 x6 x8 x10 x11 y38 y26 = some r → AtJ C1 F70 (sub [1, 1, 1, 1, 0, 1, 0, 0, 1, 0, 0, 1, 1] b70) [.blk 1, .code (sub [1, 1, 1, 1, 0, 1, 0, 0, 1, 1] b70), .lp (sub [1, 1, 1, 1, 0, 1, 0, 0] b70), .blk 0, .code (sub [1, 1, 1, 1, 1] b70)] (some (nat_divide.j0S x1 x6 x8 x10 x11 y38 y26)) (RetQ C1 [.tmp 4, .tmp 5] [aV [.sl 1 (r.1.map e78)], aV [.sl 1 (r.2.map e78)]])) ∧ (∀ x6 x72 x73 y70 y38 y26 r, nat_divide.l1 k x6 x72 x73 y70 y38 y26 = some r → AtL C1 F70 (sub [1, 1, 1, 1, 1, 1, 0, 1, 0, 0] b70) [.blk 2, .code (sub [1, 1, 1, 1, 1, 1, 1] b70)] (some (nat_divide.l1S x6 x72 x73 y70 y38 y26)) (RetQ C1 [.tmp 4, .tmp 5] [aV [.sl 1 (r.1.map e78)], aV [.sl 1 (r.2.map e78)]]))
  | 0 => ⟨fun _ _ _ _ _ _ r h => (by cases h), fun _ _ _ _ _ _ _ r h => (by cases h), fun _ _ _ _ _ _ r h => (by cases h)⟩
  | k + 1 => by
    obtain ⟨Il0, Ij0, Il1⟩ := nat_divide.all k
    refine ⟨?_, ?_, ?_⟩
    · intro x1 x6 x8 x10 y38 y26 r h
      rw [nat_divide.l0] at h
      rw [atL_some]
      by_cases h8 : 0 ≤ x10
      · rw [if_pos h8] at h
        obtain ⟨t9, h9, h⟩ := bnd h
        have h9c := ((nat_guess.ok _ _ _ _ _ h9))
        try simp only [Tf, List.nil_append, List.cons_append, Int.reduceToNat] at h9c
        obtain ⟨t10, h10, h⟩ := bnd h
        have h10c := ((nat_take_s1.ok _ _ _ _ _ _ h10))
        try simp only [Tf, List.nil_append, List.cons_append, Int.reduceToNat] at h10c
        by_cases h11 : t10.1 = true
        · rw [if_pos h11] at h
          try simp only [h11] at h9c
          try simp only [h11] at h10c
          obtain ⟨h12, h⟩ := ifn h
          obtain ⟨t13, h13, h⟩ := bnd h
          have h13c := ((nat_back_s0.ok _ _ _ _ _ h13))
          try simp only [Tf, List.nil_append, List.cons_append, Int.reduceToNat, h11, h12] at h13c
          obtain ⟨h14, h⟩ := ifn h
          simp only [↓Bp, ↓Bs, Bo, Bh, Ba, Bc, Bm, Nat.reduceSub, Int.sub_zero, Bd, ↓reduceIte, Nat.reduceAdd, Nat.reduceEqDiff, Nat.reduceLT, Nat.reduceLeDiff, Nat.reduceBEq, Nat.reduceMul, Int.reduceLE, Int.reduceLT, Int.reduceEq, Int.reduceToNat, Int.cast_ofNat_Int, reduceCtorEq, G70, Tf, b70, ↓Tryd.f70, F70, TY, H70, D70_16, h8, callP_eq h9c, mvC_eq h10c, h11, h12, mvC_eq h13c, h14, nat_divide.l0S]
          refine AtJ.eq (Ij0 _ _ _ _ _ _ _ _ h) ?_
          simp only [Tf, Int.reduceToNat, Int.toNat_natCast, nat_divide.j0S, h11, h12, h14]
        · rw [if_neg h11] at h
          try simp only [h11] at h9c
          try simp only [h11] at h10c
          obtain ⟨h15, h⟩ := ifn h
          simp only [↓Bp, ↓Bs, Bo, Bh, Ba, Bc, Bm, Nat.reduceSub, Int.sub_zero, Bd, ↓reduceIte, Nat.reduceAdd, Nat.reduceEqDiff, Nat.reduceLT, Nat.reduceLeDiff, Nat.reduceBEq, Nat.reduceMul, Int.reduceLE, Int.reduceLT, Int.reduceEq, Int.reduceToNat, Int.cast_ofNat_Int, reduceCtorEq, G70, Tf, b70, ↓Tryd.f70, F70, TY, H70, D70_16, h8, callP_eq h9c, mvC_eq h10c, h11, h15, nat_divide.l0S]
          refine AtJ.eq (Ij0 _ _ _ _ _ _ _ _ h) ?_
          simp only [Tf, Int.reduceToNat, Int.toNat_natCast, nat_divide.j0S, h11, h15]
      · rw [if_neg h8] at h
        obtain ⟨h16, h⟩ := ifn h
        obtain ⟨h17, h⟩ := ifn h
        simp only [↓Bp, ↓Bs, Bo, Bh, Ba, Bc, Bm, Nat.reduceSub, Int.sub_zero, Bd, ↓reduceIte, Nat.reduceAdd, Nat.reduceEqDiff, Nat.reduceLT, Nat.reduceLeDiff, Nat.reduceBEq, Nat.reduceMul, Int.reduceLE, Int.reduceLT, Int.reduceEq, Int.reduceToNat, Int.cast_ofNat_Int, reduceCtorEq, G70, Tf, b70, ↓Tryd.f70, F70, TY, H70, D70_16, h8, h16, h17, nat_divide.l0S]
        refine AtL.eq (Il1 _ _ _ _ _ _ _ h) ?_
        simp only [Tf, Int.reduceToNat, Int.toNat_natCast, nat_divide.l1S]
    · intro x1 x6 x8 x10 x11 y38 y26 r h
      rw [nat_divide.j0] at h
      rw [atJ_some]
      obtain ⟨h18, h⟩ := ifn h
      obtain ⟨h19, h⟩ := ifn h
      have h19t := nat_lt (i := x10) (by omega) h19
      have h19g := get_of (l := y38) 0 h19t
      try simp only [List.length_set, List.length_replicate, List.length_map, Int.reduceToNat] at h19t
      simp only [↓Bp, ↓Bs, Bo, Bh, Ba, Bc, Bm, Nat.reduceSub, Int.sub_zero, Bd, ↓reduceIte, Nat.reduceAdd, Nat.reduceEqDiff, Nat.reduceLT, Nat.reduceLeDiff, Nat.reduceBEq, Nat.reduceMul, Int.reduceLE, Int.reduceLT, Int.reduceEq, Int.reduceToNat, Int.cast_ofNat_Int, reduceCtorEq, G70, Tf, b70, ↓Tryd.f70, F70, TY, H70, D70_16, h18, h19, h19t, h19g, nat_divide.j0S]
      refine AtL.eq (Il0 _ _ _ _ _ _ _ h) ?_
      simp only [Tf, Int.reduceToNat, Int.toNat_natCast, nat_divide.l0S]
    · intro x6 x72 x73 y70 y38 y26 r h
      rw [nat_divide.l1] at h
      rw [atL_some]
      by_cases h20 : x73 < x72
      · rw [if_pos h20] at h
        obtain ⟨h21, h⟩ := ifn h
        obtain ⟨h22, h⟩ := ifn h
        have h22t := nat_lt (i := (wrap64 (x73 + 1))) (by omega) h22
        have h22g := get_of (l := y26) 0 h22t
        try simp only [List.length_set, List.length_replicate, List.length_map, Int.reduceToNat] at h22t
        obtain ⟨h23, h⟩ := ifn h
        obtain ⟨h24, h⟩ := ifn h
        have h24t := nat_lt (i := x73) (by omega) h24
        have h24g := get_of (l := y26) 0 h24t
        try simp only [List.length_set, List.length_replicate, List.length_map, Int.reduceToNat] at h24t
        obtain ⟨h25, h⟩ := ifz h
        obtain ⟨h26, h⟩ := ifn h
        have h26t := nat_lt (i := x73) (by omega) h26
        have h26g := get_of (l := y70) 0 h26t
        try simp only [List.length_set, List.length_replicate, List.length_map, Int.reduceToNat] at h26t
        simp only [↓Bp, ↓Bs, Bo, Bh, Ba, Bc, Bm, Nat.reduceSub, Int.sub_zero, Bd, ↓reduceIte, Nat.reduceAdd, Nat.reduceEqDiff, Nat.reduceLT, Nat.reduceLeDiff, Nat.reduceBEq, Nat.reduceMul, Int.reduceLE, Int.reduceLT, Int.reduceEq, Int.reduceToNat, Int.cast_ofNat_Int, reduceCtorEq, G70, Tf, b70, ↓Tryd.f70, F70, TY, H70, D70_16, h20, h21, h22, h22t, h22g, h23, h24, h24t, h24g, h25, h26, h26t, h26g, nat_divide.l1S]
        refine AtL.eq (Il1 _ _ _ _ _ _ _ h) ?_
        simp only [Tf, Int.reduceToNat, Int.toNat_natCast, nat_divide.l1S]
      · rw [if_neg h20] at h
        obtain ⟨t27, h27, h⟩ := bnd h
        have h27c := ((nat_trim.ok _ _ _ h27))
        try simp only [Tf, List.nil_append, List.cons_append, Int.reduceToNat] at h27c
        obtain ⟨t28, h28, h⟩ := bnd h
        have h28c := ((nat_trim.ok _ _ _ h28))
        try simp only [Tf, List.nil_append, List.cons_append, Int.reduceToNat] at h28c
        obtain rfl := Option.some.inj h
        simp only [↓Bp, ↓Bs, Bo, Bh, Ba, Bc, Bm, Nat.reduceSub, Int.sub_zero, Bd, ↓reduceIte, Nat.reduceAdd, Nat.reduceEqDiff, Nat.reduceLT, Nat.reduceLeDiff, Nat.reduceBEq, Nat.reduceMul, Int.reduceLE, Int.reduceLT, Int.reduceEq, Int.reduceToNat, Int.cast_ofNat_Int, reduceCtorEq, G70, Tf, b70, ↓Tryd.f70, F70, TY, H70, D70_16, h20, callP_eq h27c, callP_eq h28c, nat_divide.l1S]
theorem nat_divide.ok (k : Nat) (x0 : List Int) (x1 : List Int) (r : (List Int) × (List Int)) (h : nat_divide.f k x0 x1 = some r) : Ret C1 70 [(false, [.sl 1 (x0.map e78)]), (false, [.sl 1 (x1.map e78)])] [aV [.sl 1 (r.1.map e78)], aV [.sl 1 (r.2.map e78)]] := by
  refine ret_of (c := b70) Tryd.func70 rfl rfl ⟨Nat.le_of_ble_eq_true rfl, Nat.le_of_ble_eq_true rfl⟩ ?_
  unfold nat_divide.f at h
  rw [show Tryd.f70.results.toList = [.tmp 4, .tmp 5] from rfl]
  rw [show Tryd.f70.ntmps = 100 from rfl]
  obtain ⟨Il0, Ij0, Il1⟩ := nat_divide.all k
  obtain ⟨h1, h⟩ := ifn h
  obtain ⟨h2, h⟩ := ifn h
  have h2r := fun (q : 0 ≤ (wrap64 ((x1.length : Int) - 1))) => rd_at (l := x1) (i := (wrap64 ((x1.length : Int) - 1))) 0 q h2
  replace h2r := h2r (by omega)
  obtain ⟨t3, h3, h⟩ := bnd h
  have h3c := ((math_bits_LeadingZeros32.ok _ _ _ h3))
  try simp only [Tf, List.nil_append, List.cons_append, Int.reduceToNat] at h3c
  obtain ⟨t4, h4, h⟩ := bnd h
  have h4c := ((nat_shift_s0.ok _ _ _ _ _ h4))
  try simp only [Tf, List.nil_append, List.cons_append, Int.reduceToNat] at h4c
  obtain ⟨t5, h5, h⟩ := bnd h
  have h5c := ((nat_shift.ok _ _ _ _ _ h5))
  try simp only [Tf, List.nil_append, List.cons_append, Int.reduceToNat] at h5c
  obtain ⟨h6, h⟩ := ifn h
  obtain ⟨h7, h⟩ := ifn h
  simp only [↓Bp, ↓Bs, Bo, Bh, Ba, Bc, Bm, Nat.reduceSub, Int.sub_zero, Bd, ↓reduceIte, Nat.reduceAdd, Nat.reduceEqDiff, Nat.reduceLT, Nat.reduceLeDiff, Nat.reduceBEq, Nat.reduceMul, Int.reduceLE, Int.reduceLT, Int.reduceEq, Int.reduceToNat, Int.cast_ofNat_Int, reduceCtorEq, G70, Tf, b70, ↓Tryd.f70, F70, TY, H70, D70_16, h1, h2, h2r, callP_eq h3c, mvC_eq h4c, callP_eq h5c, h6, h7]
  refine AtL.eq (Il0 _ _ _ _ _ _ _ h) ?_
  simp only [Tf, Int.reduceToNat, Int.toNat_natCast, nat_divide.l0S]
def nat_divmod.f (k : Nat) (x0 : List Int) (x1 : List Int) : Option ((List Int) × (List Int)) := ((nat_order.f k x0 x1).bind fun t1 => (if t1 < 0 then ((slices_Clone_api_Nat_uint32.f x0).bind fun t3 => (some (([] : List Int), t3))) else (if (x1.length : Int) = 1 then (if 0 < (x1.length : Int) then ((nat_small.f k x0 (IntKind.u64.wrap ((x1.getD 0 0)))).bind fun t6 => ((nat_Of.f k t6.2).bind fun t7 => (some (t6.1, t7)))) else none) else ((nat_divide.f k x0 x1).bind fun t8 => (some (t8.1, t8.2))))))
theorem nat_divmod.mono (k : Nat) (x0 : List Int) (x1 : List Int) : LeO (nat_divmod.f k x0 x1) (nat_divmod.f (k + 1) x0 x1) := leo_bind (nat_order.mono k _ _) (fun _ => leo_ite (leo_bind leo_refl (fun _ => leo_refl)) (leo_ite (leo_if (leo_bind (nat_small.mono k _ _) (fun _ => leo_bind (nat_Of.mono k _) (fun _ => leo_refl)))) (leo_bind (nat_divide.mono k _ _) (fun _ => leo_refl))))
noncomputable def b62 : Code := bodyOf Tryd.f62
def F62 : Fr := ⟨0, 36, 1, [], 62⟩
theorem nat_divmod.ok (k : Nat) (x0 : List Int) (x1 : List Int) (r : (List Int) × (List Int)) (h : nat_divmod.f k x0 x1 = some r) : Ret C1 62 [(false, [.sl 1 (x0.map e78)]), (false, [.sl 1 (x1.map e78)])] [aV [.sl 1 (r.1.map e78)], aV [.sl 1 (r.2.map e78)]] := by
  refine ret_of (c := b62) Tryd.func62 rfl rfl ⟨Nat.le_of_ble_eq_true rfl, Nat.le_of_ble_eq_true rfl⟩ ?_
  unfold nat_divmod.f at h
  rw [show Tryd.f62.results.toList = [.tmp 4, .tmp 5] from rfl]
  rw [show Tryd.f62.ntmps = 36 from rfl]
  obtain ⟨t1, h1, h⟩ := bnd h
  have h1c := ((nat_order.ok _ _ _ _ h1))
  try simp only [Tf, List.nil_append, List.cons_append, Int.reduceToNat] at h1c
  by_cases h2 : t1 < 0
  · rw [if_pos h2] at h
    obtain ⟨t3, h3, h⟩ := bnd h
    have h3c := ((slices_Clone_api_Nat_uint32.ok _ _ h3))
    try simp only [Tf, List.nil_append, List.cons_append, Int.reduceToNat] at h3c
    obtain rfl := Option.some.inj h
    simp only [↓Bp, ↓Bs, Bo, Bh, Ba, Bc, ↓reduceIte, Nat.reduceAdd, Nat.reduceEqDiff, Nat.reduceLT, Nat.reduceLeDiff, Nat.reduceBEq, Nat.reduceMul, Int.reduceLE, Int.reduceLT, Int.reduceEq, Int.reduceToNat, Int.cast_ofNat_Int, reduceCtorEq, G62, Tf, b62, ↓Tryd.f62, F62, TY, H62, callP_eq h1c, h2, callP_eq h3c]
  · rw [if_neg h2] at h
    by_cases h4 : (x1.length : Int) = 1
    · rw [if_pos h4] at h
      obtain ⟨h5, h⟩ := ifn h
      have h5r := fun (q : 0 ≤ 0) => rd_at (l := x1) (i := 0) 0 q h5
      replace h5r := h5r (by omega)
      obtain ⟨t6, h6, h⟩ := bnd h
      have h6c := ((nat_small.ok _ _ _ _ h6))
      try simp only [Tf, List.nil_append, List.cons_append, Int.reduceToNat] at h6c
      obtain ⟨t7, h7, h⟩ := bnd h
      have h7c := ((nat_Of.ok _ _ _ h7))
      try simp only [Tf, List.nil_append, List.cons_append, Int.reduceToNat] at h7c
      obtain rfl := Option.some.inj h
      simp only [↓Bp, ↓Bs, Bo, Bh, Ba, Bc, ↓reduceIte, Nat.reduceAdd, Nat.reduceEqDiff, Nat.reduceLT, Nat.reduceLeDiff, Nat.reduceBEq, Nat.reduceMul, Int.reduceLE, Int.reduceLT, Int.reduceEq, Int.reduceToNat, Int.cast_ofNat_Int, reduceCtorEq, G62, Tf, b62, ↓Tryd.f62, F62, TY, H62, callP_eq h1c, h2, eq_true h4, h5, h5r, callP_eq h6c, callP_eq h7c]
    · rw [if_neg h4] at h
      obtain ⟨t8, h8, h⟩ := bnd h
      have h8c := ((nat_divide.ok _ _ _ _ h8))
      try simp only [Tf, List.nil_append, List.cons_append, Int.reduceToNat] at h8c
      obtain rfl := Option.some.inj h
      simp only [↓Bp, ↓Bs, Bo, Bh, Ba, Bc, ↓reduceIte, Nat.reduceAdd, Nat.reduceEqDiff, Nat.reduceLT, Nat.reduceLeDiff, Nat.reduceBEq, Nat.reduceMul, Int.reduceLE, Int.reduceLT, Int.reduceEq, Int.reduceToNat, Int.cast_ofNat_Int, reduceCtorEq, G62, Tf, b62, ↓Tryd.f62, F62, TY, H62, callP_eq h1c, h2, h4, callP_eq h8c]
mutual
def nat_Gcd.j0 : Nat → List Int → List Int → Bool → Option ((List Int) × Int)
  | 0, _, _, _ => none
  | k + 1, x0, x1, x15 => (if x15 = true then (some (([] : List Int), 1)) else (nat_Gcd.l0 k x0 x1))
def nat_Gcd.l0 : Nat → List Int → List Int → Option ((List Int) × Int)
  | 0, _, _ => none
  | k + 1, x0, x1 => (if 0 < (x1.length : Int) then ((nat_divmod.f k x0 x1).bind fun t6 => (nat_Gcd.l0 k x1 t6.2)) else ((slices_Clone_api_Nat_uint32.f x0).bind fun t7 => (some (t7, 0))))
end
def nat_Gcd.f (k : Nat) (x0 : List Int) (x1 : List Int) : Option ((List Int) × Int) := ((nat_Right.f x0).bind fun t1 => (if t1 = true then ((nat_Right.f x1).bind fun t3 => (nat_Gcd.j0 k x0 x1 (!t3))) else (nat_Gcd.j0 k x0 x1 true)))
theorem nat_Gcd.monos : ∀ k, (∀ x0 x1 x15, LeO (nat_Gcd.j0 k x0 x1 x15) (nat_Gcd.j0 (k + 1) x0 x1 x15)) ∧ (∀ x0 x1, LeO (nat_Gcd.l0 k x0 x1) (nat_Gcd.l0 (k + 1) x0 x1))
  | 0 => ⟨fun _ _ _ => leo_none, fun _ _ => leo_none⟩
  | k + 1 => by
    obtain ⟨Ij0, Il0⟩ := nat_Gcd.monos k
    refine ⟨?_, ?_⟩
    · intro x0 x1 x15
      rw [nat_Gcd.j0, nat_Gcd.j0]
      exact leo_ite (leo_refl) (Il0 _ _)
    · intro x0 x1
      rw [nat_Gcd.l0, nat_Gcd.l0]
      exact leo_ite (leo_bind (nat_divmod.mono k _ _) (fun _ => Il0 _ _)) (leo_bind leo_refl (fun _ => leo_refl))
theorem nat_Gcd.mono (k : Nat) (x0 : List Int) (x1 : List Int) : LeO (nat_Gcd.f k x0 x1) (nat_Gcd.f (k + 1) x0 x1) := leo_bind leo_refl (fun _ => leo_ite (leo_bind leo_refl (fun _ => (nat_Gcd.monos k).1 _ _ _)) ((nat_Gcd.monos k).1 _ _ _))
noncomputable def b52 : Code := bodyOf Tryd.f52
def F52 : Fr := ⟨0, 29, 1, [], 52⟩
def nat_Gcd.j0S (x0 : List Int) (x1 : List Int) (x15 : Bool) : St := ⟨upd (upd (upd (fun _ => .no) 15 (.one (.p none (pB x15)))) 1 (.one (.p none (.sl 1 (x1.map e78))))) 0 (.one (.p none (.sl 1 (x0.map e78)))), noOb, rtP 4, 4⟩
def nat_Gcd.l0S (x0 : List Int) (x1 : List Int) : St := ⟨upd (upd (fun _ => .no) 1 (.one (.p none (.sl 1 (x1.map e78))))) 0 (.one (.p none (.sl 1 (x0.map e78)))), noOb, rtP 3, 3⟩
theorem nat_Gcd.all : ∀ k, (∀ x0 x1 x15 r, nat_Gcd.j0 k x0 x1 x15 = some r → AtJ C1 F52 (sub [1, 0, 1] b52) [.code (sub [1, 1] b52)] (some (nat_Gcd.j0S x0 x1 x15)) (RetQ C1 [.tmp 4, .tmp 5] [aV [.sl 1 (r.1.map e78)], aV [pI .i64 r.2]])) ∧ (∀ x0 x1 r, nat_Gcd.l0 k x0 x1 = some r → AtL C1 F52 (sub [1, 1, 0, 0, 0] b52) [.blk 0, .code (sub [1, 1, 1] b52)] (some (nat_Gcd.l0S x0 x1)) (RetQ C1 [.tmp 4, .tmp 5] [aV [.sl 1 (r.1.map e78)], aV [pI .i64 r.2]]))
  | 0 => ⟨fun _ _ _ r h => (by cases h), fun _ _ r h => (by cases h)⟩
  | k + 1 => by
    obtain ⟨Ij0, Il0⟩ := nat_Gcd.all k
    refine ⟨?_, ?_⟩
    · intro x0 x1 x15 r h
      rw [nat_Gcd.j0] at h
      rw [atJ_some]
      by_cases h4 : x15 = true
      · rw [if_pos h4] at h
        obtain rfl := Option.some.inj h
        simp only [↓Bp, ↓Bs, Bo, Bh, Ba, Bc, ↓reduceIte, Nat.reduceAdd, Nat.reduceEqDiff, Nat.reduceLT, Nat.reduceLeDiff, Nat.reduceBEq, Nat.reduceMul, Int.reduceLE, Int.reduceLT, Int.reduceEq, Int.reduceToNat, Int.cast_ofNat_Int, reduceCtorEq, G52, Tf, b52, ↓Tryd.f52, F52, TY, H52, h4, nat_Gcd.j0S]
      · rw [if_neg h4] at h
        simp only [↓Bp, ↓Bs, Bo, Bh, Ba, Bc, ↓reduceIte, Nat.reduceAdd, Nat.reduceEqDiff, Nat.reduceLT, Nat.reduceLeDiff, Nat.reduceBEq, Nat.reduceMul, Int.reduceLE, Int.reduceLT, Int.reduceEq, Int.reduceToNat, Int.cast_ofNat_Int, reduceCtorEq, G52, Tf, b52, ↓Tryd.f52, F52, TY, H52, h4, nat_Gcd.j0S]
        refine AtL.eq (Il0 _ _ _ h) ?_
        simp only [Tf, Int.reduceToNat, Int.toNat_natCast, nat_Gcd.l0S, h4]
    · intro x0 x1 r h
      rw [nat_Gcd.l0] at h
      rw [atL_some]
      by_cases h5 : 0 < (x1.length : Int)
      · rw [if_pos h5] at h
        obtain ⟨t6, h6, h⟩ := bnd h
        have h6c := ((nat_divmod.ok _ _ _ _ h6))
        try simp only [Tf, List.nil_append, List.cons_append, Int.reduceToNat] at h6c
        simp only [↓Bp, ↓Bs, Bo, Bh, Ba, Bc, ↓reduceIte, Nat.reduceAdd, Nat.reduceEqDiff, Nat.reduceLT, Nat.reduceLeDiff, Nat.reduceBEq, Nat.reduceMul, Int.reduceLE, Int.reduceLT, Int.reduceEq, Int.reduceToNat, Int.cast_ofNat_Int, reduceCtorEq, G52, Tf, b52, ↓Tryd.f52, F52, TY, H52, h5, callP_eq h6c, nat_Gcd.l0S]
        refine AtL.eq (Il0 _ _ _ h) ?_
        simp only [Tf, Int.reduceToNat, Int.toNat_natCast, nat_Gcd.l0S]
      · rw [if_neg h5] at h
        obtain ⟨t7, h7, h⟩ := bnd h
        have h7c := ((slices_Clone_api_Nat_uint32.ok _ _ h7))
        try simp only [Tf, List.nil_append, List.cons_append, Int.reduceToNat] at h7c
        obtain rfl := Option.some.inj h
        simp only [↓Bp, ↓Bs, Bo, Bh, Ba, Bc, ↓reduceIte, Nat.reduceAdd, Nat.reduceEqDiff, Nat.reduceLT, Nat.reduceLeDiff, Nat.reduceBEq, Nat.reduceMul, Int.reduceLE, Int.reduceLT, Int.reduceEq, Int.reduceToNat, Int.cast_ofNat_Int, reduceCtorEq, G52, Tf, b52, ↓Tryd.f52, F52, TY, H52, h5, callP_eq h7c, nat_Gcd.l0S]
theorem nat_Gcd.ok (k : Nat) (x0 : List Int) (x1 : List Int) (r : (List Int) × Int) (h : nat_Gcd.f k x0 x1 = some r) : Ret C1 52 [(false, [.sl 1 (x0.map e78)]), (false, [.sl 1 (x1.map e78)])] [aV [.sl 1 (r.1.map e78)], aV [pI .i64 r.2]] := by
  refine ret_of (c := b52) Tryd.func52 rfl rfl ⟨Nat.le_of_ble_eq_true rfl, Nat.le_of_ble_eq_true rfl⟩ ?_
  unfold nat_Gcd.f at h
  rw [show Tryd.f52.results.toList = [.tmp 4, .tmp 5] from rfl]
  rw [show Tryd.f52.ntmps = 29 from rfl]
  obtain ⟨Ij0, Il0⟩ := nat_Gcd.all k
  obtain ⟨t1, h1, h⟩ := bnd h
  have h1c := ((nat_Right.ok _ _ h1))
  try simp only [Tf, List.nil_append, List.cons_append, Int.reduceToNat] at h1c
  by_cases h2 : t1 = true
  · rw [if_pos h2] at h
    try simp only [h2] at h1c
    obtain ⟨t3, h3, h⟩ := bnd h
    have h3c := ((nat_Right.ok _ _ h3))
    try simp only [Tf, List.nil_append, List.cons_append, Int.reduceToNat, h2] at h3c
    simp only [↓Bp, ↓Bs, Bo, Bh, Ba, Bc, ↓reduceIte, Nat.reduceAdd, Nat.reduceEqDiff, Nat.reduceLT, Nat.reduceLeDiff, Nat.reduceBEq, Nat.reduceMul, Int.reduceLE, Int.reduceLT, Int.reduceEq, Int.reduceToNat, Int.cast_ofNat_Int, reduceCtorEq, G52, Tf, b52, ↓Tryd.f52, F52, TY, H52, callP_eq h1c, h2, callP_eq h3c]
    refine AtJ.eq (Ij0 _ _ _ _ h) ?_
    simp only [Tf, Int.reduceToNat, Int.toNat_natCast, nat_Gcd.j0S, h2]
  · rw [if_neg h2] at h
    try simp only [h2] at h1c
    simp only [↓Bp, ↓Bs, Bo, Bh, Ba, Bc, ↓reduceIte, Nat.reduceAdd, Nat.reduceEqDiff, Nat.reduceLT, Nat.reduceLeDiff, Nat.reduceBEq, Nat.reduceMul, Int.reduceLE, Int.reduceLT, Int.reduceEq, Int.reduceToNat, Int.cast_ofNat_Int, reduceCtorEq, G52, Tf, b52, ↓Tryd.f52, F52, TY, H52, callP_eq h1c, h2]
    refine AtJ.eq (Ij0 _ _ _ _ h) ?_
    simp only [Tf, Int.reduceToNat, Int.toNat_natCast, nat_Gcd.j0S, h2]
def ratio_one.f (k : Nat)  : Option (List Int) := ((nat_Of.f k 1).bind fun t1 => (some t1))
theorem ratio_one.mono (k : Nat)  : LeO (ratio_one.f k ) (ratio_one.f (k + 1) ) := leo_bind (nat_Of.mono k _) (fun _ => leo_refl)
noncomputable def b54 : Code := bodyOf Tryd.f54
def F54 : Fr := ⟨0, 2, 1, [], 54⟩
theorem ratio_one.ok (k : Nat)  (r : List Int) (h : ratio_one.f k  = some r) : Ret C1 54 [] [aV [.sl 1 (r.map e78)]] := by
  refine ret_of (c := b54) Tryd.func54 rfl rfl ⟨Nat.le_of_ble_eq_true rfl, Nat.le_of_ble_eq_true rfl⟩ ?_
  unfold ratio_one.f at h
  rw [show Tryd.f54.results.toList = [.tmp 0] from rfl]
  rw [show Tryd.f54.ntmps = 2 from rfl]
  obtain ⟨t1, h1, h⟩ := bnd h
  have h1c := ((nat_Of.ok _ _ _ h1))
  try simp only [Tf, List.nil_append, List.cons_append, Int.reduceToNat] at h1c
  obtain rfl := Option.some.inj h
  simp only [↓Bp, ↓Bs, Bo, Bh, Ba, Bc, ↓reduceIte, Nat.reduceAdd, Nat.reduceEqDiff, Nat.reduceLT, Nat.reduceLeDiff, Nat.reduceBEq, Nat.reduceMul, Int.reduceLE, Int.reduceLT, Int.reduceEq, Int.reduceToNat, Int.cast_ofNat_Int, reduceCtorEq, G54, Tf, b54, ↓Tryd.f54, F54, TY, H54, callP_eq h1c]
def nat_Compare.j0 : Nat → List Int → List Int → Bool → Option Int
  | 0, _, _, _ => none
  | k + 1, x0, x1, x12 => (if x12 = true then (some 0) else ((nat_order.f k x0 x1).bind fun t5 => (some t5)))
def nat_Compare.f (k : Nat) (x0 : List Int) (x1 : List Int) : Option Int := ((nat_Right.f x0).bind fun t1 => (if t1 = true then ((nat_Right.f x1).bind fun t3 => (nat_Compare.j0 k x0 x1 (!t3))) else (nat_Compare.j0 k x0 x1 true)))
theorem nat_Compare.monos : ∀ k, (∀ x0 x1 x12, LeO (nat_Compare.j0 k x0 x1 x12) (nat_Compare.j0 (k + 1) x0 x1 x12))
  | 0 => fun _ _ _ => leo_none
  | k + 1 => by
    have I := nat_Compare.monos k
    · intro x0 x1 x12
      rw [nat_Compare.j0, nat_Compare.j0]
      exact leo_ite (leo_refl) (leo_bind (nat_order.mono k _ _) (fun _ => leo_refl))
theorem nat_Compare.mono (k : Nat) (x0 : List Int) (x1 : List Int) : LeO (nat_Compare.f k x0 x1) (nat_Compare.f (k + 1) x0 x1) := leo_bind leo_refl (fun _ => leo_ite (leo_bind leo_refl (fun _ => (nat_Compare.monos k) _ _ _)) ((nat_Compare.monos k) _ _ _))
noncomputable def b53 : Code := bodyOf Tryd.f53
def F53 : Fr := ⟨0, 16, 1, [], 53⟩
def nat_Compare.j0S (x0 : List Int) (x1 : List Int) (x12 : Bool) : St := ⟨upd (upd (upd (fun _ => .no) 12 (.one (.p none (pB x12)))) 1 (.one (.p none (.sl 1 (x1.map e78))))) 0 (.one (.p none (.sl 1 (x0.map e78)))), noOb, rtP 4, 4⟩
theorem nat_Compare.all : ∀ k, (∀ x0 x1 x12 r, nat_Compare.j0 k x0 x1 x12 = some r → AtJ C1 F53 (sub [1, 0, 1] b53) [.code (sub [1, 1] b53)] (some (nat_Compare.j0S x0 x1 x12)) (RetQ C1 [.tmp 4] [aV [pI .i64 r]]))
  | 0 => fun _ _ _ r h => (by cases h)
  | k + 1 => by
    have Ij0 := nat_Compare.all k
    · intro x0 x1 x12 r h
      rw [nat_Compare.j0] at h
      rw [atJ_some]
      by_cases h4 : x12 = true
      · rw [if_pos h4] at h
        obtain rfl := Option.some.inj h
        simp only [↓Bp, ↓Bs, Bo, Bh, Ba, Bc, ↓reduceIte, Nat.reduceAdd, Nat.reduceEqDiff, Nat.reduceLT, Nat.reduceLeDiff, Nat.reduceBEq, Nat.reduceMul, Int.reduceLE, Int.reduceLT, Int.reduceEq, Int.reduceToNat, Int.cast_ofNat_Int, reduceCtorEq, G53, Tf, b53, ↓Tryd.f53, F53, TY, H53, h4, nat_Compare.j0S]
      · rw [if_neg h4] at h
        obtain ⟨t5, h5, h⟩ := bnd h
        have h5c := ((nat_order.ok _ _ _ _ h5))
        try simp only [Tf, List.nil_append, List.cons_append, Int.reduceToNat, h4] at h5c
        obtain rfl := Option.some.inj h
        simp only [↓Bp, ↓Bs, Bo, Bh, Ba, Bc, ↓reduceIte, Nat.reduceAdd, Nat.reduceEqDiff, Nat.reduceLT, Nat.reduceLeDiff, Nat.reduceBEq, Nat.reduceMul, Int.reduceLE, Int.reduceLT, Int.reduceEq, Int.reduceToNat, Int.cast_ofNat_Int, reduceCtorEq, G53, Tf, b53, ↓Tryd.f53, F53, TY, H53, h4, callP_eq h5c, nat_Compare.j0S]
theorem nat_Compare.ok (k : Nat) (x0 : List Int) (x1 : List Int) (r : Int) (h : nat_Compare.f k x0 x1 = some r) : Ret C1 53 [(false, [.sl 1 (x0.map e78)]), (false, [.sl 1 (x1.map e78)])] [aV [pI .i64 r]] := by
  refine ret_of (c := b53) Tryd.func53 rfl rfl ⟨Nat.le_of_ble_eq_true rfl, Nat.le_of_ble_eq_true rfl⟩ ?_
  unfold nat_Compare.f at h
  rw [show Tryd.f53.results.toList = [.tmp 4] from rfl]
  rw [show Tryd.f53.ntmps = 16 from rfl]
  have Ij0 := nat_Compare.all k
  obtain ⟨t1, h1, h⟩ := bnd h
  have h1c := ((nat_Right.ok _ _ h1))
  try simp only [Tf, List.nil_append, List.cons_append, Int.reduceToNat] at h1c
  by_cases h2 : t1 = true
  · rw [if_pos h2] at h
    try simp only [h2] at h1c
    obtain ⟨t3, h3, h⟩ := bnd h
    have h3c := ((nat_Right.ok _ _ h3))
    try simp only [Tf, List.nil_append, List.cons_append, Int.reduceToNat, h2] at h3c
    simp only [↓Bp, ↓Bs, Bo, Bh, Ba, Bc, ↓reduceIte, Nat.reduceAdd, Nat.reduceEqDiff, Nat.reduceLT, Nat.reduceLeDiff, Nat.reduceBEq, Nat.reduceMul, Int.reduceLE, Int.reduceLT, Int.reduceEq, Int.reduceToNat, Int.cast_ofNat_Int, reduceCtorEq, G53, Tf, b53, ↓Tryd.f53, F53, TY, H53, callP_eq h1c, h2, callP_eq h3c]
    refine AtJ.eq (Ij0 _ _ _ _ h) ?_
    simp only [Tf, Int.reduceToNat, Int.toNat_natCast, nat_Compare.j0S, h2]
  · rw [if_neg h2] at h
    try simp only [h2] at h1c
    simp only [↓Bp, ↓Bs, Bo, Bh, Ba, Bc, ↓reduceIte, Nat.reduceAdd, Nat.reduceEqDiff, Nat.reduceLT, Nat.reduceLeDiff, Nat.reduceBEq, Nat.reduceMul, Int.reduceLE, Int.reduceLT, Int.reduceEq, Int.reduceToNat, Int.cast_ofNat_Int, reduceCtorEq, G53, Tf, b53, ↓Tryd.f53, F53, TY, H53, callP_eq h1c, h2]
    refine AtJ.eq (Ij0 _ _ _ _ h) ?_
    simp only [Tf, Int.reduceToNat, Int.toNat_natCast, nat_Compare.j0S, h2]
def ratio_Right.j0 : Nat → Bool → S31 → Option Bool
  | 0, _, _ => none
  | k + 1, x42, y1 => (if x42 = true then (some false) else ((nat_Gcd.f k y1.f1 y1.f2).bind fun t10 => ((ratio_one.f k).bind fun t11 => ((nat_Compare.f k t10.1 t11).bind fun t12 => (some (decide (t12 = 0)))))))
def ratio_Right.f (k : Nat) (x0 : S31) : Option Bool := ((nat_Right.f x0.f1).bind fun t1 => (if t1 = true then ((nat_Right.f x0.f2).bind fun t3 => (if t3 = true then (if 64 < (x0.f1.length : Int) then (ratio_Right.j0 k true x0) else (if 64 < (x0.f2.length : Int) then (ratio_Right.j0 k true x0) else (if (x0.f2.length : Int) = 0 then (ratio_Right.j0 k true x0) else (if x0.f0 = true then (ratio_Right.j0 k (decide ((x0.f1.length : Int) = 0)) x0) else (ratio_Right.j0 k false x0))))) else (ratio_Right.j0 k true x0))) else (ratio_Right.j0 k true x0)))
theorem ratio_Right.monos : ∀ k, (∀ x42 y1, LeO (ratio_Right.j0 k x42 y1) (ratio_Right.j0 (k + 1) x42 y1))
  | 0 => fun _ _ => leo_none
  | k + 1 => by
    have I := ratio_Right.monos k
    · intro x42 y1
      rw [ratio_Right.j0, ratio_Right.j0]
      exact leo_ite (leo_refl) (leo_bind (nat_Gcd.mono k _ _) (fun _ => leo_bind (ratio_one.mono k) (fun _ => leo_bind (nat_Compare.mono k _ _) (fun _ => leo_refl))))
theorem ratio_Right.mono (k : Nat) (x0 : S31) : LeO (ratio_Right.f k x0) (ratio_Right.f (k + 1) x0) := leo_bind leo_refl (fun _ => leo_ite (leo_bind leo_refl (fun _ => leo_ite (leo_ite ((ratio_Right.monos k) _ _) (leo_ite ((ratio_Right.monos k) _ _) (leo_ite ((ratio_Right.monos k) _ _) (leo_ite ((ratio_Right.monos k) _ _) ((ratio_Right.monos k) _ _))))) ((ratio_Right.monos k) _ _))) ((ratio_Right.monos k) _ _))
noncomputable def b32 : Code := bodyOf Tryd.f32
def F32 : Fr := ⟨0, 55, 1, [], 32⟩
def ratio_Right.j0S (x42 : Bool) (y1 : S31) : St := ⟨upd (upd (fun _ => .no) 42 (.one (.p none (pB x42)))) 1 (.one (.pt 1 0)), upd noOb 1 (some (.var [.p none (pB y1.f0), .p none (.sl 1 (y1.f1.map e78)), .p none (.sl 1 (y1.f2.map e78))])), rtP 6, 6⟩
theorem ratio_Right.all : ∀ k, (∀ x42 y1 r, ratio_Right.j0 k x42 y1 = some r → AtJ C1 F32 (sub [1, 0, 1] b32) [.code (sub [1, 1] b32)] (some (ratio_Right.j0S x42 y1)) (RetQ C1 [.tmp 2] [aV [pB r]]))
  | 0 => fun _ _ r h => (by cases h)
  | k + 1 => by
    have Ij0 := ratio_Right.all k
    · intro x42 y1 r h
      rw [ratio_Right.j0] at h
      rw [atJ_some]
      by_cases h9 : x42 = true
      · rw [if_pos h9] at h
        obtain rfl := Option.some.inj h
        simp only [↓Bp, ↓Bs, Bo, Bh, Ba, Bc, ↓reduceIte, Nat.reduceAdd, Nat.reduceEqDiff, Nat.reduceLT, Nat.reduceLeDiff, Nat.reduceBEq, Nat.reduceMul, Int.reduceLE, Int.reduceLT, Int.reduceEq, Int.reduceToNat, Int.cast_ofNat_Int, reduceCtorEq, G32, Tf, b32, ↓Tryd.f32, F32, TY, H32, h9, ratio_Right.j0S]
      · rw [if_neg h9] at h
        obtain ⟨t10, h10, h⟩ := bnd h
        have h10c := ((nat_Gcd.ok _ _ _ _ h10))
        try simp only [Tf, List.nil_append, List.cons_append, Int.reduceToNat, h9] at h10c
        obtain ⟨t11, h11, h⟩ := bnd h
        have h11c := ((ratio_one.ok _  _ h11))
        try simp only [Tf, List.nil_append, List.cons_append, Int.reduceToNat, h9] at h11c
        obtain ⟨t12, h12, h⟩ := bnd h
        have h12c := ((nat_Compare.ok _ _ _ _ h12))
        try simp only [Tf, List.nil_append, List.cons_append, Int.reduceToNat, h9] at h12c
        obtain rfl := Option.some.inj h
        simp only [↓Bp, ↓Bs, Bo, Bh, Ba, Bc, ↓reduceIte, Nat.reduceAdd, Nat.reduceEqDiff, Nat.reduceLT, Nat.reduceLeDiff, Nat.reduceBEq, Nat.reduceMul, Int.reduceLE, Int.reduceLT, Int.reduceEq, Int.reduceToNat, Int.cast_ofNat_Int, reduceCtorEq, G32, Tf, b32, ↓Tryd.f32, F32, TY, H32, h9, callP_eq h10c, callP_eq h11c, callP_eq h12c, ratio_Right.j0S]
theorem ratio_Right.ok (k : Nat) (x0 : S31) (r : Bool) (h : ratio_Right.f k x0 = some r) : Ret C1 32 [(true, [.sc (.bool x0.f0), .sl 1 (x0.f1.map e78), .sl 1 (x0.f2.map e78)])] [aV [pB r]] := by
  refine ret_of (c := b32) Tryd.func32 rfl rfl ⟨Nat.le_of_ble_eq_true rfl, Nat.le_of_ble_eq_true rfl⟩ ?_
  unfold ratio_Right.f at h
  rw [show Tryd.f32.results.toList = [.tmp 2] from rfl]
  rw [show Tryd.f32.ntmps = 55 from rfl]
  have Ij0 := ratio_Right.all k
  obtain ⟨t1, h1, h⟩ := bnd h
  have h1c := ((nat_Right.ok _ _ h1))
  try simp only [Tf, List.nil_append, List.cons_append, Int.reduceToNat] at h1c
  by_cases h2 : t1 = true
  · rw [if_pos h2] at h
    try simp only [h2] at h1c
    obtain ⟨t3, h3, h⟩ := bnd h
    have h3c := ((nat_Right.ok _ _ h3))
    try simp only [Tf, List.nil_append, List.cons_append, Int.reduceToNat, h2] at h3c
    by_cases h4 : t3 = true
    · rw [if_pos h4] at h
      try simp only [h4] at h1c
      try simp only [h4] at h3c
      by_cases h5 : 64 < (x0.f1.length : Int)
      · rw [if_pos h5] at h
        simp only [↓Bp, ↓Bs, Bo, Bh, Ba, Bc, ↓reduceIte, Nat.reduceAdd, Nat.reduceEqDiff, Nat.reduceLT, Nat.reduceLeDiff, Nat.reduceBEq, Nat.reduceMul, Int.reduceLE, Int.reduceLT, Int.reduceEq, Int.reduceToNat, Int.cast_ofNat_Int, reduceCtorEq, G32, Tf, b32, ↓Tryd.f32, F32, TY, H32, callP_eq h1c, h2, callP_eq h3c, h4, h5]
        refine AtJ.eq (Ij0 _ _ _ h) ?_
        simp only [Tf, Int.reduceToNat, Int.toNat_natCast, ratio_Right.j0S, h2, h4]
      · rw [if_neg h5] at h
        by_cases h6 : 64 < (x0.f2.length : Int)
        · rw [if_pos h6] at h
          simp only [↓Bp, ↓Bs, Bo, Bh, Ba, Bc, ↓reduceIte, Nat.reduceAdd, Nat.reduceEqDiff, Nat.reduceLT, Nat.reduceLeDiff, Nat.reduceBEq, Nat.reduceMul, Int.reduceLE, Int.reduceLT, Int.reduceEq, Int.reduceToNat, Int.cast_ofNat_Int, reduceCtorEq, G32, Tf, b32, ↓Tryd.f32, F32, TY, H32, callP_eq h1c, h2, callP_eq h3c, h4, h5, h6]
          refine AtJ.eq (Ij0 _ _ _ h) ?_
          simp only [Tf, Int.reduceToNat, Int.toNat_natCast, ratio_Right.j0S, h2, h4]
        · rw [if_neg h6] at h
          by_cases h7 : (x0.f2.length : Int) = 0
          · rw [if_pos h7] at h
            simp only [↓Bp, ↓Bs, Bo, Bh, Ba, Bc, ↓reduceIte, Nat.reduceAdd, Nat.reduceEqDiff, Nat.reduceLT, Nat.reduceLeDiff, Nat.reduceBEq, Nat.reduceMul, Int.reduceLE, Int.reduceLT, Int.reduceEq, Int.reduceToNat, Int.cast_ofNat_Int, reduceCtorEq, G32, Tf, b32, ↓Tryd.f32, F32, TY, H32, callP_eq h1c, h2, callP_eq h3c, h4, h5, h6, eq_true h7]
            refine AtJ.eq (Ij0 _ _ _ h) ?_
            simp only [Tf, Int.reduceToNat, Int.toNat_natCast, ratio_Right.j0S, h2, h4]
          · rw [if_neg h7] at h
            by_cases h8 : x0.f0 = true
            · rw [if_pos h8] at h
              try simp only [h8] at h1c
              try simp only [h8] at h3c
              simp only [↓Bp, ↓Bs, Bo, Bh, Ba, Bc, ↓reduceIte, Nat.reduceAdd, Nat.reduceEqDiff, Nat.reduceLT, Nat.reduceLeDiff, Nat.reduceBEq, Nat.reduceMul, Int.reduceLE, Int.reduceLT, Int.reduceEq, Int.reduceToNat, Int.cast_ofNat_Int, reduceCtorEq, G32, Tf, b32, ↓Tryd.f32, F32, TY, H32, callP_eq h1c, h2, callP_eq h3c, h4, h5, h6, h7, h8]
              refine AtJ.eq (Ij0 _ _ _ h) ?_
              simp only [Tf, Int.reduceToNat, Int.toNat_natCast, ratio_Right.j0S, h2, h4, h8]
            · rw [if_neg h8] at h
              try simp only [h8] at h1c
              try simp only [h8] at h3c
              simp only [↓Bp, ↓Bs, Bo, Bh, Ba, Bc, ↓reduceIte, Nat.reduceAdd, Nat.reduceEqDiff, Nat.reduceLT, Nat.reduceLeDiff, Nat.reduceBEq, Nat.reduceMul, Int.reduceLE, Int.reduceLT, Int.reduceEq, Int.reduceToNat, Int.cast_ofNat_Int, reduceCtorEq, G32, Tf, b32, ↓Tryd.f32, F32, TY, H32, callP_eq h1c, h2, callP_eq h3c, h4, h5, h6, h7, h8]
              refine AtJ.eq (Ij0 _ _ _ h) ?_
              simp only [Tf, Int.reduceToNat, Int.toNat_natCast, ratio_Right.j0S, h2, h4, h8]
    · rw [if_neg h4] at h
      try simp only [h4] at h1c
      try simp only [h4] at h3c
      simp only [↓Bp, ↓Bs, Bo, Bh, Ba, Bc, ↓reduceIte, Nat.reduceAdd, Nat.reduceEqDiff, Nat.reduceLT, Nat.reduceLeDiff, Nat.reduceBEq, Nat.reduceMul, Int.reduceLE, Int.reduceLT, Int.reduceEq, Int.reduceToNat, Int.cast_ofNat_Int, reduceCtorEq, G32, Tf, b32, ↓Tryd.f32, F32, TY, H32, callP_eq h1c, h2, callP_eq h3c, h4]
      refine AtJ.eq (Ij0 _ _ _ h) ?_
      simp only [Tf, Int.reduceToNat, Int.toNat_natCast, ratio_Right.j0S, h2, h4]
  · rw [if_neg h2] at h
    try simp only [h2] at h1c
    simp only [↓Bp, ↓Bs, Bo, Bh, Ba, Bc, ↓reduceIte, Nat.reduceAdd, Nat.reduceEqDiff, Nat.reduceLT, Nat.reduceLeDiff, Nat.reduceBEq, Nat.reduceMul, Int.reduceLE, Int.reduceLT, Int.reduceEq, Int.reduceToNat, Int.cast_ofNat_Int, reduceCtorEq, G32, Tf, b32, ↓Tryd.f32, F32, TY, H32, callP_eq h1c, h2]
    refine AtJ.eq (Ij0 _ _ _ h) ?_
    simp only [Tf, Int.reduceToNat, Int.toNat_natCast, ratio_Right.j0S, h2]
def ratio_numerator.f (x0 : S31) : Option S62 := (some (⟨x0.f0, x0.f1⟩ : S62))
noncomputable def b33 : Code := bodyOf Tryd.f33
def F33 : Fr := ⟨0, 8, 1, [], 33⟩
theorem ratio_numerator.ok (x0 : S31) (r : S62) (h : ratio_numerator.f x0 = some r) : Ret C1 33 [(true, [.sc (.bool x0.f0), .sl 1 (x0.f1.map e78), .sl 1 (x0.f2.map e78)])] [aA [pB r.f0, .sl 1 (r.f1.map e78)]] := by
  refine ret_of (c := b33) Tryd.func33 rfl rfl ⟨Nat.le_of_ble_eq_true rfl, Nat.le_of_ble_eq_true rfl⟩ ?_
  unfold ratio_numerator.f at h
  rw [show Tryd.f33.results.toList = [.cell 2 62] from rfl]
  rw [show Tryd.f33.ntmps = 8 from rfl]
  obtain rfl := Option.some.inj h
  simp only [↓Bp, ↓Bs, Bo, Bh, Ba, Bc, ↓reduceIte, Nat.reduceAdd, Nat.reduceEqDiff, Nat.reduceLT, Nat.reduceLeDiff, Nat.reduceBEq, Nat.reduceMul, Int.reduceLE, Int.reduceLT, Int.reduceEq, Int.reduceToNat, Int.cast_ofNat_Int, reduceCtorEq, G33, Tf, b33, ↓Tryd.f33, F33, TY, H33]
def nat_fit.f (x0 : List Int) : Option ((List Int) × Int) := ((nat_Right.f x0).bind fun t1 => (if t1 = true then (some (x0, 0)) else (some (([] : List Int), 4))))
noncomputable def b65 : Code := bodyOf Tryd.f65
def F65 : Fr := ⟨0, 8, 1, [], 65⟩
theorem nat_fit.ok (x0 : List Int) (r : (List Int) × Int) (h : nat_fit.f x0 = some r) : Ret C1 65 [(false, [.sl 1 (x0.map e78)])] [aV [.sl 1 (r.1.map e78)], aV [pI .i64 r.2]] := by
  refine ret_of (c := b65) Tryd.func65 rfl rfl ⟨Nat.le_of_ble_eq_true rfl, Nat.le_of_ble_eq_true rfl⟩ ?_
  unfold nat_fit.f at h
  rw [show Tryd.f65.results.toList = [.tmp 2, .tmp 3] from rfl]
  rw [show Tryd.f65.ntmps = 8 from rfl]
  obtain ⟨t1, h1, h⟩ := bnd h
  have h1c := ((nat_Right.ok _ _ h1))
  try simp only [Tf, List.nil_append, List.cons_append, Int.reduceToNat] at h1c
  by_cases h2 : t1 = true
  · rw [if_pos h2] at h
    try simp only [h2] at h1c
    obtain rfl := Option.some.inj h
    simp only [↓Bp, ↓Bs, Bo, Bh, Ba, Bc, ↓reduceIte, Nat.reduceAdd, Nat.reduceEqDiff, Nat.reduceLT, Nat.reduceLeDiff, Nat.reduceBEq, Nat.reduceMul, Int.reduceLE, Int.reduceLT, Int.reduceEq, Int.reduceToNat, Int.cast_ofNat_Int, reduceCtorEq, G65, Tf, b65, ↓Tryd.f65, F65, TY, H65, callP_eq h1c, h2]
  · rw [if_neg h2] at h
    try simp only [h2] at h1c
    obtain rfl := Option.some.inj h
    simp only [↓Bp, ↓Bs, Bo, Bh, Ba, Bc, ↓reduceIte, Nat.reduceAdd, Nat.reduceEqDiff, Nat.reduceLT, Nat.reduceLeDiff, Nat.reduceBEq, Nat.reduceMul, Int.reduceLE, Int.reduceLT, Int.reduceEq, Int.reduceToNat, Int.cast_ofNat_Int, reduceCtorEq, G65, Tf, b65, ↓Tryd.f65, F65, TY, H65, callP_eq h1c, h2]
mutual
def nat_Mul.j0 : Nat → List Int → List Int → Bool → Option ((List Int) × Int)
  | 0, _, _, _ => none
  | k + 1, x0, x1, x19 => (if x19 = true then (some (([] : List Int), 1)) else (if 0 ≤ (wrap64 ((x0.length : Int) + (x1.length : Int))) then (if (wrap64 ((x0.length : Int) + (x1.length : Int))) ≤ 16777216 then (nat_Mul.l0 k x1 x0 (x0.length : Int) 0 (List.replicate (((wrap64 ((x0.length : Int) + (x1.length : Int))) : Int).toNat) 0)) else none) else none))
def nat_Mul.l0 : Nat → List Int → List Int → Int → Int → List Int → Option ((List Int) × Int)
  | 0, _, _, _, _, _ => none
  | k + 1, x1, x26, x27, x28, y25 => (if x28 < x27 then (if 0 ≤ x28 then (if x28 < (x26.length : Int) then (nat_Mul.l1 k x1 x28 (x26.getD ((x28 : Int).toNat) 0) 0 x26 x27 x28 x1 (x1.length : Int) 0 y25) else none) else none) else ((nat_trim.f k y25).bind fun t10 => ((nat_fit.f t10).bind fun t11 => (some (t11.1, t11.2)))))
def nat_Mul.l1 : Nat → List Int → Int → Int → Int → List Int → Int → Int → List Int → Int → Int → List Int → Option ((List Int) × Int)
  | 0, _, _, _, _, _, _, _, _, _, _, _ => none
  | k + 1, x1, x7, x8, x9, x26, x27, x28, x33, x34, x35, y25 => (if x35 < x34 then (if 0 ≤ x35 then (if x35 < (x33.length : Int) then (if 0 ≤ (wrap64 (x7 + x35)) then (if (wrap64 (x7 + x35)) < (y25.length : Int) then (if (wrap64 (x7 + x35)) < (y25.length : Int) then (nat_Mul.l1 k x1 x7 x8 (Int.fdiv (IntKind.u64.wrap (x9 + (IntKind.u64.wrap ((IntKind.u64.wrap ((IntKind.u64.wrap (x8)) * (IntKind.u64.wrap ((x33.getD ((x35 : Int).toNat) 0))))) + (IntKind.u64.wrap ((y25.getD (((wrap64 (x7 + x35)) : Int).toNat) 0))))))) (2 ^ min (32 : Int).toNat (IntKind.bits .u64))) x26 x27 x28 x33 x34 (wrap64 (x35 + 1)) (y25.set (((wrap64 (x7 + x35)) : Int).toNat) (IntKind.u32.wrap ((IntKind.u64.wrap (x9 + (IntKind.u64.wrap ((IntKind.u64.wrap ((IntKind.u64.wrap (x8)) * (IntKind.u64.wrap ((x33.getD ((x35 : Int).toNat) 0))))) + (IntKind.u64.wrap ((y25.getD (((wrap64 (x7 + x35)) : Int).toNat) 0))))))))))) else none) else none) else none) else none) else none) else (if 0 ≤ (wrap64 (x7 + (x1.length : Int))) then (if (wrap64 (x7 + (x1.length : Int))) < (y25.length : Int) then (nat_Mul.l0 k x1 x26 x27 (wrap64 (x28 + 1)) (y25.set (((wrap64 (x7 + (x1.length : Int))) : Int).toNat) (IntKind.u32.wrap (x9)))) else none) else none))
end
def nat_Mul.f (k : Nat) (x0 : List Int) (x1 : List Int) : Option ((List Int) × Int) := ((nat_Right.f x0).bind fun t1 => (if t1 = true then ((nat_Right.f x1).bind fun t3 => (nat_Mul.j0 k x0 x1 (!t3))) else (nat_Mul.j0 k x0 x1 true)))
theorem nat_Mul.monos : ∀ k, (∀ x0 x1 x19, LeO (nat_Mul.j0 k x0 x1 x19) (nat_Mul.j0 (k + 1) x0 x1 x19)) ∧ (∀ x1 x26 x27 x28 y25, LeO (nat_Mul.l0 k x1 x26 x27 x28 y25) (nat_Mul.l0 (k + 1) x1 x26 x27 x28 y25)) ∧ (∀ x1 x7 x8 x9 x26 x27 x28 x33 x34 x35 y25, LeO (nat_Mul.l1 k x1 x7 x8 x9 x26 x27 x28 x33 x34 x35 y25) (nat_Mul.l1 (k + 1) x1 x7 x8 x9 x26 x27 x28 x33 x34 x35 y25))
  | 0 => ⟨fun _ _ _ => leo_none, fun _ _ _ _ _ => leo_none, fun _ _ _ _ _ _ _ _ _ _ _ => leo_none⟩
  | k + 1 => by
    obtain ⟨Ij0, Il0, Il1⟩ := nat_Mul.monos k
    refine ⟨?_, ?_, ?_⟩
    · intro x0 x1 x19
      rw [nat_Mul.j0, nat_Mul.j0]
      exact leo_ite (leo_refl) (leo_if (leo_if (Il0 _ _ _ _ _)))
    · intro x1 x26 x27 x28 y25
      rw [nat_Mul.l0, nat_Mul.l0]
      exact leo_ite (leo_if (leo_if (Il1 _ _ _ _ _ _ _ _ _ _ _))) (leo_bind (nat_trim.mono k _) (fun _ => leo_bind leo_refl (fun _ => leo_refl)))
    · intro x1 x7 x8 x9 x26 x27 x28 x33 x34 x35 y25
      rw [nat_Mul.l1, nat_Mul.l1]
      exact leo_ite (leo_if (leo_if (leo_if (leo_if (leo_if (Il1 _ _ _ _ _ _ _ _ _ _ _)))))) (leo_if (leo_if (Il0 _ _ _ _ _)))
theorem nat_Mul.mono (k : Nat) (x0 : List Int) (x1 : List Int) : LeO (nat_Mul.f k x0 x1) (nat_Mul.f (k + 1) x0 x1) := leo_bind leo_refl (fun _ => leo_ite (leo_bind leo_refl (fun _ => (nat_Mul.monos k).1 _ _ _)) ((nat_Mul.monos k).1 _ _ _))
noncomputable def b55 : Code := bodyOf Tryd.f55
def F55 : Fr := ⟨0, 79, 1, [], 55⟩
def nat_Mul.j0S (x0 : List Int) (x1 : List Int) (x19 : Bool) : St := ⟨upd (upd (upd (fun _ => .no) 19 (.one (.p none (pB x19)))) 1 (.one (.p none (.sl 1 (x1.map e78))))) 0 (.one (.p none (.sl 1 (x0.map e78)))), noOb, rtP 4, 4⟩
def nat_Mul.l0S (x1 : List Int) (x26 : List Int) (x27 : Int) (x28 : Int) (y25 : List Int) : St := ⟨upd (upd (upd (upd (upd (fun _ => .no) 28 (.one (.p none (pI .i64 x28)))) 27 (.one (.p none (pI .i64 x27)))) 26 (.one (.p none (.sl 1 (x26.map e78))))) 6 (.one (.vw 25 0 y25.length))) 1 (.one (.p none (.sl 1 (x1.map e78)))), upd noOb 25 (some (.arr false 1 (y25.map e78))), rtP 6, 6⟩
def nat_Mul.l1S (x1 : List Int) (x7 : Int) (x8 : Int) (x9 : Int) (x26 : List Int) (x27 : Int) (x28 : Int) (x33 : List Int) (x34 : Int) (x35 : Int) (y25 : List Int) : St := ⟨upd (upd (upd (upd (upd (upd (upd (upd (upd (upd (upd (fun _ => .no) 35 (.one (.p none (pI .i64 x35)))) 34 (.one (.p none (pI .i64 x34)))) 33 (.one (.p none (.sl 1 (x33.map e78))))) 28 (.one (.p none (pI .i64 x28)))) 27 (.one (.p none (pI .i64 x27)))) 26 (.one (.p none (.sl 1 (x26.map e78))))) 9 (.one (.p none (pI .u64 x9)))) 8 (.one (.p none (pI .u32 x8)))) 7 (.one (.p none (pI .i64 x7)))) 6 (.one (.vw 25 0 y25.length))) 1 (.one (.p none (.sl 1 (x1.map e78)))), upd noOb 25 (some (.arr false 1 (y25.map e78))), rtP 12, 12⟩
theorem nat_Mul.all : ∀ k, (∀ x0 x1 x19 r, nat_Mul.j0 k x0 x1 x19 = some r → AtJ C1 F55 (sub [1, 0, 1] b55) [.code (sub [1, 1] b55)] (some (nat_Mul.j0S x0 x1 x19)) (RetQ C1 [.tmp 4, .tmp 5] [aV [.sl 1 (r.1.map e78)], aV [pI .i64 r.2]])) ∧ (∀ x1 x26 x27 x28 y25 r, nat_Mul.l0 k x1 x26 x27 x28 y25 = some r → AtL C1 F55 (sub [1, 1, 1, 0, 1, 0, 0] b55) [.blk 0, .code (sub [1, 1, 1, 1] b55)] (some (nat_Mul.l0S x1 x26 x27 x28 y25)) (RetQ C1 [.tmp 4, .tmp 5] [aV [.sl 1 (r.1.map e78)], aV [pI .i64 r.2]])) ∧ (∀ x1 x7 x8 x9 x26 x27 x28 x33 x34 x35 y25 r, nat_Mul.l1 k x1 x7 x8 x9 x26 x27 x28 x33 x34 x35 y25 = some r → AtL C1 F55 (sub [1, 1, 1, 0, 1, 0, 0, 1, 1, 0, 0, 1, 1, 0, 1, 0, 0] b55) [.blk 2, .code (sub [1, 1, 1, 0, 1, 0, 0, 1, 1, 0, 0, 1, 1, 1] b55), .blk 1, .code (sub [1, 1, 1, 0, 1, 0, 0, 1, 1, 1] b55), .lp (sub [1, 1, 1, 0, 1, 0, 0] b55), .blk 0, .code (sub [1, 1, 1, 1] b55)] (some (nat_Mul.l1S x1 x7 x8 x9 x26 x27 x28 x33 x34 x35 y25)) (RetQ C1 [.tmp 4, .tmp 5] [aV [.sl 1 (r.1.map e78)], aV [pI .i64 r.2]]))
  | 0 => ⟨fun _ _ _ r h => (by cases h), fun _ _ _ _ _ r h => (by cases h), fun _ _ _ _ _ _ _ _ _ _ _ r h => (by cases h)⟩
  | k + 1 => by
    obtain ⟨Ij0, Il0, Il1⟩ := nat_Mul.all k
    refine ⟨?_, ?_, ?_⟩
    · intro x0 x1 x19 r h
      rw [nat_Mul.j0] at h
      rw [atJ_some]
      by_cases h4 : x19 = true
      · rw [if_pos h4] at h
        obtain rfl := Option.some.inj h
        simp only [↓Bp, ↓Bs, Bo, Bh, Ba, Bc, ↓reduceIte, Nat.reduceAdd, Nat.reduceEqDiff, Nat.reduceLT, Nat.reduceLeDiff, Nat.reduceBEq, Nat.reduceMul, Int.reduceLE, Int.reduceLT, Int.reduceEq, Int.reduceToNat, Int.cast_ofNat_Int, reduceCtorEq, G55, Tf, b55, ↓Tryd.f55, F55, TY, H55, h4, nat_Mul.j0S]
      · rw [if_neg h4] at h
        obtain ⟨h5, h⟩ := ifn h
        obtain ⟨h6, h⟩ := ifn h
        simp only [↓Bp, ↓Bs, Bo, Bh, Ba, Bc, ↓reduceIte, Nat.reduceAdd, Nat.reduceEqDiff, Nat.reduceLT, Nat.reduceLeDiff, Nat.reduceBEq, Nat.reduceMul, Int.reduceLE, Int.reduceLT, Int.reduceEq, Int.reduceToNat, Int.cast_ofNat_Int, reduceCtorEq, G55, Tf, b55, ↓Tryd.f55, F55, TY, H55, h4, h5, h6, nat_Mul.j0S]
        refine AtL.eq (Il0 _ _ _ _ _ _ h) ?_
        simp only [Tf, Int.reduceToNat, Int.toNat_natCast, nat_Mul.l0S, h4]
    · intro x1 x26 x27 x28 y25 r h
      rw [nat_Mul.l0] at h
      rw [atL_some]
      by_cases h7 : x28 < x27
      · rw [if_pos h7] at h
        obtain ⟨h8, h⟩ := ifn h
        obtain ⟨h9, h⟩ := ifn h
        have h9r := fun (q : 0 ≤ x28) => rd_at (l := x26) (i := x28) 0 q h9
        replace h9r := h9r (by omega)
        simp only [↓Bp, ↓Bs, Bo, Bh, Ba, Bc, ↓reduceIte, Nat.reduceAdd, Nat.reduceEqDiff, Nat.reduceLT, Nat.reduceLeDiff, Nat.reduceBEq, Nat.reduceMul, Int.reduceLE, Int.reduceLT, Int.reduceEq, Int.reduceToNat, Int.cast_ofNat_Int, reduceCtorEq, G55, Tf, b55, ↓Tryd.f55, F55, TY, H55, h7, h8, h9, h9r, nat_Mul.l0S]
        refine AtL.eq (Il1 _ _ _ _ _ _ _ _ _ _ _ _ h) ?_
        simp only [Tf, Int.reduceToNat, Int.toNat_natCast, nat_Mul.l1S]
      · rw [if_neg h7] at h
        obtain ⟨t10, h10, h⟩ := bnd h
        have h10c := ((nat_trim.ok _ _ _ h10))
        try simp only [Tf, List.nil_append, List.cons_append, Int.reduceToNat] at h10c
        obtain ⟨t11, h11, h⟩ := bnd h
        have h11c := ((nat_fit.ok _ _ h11))
        try simp only [Tf, List.nil_append, List.cons_append, Int.reduceToNat] at h11c
        obtain rfl := Option.some.inj h
        simp only [↓Bp, ↓Bs, Bo, Bh, Ba, Bc, ↓reduceIte, Nat.reduceAdd, Nat.reduceEqDiff, Nat.reduceLT, Nat.reduceLeDiff, Nat.reduceBEq, Nat.reduceMul, Int.reduceLE, Int.reduceLT, Int.reduceEq, Int.reduceToNat, Int.cast_ofNat_Int, reduceCtorEq, G55, Tf, b55, ↓Tryd.f55, F55, TY, H55, h7, callP_eq h10c, callP_eq h11c, nat_Mul.l0S]
    · intro x1 x7 x8 x9 x26 x27 x28 x33 x34 x35 y25 r h
      rw [nat_Mul.l1] at h
      rw [atL_some]
      by_cases h12 : x35 < x34
      · rw [if_pos h12] at h
        obtain ⟨h13, h⟩ := ifn h
        obtain ⟨h14, h⟩ := ifn h
        have h14r := fun (q : 0 ≤ x35) => rd_at (l := x33) (i := x35) 0 q h14
        replace h14r := h14r (by omega)
        obtain ⟨h15, h⟩ := ifn h
        obtain ⟨h16, h⟩ := ifn h
        have h16t := nat_lt (i := (wrap64 (x7 + x35))) (by omega) h16
        have h16g := get_of (l := y25) 0 h16t
        try simp only [List.length_set, List.length_replicate, List.length_map, Int.reduceToNat] at h16t
        obtain ⟨h17, h⟩ := ifn h
        have h17t := nat_lt (i := (wrap64 (x7 + x35))) (by omega) h17
        have h17g := get_of (l := y25) 0 h17t
        try simp only [List.length_set, List.length_replicate, List.length_map, Int.reduceToNat] at h17t
        simp only [↓Bp, ↓Bs, Bo, Bh, Ba, Bc, ↓reduceIte, Nat.reduceAdd, Nat.reduceEqDiff, Nat.reduceLT, Nat.reduceLeDiff, Nat.reduceBEq, Nat.reduceMul, Int.reduceLE, Int.reduceLT, Int.reduceEq, Int.reduceToNat, Int.cast_ofNat_Int, reduceCtorEq, G55, Tf, b55, ↓Tryd.f55, F55, TY, H55, h12, h13, h14, h14r, h15, h16, h16t, h16g, h17, h17t, h17g, nat_Mul.l1S]
        refine AtL.eq (Il1 _ _ _ _ _ _ _ _ _ _ _ _ h) ?_
        simp only [Tf, Int.reduceToNat, Int.toNat_natCast, nat_Mul.l1S]
      · rw [if_neg h12] at h
        obtain ⟨h18, h⟩ := ifn h
        obtain ⟨h19, h⟩ := ifn h
        have h19t := nat_lt (i := (wrap64 (x7 + (x1.length : Int)))) (by omega) h19
        have h19g := get_of (l := y25) 0 h19t
        try simp only [List.length_set, List.length_replicate, List.length_map, Int.reduceToNat] at h19t
        simp only [↓Bp, ↓Bs, Bo, Bh, Ba, Bc, ↓reduceIte, Nat.reduceAdd, Nat.reduceEqDiff, Nat.reduceLT, Nat.reduceLeDiff, Nat.reduceBEq, Nat.reduceMul, Int.reduceLE, Int.reduceLT, Int.reduceEq, Int.reduceToNat, Int.cast_ofNat_Int, reduceCtorEq, G55, Tf, b55, ↓Tryd.f55, F55, TY, H55, h12, h18, h19, h19t, h19g, nat_Mul.l1S]
        refine AtL.eq (Il0 _ _ _ _ _ _ h) ?_
        simp only [Tf, Int.reduceToNat, Int.toNat_natCast, nat_Mul.l0S]
theorem nat_Mul.ok (k : Nat) (x0 : List Int) (x1 : List Int) (r : (List Int) × Int) (h : nat_Mul.f k x0 x1 = some r) : Ret C1 55 [(false, [.sl 1 (x0.map e78)]), (false, [.sl 1 (x1.map e78)])] [aV [.sl 1 (r.1.map e78)], aV [pI .i64 r.2]] := by
  refine ret_of (c := b55) Tryd.func55 rfl rfl ⟨Nat.le_of_ble_eq_true rfl, Nat.le_of_ble_eq_true rfl⟩ ?_
  unfold nat_Mul.f at h
  rw [show Tryd.f55.results.toList = [.tmp 4, .tmp 5] from rfl]
  rw [show Tryd.f55.ntmps = 79 from rfl]
  obtain ⟨Ij0, Il0, Il1⟩ := nat_Mul.all k
  obtain ⟨t1, h1, h⟩ := bnd h
  have h1c := ((nat_Right.ok _ _ h1))
  try simp only [Tf, List.nil_append, List.cons_append, Int.reduceToNat] at h1c
  by_cases h2 : t1 = true
  · rw [if_pos h2] at h
    try simp only [h2] at h1c
    obtain ⟨t3, h3, h⟩ := bnd h
    have h3c := ((nat_Right.ok _ _ h3))
    try simp only [Tf, List.nil_append, List.cons_append, Int.reduceToNat, h2] at h3c
    simp only [↓Bp, ↓Bs, Bo, Bh, Ba, Bc, ↓reduceIte, Nat.reduceAdd, Nat.reduceEqDiff, Nat.reduceLT, Nat.reduceLeDiff, Nat.reduceBEq, Nat.reduceMul, Int.reduceLE, Int.reduceLT, Int.reduceEq, Int.reduceToNat, Int.cast_ofNat_Int, reduceCtorEq, G55, Tf, b55, ↓Tryd.f55, F55, TY, H55, callP_eq h1c, h2, callP_eq h3c]
    refine AtJ.eq (Ij0 _ _ _ _ h) ?_
    simp only [Tf, Int.reduceToNat, Int.toNat_natCast, nat_Mul.j0S, h2]
  · rw [if_neg h2] at h
    try simp only [h2] at h1c
    simp only [↓Bp, ↓Bs, Bo, Bh, Ba, Bc, ↓reduceIte, Nat.reduceAdd, Nat.reduceEqDiff, Nat.reduceLT, Nat.reduceLeDiff, Nat.reduceBEq, Nat.reduceMul, Int.reduceLE, Int.reduceLT, Int.reduceEq, Int.reduceToNat, Int.cast_ofNat_Int, reduceCtorEq, G55, Tf, b55, ↓Tryd.f55, F55, TY, H55, callP_eq h1c, h2]
    refine AtJ.eq (Ij0 _ _ _ _ h) ?_
    simp only [Tf, Int.reduceToNat, Int.toNat_natCast, nat_Mul.j0S, h2]
def ratio_signed_times.f (k : Nat) (x0 : S62) (x1 : S62) : Option S62 := ((nat_Mul.f k x0.f1 x1.f1).bind fun t1 => (some (⟨(!(x0.f0 == x1.f0)), t1.1⟩ : S62)))
theorem ratio_signed_times.mono (k : Nat) (x0 : S62) (x1 : S62) : LeO (ratio_signed_times.f k x0 x1) (ratio_signed_times.f (k + 1) x0 x1) := leo_bind (nat_Mul.mono k _ _) (fun _ => leo_refl)
noncomputable def b34 : Code := bodyOf Tryd.f34
def F34 : Fr := ⟨0, 22, 1, [], 34⟩
theorem ratio_signed_times.ok (k : Nat) (x0 : S62) (x1 : S62) (r : S62) (h : ratio_signed_times.f k x0 x1 = some r) : Ret C1 34 [(true, [.sc (.bool x0.f0), .sl 1 (x0.f1.map e78)]), (true, [.sc (.bool x1.f0), .sl 1 (x1.f1.map e78)])] [aA [pB r.f0, .sl 1 (r.f1.map e78)]] := by
  refine ret_of (c := b34) Tryd.func34 rfl rfl ⟨Nat.le_of_ble_eq_true rfl, Nat.le_of_ble_eq_true rfl⟩ ?_
  unfold ratio_signed_times.f at h
  rw [show Tryd.f34.results.toList = [.cell 4 62] from rfl]
  rw [show Tryd.f34.ntmps = 22 from rfl]
  obtain ⟨t1, h1, h⟩ := bnd h
  have h1c := ((nat_Mul.ok _ _ _ _ h1))
  try simp only [Tf, List.nil_append, List.cons_append, Int.reduceToNat] at h1c
  obtain rfl := Option.some.inj h
  simp only [↓Bp, ↓Bs, Bo, Bh, Ba, Bc, ↓reduceIte, Nat.reduceAdd, Nat.reduceEqDiff, Nat.reduceLT, Nat.reduceLeDiff, Nat.reduceBEq, Nat.reduceMul, Int.reduceLE, Int.reduceLT, Int.reduceEq, Int.reduceToNat, Int.cast_ofNat_Int, reduceCtorEq, G34, Tf, b34, ↓Tryd.f34, F34, TY, H34, callP_eq h1c]
def nat_add_1_s2.f (x0 : Int) (y0 : Int) (y1 : List Int) (y2 : List Int) : Option (Int × Int × (List Int) × (List Int)) := ((nat_at.f y1 x0).bind fun t1 => ((nat_at.f y2 x0).bind fun t2 => (some ((Go.bits .and .u64 (IntKind.u64.wrap (y0 + (IntKind.u64.wrap (t1 + t2)))) 4294967295), (Int.fdiv (IntKind.u64.wrap (y0 + (IntKind.u64.wrap (t1 + t2)))) (2 ^ min (32 : Int).toNat (IntKind.bits .u64))), y1, y2))))
noncomputable def b74 : Code := bodyOf Tryd.f74
def F74_2 : Fr := ⟨3, 21, 8, [0, 1, 2], 74⟩
theorem D74_2_1 {k : List It} {s : St} {Q : Post} {ops : Array Oper} {us : List Upd} (ha : apart2 [(0, 1), (0, 2), (1, 2), (0, 3), (0, 4), (1, 4), (2, 4), (3, 4), (0, 5), (1, 5), (2, 5), (3, 5), (4, 5), (0, 6), (0, 7)] (loud 0 us.reverse) = true) (hl : lessAll us.length [(0, 1), (0, 2), (1, 2), (0, 3), (0, 4), (1, 4), (2, 4), (3, 4), (0, 5), (1, 5), (2, 5), (3, 5), (4, 5), (0, 6), (0, 7)] = true) : GR C1 ⟨3, 21, 8, [0, 1, 2], 74⟩ k Q 1 true ops [] s us = Fin C1 ⟨3, 21, 8, [0, 1, 2], 74⟩ k .fall s Q := gr_nilD (F := F74_2) rfl ha hl
theorem nat_add_1_s2.ok (x0 : Int) (y0 : Int) (y1 : List Int) (y2 : List Int) (r : Int × Int × (List Int) × (List Int)) (h : nat_add_1_s2.f x0 y0 y1 y2 = some r) : RetM C1 3 74 [.one (.p none (.sc (.int .i64 x0))), .one (.pt 0 0), .one (.pt 1 0), .one (.pt 2 0)] (upd (upd (upd noOb 2 (some (.var [.p none (.sl 1 (y2.map e78))]))) 1 (some (.var [.p none (.sl 1 (y1.map e78))]))) 0 (some (.var [.p none (.sc (.int .u64 y0))]))) (rtP 8) 8 [.one (.p none (.sc (.int .u64 r.1)))] (upd (upd (upd noOb 2 (some (.var [.p none (.sl 1 (r.2.2.2.map e78))]))) 1 (some (.var [.p none (.sl 1 (r.2.2.1.map e78))]))) 0 (some (.var [.p none (.sc (.int .u64 r.2.1))]))) (rtP 12) 12 := by
  refine retM_of (c := b74) (vis := [0, 1, 2]) Tryd.func74 rfl rfl ⟨Nat.le_of_ble_eq_true rfl, Nat.le_of_ble_eq_true rfl⟩ rfl ?_
  unfold nat_add_1_s2.f at h
  rw [show Tryd.f74.results.toList = [.tmp 5] from rfl]
  rw [show Tryd.f74.ntmps = 21 from rfl]
  obtain ⟨t1, h1, h⟩ := bnd h
  have h1c := ((nat_at.ok _ _ _ h1))
  try simp only [Tf, List.nil_append, List.cons_append, Int.reduceToNat] at h1c
  obtain ⟨t2, h2, h⟩ := bnd h
  have h2c := ((nat_at.ok _ _ _ h2))
  try simp only [Tf, List.nil_append, List.cons_append, Int.reduceToNat] at h2c
  obtain rfl := Option.some.inj h
  simp only [↓Bp, ↓Bs, Bo, Bh, Ba, Bc, Bm, Nat.reduceSub, Int.sub_zero, Bd, ↓reduceIte, Nat.reduceAdd, Nat.reduceEqDiff, Nat.reduceLT, Nat.reduceLeDiff, Nat.reduceBEq, Nat.reduceMul, Int.reduceLE, Int.reduceLT, Int.reduceEq, Int.reduceToNat, Int.cast_ofNat_Int, reduceCtorEq, G74, Tf, b74, ↓Tryd.f74, F74_2, TY, H74, D74_2_1, callP_eq h1c, callP_eq h2c]
def nat_limbs_s1.l0 : Nat → Int → Int → List Int → Int → List Int → List Int → Option ((List Int) × Int × (List Int) × (List Int))
  | 0, _, _, _, _, _, _ => none
  | k + 1, x10, x11, y11, y0, y1, y2 => (if x11 < x10 then ((nat_add_1_s2.f x11 y0 y1 y2).bind fun t4 => (if 0 ≤ x11 then (if x11 < (y11.length : Int) then (nat_limbs_s1.l0 k x10 (wrap64 (x11 + 1)) (y11.set ((x11 : Int).toNat) (IntKind.u32.wrap (t4.1))) t4.2.1 t4.2.2.1 t4.2.2.2) else none) else none)) else ((nat_trim.f k y11).bind fun t7 => (some (t7, y0, y1, y2))))
def nat_limbs_s1.f (k : Nat) (x0 : Int) (y0 : Int) (y1 : List Int) (y2 : List Int) : Option ((List Int) × Int × (List Int) × (List Int)) := (if 0 ≤ x0 then (if x0 ≤ 16777216 then (nat_limbs_s1.l0 k ((List.replicate ((x0 : Int).toNat) 0).length : Int) 0 (List.replicate ((x0 : Int).toNat) 0) y0 y1 y2) else none) else none)
theorem nat_limbs_s1.monos : ∀ k, (∀ x10 x11 y11 y0 y1 y2, LeO (nat_limbs_s1.l0 k x10 x11 y11 y0 y1 y2) (nat_limbs_s1.l0 (k + 1) x10 x11 y11 y0 y1 y2))
  | 0 => fun _ _ _ _ _ _ => leo_none
  | k + 1 => by
    have I := nat_limbs_s1.monos k
    · intro x10 x11 y11 y0 y1 y2
      rw [nat_limbs_s1.l0, nat_limbs_s1.l0]
      exact leo_ite (leo_bind leo_refl (fun _ => leo_if (leo_if (I _ _ _ _ _ _)))) (leo_bind (nat_trim.mono k _) (fun _ => leo_refl))
theorem nat_limbs_s1.mono (k : Nat) (x0 : Int) (y0 : Int) (y1 : List Int) (y2 : List Int) : LeO (nat_limbs_s1.f k x0 y0 y1 y2) (nat_limbs_s1.f (k + 1) x0 y0 y1 y2) := leo_if (leo_if ((nat_limbs_s1.monos k) _ _ _ _ _ _))
noncomputable def b73 : Code := bodyOf Tryd.f73
def F73_1 : Fr := ⟨3, 24, 6, [0, 1, 2], 73⟩
def nat_limbs_s1.l0S (x10 : Int) (x11 : Int) (y11 : List Int) (y0 : Int) (y1 : List Int) (y2 : List Int) : St := ⟨upd (upd (upd (upd (fun _ => .no) 11 (.one (.p none (pI .i64 x11)))) 10 (.one (.p none (pI .i64 x10)))) 5 (.one (.vw 11 0 y11.length))) 1 (.one (.cl 74 [.pt 0 0, .pt 1 0, .pt 2 0])), upd (upd (upd (upd noOb 2 (some (.var [.p none (.sl 1 (y2.map e78))]))) 1 (some (.var [.p none (.sl 1 (y1.map e78))]))) 0 (some (.var [.p none (pI .u64 y0)]))) 11 (some (.arr false 1 (y11.map e78))), rtP 13, 13⟩
theorem nat_limbs_s1.all : ∀ k, (∀ x10 x11 y11 y0 y1 y2 r, nat_limbs_s1.l0 k x10 x11 y11 y0 y1 y2 = some r → AtL C1 F73_1 (sub [1, 1, 0, 1, 0, 0] b73) [.blk 0, .code (sub [1, 1, 1] b73)] (some (nat_limbs_s1.l0S x10 x11 y11 y0 y1 y2)) (RetQM C1 3 6 [.tmp 4] [.one (.p none (.sl 1 (r.1.map e78)))] (upd (upd (upd noOb 2 (some (.var [.p none (.sl 1 (r.2.2.2.map e78))]))) 1 (some (.var [.p none (.sl 1 (r.2.2.1.map e78))]))) 0 (some (.var [.p none (.sc (.int .u64 r.2.1))]))) (rtP 10) 10))
  | 0 => fun _ _ _ _ _ _ r h => (by cases h)
  | k + 1 => by
    have Il0 := nat_limbs_s1.all k
    · intro x10 x11 y11 y0 y1 y2 r h
      rw [nat_limbs_s1.l0] at h
      rw [atL_some]
      by_cases h3 : x11 < x10
      · rw [if_pos h3] at h
        obtain ⟨t4, h4, h⟩ := bnd h
        have h4c := ((nat_add_1_s2.ok _ _ _ _ _ h4))
        try simp only [Tf, List.nil_append, List.cons_append, Int.reduceToNat] at h4c
        obtain ⟨h5, h⟩ := ifn h
        obtain ⟨h6, h⟩ := ifn h
        have h6t := nat_lt (i := x11) (by omega) h6
        have h6g := get_of (l := y11) 0 h6t
        try simp only [List.length_set, List.length_replicate, List.length_map, Int.reduceToNat] at h6t
        simp only [↓Bp, ↓Bs, Bo, Bh, Ba, Bc, Bm, Nat.reduceSub, Int.sub_zero, ↓reduceIte, Nat.reduceAdd, Nat.reduceEqDiff, Nat.reduceLT, Nat.reduceLeDiff, Nat.reduceBEq, Nat.reduceMul, Int.reduceLE, Int.reduceLT, Int.reduceEq, Int.reduceToNat, Int.cast_ofNat_Int, reduceCtorEq, G73, Tf, b73, ↓Tryd.f73, F73_1, TY, H73, h3, mvC_eq h4c, h5, h6, h6t, h6g, nat_limbs_s1.l0S]
        refine AtL.eq (Il0 _ _ _ _ _ _ _ h) ?_
        simp only [Tf, Int.reduceToNat, Int.toNat_natCast, nat_limbs_s1.l0S]
      · rw [if_neg h3] at h
        obtain ⟨t7, h7, h⟩ := bnd h
        have h7c := ((nat_trim.ok _ _ _ h7))
        try simp only [Tf, List.nil_append, List.cons_append, Int.reduceToNat] at h7c
        obtain rfl := Option.some.inj h
        simp only [↓Bp, ↓Bs, Bo, Bh, Ba, Bc, Bm, Nat.reduceSub, Int.sub_zero, ↓reduceIte, Nat.reduceAdd, Nat.reduceEqDiff, Nat.reduceLT, Nat.reduceLeDiff, Nat.reduceBEq, Nat.reduceMul, Int.reduceLE, Int.reduceLT, Int.reduceEq, Int.reduceToNat, Int.cast_ofNat_Int, reduceCtorEq, G73, Tf, b73, ↓Tryd.f73, F73_1, TY, H73, h3, callP_eq h7c, nat_limbs_s1.l0S]
theorem nat_limbs_s1.ok (k : Nat) (x0 : Int) (y0 : Int) (y1 : List Int) (y2 : List Int) (r : (List Int) × Int × (List Int) × (List Int)) (h : nat_limbs_s1.f k x0 y0 y1 y2 = some r) : RetM C1 3 73 [.one (.p none (.sc (.int .i64 x0))), .one (.cl 74 [.pt 0 0, .pt 1 0, .pt 2 0])] (upd (upd (upd noOb 2 (some (.var [.p none (.sl 1 (y2.map e78))]))) 1 (some (.var [.p none (.sl 1 (y1.map e78))]))) 0 (some (.var [.p none (.sc (.int .u64 y0))]))) (rtP 6) 6 [.one (.p none (.sl 1 (r.1.map e78)))] (upd (upd (upd noOb 2 (some (.var [.p none (.sl 1 (r.2.2.2.map e78))]))) 1 (some (.var [.p none (.sl 1 (r.2.2.1.map e78))]))) 0 (some (.var [.p none (.sc (.int .u64 r.2.1))]))) (rtP 10) 10 := by
  refine retM_of (c := b73) (vis := [0, 1, 2]) Tryd.func73 rfl rfl ⟨Nat.le_of_ble_eq_true rfl, Nat.le_of_ble_eq_true rfl⟩ rfl ?_
  unfold nat_limbs_s1.f at h
  rw [show Tryd.f73.results.toList = [.tmp 4] from rfl]
  rw [show Tryd.f73.ntmps = 24 from rfl]
  have Il0 := nat_limbs_s1.all k
  obtain ⟨h1, h⟩ := ifn h
  obtain ⟨h2, h⟩ := ifn h
  simp only [↓Bp, ↓Bs, Bo, Bh, Ba, Bc, Bm, Nat.reduceSub, Int.sub_zero, ↓reduceIte, Nat.reduceAdd, Nat.reduceEqDiff, Nat.reduceLT, Nat.reduceLeDiff, Nat.reduceBEq, Nat.reduceMul, Int.reduceLE, Int.reduceLT, Int.reduceEq, Int.reduceToNat, Int.cast_ofNat_Int, reduceCtorEq, G73, Tf, b73, ↓Tryd.f73, F73_1, TY, H73, h1, h2]
  refine AtL.eq (Il0 _ _ _ _ _ _ _ h) ?_
  simp only [Tf, Int.reduceToNat, Int.toNat_natCast, nat_limbs_s1.l0S]
def nat_add.f (k : Nat) (x0 : List Int) (x1 : List Int) : Option (List Int) := ((nat_limbs_s1.f k (wrap64 ((max (x0.length : Int) (x1.length : Int)) + 1)) 0 x0 x1).bind fun t1 => (some t1.1))
theorem nat_add.mono (k : Nat) (x0 : List Int) (x1 : List Int) : LeO (nat_add.f k x0 x1) (nat_add.f (k + 1) x0 x1) := leo_bind (nat_limbs_s1.mono k _ _ _ _) (fun _ => leo_refl)
noncomputable def b67 : Code := bodyOf Tryd.f67
def F67 : Fr := ⟨0, 14, 1, [], 67⟩
theorem nat_add.ok (k : Nat) (x0 : List Int) (x1 : List Int) (r : List Int) (h : nat_add.f k x0 x1 = some r) : Ret C1 67 [(false, [.sl 1 (x0.map e78)]), (false, [.sl 1 (x1.map e78)])] [aV [.sl 1 (r.map e78)]] := by
  refine ret_of (c := b67) Tryd.func67 rfl rfl ⟨Nat.le_of_ble_eq_true rfl, Nat.le_of_ble_eq_true rfl⟩ ?_
  unfold nat_add.f at h
  rw [show Tryd.f67.results.toList = [.tmp 4] from rfl]
  rw [show Tryd.f67.ntmps = 14 from rfl]
  obtain ⟨t1, h1, h⟩ := bnd h
  have h1c := ((nat_limbs_s1.ok _ _ _ _ _ _ h1))
  try simp only [Tf, List.nil_append, List.cons_append, Int.reduceToNat] at h1c
  obtain rfl := Option.some.inj h
  simp only [↓Bp, ↓Bs, Bo, Bh, Ba, Bc, Bm, Nat.reduceSub, Int.sub_zero, ↓reduceIte, Nat.reduceAdd, Nat.reduceEqDiff, Nat.reduceLT, Nat.reduceLeDiff, Nat.reduceBEq, Nat.reduceMul, Int.reduceLE, Int.reduceLT, Int.reduceEq, Int.reduceToNat, Int.cast_ofNat_Int, reduceCtorEq, G67, Tf, b67, ↓Tryd.f67, F67, TY, H67, mvC_eq h1c]
def nat_Add.j0 : Nat → List Int → List Int → Bool → Option ((List Int) × Int)
  | 0, _, _, _ => none
  | k + 1, x0, x1, x13 => (if x13 = true then (some (([] : List Int), 1)) else ((nat_add.f k x0 x1).bind fun t5 => ((nat_fit.f t5).bind fun t6 => (some (t6.1, t6.2)))))
def nat_Add.f (k : Nat) (x0 : List Int) (x1 : List Int) : Option ((List Int) × Int) := ((nat_Right.f x0).bind fun t1 => (if t1 = true then ((nat_Right.f x1).bind fun t3 => (nat_Add.j0 k x0 x1 (!t3))) else (nat_Add.j0 k x0 x1 true)))
theorem nat_Add.monos : ∀ k, (∀ x0 x1 x13, LeO (nat_Add.j0 k x0 x1 x13) (nat_Add.j0 (k + 1) x0 x1 x13))
  | 0 => fun _ _ _ => leo_none
  | k + 1 => by
    have I := nat_Add.monos k
    · intro x0 x1 x13
      rw [nat_Add.j0, nat_Add.j0]
      exact leo_ite (leo_refl) (leo_bind (nat_add.mono k _ _) (fun _ => leo_bind leo_refl (fun _ => leo_refl)))
theorem nat_Add.mono (k : Nat) (x0 : List Int) (x1 : List Int) : LeO (nat_Add.f k x0 x1) (nat_Add.f (k + 1) x0 x1) := leo_bind leo_refl (fun _ => leo_ite (leo_bind leo_refl (fun _ => (nat_Add.monos k) _ _ _)) ((nat_Add.monos k) _ _ _))
noncomputable def b57 : Code := bodyOf Tryd.f57
def F57 : Fr := ⟨0, 20, 1, [], 57⟩
def nat_Add.j0S (x0 : List Int) (x1 : List Int) (x13 : Bool) : St := ⟨upd (upd (upd (fun _ => .no) 13 (.one (.p none (pB x13)))) 1 (.one (.p none (.sl 1 (x1.map e78))))) 0 (.one (.p none (.sl 1 (x0.map e78)))), noOb, rtP 4, 4⟩
theorem nat_Add.all : ∀ k, (∀ x0 x1 x13 r, nat_Add.j0 k x0 x1 x13 = some r → AtJ C1 F57 (sub [1, 0, 1] b57) [.code (sub [1, 1] b57)] (some (nat_Add.j0S x0 x1 x13)) (RetQ C1 [.tmp 4, .tmp 5] [aV [.sl 1 (r.1.map e78)], aV [pI .i64 r.2]]))
  | 0 => fun _ _ _ r h => (by cases h)
  | k + 1 => by
    have Ij0 := nat_Add.all k
    · intro x0 x1 x13 r h
      rw [nat_Add.j0] at h
      rw [atJ_some]
      by_cases h4 : x13 = true
      · rw [if_pos h4] at h
        obtain rfl := Option.some.inj h
        simp only [↓Bp, ↓Bs, Bo, Bh, Ba, Bc, ↓reduceIte, Nat.reduceAdd, Nat.reduceEqDiff, Nat.reduceLT, Nat.reduceLeDiff, Nat.reduceBEq, Nat.reduceMul, Int.reduceLE, Int.reduceLT, Int.reduceEq, Int.reduceToNat, Int.cast_ofNat_Int, reduceCtorEq, G57, Tf, b57, ↓Tryd.f57, F57, TY, H57, h4, nat_Add.j0S]
      · rw [if_neg h4] at h
        obtain ⟨t5, h5, h⟩ := bnd h
        have h5c := ((nat_add.ok _ _ _ _ h5))
        try simp only [Tf, List.nil_append, List.cons_append, Int.reduceToNat, h4] at h5c
        obtain ⟨t6, h6, h⟩ := bnd h
        have h6c := ((nat_fit.ok _ _ h6))
        try simp only [Tf, List.nil_append, List.cons_append, Int.reduceToNat, h4] at h6c
        obtain rfl := Option.some.inj h
        simp only [↓Bp, ↓Bs, Bo, Bh, Ba, Bc, ↓reduceIte, Nat.reduceAdd, Nat.reduceEqDiff, Nat.reduceLT, Nat.reduceLeDiff, Nat.reduceBEq, Nat.reduceMul, Int.reduceLE, Int.reduceLT, Int.reduceEq, Int.reduceToNat, Int.cast_ofNat_Int, reduceCtorEq, G57, Tf, b57, ↓Tryd.f57, F57, TY, H57, h4, callP_eq h5c, callP_eq h6c, nat_Add.j0S]
theorem nat_Add.ok (k : Nat) (x0 : List Int) (x1 : List Int) (r : (List Int) × Int) (h : nat_Add.f k x0 x1 = some r) : Ret C1 57 [(false, [.sl 1 (x0.map e78)]), (false, [.sl 1 (x1.map e78)])] [aV [.sl 1 (r.1.map e78)], aV [pI .i64 r.2]] := by
  refine ret_of (c := b57) Tryd.func57 rfl rfl ⟨Nat.le_of_ble_eq_true rfl, Nat.le_of_ble_eq_true rfl⟩ ?_
  unfold nat_Add.f at h
  rw [show Tryd.f57.results.toList = [.tmp 4, .tmp 5] from rfl]
  rw [show Tryd.f57.ntmps = 20 from rfl]
  have Ij0 := nat_Add.all k
  obtain ⟨t1, h1, h⟩ := bnd h
  have h1c := ((nat_Right.ok _ _ h1))
  try simp only [Tf, List.nil_append, List.cons_append, Int.reduceToNat] at h1c
  by_cases h2 : t1 = true
  · rw [if_pos h2] at h
    try simp only [h2] at h1c
    obtain ⟨t3, h3, h⟩ := bnd h
    have h3c := ((nat_Right.ok _ _ h3))
    try simp only [Tf, List.nil_append, List.cons_append, Int.reduceToNat, h2] at h3c
    simp only [↓Bp, ↓Bs, Bo, Bh, Ba, Bc, ↓reduceIte, Nat.reduceAdd, Nat.reduceEqDiff, Nat.reduceLT, Nat.reduceLeDiff, Nat.reduceBEq, Nat.reduceMul, Int.reduceLE, Int.reduceLT, Int.reduceEq, Int.reduceToNat, Int.cast_ofNat_Int, reduceCtorEq, G57, Tf, b57, ↓Tryd.f57, F57, TY, H57, callP_eq h1c, h2, callP_eq h3c]
    refine AtJ.eq (Ij0 _ _ _ _ h) ?_
    simp only [Tf, Int.reduceToNat, Int.toNat_natCast, nat_Add.j0S, h2]
  · rw [if_neg h2] at h
    try simp only [h2] at h1c
    simp only [↓Bp, ↓Bs, Bo, Bh, Ba, Bc, ↓reduceIte, Nat.reduceAdd, Nat.reduceEqDiff, Nat.reduceLT, Nat.reduceLeDiff, Nat.reduceBEq, Nat.reduceMul, Int.reduceLE, Int.reduceLT, Int.reduceEq, Int.reduceToNat, Int.cast_ofNat_Int, reduceCtorEq, G57, Tf, b57, ↓Tryd.f57, F57, TY, H57, callP_eq h1c, h2]
    refine AtJ.eq (Ij0 _ _ _ _ h) ?_
    simp only [Tf, Int.reduceToNat, Int.toNat_natCast, nat_Add.j0S, h2]
def nat_sub_1_s1.f (x0 : Int) (y0 : List Int) (y1 : List Int) (y2 : Int) : Option (Int × (List Int) × (List Int) × Int) := ((nat_at.f y0 x0).bind fun t1 => ((nat_at.f y1 x0).bind fun t2 => (some ((Go.bits .and .u64 (IntKind.u64.wrap ((IntKind.u64.wrap (t1 - t2)) - y2)) 4294967295), y0, y1, (Go.bits .and .u64 (Int.fdiv (IntKind.u64.wrap ((IntKind.u64.wrap (t1 - t2)) - y2)) (2 ^ min (33 : Int).toNat (IntKind.bits .u64))) 1)))))
noncomputable def b76 : Code := bodyOf Tryd.f76
def F76_1 : Fr := ⟨3, 21, 8, [0, 1, 2], 76⟩
theorem D76_1_1 {k : List It} {s : St} {Q : Post} {ops : Array Oper} {us : List Upd} (ha : apart2 [(0, 1), (0, 3), (1, 3), (2, 3), (0, 4), (1, 4), (2, 4), (3, 4), (0, 7), (1, 7), (2, 7), (3, 7), (4, 7), (5, 7), (6, 7)] (loud 0 us.reverse) = true) (hl : lessAll us.length [(0, 1), (0, 3), (1, 3), (2, 3), (0, 4), (1, 4), (2, 4), (3, 4), (0, 7), (1, 7), (2, 7), (3, 7), (4, 7), (5, 7), (6, 7)] = true) : GR C1 ⟨3, 21, 8, [0, 1, 2], 76⟩ k Q 1 true ops [] s us = Fin C1 ⟨3, 21, 8, [0, 1, 2], 76⟩ k .fall s Q := gr_nilD (F := F76_1) rfl ha hl
theorem nat_sub_1_s1.ok (x0 : Int) (y0 : List Int) (y1 : List Int) (y2 : Int) (r : Int × (List Int) × (List Int) × Int) (h : nat_sub_1_s1.f x0 y0 y1 y2 = some r) : RetM C1 3 76 [.one (.p none (.sc (.int .i64 x0))), .one (.pt 0 0), .one (.pt 1 0), .one (.pt 2 0)] (upd (upd (upd noOb 2 (some (.var [.p none (.sc (.int .u64 y2))]))) 1 (some (.var [.p none (.sl 1 (y1.map e78))]))) 0 (some (.var [.p none (.sl 1 (y0.map e78))]))) (rtP 8) 8 [.one (.p none (.sc (.int .u64 r.1)))] (upd (upd (upd noOb 2 (some (.var [.p none (.sc (.int .u64 r.2.2.2))]))) 1 (some (.var [.p none (.sl 1 (r.2.2.1.map e78))]))) 0 (some (.var [.p none (.sl 1 (r.2.1.map e78))]))) (rtP 12) 12 := by
  refine retM_of (c := b76) (vis := [0, 1, 2]) Tryd.func76 rfl rfl ⟨Nat.le_of_ble_eq_true rfl, Nat.le_of_ble_eq_true rfl⟩ rfl ?_
  unfold nat_sub_1_s1.f at h
  rw [show Tryd.f76.results.toList = [.tmp 5] from rfl]
  rw [show Tryd.f76.ntmps = 21 from rfl]
  obtain ⟨t1, h1, h⟩ := bnd h
  have h1c := ((nat_at.ok _ _ _ h1))
  try simp only [Tf, List.nil_append, List.cons_append, Int.reduceToNat] at h1c
  obtain ⟨t2, h2, h⟩ := bnd h
  have h2c := ((nat_at.ok _ _ _ h2))
  try simp only [Tf, List.nil_append, List.cons_append, Int.reduceToNat] at h2c
  obtain rfl := Option.some.inj h
  simp only [↓Bp, ↓Bs, Bo, Bh, Ba, Bc, Bm, Nat.reduceSub, Int.sub_zero, Bd, ↓reduceIte, Nat.reduceAdd, Nat.reduceEqDiff, Nat.reduceLT, Nat.reduceLeDiff, Nat.reduceBEq, Nat.reduceMul, Int.reduceLE, Int.reduceLT, Int.reduceEq, Int.reduceToNat, Int.cast_ofNat_Int, reduceCtorEq, G76, Tf, b76, ↓Tryd.f76, F76_1, TY, H76, D76_1_1, callP_eq h1c, callP_eq h2c]
def nat_limbs_s3.l0 : Nat → Int → Int → List Int → List Int → List Int → Int → Option ((List Int) × (List Int) × (List Int) × Int)
  | 0, _, _, _, _, _, _ => none
  | k + 1, x10, x11, y11, y0, y1, y2 => (if x11 < x10 then ((nat_sub_1_s1.f x11 y0 y1 y2).bind fun t4 => (if 0 ≤ x11 then (if x11 < (y11.length : Int) then (nat_limbs_s3.l0 k x10 (wrap64 (x11 + 1)) (y11.set ((x11 : Int).toNat) (IntKind.u32.wrap (t4.1))) t4.2.1 t4.2.2.1 t4.2.2.2) else none) else none)) else ((nat_trim.f k y11).bind fun t7 => (some (t7, y0, y1, y2))))
def nat_limbs_s3.f (k : Nat) (x0 : Int) (y0 : List Int) (y1 : List Int) (y2 : Int) : Option ((List Int) × (List Int) × (List Int) × Int) := (if 0 ≤ x0 then (if x0 ≤ 16777216 then (nat_limbs_s3.l0 k ((List.replicate ((x0 : Int).toNat) 0).length : Int) 0 (List.replicate ((x0 : Int).toNat) 0) y0 y1 y2) else none) else none)
theorem nat_limbs_s3.monos : ∀ k, (∀ x10 x11 y11 y0 y1 y2, LeO (nat_limbs_s3.l0 k x10 x11 y11 y0 y1 y2) (nat_limbs_s3.l0 (k + 1) x10 x11 y11 y0 y1 y2))
  | 0 => fun _ _ _ _ _ _ => leo_none
  | k + 1 => by
    have I := nat_limbs_s3.monos k
    · intro x10 x11 y11 y0 y1 y2
      rw [nat_limbs_s3.l0, nat_limbs_s3.l0]
      exact leo_ite (leo_bind leo_refl (fun _ => leo_if (leo_if (I _ _ _ _ _ _)))) (leo_bind (nat_trim.mono k _) (fun _ => leo_refl))
theorem nat_limbs_s3.mono (k : Nat) (x0 : Int) (y0 : List Int) (y1 : List Int) (y2 : Int) : LeO (nat_limbs_s3.f k x0 y0 y1 y2) (nat_limbs_s3.f (k + 1) x0 y0 y1 y2) := leo_if (leo_if ((nat_limbs_s3.monos k) _ _ _ _ _ _))
def F73_3 : Fr := ⟨3, 24, 6, [0, 1, 2], 73⟩
def nat_limbs_s3.l0S (x10 : Int) (x11 : Int) (y11 : List Int) (y0 : List Int) (y1 : List Int) (y2 : Int) : St := ⟨upd (upd (upd (upd (fun _ => .no) 11 (.one (.p none (pI .i64 x11)))) 10 (.one (.p none (pI .i64 x10)))) 5 (.one (.vw 11 0 y11.length))) 1 (.one (.cl 76 [.pt 0 0, .pt 1 0, .pt 2 0])), upd (upd (upd (upd noOb 2 (some (.var [.p none (pI .u64 y2)]))) 1 (some (.var [.p none (.sl 1 (y1.map e78))]))) 0 (some (.var [.p none (.sl 1 (y0.map e78))]))) 11 (some (.arr false 1 (y11.map e78))), rtP 13, 13⟩
theorem nat_limbs_s3.all : ∀ k, (∀ x10 x11 y11 y0 y1 y2 r, nat_limbs_s3.l0 k x10 x11 y11 y0 y1 y2 = some r → AtL C1 F73_3 (sub [1, 1, 0, 1, 0, 0] b73) [.blk 0, .code (sub [1, 1, 1] b73)] (some (nat_limbs_s3.l0S x10 x11 y11 y0 y1 y2)) (RetQM C1 3 6 [.tmp 4] [.one (.p none (.sl 1 (r.1.map e78)))] (upd (upd (upd noOb 2 (some (.var [.p none (.sc (.int .u64 r.2.2.2))]))) 1 (some (.var [.p none (.sl 1 (r.2.2.1.map e78))]))) 0 (some (.var [.p none (.sl 1 (r.2.1.map e78))]))) (rtP 10) 10))
  | 0 => fun _ _ _ _ _ _ r h => (by cases h)
  | k + 1 => by
    have Il0 := nat_limbs_s3.all k
    · intro x10 x11 y11 y0 y1 y2 r h
      rw [nat_limbs_s3.l0] at h
      rw [atL_some]
      by_cases h3 : x11 < x10
      · rw [if_pos h3] at h
        obtain ⟨t4, h4, h⟩ := bnd h
        have h4c := ((nat_sub_1_s1.ok _ _ _ _ _ h4))
        try simp only [Tf, List.nil_append, List.cons_append, Int.reduceToNat] at h4c
        obtain ⟨h5, h⟩ := ifn h
        obtain ⟨h6, h⟩ := ifn h
        have h6t := nat_lt (i := x11) (by omega) h6
        have h6g := get_of (l := y11) 0 h6t
        try simp only [List.length_set, List.length_replicate, List.length_map, Int.reduceToNat] at h6t
        simp only [↓Bp, ↓Bs, Bo, Bh, Ba, Bc, Bm, Nat.reduceSub, Int.sub_zero, ↓reduceIte, Nat.reduceAdd, Nat.reduceEqDiff, Nat.reduceLT, Nat.reduceLeDiff, Nat.reduceBEq, Nat.reduceMul, Int.reduceLE, Int.reduceLT, Int.reduceEq, Int.reduceToNat, Int.cast_ofNat_Int, reduceCtorEq, G73, Tf, b73, ↓Tryd.f73, F73_3, TY, H73, h3, mvC_eq h4c, h5, h6, h6t, h6g, nat_limbs_s3.l0S]
        refine AtL.eq (Il0 _ _ _ _ _ _ _ h) ?_
        simp only [Tf, Int.reduceToNat, Int.toNat_natCast, nat_limbs_s3.l0S]
      · rw [if_neg h3] at h
        obtain ⟨t7, h7, h⟩ := bnd h
        have h7c := ((nat_trim.ok _ _ _ h7))
        try simp only [Tf, List.nil_append, List.cons_append, Int.reduceToNat] at h7c
        obtain rfl := Option.some.inj h
        simp only [↓Bp, ↓Bs, Bo, Bh, Ba, Bc, Bm, Nat.reduceSub, Int.sub_zero, ↓reduceIte, Nat.reduceAdd, Nat.reduceEqDiff, Nat.reduceLT, Nat.reduceLeDiff, Nat.reduceBEq, Nat.reduceMul, Int.reduceLE, Int.reduceLT, Int.reduceEq, Int.reduceToNat, Int.cast_ofNat_Int, reduceCtorEq, G73, Tf, b73, ↓Tryd.f73, F73_3, TY, H73, h3, callP_eq h7c, nat_limbs_s3.l0S]
theorem nat_limbs_s3.ok (k : Nat) (x0 : Int) (y0 : List Int) (y1 : List Int) (y2 : Int) (r : (List Int) × (List Int) × (List Int) × Int) (h : nat_limbs_s3.f k x0 y0 y1 y2 = some r) : RetM C1 3 73 [.one (.p none (.sc (.int .i64 x0))), .one (.cl 76 [.pt 0 0, .pt 1 0, .pt 2 0])] (upd (upd (upd noOb 2 (some (.var [.p none (.sc (.int .u64 y2))]))) 1 (some (.var [.p none (.sl 1 (y1.map e78))]))) 0 (some (.var [.p none (.sl 1 (y0.map e78))]))) (rtP 6) 6 [.one (.p none (.sl 1 (r.1.map e78)))] (upd (upd (upd noOb 2 (some (.var [.p none (.sc (.int .u64 r.2.2.2))]))) 1 (some (.var [.p none (.sl 1 (r.2.2.1.map e78))]))) 0 (some (.var [.p none (.sl 1 (r.2.1.map e78))]))) (rtP 10) 10 := by
  refine retM_of (c := b73) (vis := [0, 1, 2]) Tryd.func73 rfl rfl ⟨Nat.le_of_ble_eq_true rfl, Nat.le_of_ble_eq_true rfl⟩ rfl ?_
  unfold nat_limbs_s3.f at h
  rw [show Tryd.f73.results.toList = [.tmp 4] from rfl]
  rw [show Tryd.f73.ntmps = 24 from rfl]
  have Il0 := nat_limbs_s3.all k
  obtain ⟨h1, h⟩ := ifn h
  obtain ⟨h2, h⟩ := ifn h
  simp only [↓Bp, ↓Bs, Bo, Bh, Ba, Bc, Bm, Nat.reduceSub, Int.sub_zero, ↓reduceIte, Nat.reduceAdd, Nat.reduceEqDiff, Nat.reduceLT, Nat.reduceLeDiff, Nat.reduceBEq, Nat.reduceMul, Int.reduceLE, Int.reduceLT, Int.reduceEq, Int.reduceToNat, Int.cast_ofNat_Int, reduceCtorEq, G73, Tf, b73, ↓Tryd.f73, F73_3, TY, H73, h1, h2]
  refine AtL.eq (Il0 _ _ _ _ _ _ _ h) ?_
  simp only [Tf, Int.reduceToNat, Int.toNat_natCast, nat_limbs_s3.l0S]
def nat_sub.f (k : Nat) (x0 : List Int) (x1 : List Int) : Option (List Int) := ((nat_limbs_s3.f k (x0.length : Int) x0 x1 0).bind fun t1 => (some t1.1))
theorem nat_sub.mono (k : Nat) (x0 : List Int) (x1 : List Int) : LeO (nat_sub.f k x0 x1) (nat_sub.f (k + 1) x0 x1) := leo_bind (nat_limbs_s3.mono k _ _ _ _) (fun _ => leo_refl)
noncomputable def b68 : Code := bodyOf Tryd.f68
def F68 : Fr := ⟨0, 10, 1, [], 68⟩
theorem nat_sub.ok (k : Nat) (x0 : List Int) (x1 : List Int) (r : List Int) (h : nat_sub.f k x0 x1 = some r) : Ret C1 68 [(false, [.sl 1 (x0.map e78)]), (false, [.sl 1 (x1.map e78)])] [aV [.sl 1 (r.map e78)]] := by
  refine ret_of (c := b68) Tryd.func68 rfl rfl ⟨Nat.le_of_ble_eq_true rfl, Nat.le_of_ble_eq_true rfl⟩ ?_
  unfold nat_sub.f at h
  rw [show Tryd.f68.results.toList = [.tmp 4] from rfl]
  rw [show Tryd.f68.ntmps = 10 from rfl]
  obtain ⟨t1, h1, h⟩ := bnd h
  have h1c := ((nat_limbs_s3.ok _ _ _ _ _ _ h1))
  try simp only [Tf, List.nil_append, List.cons_append, Int.reduceToNat] at h1c
  obtain rfl := Option.some.inj h
  simp only [↓Bp, ↓Bs, Bo, Bh, Ba, Bc, Bm, Nat.reduceSub, Int.sub_zero, ↓reduceIte, Nat.reduceAdd, Nat.reduceEqDiff, Nat.reduceLT, Nat.reduceLeDiff, Nat.reduceBEq, Nat.reduceMul, Int.reduceLE, Int.reduceLT, Int.reduceEq, Int.reduceToNat, Int.cast_ofNat_Int, reduceCtorEq, G68, Tf, b68, ↓Tryd.f68, F68, TY, H68, mvC_eq h1c]
def nat_Sub.j0 : Nat → List Int → List Int → Bool → Option ((List Int) × Int)
  | 0, _, _, _ => none
  | k + 1, x0, x1, x6 => (if x6 = true then (some (([] : List Int), 1)) else ((nat_order.f k x0 x1).bind fun t5 => (if t5 < 0 then (some (([] : List Int), 2)) else ((nat_sub.f k x0 x1).bind fun t7 => (some (t7, 0))))))
def nat_Sub.f (k : Nat) (x0 : List Int) (x1 : List Int) : Option ((List Int) × Int) := ((nat_Right.f x0).bind fun t1 => (if t1 = true then ((nat_Right.f x1).bind fun t3 => (nat_Sub.j0 k x0 x1 (!t3))) else (nat_Sub.j0 k x0 x1 true)))
theorem nat_Sub.monos : ∀ k, (∀ x0 x1 x6, LeO (nat_Sub.j0 k x0 x1 x6) (nat_Sub.j0 (k + 1) x0 x1 x6))
  | 0 => fun _ _ _ => leo_none
  | k + 1 => by
    have I := nat_Sub.monos k
    · intro x0 x1 x6
      rw [nat_Sub.j0, nat_Sub.j0]
      exact leo_ite (leo_refl) (leo_bind (nat_order.mono k _ _) (fun _ => leo_ite (leo_refl) (leo_bind (nat_sub.mono k _ _) (fun _ => leo_refl))))
theorem nat_Sub.mono (k : Nat) (x0 : List Int) (x1 : List Int) : LeO (nat_Sub.f k x0 x1) (nat_Sub.f (k + 1) x0 x1) := leo_bind leo_refl (fun _ => leo_ite (leo_bind leo_refl (fun _ => (nat_Sub.monos k) _ _ _)) ((nat_Sub.monos k) _ _ _))
noncomputable def b58 : Code := bodyOf Tryd.f58
def F58 : Fr := ⟨0, 23, 1, [], 58⟩
def nat_Sub.j0S (x0 : List Int) (x1 : List Int) (x6 : Bool) : St := ⟨upd (upd (upd (fun _ => .no) 6 (.one (.p none (pB x6)))) 1 (.one (.p none (.sl 1 (x1.map e78))))) 0 (.one (.p none (.sl 1 (x0.map e78)))), noOb, rtP 4, 4⟩
theorem nat_Sub.all : ∀ k, (∀ x0 x1 x6 r, nat_Sub.j0 k x0 x1 x6 = some r → AtJ C1 F58 (sub [1, 0, 0, 1] b58) [.blk 0, .code (sub [1, 1] b58)] (some (nat_Sub.j0S x0 x1 x6)) (RetQ C1 [.tmp 4, .tmp 5] [aV [.sl 1 (r.1.map e78)], aV [pI .i64 r.2]]))
  | 0 => fun _ _ _ r h => (by cases h)
  | k + 1 => by
    have Ij0 := nat_Sub.all k
    · intro x0 x1 x6 r h
      rw [nat_Sub.j0] at h
      rw [atJ_some]
      by_cases h4 : x6 = true
      · rw [if_pos h4] at h
        obtain rfl := Option.some.inj h
        simp only [↓Bp, ↓Bs, Bo, Bh, Ba, Bc, ↓reduceIte, Nat.reduceAdd, Nat.reduceEqDiff, Nat.reduceLT, Nat.reduceLeDiff, Nat.reduceBEq, Nat.reduceMul, Int.reduceLE, Int.reduceLT, Int.reduceEq, Int.reduceToNat, Int.cast_ofNat_Int, reduceCtorEq, G58, Tf, b58, ↓Tryd.f58, F58, TY, H58, h4, nat_Sub.j0S]
      · rw [if_neg h4] at h
        obtain ⟨t5, h5, h⟩ := bnd h
        have h5c := ((nat_order.ok _ _ _ _ h5))
        try simp only [Tf, List.nil_append, List.cons_append, Int.reduceToNat, h4] at h5c
        by_cases h6 : t5 < 0
        · rw [if_pos h6] at h
          obtain rfl := Option.some.inj h
          simp only [↓Bp, ↓Bs, Bo, Bh, Ba, Bc, ↓reduceIte, Nat.reduceAdd, Nat.reduceEqDiff, Nat.reduceLT, Nat.reduceLeDiff, Nat.reduceBEq, Nat.reduceMul, Int.reduceLE, Int.reduceLT, Int.reduceEq, Int.reduceToNat, Int.cast_ofNat_Int, reduceCtorEq, G58, Tf, b58, ↓Tryd.f58, F58, TY, H58, h4, callP_eq h5c, h6, nat_Sub.j0S]
        · rw [if_neg h6] at h
          obtain ⟨t7, h7, h⟩ := bnd h
          have h7c := ((nat_sub.ok _ _ _ _ h7))
          try simp only [Tf, List.nil_append, List.cons_append, Int.reduceToNat, h4] at h7c
          obtain rfl := Option.some.inj h
          simp only [↓Bp, ↓Bs, Bo, Bh, Ba, Bc, ↓reduceIte, Nat.reduceAdd, Nat.reduceEqDiff, Nat.reduceLT, Nat.reduceLeDiff, Nat.reduceBEq, Nat.reduceMul, Int.reduceLE, Int.reduceLT, Int.reduceEq, Int.reduceToNat, Int.cast_ofNat_Int, reduceCtorEq, G58, Tf, b58, ↓Tryd.f58, F58, TY, H58, h4, callP_eq h5c, h6, callP_eq h7c, nat_Sub.j0S]
theorem nat_Sub.ok (k : Nat) (x0 : List Int) (x1 : List Int) (r : (List Int) × Int) (h : nat_Sub.f k x0 x1 = some r) : Ret C1 58 [(false, [.sl 1 (x0.map e78)]), (false, [.sl 1 (x1.map e78)])] [aV [.sl 1 (r.1.map e78)], aV [pI .i64 r.2]] := by
  refine ret_of (c := b58) Tryd.func58 rfl rfl ⟨Nat.le_of_ble_eq_true rfl, Nat.le_of_ble_eq_true rfl⟩ ?_
  unfold nat_Sub.f at h
  rw [show Tryd.f58.results.toList = [.tmp 4, .tmp 5] from rfl]
  rw [show Tryd.f58.ntmps = 23 from rfl]
  have Ij0 := nat_Sub.all k
  obtain ⟨t1, h1, h⟩ := bnd h
  have h1c := ((nat_Right.ok _ _ h1))
  try simp only [Tf, List.nil_append, List.cons_append, Int.reduceToNat] at h1c
  by_cases h2 : t1 = true
  · rw [if_pos h2] at h
    try simp only [h2] at h1c
    obtain ⟨t3, h3, h⟩ := bnd h
    have h3c := ((nat_Right.ok _ _ h3))
    try simp only [Tf, List.nil_append, List.cons_append, Int.reduceToNat, h2] at h3c
    simp only [↓Bp, ↓Bs, Bo, Bh, Ba, Bc, ↓reduceIte, Nat.reduceAdd, Nat.reduceEqDiff, Nat.reduceLT, Nat.reduceLeDiff, Nat.reduceBEq, Nat.reduceMul, Int.reduceLE, Int.reduceLT, Int.reduceEq, Int.reduceToNat, Int.cast_ofNat_Int, reduceCtorEq, G58, Tf, b58, ↓Tryd.f58, F58, TY, H58, callP_eq h1c, h2, callP_eq h3c]
    refine AtJ.eq (Ij0 _ _ _ _ h) ?_
    simp only [Tf, Int.reduceToNat, Int.toNat_natCast, nat_Sub.j0S, h2]
  · rw [if_neg h2] at h
    try simp only [h2] at h1c
    simp only [↓Bp, ↓Bs, Bo, Bh, Ba, Bc, ↓reduceIte, Nat.reduceAdd, Nat.reduceEqDiff, Nat.reduceLT, Nat.reduceLeDiff, Nat.reduceBEq, Nat.reduceMul, Int.reduceLE, Int.reduceLT, Int.reduceEq, Int.reduceToNat, Int.cast_ofNat_Int, reduceCtorEq, G58, Tf, b58, ↓Tryd.f58, F58, TY, H58, callP_eq h1c, h2]
    refine AtJ.eq (Ij0 _ _ _ _ h) ?_
    simp only [Tf, Int.reduceToNat, Int.toNat_natCast, nat_Sub.j0S, h2]
def ratio_signed_plus.j0 : Nat → S62 → S62 → S62 → Option S62
  | 0, _, _, _ => none
  | k + 1, y4, y3, y2 => ((nat_Sub.f k y2.f1 y3.f1).bind fun t5 => (some (⟨y2.f0, t5.1⟩ : S62)))
def ratio_signed_plus.f (k : Nat) (x0 : S62) (x1 : S62) : Option S62 := (if (x0.f0 == x1.f0) = true then ((nat_Add.f k x0.f1 x1.f1).bind fun t2 => (some (⟨x0.f0, t2.1⟩ : S62))) else ((nat_Compare.f k x0.f1 x1.f1).bind fun t3 => (if t3 < 0 then (ratio_signed_plus.j0 k (⟨false, ([] : List Int)⟩ : S62) x0 x1) else (ratio_signed_plus.j0 k (⟨false, ([] : List Int)⟩ : S62) x1 x0))))
theorem ratio_signed_plus.monos : ∀ k, (∀ y4 y3 y2, LeO (ratio_signed_plus.j0 k y4 y3 y2) (ratio_signed_plus.j0 (k + 1) y4 y3 y2))
  | 0 => fun _ _ _ => leo_none
  | k + 1 => by
    have I := ratio_signed_plus.monos k
    · intro y4 y3 y2
      rw [ratio_signed_plus.j0, ratio_signed_plus.j0]
      exact leo_bind (nat_Sub.mono k _ _) (fun _ => leo_refl)
theorem ratio_signed_plus.mono (k : Nat) (x0 : S62) (x1 : S62) : LeO (ratio_signed_plus.f k x0 x1) (ratio_signed_plus.f (k + 1) x0 x1) := leo_ite (leo_bind (nat_Add.mono k _ _) (fun _ => leo_refl)) (leo_bind (nat_Compare.mono k _ _) (fun _ => leo_ite ((ratio_signed_plus.monos k) _ _ _) ((ratio_signed_plus.monos k) _ _ _)))
noncomputable def b37 : Code := bodyOf Tryd.f37
def F37 : Fr := ⟨0, 46, 1, [], 37⟩
def ratio_signed_plus.j0S (y4 : S62) (y3 : S62) (y2 : S62) : St := ⟨upd (upd (upd (fun _ => .no) 4 (.one (.pt 4 0))) 3 (.one (.pt 3 0))) 2 (.one (.pt 2 0)), upd (upd (upd noOb 2 (some (.var [.p none (pB y2.f0), .p none (.sl 1 (y2.f1.map e78))]))) 3 (some (.var [.p none (pB y3.f0), .p none (.sl 1 (y3.f1.map e78))]))) 4 (some (.var [.p none (pB y4.f0), .p (some 5) (.sl 1 (y4.f1.map e78))])), rtP 10, 10⟩
theorem ratio_signed_plus.all : ∀ k, (∀ y4 y3 y2 r, ratio_signed_plus.j0 k y4 y3 y2 = some r → AtJ C1 F37 (sub [1, 1, 1] b37) [] (some (ratio_signed_plus.j0S y4 y3 y2)) (RetQ C1 [.cell 4 62] [aA [pB r.f0, .sl 1 (r.f1.map e78)]]))
  | 0 => fun _ _ _ r h => (by cases h)
  | k + 1 => by
    have Ij0 := ratio_signed_plus.all k
    · intro y4 y3 y2 r h
      rw [ratio_signed_plus.j0] at h
      rw [atJ_some]
      obtain ⟨t5, h5, h⟩ := bnd h
      have h5c := ((nat_Sub.ok _ _ _ _ h5))
      try simp only [Tf, List.nil_append, List.cons_append, Int.reduceToNat] at h5c
      obtain rfl := Option.some.inj h
      simp only [↓Bp, ↓Bs, Bo, Bh, Ba, Bc, ↓reduceIte, Nat.reduceAdd, Nat.reduceEqDiff, Nat.reduceLT, Nat.reduceLeDiff, Nat.reduceBEq, Nat.reduceMul, Int.reduceLE, Int.reduceLT, Int.reduceEq, Int.reduceToNat, Int.cast_ofNat_Int, reduceCtorEq, G37, Tf, b37, ↓Tryd.f37, F37, TY, H37, callP_eq h5c, ratio_signed_plus.j0S]
theorem ratio_signed_plus.ok (k : Nat) (x0 : S62) (x1 : S62) (r : S62) (h : ratio_signed_plus.f k x0 x1 = some r) : Ret C1 37 [(true, [.sc (.bool x0.f0), .sl 1 (x0.f1.map e78)]), (true, [.sc (.bool x1.f0), .sl 1 (x1.f1.map e78)])] [aA [pB r.f0, .sl 1 (r.f1.map e78)]] := by
  refine ret_of (c := b37) Tryd.func37 rfl rfl ⟨Nat.le_of_ble_eq_true rfl, Nat.le_of_ble_eq_true rfl⟩ ?_
  unfold ratio_signed_plus.f at h
  rw [show Tryd.f37.results.toList = [.cell 4 62] from rfl]
  rw [show Tryd.f37.ntmps = 46 from rfl]
  have Ij0 := ratio_signed_plus.all k
  by_cases h1 : (x0.f0 == x1.f0) = true
  · rw [if_pos h1] at h
    obtain ⟨t2, h2, h⟩ := bnd h
    have h2c := ((nat_Add.ok _ _ _ _ h2))
    try simp only [Tf, List.nil_append, List.cons_append, Int.reduceToNat, h1] at h2c
    obtain rfl := Option.some.inj h
    simp only [↓Bp, ↓Bs, Bo, Bh, Ba, Bc, ↓reduceIte, Nat.reduceAdd, Nat.reduceEqDiff, Nat.reduceLT, Nat.reduceLeDiff, Nat.reduceBEq, Nat.reduceMul, Int.reduceLE, Int.reduceLT, Int.reduceEq, Int.reduceToNat, Int.cast_ofNat_Int, reduceCtorEq, G37, Tf, b37, ↓Tryd.f37, F37, TY, H37, h1, callP_eq h2c]
  · rw [if_neg h1] at h
    obtain ⟨t3, h3, h⟩ := bnd h
    have h3c := ((nat_Compare.ok _ _ _ _ h3))
    try simp only [Tf, List.nil_append, List.cons_append, Int.reduceToNat, h1] at h3c
    by_cases h4 : t3 < 0
    · rw [if_pos h4] at h
      simp only [↓Bp, ↓Bs, Bo, Bh, Ba, Bc, ↓reduceIte, Nat.reduceAdd, Nat.reduceEqDiff, Nat.reduceLT, Nat.reduceLeDiff, Nat.reduceBEq, Nat.reduceMul, Int.reduceLE, Int.reduceLT, Int.reduceEq, Int.reduceToNat, Int.cast_ofNat_Int, reduceCtorEq, G37, Tf, b37, ↓Tryd.f37, F37, TY, H37, h1, callP_eq h3c, h4]
      refine AtJ.eq (Ij0 _ _ _ _ h) ?_
      simp only [Tf, Int.reduceToNat, Int.toNat_natCast, ratio_signed_plus.j0S, h1]
    · rw [if_neg h4] at h
      simp only [↓Bp, ↓Bs, Bo, Bh, Ba, Bc, ↓reduceIte, Nat.reduceAdd, Nat.reduceEqDiff, Nat.reduceLT, Nat.reduceLeDiff, Nat.reduceBEq, Nat.reduceMul, Int.reduceLE, Int.reduceLT, Int.reduceEq, Int.reduceToNat, Int.cast_ofNat_Int, reduceCtorEq, G37, Tf, b37, ↓Tryd.f37, F37, TY, H37, h1, callP_eq h3c, h4]
      refine AtJ.eq (Ij0 _ _ _ _ h) ?_
      simp only [Tf, Int.reduceToNat, Int.toNat_natCast, ratio_signed_plus.j0S, h1]
def ratio_folded_ratio_signed_s0.l0 : Nat → List S62 → Int → Int → S62 → S62 → Option S62
  | 0, _, _, _, _, _ => none
  | k + 1, x9, x10, x11, y6, y4 => (if x11 < x10 then (if 0 ≤ x11 then (if x11 < (x9.length : Int) then ((ratio_signed_plus.f k y4 (x9.getD ((x11 : Int).toNat) z62)).bind fun t4 => (ratio_folded_ratio_signed_s0.l0 k x9 x10 (wrap64 (x11 + 1)) y6 t4)) else none) else none) else (some y4))
def ratio_folded_ratio_signed_s0.f (k : Nat) (x1 : S62) (x2 : List S62) : Option S62 := (ratio_folded_ratio_signed_s0.l0 k x2 (x2.length : Int) 0 (⟨false, ([] : List Int)⟩ : S62) x1)
theorem ratio_folded_ratio_signed_s0.monos : ∀ k, (∀ x9 x10 x11 y6 y4, LeO (ratio_folded_ratio_signed_s0.l0 k x9 x10 x11 y6 y4) (ratio_folded_ratio_signed_s0.l0 (k + 1) x9 x10 x11 y6 y4))
  | 0 => fun _ _ _ _ _ => leo_none
  | k + 1 => by
    have I := ratio_folded_ratio_signed_s0.monos k
    · intro x9 x10 x11 y6 y4
      rw [ratio_folded_ratio_signed_s0.l0, ratio_folded_ratio_signed_s0.l0]
      exact leo_ite (leo_if (leo_if (leo_bind (ratio_signed_plus.mono k _ _) (fun _ => I _ _ _ _ _)))) (leo_refl)
theorem ratio_folded_ratio_signed_s0.mono (k : Nat) (x1 : S62) (x2 : List S62) : LeO (ratio_folded_ratio_signed_s0.f k x1 x2) (ratio_folded_ratio_signed_s0.f (k + 1) x1 x2) := (ratio_folded_ratio_signed_s0.monos k) _ _ _ _ _
noncomputable def b36 : Code := bodyOf Tryd.f36
def F36 : Fr := ⟨0, 21, 1, [], 36⟩
def ratio_folded_ratio_signed_s0.l0S (x9 : List S62) (x10 : Int) (x11 : Int) (y6 : S62) (y4 : S62) : St := ⟨upd (upd (upd (upd (upd (upd (fun _ => .no) 11 (.one (.p none (pI .i64 x11)))) 10 (.one (.p none (pI .i64 x10)))) 9 (.one (.p none (.sl 2 (x9.map e62))))) 6 (.one (.pt 6 0))) 4 (.one (.pt 4 0))) 0 (.one (.p none (.fn 37 []))), upd (upd noOb 4 (some (.var [.p none (pB y4.f0), .p none (.sl 1 (y4.f1.map e78))]))) 6 (some (.var [.p none (pB y6.f0), .p (some 8) (.sl 1 (y6.f1.map e78))])), rtP 11, 11⟩
theorem ratio_folded_ratio_signed_s0.all : ∀ k, (∀ x9 x10 x11 y6 y4 r, ratio_folded_ratio_signed_s0.l0 k x9 x10 x11 y6 y4 = some r → AtL C1 F36 (sub [1, 0, 1, 0, 0] b36) [.blk 0, .code (sub [1, 1] b36)] (some (ratio_folded_ratio_signed_s0.l0S x9 x10 x11 y6 y4)) (RetQ C1 [.cell 6 62] [aA [pB r.f0, .sl 1 (r.f1.map e78)]]))
  | 0 => fun _ _ _ _ _ r h => (by cases h)
  | k + 1 => by
    have Il0 := ratio_folded_ratio_signed_s0.all k
    · intro x9 x10 x11 y6 y4 r h
      rw [ratio_folded_ratio_signed_s0.l0] at h
      rw [atL_some]
      by_cases h1 : x11 < x10
      · rw [if_pos h1] at h
        obtain ⟨h2, h⟩ := ifn h
        obtain ⟨h3, h⟩ := ifn h
        have h3r := fun (q : 0 ≤ x11) => rd_at (l := x9) (i := x11) z62 q h3
        replace h3r := h3r (by omega)
        obtain ⟨t4, h4, h⟩ := bnd h
        have h4c := ((ratio_signed_plus.ok _ _ _ _ h4))
        try simp only [Tf, List.nil_append, List.cons_append, Int.reduceToNat] at h4c
        simp only [↓Bp, ↓Bs, Bo, Bh, Ba, Bc, ↓reduceIte, Nat.reduceAdd, Nat.reduceEqDiff, Nat.reduceLT, Nat.reduceLeDiff, Nat.reduceBEq, Nat.reduceMul, Int.reduceLE, Int.reduceLT, Int.reduceEq, Int.reduceToNat, Int.cast_ofNat_Int, reduceCtorEq, G36, Tf, b36, ↓Tryd.f36, F36, TY, H36, h1, h2, h3, h3r, callP_eq h4c, ratio_folded_ratio_signed_s0.l0S]
        refine AtL.eq (Il0 _ _ _ _ _ _ h) ?_
        simp only [Tf, Int.reduceToNat, Int.toNat_natCast, ratio_folded_ratio_signed_s0.l0S]
      · rw [if_neg h1] at h
        obtain rfl := Option.some.inj h
        simp only [↓Bp, ↓Bs, Bo, Bh, Ba, Bc, ↓reduceIte, Nat.reduceAdd, Nat.reduceEqDiff, Nat.reduceLT, Nat.reduceLeDiff, Nat.reduceBEq, Nat.reduceMul, Int.reduceLE, Int.reduceLT, Int.reduceEq, Int.reduceToNat, Int.cast_ofNat_Int, reduceCtorEq, G36, Tf, b36, ↓Tryd.f36, F36, TY, H36, h1, ratio_folded_ratio_signed_s0.l0S]
theorem ratio_folded_ratio_signed_s0.ok (k : Nat) (x1 : S62) (x2 : List S62) (r : S62) (h : ratio_folded_ratio_signed_s0.f k x1 x2 = some r) : Ret C1 36 [(false, [.fn 37 []]), (true, [.sc (.bool x1.f0), .sl 1 (x1.f1.map e78)]), (false, [.sl 2 (x2.map e62)])] [aA [pB r.f0, .sl 1 (r.f1.map e78)]] := by
  refine ret_of (c := b36) Tryd.func36 rfl rfl ⟨Nat.le_of_ble_eq_true rfl, Nat.le_of_ble_eq_true rfl⟩ ?_
  unfold ratio_folded_ratio_signed_s0.f at h
  rw [show Tryd.f36.results.toList = [.cell 6 62] from rfl]
  rw [show Tryd.f36.ntmps = 21 from rfl]
  have Il0 := ratio_folded_ratio_signed_s0.all k
  simp only [↓Bp, ↓Bs, Bo, Bh, Ba, Bc, ↓reduceIte, Nat.reduceAdd, Nat.reduceEqDiff, Nat.reduceLT, Nat.reduceLeDiff, Nat.reduceBEq, Nat.reduceMul, Int.reduceLE, Int.reduceLT, Int.reduceEq, Int.reduceToNat, Int.cast_ofNat_Int, reduceCtorEq, G36, Tf, b36, ↓Tryd.f36, F36, TY, H36]
  refine AtL.eq (Il0 _ _ _ _ _ _ h) ?_
  simp only [Tf, Int.reduceToNat, Int.toNat_natCast, ratio_folded_ratio_signed_s0.l0S]
def ratio_folded_ratio_signed_s1.l0 : Nat → List S62 → Int → Int → S62 → S62 → Option S62
  | 0, _, _, _, _, _ => none
  | k + 1, x9, x10, x11, y6, y4 => (if x11 < x10 then (if 0 ≤ x11 then (if x11 < (x9.length : Int) then ((ratio_signed_times.f k y4 (x9.getD ((x11 : Int).toNat) z62)).bind fun t4 => (ratio_folded_ratio_signed_s1.l0 k x9 x10 (wrap64 (x11 + 1)) y6 t4)) else none) else none) else (some y4))
def ratio_folded_ratio_signed_s1.f (k : Nat) (x1 : S62) (x2 : List S62) : Option S62 := (ratio_folded_ratio_signed_s1.l0 k x2 (x2.length : Int) 0 (⟨false, ([] : List Int)⟩ : S62) x1)
theorem ratio_folded_ratio_signed_s1.monos : ∀ k, (∀ x9 x10 x11 y6 y4, LeO (ratio_folded_ratio_signed_s1.l0 k x9 x10 x11 y6 y4) (ratio_folded_ratio_signed_s1.l0 (k + 1) x9 x10 x11 y6 y4))
  | 0 => fun _ _ _ _ _ => leo_none
  | k + 1 => by
    have I := ratio_folded_ratio_signed_s1.monos k
    · intro x9 x10 x11 y6 y4
      rw [ratio_folded_ratio_signed_s1.l0, ratio_folded_ratio_signed_s1.l0]
      exact leo_ite (leo_if (leo_if (leo_bind (ratio_signed_times.mono k _ _) (fun _ => I _ _ _ _ _)))) (leo_refl)
theorem ratio_folded_ratio_signed_s1.mono (k : Nat) (x1 : S62) (x2 : List S62) : LeO (ratio_folded_ratio_signed_s1.f k x1 x2) (ratio_folded_ratio_signed_s1.f (k + 1) x1 x2) := (ratio_folded_ratio_signed_s1.monos k) _ _ _ _ _
def ratio_folded_ratio_signed_s1.l0S (x9 : List S62) (x10 : Int) (x11 : Int) (y6 : S62) (y4 : S62) : St := ⟨upd (upd (upd (upd (upd (upd (fun _ => .no) 11 (.one (.p none (pI .i64 x11)))) 10 (.one (.p none (pI .i64 x10)))) 9 (.one (.p none (.sl 2 (x9.map e62))))) 6 (.one (.pt 6 0))) 4 (.one (.pt 4 0))) 0 (.one (.p none (.fn 34 []))), upd (upd noOb 4 (some (.var [.p none (pB y4.f0), .p none (.sl 1 (y4.f1.map e78))]))) 6 (some (.var [.p none (pB y6.f0), .p (some 8) (.sl 1 (y6.f1.map e78))])), rtP 11, 11⟩
theorem ratio_folded_ratio_signed_s1.all : ∀ k, (∀ x9 x10 x11 y6 y4 r, ratio_folded_ratio_signed_s1.l0 k x9 x10 x11 y6 y4 = some r → AtL C1 F36 (sub [1, 0, 1, 0, 0] b36) [.blk 0, .code (sub [1, 1] b36)] (some (ratio_folded_ratio_signed_s1.l0S x9 x10 x11 y6 y4)) (RetQ C1 [.cell 6 62] [aA [pB r.f0, .sl 1 (r.f1.map e78)]]))
  | 0 => fun _ _ _ _ _ r h => (by cases h)
  | k + 1 => by
    have Il0 := ratio_folded_ratio_signed_s1.all k
    · intro x9 x10 x11 y6 y4 r h
      rw [ratio_folded_ratio_signed_s1.l0] at h
      rw [atL_some]
      by_cases h1 : x11 < x10
      · rw [if_pos h1] at h
        obtain ⟨h2, h⟩ := ifn h
        obtain ⟨h3, h⟩ := ifn h
        have h3r := fun (q : 0 ≤ x11) => rd_at (l := x9) (i := x11) z62 q h3
        replace h3r := h3r (by omega)
        obtain ⟨t4, h4, h⟩ := bnd h
        have h4c := ((ratio_signed_times.ok _ _ _ _ h4))
        try simp only [Tf, List.nil_append, List.cons_append, Int.reduceToNat] at h4c
        simp only [↓Bp, ↓Bs, Bo, Bh, Ba, Bc, ↓reduceIte, Nat.reduceAdd, Nat.reduceEqDiff, Nat.reduceLT, Nat.reduceLeDiff, Nat.reduceBEq, Nat.reduceMul, Int.reduceLE, Int.reduceLT, Int.reduceEq, Int.reduceToNat, Int.cast_ofNat_Int, reduceCtorEq, G36, Tf, b36, ↓Tryd.f36, F36, TY, H36, h1, h2, h3, h3r, callP_eq h4c, ratio_folded_ratio_signed_s1.l0S]
        refine AtL.eq (Il0 _ _ _ _ _ _ h) ?_
        simp only [Tf, Int.reduceToNat, Int.toNat_natCast, ratio_folded_ratio_signed_s1.l0S]
      · rw [if_neg h1] at h
        obtain rfl := Option.some.inj h
        simp only [↓Bp, ↓Bs, Bo, Bh, Ba, Bc, ↓reduceIte, Nat.reduceAdd, Nat.reduceEqDiff, Nat.reduceLT, Nat.reduceLeDiff, Nat.reduceBEq, Nat.reduceMul, Int.reduceLE, Int.reduceLT, Int.reduceEq, Int.reduceToNat, Int.cast_ofNat_Int, reduceCtorEq, G36, Tf, b36, ↓Tryd.f36, F36, TY, H36, h1, ratio_folded_ratio_signed_s1.l0S]
theorem ratio_folded_ratio_signed_s1.ok (k : Nat) (x1 : S62) (x2 : List S62) (r : S62) (h : ratio_folded_ratio_signed_s1.f k x1 x2 = some r) : Ret C1 36 [(false, [.fn 34 []]), (true, [.sc (.bool x1.f0), .sl 1 (x1.f1.map e78)]), (false, [.sl 2 (x2.map e62)])] [aA [pB r.f0, .sl 1 (r.f1.map e78)]] := by
  refine ret_of (c := b36) Tryd.func36 rfl rfl ⟨Nat.le_of_ble_eq_true rfl, Nat.le_of_ble_eq_true rfl⟩ ?_
  unfold ratio_folded_ratio_signed_s1.f at h
  rw [show Tryd.f36.results.toList = [.cell 6 62] from rfl]
  rw [show Tryd.f36.ntmps = 21 from rfl]
  have Il0 := ratio_folded_ratio_signed_s1.all k
  simp only [↓Bp, ↓Bs, Bo, Bh, Ba, Bc, ↓reduceIte, Nat.reduceAdd, Nat.reduceEqDiff, Nat.reduceLT, Nat.reduceLeDiff, Nat.reduceBEq, Nat.reduceMul, Int.reduceLE, Int.reduceLT, Int.reduceEq, Int.reduceToNat, Int.cast_ofNat_Int, reduceCtorEq, G36, Tf, b36, ↓Tryd.f36, F36, TY, H36]
  refine AtL.eq (Il0 _ _ _ _ _ _ h) ?_
  simp only [Tf, Int.reduceToNat, Int.toNat_natCast, ratio_folded_ratio_signed_s1.l0S]
def ratio_product.l0 : Nat → List Int → List S62 → List (List Int) → Int → Int → Option (List Int)
  | 0, _, _, _, _, _ => none
  | k + 1, x0, x5, x9, x10, x11 => (if x11 < x10 then (if 0 ≤ x11 then (if x11 < (x9.length : Int) then (if x5.length + 1 ≤ 16777216 then (ratio_product.l0 k x0 (x5 ++ [(⟨false, (x9.getD ((x11 : Int).toNat) ([] : List Int))⟩ : S62)]) x9 x10 (wrap64 (x11 + 1))) else none) else none) else none) else ((ratio_folded_ratio_signed_s1.f k (⟨false, x0⟩ : S62) x5).bind fun t5 => (some t5.f1)))
def ratio_product.f (k : Nat) (x0 : List Int) (x1 : List (List Int)) : Option (List Int) := (ratio_product.l0 k x0 ([] : List S62) x1 (x1.length : Int) 0)
theorem ratio_product.monos : ∀ k, (∀ x0 x5 x9 x10 x11, LeO (ratio_product.l0 k x0 x5 x9 x10 x11) (ratio_product.l0 (k + 1) x0 x5 x9 x10 x11))
  | 0 => fun _ _ _ _ _ => leo_none
  | k + 1 => by
    have I := ratio_product.monos k
    · intro x0 x5 x9 x10 x11
      rw [ratio_product.l0, ratio_product.l0]
      exact leo_ite (leo_if (leo_if (leo_if (I _ _ _ _ _)))) (leo_bind (ratio_folded_ratio_signed_s1.mono k _ _) (fun _ => leo_refl))
theorem ratio_product.mono (k : Nat) (x0 : List Int) (x1 : List (List Int)) : LeO (ratio_product.f k x0 x1) (ratio_product.f (k + 1) x0 x1) := (ratio_product.monos k) _ _ _ _ _
noncomputable def b38 : Code := bodyOf Tryd.f38
def F38 : Fr := ⟨0, 26, 1, [], 38⟩
def ratio_product.l0S (x0 : List Int) (x5 : List S62) (x9 : List (List Int)) (x10 : Int) (x11 : Int) : St := ⟨upd (upd (upd (upd (upd (fun _ => .no) 11 (.one (.p none (pI .i64 x11)))) 10 (.one (.p none (pI .i64 x10)))) 9 (.one (.p none (.sl 1 (x9.map e29))))) 5 (.one (.p (some 2) (.sl 2 (x5.map e62))))) 0 (.one (.p none (.sl 1 (x0.map e78)))), noOb, rtP 6, 6⟩
theorem ratio_product.all : ∀ k, (∀ x0 x5 x9 x10 x11 r, ratio_product.l0 k x0 x5 x9 x10 x11 = some r → AtL C1 F38 (sub [1, 1, 0, 1, 0, 0] b38) [.blk 0, .code (sub [1, 1, 1] b38)] (some (ratio_product.l0S x0 x5 x9 x10 x11)) (RetQ C1 [.tmp 4] [aV [.sl 1 (r.map e78)]]))
  | 0 => fun _ _ _ _ _ r h => (by cases h)
  | k + 1 => by
    have Il0 := ratio_product.all k
    · intro x0 x5 x9 x10 x11 r h
      rw [ratio_product.l0] at h
      rw [atL_some]
      by_cases h1 : x11 < x10
      · rw [if_pos h1] at h
        obtain ⟨h2, h⟩ := ifn h
        obtain ⟨h3, h⟩ := ifn h
        have h3r := fun (q : 0 ≤ x11) => rd_at (l := x9) (i := x11) ([] : List Int) q h3
        replace h3r := h3r (by omega)
        obtain ⟨h4, h⟩ := ifn h
        simp only [↓Bp, ↓Bs, Bo, Bh, Ba, Bc, ↓reduceIte, Nat.reduceAdd, Nat.reduceEqDiff, Nat.reduceLT, Nat.reduceLeDiff, Nat.reduceBEq, Nat.reduceMul, Int.reduceLE, Int.reduceLT, Int.reduceEq, Int.reduceToNat, Int.cast_ofNat_Int, reduceCtorEq, G38, Tf, b38, ↓Tryd.f38, F38, TY, H38, h1, h2, h3, h3r, h4, ratio_product.l0S]
        refine AtL.eq (Il0 _ _ _ _ _ _ h) ?_
        simp only [Tf, Int.reduceToNat, Int.toNat_natCast, ratio_product.l0S]
      · rw [if_neg h1] at h
        obtain ⟨t5, h5, h⟩ := bnd h
        have h5c := ((ratio_folded_ratio_signed_s1.ok _ _ _ _ h5))
        try simp only [Tf, List.nil_append, List.cons_append, Int.reduceToNat] at h5c
        obtain rfl := Option.some.inj h
        simp only [↓Bp, ↓Bs, Bo, Bh, Ba, Bc, ↓reduceIte, Nat.reduceAdd, Nat.reduceEqDiff, Nat.reduceLT, Nat.reduceLeDiff, Nat.reduceBEq, Nat.reduceMul, Int.reduceLE, Int.reduceLT, Int.reduceEq, Int.reduceToNat, Int.cast_ofNat_Int, reduceCtorEq, G38, Tf, b38, ↓Tryd.f38, F38, TY, H38, h1, callP_eq h5c, ratio_product.l0S]
theorem ratio_product.ok (k : Nat) (x0 : List Int) (x1 : List (List Int)) (r : List Int) (h : ratio_product.f k x0 x1 = some r) : Ret C1 38 [(false, [.sl 1 (x0.map e78)]), (false, [.sl 1 (x1.map e29)])] [aV [.sl 1 (r.map e78)]] := by
  refine ret_of (c := b38) Tryd.func38 rfl rfl ⟨Nat.le_of_ble_eq_true rfl, Nat.le_of_ble_eq_true rfl⟩ ?_
  unfold ratio_product.f at h
  rw [show Tryd.f38.results.toList = [.tmp 4] from rfl]
  rw [show Tryd.f38.ntmps = 26 from rfl]
  have Il0 := ratio_product.all k
  simp only [↓Bp, ↓Bs, Bo, Bh, Ba, Bc, ↓reduceIte, Nat.reduceAdd, Nat.reduceEqDiff, Nat.reduceLT, Nat.reduceLeDiff, Nat.reduceBEq, Nat.reduceMul, Int.reduceLE, Int.reduceLT, Int.reduceEq, Int.reduceToNat, Int.cast_ofNat_Int, reduceCtorEq, G38, Tf, b38, ↓Tryd.f38, F38, TY, H38]
  refine AtL.eq (Il0 _ _ _ _ _ _ h) ?_
  simp only [Tf, Int.reduceToNat, Int.toNat_natCast, ratio_product.l0S]
def nat_DivMod.j0 : Nat → List Int → List Int → Bool → Option ((List Int) × (List Int) × Int)
  | 0, _, _, _ => none
  | k + 1, x0, x1, x9 => (if x9 = true then (some (([] : List Int), ([] : List Int), 1)) else (if (x1.length : Int) = 0 then (some (([] : List Int), ([] : List Int), 10)) else ((nat_divmod.f k x0 x1).bind fun t6 => (some (t6.1, t6.2, 0)))))
def nat_DivMod.f (k : Nat) (x0 : List Int) (x1 : List Int) : Option ((List Int) × (List Int) × Int) := ((nat_Right.f x0).bind fun t1 => (if t1 = true then ((nat_Right.f x1).bind fun t3 => (nat_DivMod.j0 k x0 x1 (!t3))) else (nat_DivMod.j0 k x0 x1 true)))
theorem nat_DivMod.monos : ∀ k, (∀ x0 x1 x9, LeO (nat_DivMod.j0 k x0 x1 x9) (nat_DivMod.j0 (k + 1) x0 x1 x9))
  | 0 => fun _ _ _ => leo_none
  | k + 1 => by
    have I := nat_DivMod.monos k
    · intro x0 x1 x9
      rw [nat_DivMod.j0, nat_DivMod.j0]
      exact leo_ite (leo_refl) (leo_ite (leo_refl) (leo_bind (nat_divmod.mono k _ _) (fun _ => leo_refl)))
theorem nat_DivMod.mono (k : Nat) (x0 : List Int) (x1 : List Int) : LeO (nat_DivMod.f k x0 x1) (nat_DivMod.f (k + 1) x0 x1) := leo_bind leo_refl (fun _ => leo_ite (leo_bind leo_refl (fun _ => (nat_DivMod.monos k) _ _ _)) ((nat_DivMod.monos k) _ _ _))
noncomputable def b56 : Code := bodyOf Tryd.f56
def F56 : Fr := ⟨0, 30, 1, [], 56⟩
def nat_DivMod.j0S (x0 : List Int) (x1 : List Int) (x9 : Bool) : St := ⟨upd (upd (upd (fun _ => .no) 9 (.one (.p none (pB x9)))) 1 (.one (.p none (.sl 1 (x1.map e78))))) 0 (.one (.p none (.sl 1 (x0.map e78)))), noOb, rtP 4, 4⟩
theorem nat_DivMod.all : ∀ k, (∀ x0 x1 x9 r, nat_DivMod.j0 k x0 x1 x9 = some r → AtJ C1 F56 (sub [1, 0, 0, 1] b56) [.blk 0, .code (sub [1, 1] b56)] (some (nat_DivMod.j0S x0 x1 x9)) (RetQ C1 [.tmp 4, .tmp 5, .tmp 6] [aV [.sl 1 (r.1.map e78)], aV [.sl 1 (r.2.1.map e78)], aV [pI .i64 r.2.2]]))
  | 0 => fun _ _ _ r h => (by cases h)
  | k + 1 => by
    have Ij0 := nat_DivMod.all k
    · intro x0 x1 x9 r h
      rw [nat_DivMod.j0] at h
      rw [atJ_some]
      by_cases h4 : x9 = true
      · rw [if_pos h4] at h
        obtain rfl := Option.some.inj h
        simp only [↓Bp, ↓Bs, Bo, Bh, Ba, Bc, ↓reduceIte, Nat.reduceAdd, Nat.reduceEqDiff, Nat.reduceLT, Nat.reduceLeDiff, Nat.reduceBEq, Nat.reduceMul, Int.reduceLE, Int.reduceLT, Int.reduceEq, Int.reduceToNat, Int.cast_ofNat_Int, reduceCtorEq, G56, Tf, b56, ↓Tryd.f56, F56, TY, H56, h4, nat_DivMod.j0S]
      · rw [if_neg h4] at h
        by_cases h5 : (x1.length : Int) = 0
        · rw [if_pos h5] at h
          obtain rfl := Option.some.inj h
          simp only [↓Bp, ↓Bs, Bo, Bh, Ba, Bc, ↓reduceIte, Nat.reduceAdd, Nat.reduceEqDiff, Nat.reduceLT, Nat.reduceLeDiff, Nat.reduceBEq, Nat.reduceMul, Int.reduceLE, Int.reduceLT, Int.reduceEq, Int.reduceToNat, Int.cast_ofNat_Int, reduceCtorEq, G56, Tf, b56, ↓Tryd.f56, F56, TY, H56, h4, eq_true h5, nat_DivMod.j0S]
        · rw [if_neg h5] at h
          obtain ⟨t6, h6, h⟩ := bnd h
          have h6c := ((nat_divmod.ok _ _ _ _ h6))
          try simp only [Tf, List.nil_append, List.cons_append, Int.reduceToNat, h4] at h6c
          obtain rfl := Option.some.inj h
          simp only [↓Bp, ↓Bs, Bo, Bh, Ba, Bc, ↓reduceIte, Nat.reduceAdd, Nat.reduceEqDiff, Nat.reduceLT, Nat.reduceLeDiff, Nat.reduceBEq, Nat.reduceMul, Int.reduceLE, Int.reduceLT, Int.reduceEq, Int.reduceToNat, Int.cast_ofNat_Int, reduceCtorEq, G56, Tf, b56, ↓Tryd.f56, F56, TY, H56, h4, h5, callP_eq h6c, nat_DivMod.j0S]
theorem nat_DivMod.ok (k : Nat) (x0 : List Int) (x1 : List Int) (r : (List Int) × (List Int) × Int) (h : nat_DivMod.f k x0 x1 = some r) : Ret C1 56 [(false, [.sl 1 (x0.map e78)]), (false, [.sl 1 (x1.map e78)])] [aV [.sl 1 (r.1.map e78)], aV [.sl 1 (r.2.1.map e78)], aV [pI .i64 r.2.2]] := by
  refine ret_of (c := b56) Tryd.func56 rfl rfl ⟨Nat.le_of_ble_eq_true rfl, Nat.le_of_ble_eq_true rfl⟩ ?_
  unfold nat_DivMod.f at h
  rw [show Tryd.f56.results.toList = [.tmp 4, .tmp 5, .tmp 6] from rfl]
  rw [show Tryd.f56.ntmps = 30 from rfl]
  have Ij0 := nat_DivMod.all k
  obtain ⟨t1, h1, h⟩ := bnd h
  have h1c := ((nat_Right.ok _ _ h1))
  try simp only [Tf, List.nil_append, List.cons_append, Int.reduceToNat] at h1c
  by_cases h2 : t1 = true
  · rw [if_pos h2] at h
    try simp only [h2] at h1c
    obtain ⟨t3, h3, h⟩ := bnd h
    have h3c := ((nat_Right.ok _ _ h3))
    try simp only [Tf, List.nil_append, List.cons_append, Int.reduceToNat, h2] at h3c
    simp only [↓Bp, ↓Bs, Bo, Bh, Ba, Bc, ↓reduceIte, Nat.reduceAdd, Nat.reduceEqDiff, Nat.reduceLT, Nat.reduceLeDiff, Nat.reduceBEq, Nat.reduceMul, Int.reduceLE, Int.reduceLT, Int.reduceEq, Int.reduceToNat, Int.cast_ofNat_Int, reduceCtorEq, G56, Tf, b56, ↓Tryd.f56, F56, TY, H56, callP_eq h1c, h2, callP_eq h3c]
    refine AtJ.eq (Ij0 _ _ _ _ h) ?_
    simp only [Tf, Int.reduceToNat, Int.toNat_natCast, nat_DivMod.j0S, h2]
  · rw [if_neg h2] at h
    try simp only [h2] at h1c
    simp only [↓Bp, ↓Bs, Bo, Bh, Ba, Bc, ↓reduceIte, Nat.reduceAdd, Nat.reduceEqDiff, Nat.reduceLT, Nat.reduceLeDiff, Nat.reduceBEq, Nat.reduceMul, Int.reduceLE, Int.reduceLT, Int.reduceEq, Int.reduceToNat, Int.cast_ofNat_Int, reduceCtorEq, G56, Tf, b56, ↓Tryd.f56, F56, TY, H56, callP_eq h1c, h2]
    refine AtJ.eq (Ij0 _ _ _ _ h) ?_
    simp only [Tf, Int.reduceToNat, Int.toNat_natCast, nat_DivMod.j0S, h2]
def ratio_made.j0 : Nat → List Int → List Int → Bool → S31 → S62 → Option (S31 × Int)
  | 0, _, _, _, _, _ => none
  | k + 1, x8, x11, x43, y4, y2 => (if x43 = true then (some ((⟨false, ([] : List Int), ([] : List Int)⟩ : S31), 4)) else (if y2.f0 = true then (some ((⟨(decide (0 < (x8.length : Int))), x8, x11⟩ : S31), 0)) else (some ((⟨false, x8, x11⟩ : S31), 0))))
def ratio_made.f (k : Nat) (x0 : S62) (x1 : List Int) : Option (S31 × Int) := ((nat_Gcd.f k x0.f1 x1).bind fun t1 => ((nat_DivMod.f k x0.f1 t1.1).bind fun t2 => ((nat_DivMod.f k x1 t1.1).bind fun t3 => (if 64 < (t2.1.length : Int) then (ratio_made.j0 k t2.1 t3.1 true (⟨false, ([] : List Int), ([] : List Int)⟩ : S31) x0) else (ratio_made.j0 k t2.1 t3.1 (decide (64 < (t3.1.length : Int))) (⟨false, ([] : List Int), ([] : List Int)⟩ : S31) x0)))))
theorem ratio_made.monos : ∀ k, (∀ x8 x11 x43 y4 y2, LeO (ratio_made.j0 k x8 x11 x43 y4 y2) (ratio_made.j0 (k + 1) x8 x11 x43 y4 y2))
  | 0 => fun _ _ _ _ _ => leo_none
  | k + 1 => by
    have I := ratio_made.monos k
    · intro x8 x11 x43 y4 y2
      rw [ratio_made.j0, ratio_made.j0]
      exact leo_ite (leo_refl) (leo_ite (leo_refl) (leo_refl))
theorem ratio_made.mono (k : Nat) (x0 : S62) (x1 : List Int) : LeO (ratio_made.f k x0 x1) (ratio_made.f (k + 1) x0 x1) := leo_bind (nat_Gcd.mono k _ _) (fun _ => leo_bind (nat_DivMod.mono k _ _) (fun _ => leo_bind (nat_DivMod.mono k _ _) (fun _ => leo_ite ((ratio_made.monos k) _ _ _ _ _) ((ratio_made.monos k) _ _ _ _ _))))
noncomputable def b35 : Code := bodyOf Tryd.f35
def F35 : Fr := ⟨0, 55, 1, [], 35⟩
def ratio_made.j0S (x8 : List Int) (x11 : List Int) (x43 : Bool) (y4 : S31) (y2 : S62) : St := ⟨upd (upd (upd (upd (upd (fun _ => .no) 43 (.one (.p none (pB x43)))) 11 (.one (.p none (.sl 1 (x11.map e78))))) 8 (.one (.p none (.sl 1 (x8.map e78))))) 4 (.one (.pt 4 0))) 2 (.one (.pt 2 0)), upd (upd noOb 2 (some (.var [.p none (pB y2.f0), .p none (.sl 1 (y2.f1.map e78))]))) 4 (some (.var [.p none (pB y4.f0), .p (some 7) (.sl 1 (y4.f1.map e78)), .p (some 8) (.sl 1 (y4.f2.map e78))])), rtP 11, 11⟩
theorem ratio_made.all : ∀ k, (∀ x8 x11 x43 y4 y2 r, ratio_made.j0 k x8 x11 x43 y4 y2 = some r → AtJ C1 F35 (sub [1, 1, 1, 1, 0, 1] b35) [.code (sub [1, 1, 1, 1, 1] b35)] (some (ratio_made.j0S x8 x11 x43 y4 y2)) (RetQ C1 [.cell 4 31, .tmp 5] [aA [pB r.1.f0, .sl 1 (r.1.f1.map e78), .sl 1 (r.1.f2.map e78)], aV [pI .i64 r.2]]))
  | 0 => fun _ _ _ _ _ r h => (by cases h)
  | k + 1 => by
    have Ij0 := ratio_made.all k
    · intro x8 x11 x43 y4 y2 r h
      rw [ratio_made.j0] at h
      rw [atJ_some]
      by_cases h5 : x43 = true
      · rw [if_pos h5] at h
        obtain rfl := Option.some.inj h
        simp only [↓Bp, ↓Bs, Bo, Bh, Ba, Bc, ↓reduceIte, Nat.reduceAdd, Nat.reduceEqDiff, Nat.reduceLT, Nat.reduceLeDiff, Nat.reduceBEq, Nat.reduceMul, Int.reduceLE, Int.reduceLT, Int.reduceEq, Int.reduceToNat, Int.cast_ofNat_Int, reduceCtorEq, G35, Tf, b35, ↓Tryd.f35, F35, TY, H35, h5, ratio_made.j0S]
      · rw [if_neg h5] at h
        by_cases h6 : y2.f0 = true
        · rw [if_pos h6] at h
          obtain rfl := Option.some.inj h
          simp only [↓Bp, ↓Bs, Bo, Bh, Ba, Bc, ↓reduceIte, Nat.reduceAdd, Nat.reduceEqDiff, Nat.reduceLT, Nat.reduceLeDiff, Nat.reduceBEq, Nat.reduceMul, Int.reduceLE, Int.reduceLT, Int.reduceEq, Int.reduceToNat, Int.cast_ofNat_Int, reduceCtorEq, G35, Tf, b35, ↓Tryd.f35, F35, TY, H35, h5, h6, ratio_made.j0S]
        · rw [if_neg h6] at h
          obtain rfl := Option.some.inj h
          simp only [↓Bp, ↓Bs, Bo, Bh, Ba, Bc, ↓reduceIte, Nat.reduceAdd, Nat.reduceEqDiff, Nat.reduceLT, Nat.reduceLeDiff, Nat.reduceBEq, Nat.reduceMul, Int.reduceLE, Int.reduceLT, Int.reduceEq, Int.reduceToNat, Int.cast_ofNat_Int, reduceCtorEq, G35, Tf, b35, ↓Tryd.f35, F35, TY, H35, h5, h6, ratio_made.j0S]
theorem ratio_made.ok (k : Nat) (x0 : S62) (x1 : List Int) (r : S31 × Int) (h : ratio_made.f k x0 x1 = some r) : Ret C1 35 [(true, [.sc (.bool x0.f0), .sl 1 (x0.f1.map e78)]), (false, [.sl 1 (x1.map e78)])] [aA [pB r.1.f0, .sl 1 (r.1.f1.map e78), .sl 1 (r.1.f2.map e78)], aV [pI .i64 r.2]] := by
  refine ret_of (c := b35) Tryd.func35 rfl rfl ⟨Nat.le_of_ble_eq_true rfl, Nat.le_of_ble_eq_true rfl⟩ ?_
  unfold ratio_made.f at h
  rw [show Tryd.f35.results.toList = [.cell 4 31, .tmp 5] from rfl]
  rw [show Tryd.f35.ntmps = 55 from rfl]
  have Ij0 := ratio_made.all k
  obtain ⟨t1, h1, h⟩ := bnd h
  have h1c := ((nat_Gcd.ok _ _ _ _ h1))
  try simp only [Tf, List.nil_append, List.cons_append, Int.reduceToNat] at h1c
  obtain ⟨t2, h2, h⟩ := bnd h
  have h2c := ((nat_DivMod.ok _ _ _ _ h2))
  try simp only [Tf, List.nil_append, List.cons_append, Int.reduceToNat] at h2c
  obtain ⟨t3, h3, h⟩ := bnd h
  have h3c := ((nat_DivMod.ok _ _ _ _ h3))
  try simp only [Tf, List.nil_append, List.cons_append, Int.reduceToNat] at h3c
  by_cases h4 : 64 < (t2.1.length : Int)
  · rw [if_pos h4] at h
    simp only [↓Bp, ↓Bs, Bo, Bh, Ba, Bc, ↓reduceIte, Nat.reduceAdd, Nat.reduceEqDiff, Nat.reduceLT, Nat.reduceLeDiff, Nat.reduceBEq, Nat.reduceMul, Int.reduceLE, Int.reduceLT, Int.reduceEq, Int.reduceToNat, Int.cast_ofNat_Int, reduceCtorEq, G35, Tf, b35, ↓Tryd.f35, F35, TY, H35, callP_eq h1c, callP_eq h2c, callP_eq h3c, h4]
    refine AtJ.eq (Ij0 _ _ _ _ _ _ h) ?_
    simp only [Tf, Int.reduceToNat, Int.toNat_natCast, ratio_made.j0S]
  · rw [if_neg h4] at h
    simp only [↓Bp, ↓Bs, Bo, Bh, Ba, Bc, ↓reduceIte, Nat.reduceAdd, Nat.reduceEqDiff, Nat.reduceLT, Nat.reduceLeDiff, Nat.reduceBEq, Nat.reduceMul, Int.reduceLE, Int.reduceLT, Int.reduceEq, Int.reduceToNat, Int.cast_ofNat_Int, reduceCtorEq, G35, Tf, b35, ↓Tryd.f35, F35, TY, H35, callP_eq h1c, callP_eq h2c, callP_eq h3c, h4]
    refine AtJ.eq (Ij0 _ _ _ _ _ _ h) ?_
    simp only [Tf, Int.reduceToNat, Int.toNat_natCast, ratio_made.j0S]
def ratio_Add.j0 : Nat → Bool → S31 → S31 → S31 → Option (S31 × Int)
  | 0, _, _, _, _ => none
  | k + 1, x15, y4, y3, y2 => (if x15 = true then (some ((⟨false, ([] : List Int), ([] : List Int)⟩ : S31), 1)) else ((ratio_numerator.f y2).bind fun t5 => ((ratio_signed_times.f k t5 (⟨false, y3.f2⟩ : S62)).bind fun t6 => ((ratio_numerator.f y3).bind fun t7 => ((ratio_signed_times.f k t7 (⟨false, y2.f2⟩ : S62)).bind fun t8 => ((ratio_folded_ratio_signed_s0.f k t6 [t8]).bind fun t9 => ((ratio_product.f k y2.f2 [y3.f2]).bind fun t10 => ((ratio_made.f k t9 t10).bind fun t11 => (some (t11.1, t11.2))))))))))
def ratio_Add.f (k : Nat) (x0 : S31) (x1 : S31) : Option (S31 × Int) := ((ratio_Right.f k x0).bind fun t1 => (if t1 = true then ((ratio_Right.f k x1).bind fun t3 => (ratio_Add.j0 k (!t3) (⟨false, ([] : List Int), ([] : List Int)⟩ : S31) x1 x0)) else (ratio_Add.j0 k true (⟨false, ([] : List Int), ([] : List Int)⟩ : S31) x1 x0)))
theorem ratio_Add.monos : ∀ k, (∀ x15 y4 y3 y2, LeO (ratio_Add.j0 k x15 y4 y3 y2) (ratio_Add.j0 (k + 1) x15 y4 y3 y2))
  | 0 => fun _ _ _ _ => leo_none
  | k + 1 => by
    have I := ratio_Add.monos k
    · intro x15 y4 y3 y2
      rw [ratio_Add.j0, ratio_Add.j0]
      exact leo_ite (leo_refl) (leo_bind leo_refl (fun _ => leo_bind (ratio_signed_times.mono k _ _) (fun _ => leo_bind leo_refl (fun _ => leo_bind (ratio_signed_times.mono k _ _) (fun _ => leo_bind (ratio_folded_ratio_signed_s0.mono k _ _) (fun _ => leo_bind (ratio_product.mono k _ _) (fun _ => leo_bind (ratio_made.mono k _ _) (fun _ => leo_refl))))))))
theorem ratio_Add.mono (k : Nat) (x0 : S31) (x1 : S31) : LeO (ratio_Add.f k x0 x1) (ratio_Add.f (k + 1) x0 x1) := leo_bind (ratio_Right.mono k _) (fun _ => leo_ite (leo_bind (ratio_Right.mono k _) (fun _ => (ratio_Add.monos k) _ _ _ _)) ((ratio_Add.monos k) _ _ _ _))
noncomputable def b17 : Code := bodyOf Tryd.f17
def F17 : Fr := ⟨0, 42, 1, [], 17⟩
theorem D17_3 {k : List It} {s : St} {Q : Post} {ops : Array Oper} {us : List Upd} (ha : apart2 [(0, 2), (1, 2), (0, 3), (1, 3), (0, 4), (1, 4), (0, 6), (1, 6), (2, 6), (3, 6), (4, 6), (5, 6)] (loud 0 us.reverse) = true) (hl : lessAll us.length [(0, 2), (1, 2), (0, 3), (1, 3), (0, 4), (1, 4), (0, 6), (1, 6), (2, 6), (3, 6), (4, 6), (5, 6)] = true) : GR C1 ⟨0, 42, 1, [], 17⟩ k Q 3 true ops [] s us = Fin C1 ⟨0, 42, 1, [], 17⟩ k .fall s Q := gr_nilD (F := F17) rfl ha hl
theorem D17_4 {k : List It} {s : St} {Q : Post} {ops : Array Oper} {us : List Upd} (ha : apart2 [(0, 2), (1, 2), (0, 3), (1, 3), (0, 4), (1, 4), (0, 6), (1, 6), (2, 6), (3, 6), (4, 6), (5, 6)] (loud 0 us.reverse) = true) (hl : lessAll us.length [(0, 2), (1, 2), (0, 3), (1, 3), (0, 4), (1, 4), (0, 6), (1, 6), (2, 6), (3, 6), (4, 6), (5, 6)] = true) : GR C1 ⟨0, 42, 1, [], 17⟩ k Q 4 true ops [] s us = Fin C1 ⟨0, 42, 1, [], 17⟩ k .fall s Q := gr_nilD (F := F17) rfl ha hl
theorem D17_5 {k : List It} {s : St} {Q : Post} {ops : Array Oper} {us : List Upd} (ha : apart2 [(0, 1), (0, 2), (0, 4), (1, 4), (2, 4), (3, 4), (0, 5), (1, 5), (2, 5), (3, 5), (0, 6), (1, 6), (2, 6), (3, 6), (4, 6), (5, 6), (0, 7), (1, 7), (2, 7), (3, 7), (4, 7), (5, 7), (0, 8), (1, 8), (2, 8), (3, 8), (4, 8), (5, 8), (11, 12)] (loud 0 us.reverse) = true) (hl : lessAll us.length [(0, 1), (0, 2), (0, 4), (1, 4), (2, 4), (3, 4), (0, 5), (1, 5), (2, 5), (3, 5), (0, 6), (1, 6), (2, 6), (3, 6), (4, 6), (5, 6), (0, 7), (1, 7), (2, 7), (3, 7), (4, 7), (5, 7), (0, 8), (1, 8), (2, 8), (3, 8), (4, 8), (5, 8), (11, 12)] = true) : GR C1 ⟨0, 42, 1, [], 17⟩ k Q 5 true ops [] s us = Fin C1 ⟨0, 42, 1, [], 17⟩ k .fall s Q := gr_nilD (F := F17) rfl ha hl
def ratio_Add.j0S (x15 : Bool) (y4 : S31) (y3 : S31) (y2 : S31) : St := ⟨upd (upd (upd (upd (fun _ => .no) 15 (.one (.p none (pB x15)))) 4 (.one (.pt 4 0))) 3 (.one (.pt 3 0))) 2 (.one (.pt 2 0)), upd (upd (upd noOb 2 (some (.var [.p none (pB y2.f0), .p none (.sl 1 (y2.f1.map e78)), .p none (.sl 1 (y2.f2.map e78))]))) 3 (some (.var [.p none (pB y3.f0), .p none (.sl 1 (y3.f1.map e78)), .p none (.sl 1 (y3.f2.map e78))]))) 4 (some (.var [.p none (pB y4.f0), .p (some 6) (.sl 1 (y4.f1.map e78)), .p (some 7) (.sl 1 (y4.f2.map e78))])), rtP 14, 14⟩
theorem ratio_Add.all : ∀ k, (∀ x15 y4 y3 y2 r, ratio_Add.j0 k x15 y4 y3 y2 = some r → AtJ C1 F17 (sub [1, 0, 1] b17) [.code (sub [1, 1] b17)] (some (ratio_Add.j0S x15 y4 y3 y2)) (RetQ C1 [.cell 4 31, .tmp 5] [aA [pB r.1.f0, .sl 1 (r.1.f1.map e78), .sl 1 (r.1.f2.map e78)], aV [pI .i64 r.2]]))
  | 0 => fun _ _ _ _ r h => (by cases h)
  | k + 1 => by
    have Ij0 := ratio_Add.all k
    · intro x15 y4 y3 y2 r h
      rw [ratio_Add.j0] at h
      rw [atJ_some]
      by_cases h4 : x15 = true
      · rw [if_pos h4] at h
        obtain rfl := Option.some.inj h
        simp only [↓Bp, ↓Bs, Bo, Bh, Ba, Bc, Bd, ↓reduceIte, Nat.reduceAdd, Nat.reduceEqDiff, Nat.reduceLT, Nat.reduceLeDiff, Nat.reduceBEq, Nat.reduceMul, Int.reduceLE, Int.reduceLT, Int.reduceEq, Int.reduceToNat, Int.cast_ofNat_Int, reduceCtorEq, G17, Tf, b17, ↓Tryd.f17, F17, TY, H17, D17_3, D17_4, D17_5, h4, ratio_Add.j0S]
      · rw [if_neg h4] at h
        obtain ⟨t5, h5, h⟩ := bnd h
        have h5c := ((ratio_numerator.ok _ _ h5))
        try simp only [Tf, List.nil_append, List.cons_append, Int.reduceToNat, h4] at h5c
        obtain ⟨t6, h6, h⟩ := bnd h
        have h6c := ((ratio_signed_times.ok _ _ _ _ h6))
        try simp only [Tf, List.nil_append, List.cons_append, Int.reduceToNat, h4] at h6c
        obtain ⟨t7, h7, h⟩ := bnd h
        have h7c := ((ratio_numerator.ok _ _ h7))
        try simp only [Tf, List.nil_append, List.cons_append, Int.reduceToNat, h4] at h7c
        obtain ⟨t8, h8, h⟩ := bnd h
        have h8c := ((ratio_signed_times.ok _ _ _ _ h8))
        try simp only [Tf, List.nil_append, List.cons_append, Int.reduceToNat, h4] at h8c
        obtain ⟨t9, h9, h⟩ := bnd h
        have h9c := ((ratio_folded_ratio_signed_s0.ok _ _ _ _ h9))
        try simp only [Tf, List.nil_append, List.cons_append, Int.reduceToNat, h4] at h9c
        obtain ⟨t10, h10, h⟩ := bnd h
        have h10c := ((ratio_product.ok _ _ _ _ h10))
        try simp only [Tf, List.nil_append, List.cons_append, Int.reduceToNat, h4] at h10c
        obtain ⟨t11, h11, h⟩ := bnd h
        have h11c := ((ratio_made.ok _ _ _ _ h11))
        try simp only [Tf, List.nil_append, List.cons_append, Int.reduceToNat, h4] at h11c
        obtain rfl := Option.some.inj h
        simp only [↓Bp, ↓Bs, Bo, Bh, Ba, Bc, Bd, ↓reduceIte, Nat.reduceAdd, Nat.reduceEqDiff, Nat.reduceLT, Nat.reduceLeDiff, Nat.reduceBEq, Nat.reduceMul, Int.reduceLE, Int.reduceLT, Int.reduceEq, Int.reduceToNat, Int.cast_ofNat_Int, reduceCtorEq, G17, Tf, b17, ↓Tryd.f17, F17, TY, H17, D17_3, D17_4, D17_5, h4, callP_eq h5c, callP_eq h6c, callP_eq h7c, callP_eq h8c, callP_eq h9c, callP_eq h10c, callP_eq h11c, ratio_Add.j0S]
theorem ratio_Add.ok (k : Nat) (x0 : S31) (x1 : S31) (r : S31 × Int) (h : ratio_Add.f k x0 x1 = some r) : Ret C1 17 [(true, [.sc (.bool x0.f0), .sl 1 (x0.f1.map e78), .sl 1 (x0.f2.map e78)]), (true, [.sc (.bool x1.f0), .sl 1 (x1.f1.map e78), .sl 1 (x1.f2.map e78)])] [aA [pB r.1.f0, .sl 1 (r.1.f1.map e78), .sl 1 (r.1.f2.map e78)], aV [pI .i64 r.2]] := by
  refine ret_of (c := b17) Tryd.func17 rfl rfl ⟨Nat.le_of_ble_eq_true rfl, Nat.le_of_ble_eq_true rfl⟩ ?_
  unfold ratio_Add.f at h
  rw [show Tryd.f17.results.toList = [.cell 4 31, .tmp 5] from rfl]
  rw [show Tryd.f17.ntmps = 42 from rfl]
  have Ij0 := ratio_Add.all k
  obtain ⟨t1, h1, h⟩ := bnd h
  have h1c := ((ratio_Right.ok _ _ _ h1))
  try simp only [Tf, List.nil_append, List.cons_append, Int.reduceToNat] at h1c
  by_cases h2 : t1 = true
  · rw [if_pos h2] at h
    try simp only [h2] at h1c
    obtain ⟨t3, h3, h⟩ := bnd h
    have h3c := ((ratio_Right.ok _ _ _ h3))
    try simp only [Tf, List.nil_append, List.cons_append, Int.reduceToNat, h2] at h3c
    simp only [↓Bp, ↓Bs, Bo, Bh, Ba, Bc, Bd, ↓reduceIte, Nat.reduceAdd, Nat.reduceEqDiff, Nat.reduceLT, Nat.reduceLeDiff, Nat.reduceBEq, Nat.reduceMul, Int.reduceLE, Int.reduceLT, Int.reduceEq, Int.reduceToNat, Int.cast_ofNat_Int, reduceCtorEq, G17, Tf, b17, ↓Tryd.f17, F17, TY, H17, D17_3, D17_4, D17_5, callP_eq h1c, h2, callP_eq h3c]
    refine AtJ.eq (Ij0 _ _ _ _ _ h) ?_
    simp only [Tf, Int.reduceToNat, Int.toNat_natCast, ratio_Add.j0S, h2]
  · rw [if_neg h2] at h
    try simp only [h2] at h1c
    simp only [↓Bp, ↓Bs, Bo, Bh, Ba, Bc, Bd, ↓reduceIte, Nat.reduceAdd, Nat.reduceEqDiff, Nat.reduceLT, Nat.reduceLeDiff, Nat.reduceBEq, Nat.reduceMul, Int.reduceLE, Int.reduceLT, Int.reduceEq, Int.reduceToNat, Int.cast_ofNat_Int, reduceCtorEq, G17, Tf, b17, ↓Tryd.f17, F17, TY, H17, D17_3, D17_4, D17_5, callP_eq h1c, h2]
    refine AtJ.eq (Ij0 _ _ _ _ _ h) ?_
    simp only [Tf, Int.reduceToNat, Int.toNat_natCast, ratio_Add.j0S, h2]
def date_Leap.f (x0 : Int) : Option Bool := (if (Int.tmod x0 4) = 0 then (if (Int.tmod x0 100) = 0 then (some (decide ((Int.tmod x0 400) = 0))) else (some true)) else (some false))
noncomputable def b47 : Code := bodyOf Tryd.f47
def F47 : Fr := ⟨0, 16, 1, [], 47⟩
theorem date_Leap.ok (x0 : Int) (r : Bool) (h : date_Leap.f x0 = some r) : Ret C1 47 [(false, [.sc (.int .i64 x0)])] [aV [pB r]] := by
  refine ret_of (c := b47) Tryd.func47 rfl rfl ⟨Nat.le_of_ble_eq_true rfl, Nat.le_of_ble_eq_true rfl⟩ ?_
  unfold date_Leap.f at h
  rw [show Tryd.f47.results.toList = [.tmp 2] from rfl]
  rw [show Tryd.f47.ntmps = 16 from rfl]
  by_cases h1 : (Int.tmod x0 4) = 0
  · rw [if_pos h1] at h
    by_cases h2 : (Int.tmod x0 100) = 0
    · rw [if_pos h2] at h
      obtain rfl := Option.some.inj h
      simp only [↓Bp, ↓Bs, Bo, Bh, Ba, Bc, ↓reduceIte, Nat.reduceAdd, Nat.reduceEqDiff, Nat.reduceLT, Nat.reduceLeDiff, Nat.reduceBEq, Nat.reduceMul, Int.reduceLE, Int.reduceLT, Int.reduceEq, Int.reduceToNat, Int.cast_ofNat_Int, reduceCtorEq, G47, Tf, b47, ↓Tryd.f47, F47, TY, H47, eq_true h1, eq_true h2]
    · rw [if_neg h2] at h
      obtain rfl := Option.some.inj h
      simp only [↓Bp, ↓Bs, Bo, Bh, Ba, Bc, ↓reduceIte, Nat.reduceAdd, Nat.reduceEqDiff, Nat.reduceLT, Nat.reduceLeDiff, Nat.reduceBEq, Nat.reduceMul, Int.reduceLE, Int.reduceLT, Int.reduceEq, Int.reduceToNat, Int.cast_ofNat_Int, reduceCtorEq, G47, Tf, b47, ↓Tryd.f47, F47, TY, H47, eq_true h1, h2]
  · rw [if_neg h1] at h
    obtain rfl := Option.some.inj h
    simp only [↓Bp, ↓Bs, Bo, Bh, Ba, Bc, ↓reduceIte, Nat.reduceAdd, Nat.reduceEqDiff, Nat.reduceLT, Nat.reduceLeDiff, Nat.reduceBEq, Nat.reduceMul, Int.reduceLE, Int.reduceLT, Int.reduceEq, Int.reduceToNat, Int.cast_ofNat_Int, reduceCtorEq, G47, Tf, b47, ↓Tryd.f47, F47, TY, H47, h1]
def date_length.f (x0 : Int) (x1 : Int) : Option Int := (if x1 = 2 then ((date_Leap.f x0).bind fun t2 => (if t2 = true then (some 29) else (some 28))) else (if x1 = 4 then (some 30) else (if x1 = 6 then (some 30) else (if x1 = 9 then (some 30) else (if x1 = 11 then (some 30) else (some 31))))))
noncomputable def b39 : Code := bodyOf Tryd.f39
def F39 : Fr := ⟨0, 15, 1, [], 39⟩
theorem date_length.ok (x0 : Int) (x1 : Int) (r : Int) (h : date_length.f x0 x1 = some r) : Ret C1 39 [(false, [.sc (.int .i64 x0)]), (false, [.sc (.int .i64 x1)])] [aV [pI .i64 r]] := by
  refine ret_of (c := b39) Tryd.func39 rfl rfl ⟨Nat.le_of_ble_eq_true rfl, Nat.le_of_ble_eq_true rfl⟩ ?_
  unfold date_length.f at h
  rw [show Tryd.f39.results.toList = [.tmp 4] from rfl]
  rw [show Tryd.f39.ntmps = 15 from rfl]
  by_cases h1 : x1 = 2
  · rw [if_pos h1] at h
    obtain ⟨t2, h2, h⟩ := bnd h
    have h2c := ((date_Leap.ok _ _ h2))
    try simp only [Tf, List.nil_append, List.cons_append, Int.reduceToNat] at h2c
    by_cases h3 : t2 = true
    · rw [if_pos h3] at h
      try simp only [h3] at h2c
      obtain rfl := Option.some.inj h
      simp only [↓Bp, ↓Bs, Bo, Bh, Ba, Bc, ↓reduceIte, Nat.reduceAdd, Nat.reduceEqDiff, Nat.reduceLT, Nat.reduceLeDiff, Nat.reduceBEq, Nat.reduceMul, Int.reduceLE, Int.reduceLT, Int.reduceEq, Int.reduceToNat, Int.cast_ofNat_Int, reduceCtorEq, G39, Tf, b39, ↓Tryd.f39, F39, TY, H39, eq_true h1, callP_eq h2c, h3]
    · rw [if_neg h3] at h
      try simp only [h3] at h2c
      obtain rfl := Option.some.inj h
      simp only [↓Bp, ↓Bs, Bo, Bh, Ba, Bc, ↓reduceIte, Nat.reduceAdd, Nat.reduceEqDiff, Nat.reduceLT, Nat.reduceLeDiff, Nat.reduceBEq, Nat.reduceMul, Int.reduceLE, Int.reduceLT, Int.reduceEq, Int.reduceToNat, Int.cast_ofNat_Int, reduceCtorEq, G39, Tf, b39, ↓Tryd.f39, F39, TY, H39, eq_true h1, callP_eq h2c, h3]
  · rw [if_neg h1] at h
    by_cases h4 : x1 = 4
    · rw [if_pos h4] at h
      obtain rfl := Option.some.inj h
      simp only [↓Bp, ↓Bs, Bo, Bh, Ba, Bc, ↓reduceIte, Nat.reduceAdd, Nat.reduceEqDiff, Nat.reduceLT, Nat.reduceLeDiff, Nat.reduceBEq, Nat.reduceMul, Int.reduceLE, Int.reduceLT, Int.reduceEq, Int.reduceToNat, Int.cast_ofNat_Int, reduceCtorEq, G39, Tf, b39, ↓Tryd.f39, F39, TY, H39, h1, eq_true h4]
    · rw [if_neg h4] at h
      by_cases h5 : x1 = 6
      · rw [if_pos h5] at h
        obtain rfl := Option.some.inj h
        simp only [↓Bp, ↓Bs, Bo, Bh, Ba, Bc, ↓reduceIte, Nat.reduceAdd, Nat.reduceEqDiff, Nat.reduceLT, Nat.reduceLeDiff, Nat.reduceBEq, Nat.reduceMul, Int.reduceLE, Int.reduceLT, Int.reduceEq, Int.reduceToNat, Int.cast_ofNat_Int, reduceCtorEq, G39, Tf, b39, ↓Tryd.f39, F39, TY, H39, h1, h4, eq_true h5]
      · rw [if_neg h5] at h
        by_cases h6 : x1 = 9
        · rw [if_pos h6] at h
          obtain rfl := Option.some.inj h
          simp only [↓Bp, ↓Bs, Bo, Bh, Ba, Bc, ↓reduceIte, Nat.reduceAdd, Nat.reduceEqDiff, Nat.reduceLT, Nat.reduceLeDiff, Nat.reduceBEq, Nat.reduceMul, Int.reduceLE, Int.reduceLT, Int.reduceEq, Int.reduceToNat, Int.cast_ofNat_Int, reduceCtorEq, G39, Tf, b39, ↓Tryd.f39, F39, TY, H39, h1, h4, h5, eq_true h6]
        · rw [if_neg h6] at h
          by_cases h7 : x1 = 11
          · rw [if_pos h7] at h
            obtain rfl := Option.some.inj h
            simp only [↓Bp, ↓Bs, Bo, Bh, Ba, Bc, ↓reduceIte, Nat.reduceAdd, Nat.reduceEqDiff, Nat.reduceLT, Nat.reduceLeDiff, Nat.reduceBEq, Nat.reduceMul, Int.reduceLE, Int.reduceLT, Int.reduceEq, Int.reduceToNat, Int.cast_ofNat_Int, reduceCtorEq, G39, Tf, b39, ↓Tryd.f39, F39, TY, H39, h1, h4, h5, h6, eq_true h7]
          · rw [if_neg h7] at h
            obtain rfl := Option.some.inj h
            simp only [↓Bp, ↓Bs, Bo, Bh, Ba, Bc, ↓reduceIte, Nat.reduceAdd, Nat.reduceEqDiff, Nat.reduceLT, Nat.reduceLeDiff, Nat.reduceBEq, Nat.reduceMul, Int.reduceLE, Int.reduceLT, Int.reduceEq, Int.reduceToNat, Int.cast_ofNat_Int, reduceCtorEq, G39, Tf, b39, ↓Tryd.f39, F39, TY, H39, h1, h4, h5, h6, h7]
def date_days.j0 : Nat → Int → Int → Int → Option Int
  | 0, _, _, _ => none
  | k + 1, x0, x1, x2 => (if 0 ≤ (wrap64 (x1 - 3)) then (if (wrap64 (x1 - 3)) < 12 then (some (wrap64 ((wrap64 ((wrap64 ((wrap64 ((wrap64 ((wrap64 ((wrap64 (x0 * 365)) + (wrap64 (Int.tdiv x0 4)))) - (wrap64 (Int.tdiv x0 100)))) + (wrap64 (Int.tdiv x0 400)))) + (gt1.getD (((wrap64 (x1 - 3)) : Int).toNat) 0))) + x2)) - 1))) else none) else none)
def date_days.f (k : Nat) (x0 : Int) (x1 : Int) (x2 : Int) : Option Int := (if x1 ≤ 2 then (date_days.j0 k (wrap64 (x0 - 1)) (wrap64 (x1 + 12)) x2) else (date_days.j0 k x0 x1 x2))
noncomputable def b40 : Code := bodyOf Tryd.f40
def F40 : Fr := ⟨0, 32, 1, [], 40⟩
def date_days.j0S (x0 : Int) (x1 : Int) (x2 : Int) : St := ⟨upd (upd (upd (fun _ => .no) 2 (.one (.p none (pI .i64 x2)))) 1 (.one (.p none (pI .i64 x1)))) 0 (.one (.p none (pI .i64 x0))), noOb, rtP 4, 4⟩
theorem date_days.all : ∀ k, (∀ x0 x1 x2 r, date_days.j0 k x0 x1 x2 = some r → AtJ C1 F40 (sub [1, 1] b40) [] (some (date_days.j0S x0 x1 x2)) (RetQ C1 [.tmp 6] [aV [pI .i64 r]]))
  | 0 => fun _ _ _ r h => (by cases h)
  | k + 1 => by
    have Ij0 := date_days.all k
    · intro x0 x1 x2 r h
      rw [date_days.j0] at h
      rw [atJ_some]
      obtain ⟨h2, h⟩ := ifn h
      obtain ⟨h3, h⟩ := ifn h
      have h3t := nat_lt (i := (wrap64 (x1 - 3))) (n := 12) (by omega) h3
      have h3g := get_of (l := gt1) 0 h3t
      try simp only [Int.reduceToNat] at h3g
      obtain rfl := Option.some.inj h
      simp only [↓Bp, ↓Bs, Bo, Bh, Ba, Bc, ↓reduceIte, Nat.reduceAdd, Nat.reduceEqDiff, Nat.reduceLT, Nat.reduceLeDiff, Nat.reduceBEq, Nat.reduceMul, Int.reduceLE, Int.reduceLT, Int.reduceEq, Int.reduceToNat, Int.cast_ofNat_Int, reduceCtorEq, G40, Tf, b40, ↓Tryd.f40, F40, TY, H40, GL, h2, h3, h3g, date_days.j0S]
theorem date_days.ok (k : Nat) (x0 : Int) (x1 : Int) (x2 : Int) (r : Int) (h : date_days.f k x0 x1 x2 = some r) : Ret C1 40 [(false, [.sc (.int .i64 x0)]), (false, [.sc (.int .i64 x1)]), (false, [.sc (.int .i64 x2)])] [aV [pI .i64 r]] := by
  refine ret_of (c := b40) Tryd.func40 rfl rfl ⟨Nat.le_of_ble_eq_true rfl, Nat.le_of_ble_eq_true rfl⟩ ?_
  unfold date_days.f at h
  rw [show Tryd.f40.results.toList = [.tmp 6] from rfl]
  rw [show Tryd.f40.ntmps = 32 from rfl]
  have Ij0 := date_days.all k
  by_cases h1 : x1 ≤ 2
  · rw [if_pos h1] at h
    simp only [↓Bp, ↓Bs, Bo, Bh, Ba, Bc, ↓reduceIte, Nat.reduceAdd, Nat.reduceEqDiff, Nat.reduceLT, Nat.reduceLeDiff, Nat.reduceBEq, Nat.reduceMul, Int.reduceLE, Int.reduceLT, Int.reduceEq, Int.reduceToNat, Int.cast_ofNat_Int, reduceCtorEq, G40, Tf, b40, ↓Tryd.f40, F40, TY, H40, GL, h1]
    refine AtJ.eq (Ij0 _ _ _ _ h) ?_
    simp only [Tf, Int.reduceToNat, Int.toNat_natCast, date_days.j0S]
  · rw [if_neg h1] at h
    simp only [↓Bp, ↓Bs, Bo, Bh, Ba, Bc, ↓reduceIte, Nat.reduceAdd, Nat.reduceEqDiff, Nat.reduceLT, Nat.reduceLeDiff, Nat.reduceBEq, Nat.reduceMul, Int.reduceLE, Int.reduceLT, Int.reduceEq, Int.reduceToNat, Int.cast_ofNat_Int, reduceCtorEq, G40, Tf, b40, ↓Tryd.f40, F40, TY, H40, GL, h1]
    refine AtJ.eq (Ij0 _ _ _ _ h) ?_
    simp only [Tf, Int.reduceToNat, Int.toNat_natCast, date_days.j0S]
mutual
def date_Join.j0 : Nat → Int → Int → Int → Bool → Option (Int × Int)
  | 0, _, _, _, _ => none
  | k + 1, x0, x1, x2, x33 => (if x33 = true then (some (0, 11)) else ((date_days.f k x0 x1 x2).bind fun t8 => (if (wrap64 (t8 - 730425)) < (-50000) then (date_Join.j1 k (wrap64 (t8 - 730425)) true) else (date_Join.j1 k (wrap64 (t8 - 730425)) (decide (50000 < (wrap64 (t8 - 730425))))))))
def date_Join.j1 : Nat → Int → Bool → Option (Int × Int)
  | 0, _, _ => none
  | k + 1, x8, x44 => (if x44 = true then (some (0, 11)) else (some ((wrap32 (x8)), 0)))
end
def date_Join.f (k : Nat) (x0 : Int) (x1 : Int) (x2 : Int) : Option (Int × Int) := (if x0 < 1 then (date_Join.j0 k x0 x1 x2 true) else (if 10000 ≤ x0 then (date_Join.j0 k x0 x1 x2 true) else (if x1 < 1 then (date_Join.j0 k x0 x1 x2 true) else (if 12 < x1 then (date_Join.j0 k x0 x1 x2 true) else (if x2 < 1 then (date_Join.j0 k x0 x1 x2 true) else ((date_length.f x0 x1).bind fun t6 => (date_Join.j0 k x0 x1 x2 (decide (t6 < x2)))))))))
noncomputable def b18 : Code := bodyOf Tryd.f18
def F18 : Fr := ⟨0, 47, 1, [], 18⟩
def date_Join.j0S (x0 : Int) (x1 : Int) (x2 : Int) (x33 : Bool) : St := ⟨upd (upd (upd (upd (fun _ => .no) 33 (.one (.p none (pB x33)))) 2 (.one (.p none (pI .i64 x2)))) 1 (.one (.p none (pI .i64 x1)))) 0 (.one (.p none (pI .i64 x0))), noOb, rtP 5, 5⟩
def date_Join.j1S (x8 : Int) (x44 : Bool) : St := ⟨upd (upd (fun _ => .no) 44 (.one (.p none (pB x44)))) 8 (.one (.p none (pI .i64 x8))), noOb, rtP 3, 3⟩
theorem date_Join.all : ∀ k, (∀ x0 x1 x2 x33 r, date_Join.j0 k x0 x1 x2 x33 = some r → AtJ C1 F18 (sub [1, 0, 1] b18) [.code (sub [1, 1] b18)] (some (date_Join.j0S x0 x1 x2 x33)) (RetQ C1 [.tmp 6, .tmp 7] [aV [pI .i32 r.1], aV [pI .i64 r.2]])) ∧ (∀ x8 x44 r, date_Join.j1 k x8 x44 = some r → AtJ C1 F18 (sub [1, 1, 1, 0, 1] b18) [.code (sub [1, 1, 1, 1] b18)] (some (date_Join.j1S x8 x44)) (RetQ C1 [.tmp 6, .tmp 7] [aV [pI .i32 r.1], aV [pI .i64 r.2]]))
  | 0 => ⟨fun _ _ _ _ r h => (by cases h), fun _ _ r h => (by cases h)⟩
  | k + 1 => by
    obtain ⟨Ij0, Ij1⟩ := date_Join.all k
    refine ⟨?_, ?_⟩
    · intro x0 x1 x2 x33 r h
      rw [date_Join.j0] at h
      rw [atJ_some]
      by_cases h7 : x33 = true
      · rw [if_pos h7] at h
        obtain rfl := Option.some.inj h
        simp only [↓Bp, ↓Bs, Bo, Bh, Ba, Bc, ↓reduceIte, Nat.reduceAdd, Nat.reduceEqDiff, Nat.reduceLT, Nat.reduceLeDiff, Nat.reduceBEq, Nat.reduceMul, Int.reduceLE, Int.reduceLT, Int.reduceEq, Int.reduceToNat, Int.cast_ofNat_Int, reduceCtorEq, G18, Tf, b18, ↓Tryd.f18, F18, TY, H18, h7, date_Join.j0S]
      · rw [if_neg h7] at h
        obtain ⟨t8, h8, h⟩ := bnd h
        have h8c := ((date_days.ok _ _ _ _ _ h8))
        try simp only [Tf, List.nil_append, List.cons_append, Int.reduceToNat, h7] at h8c
        by_cases h9 : (wrap64 (t8 - 730425)) < (-50000)
        · rw [if_pos h9] at h
          simp only [↓Bp, ↓Bs, Bo, Bh, Ba, Bc, ↓reduceIte, Nat.reduceAdd, Nat.reduceEqDiff, Nat.reduceLT, Nat.reduceLeDiff, Nat.reduceBEq, Nat.reduceMul, Int.reduceLE, Int.reduceLT, Int.reduceEq, Int.reduceToNat, Int.cast_ofNat_Int, reduceCtorEq, G18, Tf, b18, ↓Tryd.f18, F18, TY, H18, h7, callP_eq h8c, h9, date_Join.j0S]
          refine AtJ.eq (Ij1 _ _ _ h) ?_
          simp only [Tf, Int.reduceToNat, Int.toNat_natCast, date_Join.j1S, h7]
        · rw [if_neg h9] at h
          simp only [↓Bp, ↓Bs, Bo, Bh, Ba, Bc, ↓reduceIte, Nat.reduceAdd, Nat.reduceEqDiff, Nat.reduceLT, Nat.reduceLeDiff, Nat.reduceBEq, Nat.reduceMul, Int.reduceLE, Int.reduceLT, Int.reduceEq, Int.reduceToNat, Int.cast_ofNat_Int, reduceCtorEq, G18, Tf, b18, ↓Tryd.f18, F18, TY, H18, h7, callP_eq h8c, h9, date_Join.j0S]
          refine AtJ.eq (Ij1 _ _ _ h) ?_
          simp only [Tf, Int.reduceToNat, Int.toNat_natCast, date_Join.j1S, h7]
    · intro x8 x44 r h
      rw [date_Join.j1] at h
      rw [atJ_some]
      by_cases h10 : x44 = true
      · rw [if_pos h10] at h
        obtain rfl := Option.some.inj h
        simp only [↓Bp, ↓Bs, Bo, Bh, Ba, Bc, ↓reduceIte, Nat.reduceAdd, Nat.reduceEqDiff, Nat.reduceLT, Nat.reduceLeDiff, Nat.reduceBEq, Nat.reduceMul, Int.reduceLE, Int.reduceLT, Int.reduceEq, Int.reduceToNat, Int.cast_ofNat_Int, reduceCtorEq, G18, Tf, b18, ↓Tryd.f18, F18, TY, H18, h10, date_Join.j1S]
      · rw [if_neg h10] at h
        obtain rfl := Option.some.inj h
        simp only [↓Bp, ↓Bs, Bo, Bh, Ba, Bc, ↓reduceIte, Nat.reduceAdd, Nat.reduceEqDiff, Nat.reduceLT, Nat.reduceLeDiff, Nat.reduceBEq, Nat.reduceMul, Int.reduceLE, Int.reduceLT, Int.reduceEq, Int.reduceToNat, Int.cast_ofNat_Int, reduceCtorEq, G18, Tf, b18, ↓Tryd.f18, F18, TY, H18, h10, date_Join.j1S]
theorem date_Join.ok (k : Nat) (x0 : Int) (x1 : Int) (x2 : Int) (r : Int × Int) (h : date_Join.f k x0 x1 x2 = some r) : Ret C1 18 [(false, [.sc (.int .i64 x0)]), (false, [.sc (.int .i64 x1)]), (false, [.sc (.int .i64 x2)])] [aV [pI .i32 r.1], aV [pI .i64 r.2]] := by
  refine ret_of (c := b18) Tryd.func18 rfl rfl ⟨Nat.le_of_ble_eq_true rfl, Nat.le_of_ble_eq_true rfl⟩ ?_
  unfold date_Join.f at h
  rw [show Tryd.f18.results.toList = [.tmp 6, .tmp 7] from rfl]
  rw [show Tryd.f18.ntmps = 47 from rfl]
  obtain ⟨Ij0, Ij1⟩ := date_Join.all k
  by_cases h1 : x0 < 1
  · rw [if_pos h1] at h
    simp only [↓Bp, ↓Bs, Bo, Bh, Ba, Bc, ↓reduceIte, Nat.reduceAdd, Nat.reduceEqDiff, Nat.reduceLT, Nat.reduceLeDiff, Nat.reduceBEq, Nat.reduceMul, Int.reduceLE, Int.reduceLT, Int.reduceEq, Int.reduceToNat, Int.cast_ofNat_Int, reduceCtorEq, G18, Tf, b18, ↓Tryd.f18, F18, TY, H18, h1]
    refine AtJ.eq (Ij0 _ _ _ _ _ h) ?_
    simp only [Tf, Int.reduceToNat, Int.toNat_natCast, date_Join.j0S]
  · rw [if_neg h1] at h
    by_cases h2 : 10000 ≤ x0
    · rw [if_pos h2] at h
      simp only [↓Bp, ↓Bs, Bo, Bh, Ba, Bc, ↓reduceIte, Nat.reduceAdd, Nat.reduceEqDiff, Nat.reduceLT, Nat.reduceLeDiff, Nat.reduceBEq, Nat.reduceMul, Int.reduceLE, Int.reduceLT, Int.reduceEq, Int.reduceToNat, Int.cast_ofNat_Int, reduceCtorEq, G18, Tf, b18, ↓Tryd.f18, F18, TY, H18, h1, h2]
      refine AtJ.eq (Ij0 _ _ _ _ _ h) ?_
      simp only [Tf, Int.reduceToNat, Int.toNat_natCast, date_Join.j0S]
    · rw [if_neg h2] at h
      by_cases h3 : x1 < 1
      · rw [if_pos h3] at h
        simp only [↓Bp, ↓Bs, Bo, Bh, Ba, Bc, ↓reduceIte, Nat.reduceAdd, Nat.reduceEqDiff, Nat.reduceLT, Nat.reduceLeDiff, Nat.reduceBEq, Nat.reduceMul, Int.reduceLE, Int.reduceLT, Int.reduceEq, Int.reduceToNat, Int.cast_ofNat_Int, reduceCtorEq, G18, Tf, b18, ↓Tryd.f18, F18, TY, H18, h1, h2, h3]
        refine AtJ.eq (Ij0 _ _ _ _ _ h) ?_
        simp only [Tf, Int.reduceToNat, Int.toNat_natCast, date_Join.j0S]
      · rw [if_neg h3] at h
        by_cases h4 : 12 < x1
        · rw [if_pos h4] at h
          simp only [↓Bp, ↓Bs, Bo, Bh, Ba, Bc, ↓reduceIte, Nat.reduceAdd, Nat.reduceEqDiff, Nat.reduceLT, Nat.reduceLeDiff, Nat.reduceBEq, Nat.reduceMul, Int.reduceLE, Int.reduceLT, Int.reduceEq, Int.reduceToNat, Int.cast_ofNat_Int, reduceCtorEq, G18, Tf, b18, ↓Tryd.f18, F18, TY, H18, h1, h2, h3, h4]
          refine AtJ.eq (Ij0 _ _ _ _ _ h) ?_
          simp only [Tf, Int.reduceToNat, Int.toNat_natCast, date_Join.j0S]
        · rw [if_neg h4] at h
          by_cases h5 : x2 < 1
          · rw [if_pos h5] at h
            simp only [↓Bp, ↓Bs, Bo, Bh, Ba, Bc, ↓reduceIte, Nat.reduceAdd, Nat.reduceEqDiff, Nat.reduceLT, Nat.reduceLeDiff, Nat.reduceBEq, Nat.reduceMul, Int.reduceLE, Int.reduceLT, Int.reduceEq, Int.reduceToNat, Int.cast_ofNat_Int, reduceCtorEq, G18, Tf, b18, ↓Tryd.f18, F18, TY, H18, h1, h2, h3, h4, h5]
            refine AtJ.eq (Ij0 _ _ _ _ _ h) ?_
            simp only [Tf, Int.reduceToNat, Int.toNat_natCast, date_Join.j0S]
          · rw [if_neg h5] at h
            obtain ⟨t6, h6, h⟩ := bnd h
            have h6c := ((date_length.ok _ _ _ h6))
            try simp only [Tf, List.nil_append, List.cons_append, Int.reduceToNat] at h6c
            simp only [↓Bp, ↓Bs, Bo, Bh, Ba, Bc, ↓reduceIte, Nat.reduceAdd, Nat.reduceEqDiff, Nat.reduceLT, Nat.reduceLeDiff, Nat.reduceBEq, Nat.reduceMul, Int.reduceLE, Int.reduceLT, Int.reduceEq, Int.reduceToNat, Int.cast_ofNat_Int, reduceCtorEq, G18, Tf, b18, ↓Tryd.f18, F18, TY, H18, h1, h2, h3, h4, h5, callP_eq h6c]
            refine AtJ.eq (Ij0 _ _ _ _ _ h) ?_
            simp only [Tf, Int.reduceToNat, Int.toNat_natCast, date_Join.j0S]
def date_AddMonths.j0 : Nat → Int → Int → Int → Int → Bool → Option (Int × Int)
  | 0, _, _, _, _, _ => none
  | k + 1, x1, x6, x7, x8, x27 => (if x27 = true then (some (0, 11)) else (if (wrap64 ((wrap64 ((wrap64 ((wrap64 (12 * x6)) + x7)) - 1)) + x1)) < 12 then (some (0, 11)) else ((date_length.f (wrap64 (Int.tdiv (wrap64 ((wrap64 ((wrap64 ((wrap64 (12 * x6)) + x7)) - 1)) + x1)) 12)) (wrap64 ((Int.tmod (wrap64 ((wrap64 ((wrap64 ((wrap64 (12 * x6)) + x7)) - 1)) + x1)) 12) + 1))).bind fun t6 => ((date_Join.f k (wrap64 (Int.tdiv (wrap64 ((wrap64 ((wrap64 ((wrap64 (12 * x6)) + x7)) - 1)) + x1)) 12)) (wrap64 ((Int.tmod (wrap64 ((wrap64 ((wrap64 ((wrap64 (12 * x6)) + x7)) - 1)) + x1)) 12) + 1)) (min x8 t6)).bind fun t7 => (some (t7.1, t7.2))))))
def date_AddMonths.f (k : Nat) (x0 : Int) (x1 : Int) : Option (Int × Int) := ((date_Split.f k x0).bind fun t1 => (if t1.2.2.2 = 0 then (if x1 < (-120000) then (date_AddMonths.j0 k x1 t1.1 t1.2.1 t1.2.2.1 true) else (date_AddMonths.j0 k x1 t1.1 t1.2.1 t1.2.2.1 (decide (120000 < x1)))) else (date_AddMonths.j0 k x1 t1.1 t1.2.1 t1.2.2.1 true)))
noncomputable def b20 : Code := bodyOf Tryd.f20
def F20 : Fr := ⟨0, 52, 1, [], 20⟩
def date_AddMonths.j0S (x1 : Int) (x6 : Int) (x7 : Int) (x8 : Int) (x27 : Bool) : St := ⟨upd (upd (upd (upd (upd (fun _ => .no) 27 (.one (.p none (pB x27)))) 8 (.one (.p none (pI .i64 x8)))) 7 (.one (.p none (pI .i64 x7)))) 6 (.one (.p none (pI .i64 x6)))) 1 (.one (.p none (pI .i64 x1))), noOb, rtP 6, 6⟩
theorem date_AddMonths.all : ∀ k, (∀ x1 x6 x7 x8 x27 r, date_AddMonths.j0 k x1 x6 x7 x8 x27 = some r → AtJ C1 F20 (sub [1, 1, 0, 1] b20) [.code (sub [1, 1, 1] b20)] (some (date_AddMonths.j0S x1 x6 x7 x8 x27)) (RetQ C1 [.tmp 4, .tmp 5] [aV [pI .i32 r.1], aV [pI .i64 r.2]]))
  | 0 => fun _ _ _ _ _ r h => (by cases h)
  | k + 1 => by
    have Ij0 := date_AddMonths.all k
    · intro x1 x6 x7 x8 x27 r h
      rw [date_AddMonths.j0] at h
      rw [atJ_some]
      by_cases h4 : x27 = true
      · rw [if_pos h4] at h
        obtain rfl := Option.some.inj h
        simp only [↓Bp, ↓Bs, Bo, Bh, Ba, Bc, ↓reduceIte, Nat.reduceAdd, Nat.reduceEqDiff, Nat.reduceLT, Nat.reduceLeDiff, Nat.reduceBEq, Nat.reduceMul, Int.reduceLE, Int.reduceLT, Int.reduceEq, Int.reduceToNat, Int.cast_ofNat_Int, reduceCtorEq, G20, Tf, b20, ↓Tryd.f20, F20, TY, H20, h4, date_AddMonths.j0S]
      · rw [if_neg h4] at h
        by_cases h5 : (wrap64 ((wrap64 ((wrap64 ((wrap64 (12 * x6)) + x7)) - 1)) + x1)) < 12
        · rw [if_pos h5] at h
          obtain rfl := Option.some.inj h
          simp only [↓Bp, ↓Bs, Bo, Bh, Ba, Bc, ↓reduceIte, Nat.reduceAdd, Nat.reduceEqDiff, Nat.reduceLT, Nat.reduceLeDiff, Nat.reduceBEq, Nat.reduceMul, Int.reduceLE, Int.reduceLT, Int.reduceEq, Int.reduceToNat, Int.cast_ofNat_Int, reduceCtorEq, G20, Tf, b20, ↓Tryd.f20, F20, TY, H20, h4, h5, date_AddMonths.j0S]
        · rw [if_neg h5] at h
          obtain ⟨t6, h6, h⟩ := bnd h
          have h6c := ((date_length.ok _ _ _ h6))
          try simp only [Tf, List.nil_append, List.cons_append, Int.reduceToNat, h4] at h6c
          obtain ⟨t7, h7, h⟩ := bnd h
          have h7c := ((date_Join.ok _ _ _ _ _ h7))
          try simp only [Tf, List.nil_append, List.cons_append, Int.reduceToNat, h4] at h7c
          obtain rfl := Option.some.inj h
          simp only [↓Bp, ↓Bs, Bo, Bh, Ba, Bc, ↓reduceIte, Nat.reduceAdd, Nat.reduceEqDiff, Nat.reduceLT, Nat.reduceLeDiff, Nat.reduceBEq, Nat.reduceMul, Int.reduceLE, Int.reduceLT, Int.reduceEq, Int.reduceToNat, Int.cast_ofNat_Int, reduceCtorEq, G20, Tf, b20, ↓Tryd.f20, F20, TY, H20, h4, h5, callP_eq h6c, callP_eq h7c, date_AddMonths.j0S]
theorem date_AddMonths.ok (k : Nat) (x0 : Int) (x1 : Int) (r : Int × Int) (h : date_AddMonths.f k x0 x1 = some r) : Ret C1 20 [(false, [.sc (.int .i32 x0)]), (false, [.sc (.int .i64 x1)])] [aV [pI .i32 r.1], aV [pI .i64 r.2]] := by
  refine ret_of (c := b20) Tryd.func20 rfl rfl ⟨Nat.le_of_ble_eq_true rfl, Nat.le_of_ble_eq_true rfl⟩ ?_
  unfold date_AddMonths.f at h
  rw [show Tryd.f20.results.toList = [.tmp 4, .tmp 5] from rfl]
  rw [show Tryd.f20.ntmps = 52 from rfl]
  have Ij0 := date_AddMonths.all k
  obtain ⟨t1, h1, h⟩ := bnd h
  have h1c := ((date_Split.ok _ _ _ h1))
  try simp only [Tf, List.nil_append, List.cons_append, Int.reduceToNat] at h1c
  by_cases h2 : t1.2.2.2 = 0
  · rw [if_pos h2] at h
    by_cases h3 : x1 < (-120000)
    · rw [if_pos h3] at h
      simp only [↓Bp, ↓Bs, Bo, Bh, Ba, Bc, ↓reduceIte, Nat.reduceAdd, Nat.reduceEqDiff, Nat.reduceLT, Nat.reduceLeDiff, Nat.reduceBEq, Nat.reduceMul, Int.reduceLE, Int.reduceLT, Int.reduceEq, Int.reduceToNat, Int.cast_ofNat_Int, reduceCtorEq, G20, Tf, b20, ↓Tryd.f20, F20, TY, H20, callP_eq h1c, eq_true h2, h3]
      refine AtJ.eq (Ij0 _ _ _ _ _ _ h) ?_
      simp only [Tf, Int.reduceToNat, Int.toNat_natCast, date_AddMonths.j0S]
    · rw [if_neg h3] at h
      simp only [↓Bp, ↓Bs, Bo, Bh, Ba, Bc, ↓reduceIte, Nat.reduceAdd, Nat.reduceEqDiff, Nat.reduceLT, Nat.reduceLeDiff, Nat.reduceBEq, Nat.reduceMul, Int.reduceLE, Int.reduceLT, Int.reduceEq, Int.reduceToNat, Int.cast_ofNat_Int, reduceCtorEq, G20, Tf, b20, ↓Tryd.f20, F20, TY, H20, callP_eq h1c, eq_true h2, h3]
      refine AtJ.eq (Ij0 _ _ _ _ _ _ h) ?_
      simp only [Tf, Int.reduceToNat, Int.toNat_natCast, date_AddMonths.j0S]
  · rw [if_neg h2] at h
    simp only [↓Bp, ↓Bs, Bo, Bh, Ba, Bc, ↓reduceIte, Nat.reduceAdd, Nat.reduceEqDiff, Nat.reduceLT, Nat.reduceLeDiff, Nat.reduceBEq, Nat.reduceMul, Int.reduceLE, Int.reduceLT, Int.reduceEq, Int.reduceToNat, Int.cast_ofNat_Int, reduceCtorEq, G20, Tf, b20, ↓Tryd.f20, F20, TY, H20, callP_eq h1c, h2]
    refine AtJ.eq (Ij0 _ _ _ _ _ _ h) ?_
    simp only [Tf, Int.reduceToNat, Int.toNat_natCast, date_AddMonths.j0S]
mutual
def daycount_ahead.l0 : Nat → Int → Int → Int → Int → Option Int
  | 0, _, _, _, _ => none
  | k + 1, x0, x1, x7, x8 => (if x8 < x1 then (if x8 = 2 then ((date_Leap.f x0).bind fun t3 => (daycount_ahead.j0 k x0 x1 x7 x8 t3)) else (daycount_ahead.j0 k x0 x1 x7 x8 false)) else (some x7))
def daycount_ahead.j0 : Nat → Int → Int → Int → Int → Bool → Option Int
  | 0, _, _, _, _, _ => none
  | k + 1, x0, x1, x7, x8, x18 => (if x18 = true then (daycount_ahead.j1 k x0 x1 (wrap64 (x7 + 29)) x8) else (if x8 = 2 then (daycount_ahead.j1 k x0 x1 (wrap64 (x7 + 28)) x8) else (if x8 = 4 then (daycount_ahead.j2 k x0 x1 x7 x8 true) else (if x8 = 6 then (daycount_ahead.j2 k x0 x1 x7 x8 true) else (if x8 = 9 then (daycount_ahead.j2 k x0 x1 x7 x8 true) else (daycount_ahead.j2 k x0 x1 x7 x8 (decide (x8 = 11))))))))
def daycount_ahead.j1 : Nat → Int → Int → Int → Int → Option Int
  | 0, _, _, _, _ => none
  | k + 1, x0, x1, x7, x8 => (daycount_ahead.l0 k x0 x1 x7 (wrap64 (x8 + 1)))
def daycount_ahead.j2 : Nat → Int → Int → Int → Int → Bool → Option Int
  | 0, _, _, _, _, _ => none
  | k + 1, x0, x1, x7, x8, x32 => (if x32 = true then (daycount_ahead.j1 k x0 x1 (wrap64 (x7 + 30)) x8) else (daycount_ahead.j1 k x0 x1 (wrap64 (x7 + 31)) x8))
end
def daycount_ahead.f (k : Nat) (x0 : Int) (x1 : Int) (x2 : Int) : Option Int := (daycount_ahead.l0 k x0 x1 (wrap64 (x2 - 1)) 1)
theorem daycount_ahead.monos : ∀ k, (∀ x0 x1 x7 x8, LeO (daycount_ahead.l0 k x0 x1 x7 x8) (daycount_ahead.l0 (k + 1) x0 x1 x7 x8)) ∧ (∀ x0 x1 x7 x8 x18, LeO (daycount_ahead.j0 k x0 x1 x7 x8 x18) (daycount_ahead.j0 (k + 1) x0 x1 x7 x8 x18)) ∧ (∀ x0 x1 x7 x8, LeO (daycount_ahead.j1 k x0 x1 x7 x8) (daycount_ahead.j1 (k + 1) x0 x1 x7 x8)) ∧ (∀ x0 x1 x7 x8 x32, LeO (daycount_ahead.j2 k x0 x1 x7 x8 x32) (daycount_ahead.j2 (k + 1) x0 x1 x7 x8 x32))
  | 0 => ⟨fun _ _ _ _ => leo_none, fun _ _ _ _ _ => leo_none, fun _ _ _ _ => leo_none, fun _ _ _ _ _ => leo_none⟩
  | k + 1 => by
    obtain ⟨Il0, Ij0, Ij1, Ij2⟩ := daycount_ahead.monos k
    refine ⟨?_, ?_, ?_, ?_⟩
    · intro x0 x1 x7 x8
      rw [daycount_ahead.l0, daycount_ahead.l0]
      exact leo_ite (leo_ite (leo_bind leo_refl (fun _ => Ij0 _ _ _ _ _)) (Ij0 _ _ _ _ _)) (leo_refl)
    · intro x0 x1 x7 x8 x18
      rw [daycount_ahead.j0, daycount_ahead.j0]
      exact leo_ite (Ij1 _ _ _ _) (leo_ite (Ij1 _ _ _ _) (leo_ite (Ij2 _ _ _ _ _) (leo_ite (Ij2 _ _ _ _ _) (leo_ite (Ij2 _ _ _ _ _) (Ij2 _ _ _ _ _)))))
    · intro x0 x1 x7 x8
      rw [daycount_ahead.j1, daycount_ahead.j1]
      exact Il0 _ _ _ _
    · intro x0 x1 x7 x8 x32
      rw [daycount_ahead.j2, daycount_ahead.j2]
      exact leo_ite (Ij1 _ _ _ _) (Ij1 _ _ _ _)
theorem daycount_ahead.mono (k : Nat) (x0 : Int) (x1 : Int) (x2 : Int) : LeO (daycount_ahead.f k x0 x1 x2) (daycount_ahead.f (k + 1) x0 x1 x2) := (daycount_ahead.monos k).1 _ _ _ _
noncomputable def b48 : Code := bodyOf Tryd.f48
def F48 : Fr := ⟨0, 50, 1, [], 48⟩
def daycount_ahead.l0S (x0 : Int) (x1 : Int) (x7 : Int) (x8 : Int) : St := ⟨upd (upd (upd (upd (fun _ => .no) 8 (.one (.p none (pI .i64 x8)))) 7 (.one (.p none (pI .i64 x7)))) 1 (.one (.p none (pI .i64 x1)))) 0 (.one (.p none (pI .i64 x0))), noOb, rtP 5, 5⟩
def daycount_ahead.j0S (x0 : Int) (x1 : Int) (x7 : Int) (x8 : Int) (x18 : Bool) : St := ⟨upd (upd (upd (upd (upd (fun _ => .no) 18 (.one (.p none (pB x18)))) 8 (.one (.p none (pI .i64 x8)))) 7 (.one (.p none (pI .i64 x7)))) 1 (.one (.p none (pI .i64 x1)))) 0 (.one (.p none (pI .i64 x0))), noOb, rtP 6, 6⟩
def daycount_ahead.j1S (x0 : Int) (x1 : Int) (x7 : Int) (x8 : Int) : St := ⟨upd (upd (upd (upd (fun _ => .no) 8 (.one (.p none (pI .i64 x8)))) 7 (.one (.p none (pI .i64 x7)))) 1 (.one (.p none (pI .i64 x1)))) 0 (.one (.p none (pI .i64 x0))), noOb, rtP 5, 5⟩
def daycount_ahead.j2S (x0 : Int) (x1 : Int) (x7 : Int) (x8 : Int) (x32 : Bool) : St := ⟨upd (upd (upd (upd (upd (fun _ => .no) 32 (.one (.p none (pB x32)))) 8 (.one (.p none (pI .i64 x8)))) 7 (.one (.p none (pI .i64 x7)))) 1 (.one (.p none (pI .i64 x1)))) 0 (.one (.p none (pI .i64 x0))), noOb, rtP 6, 6⟩
theorem daycount_ahead.all : ∀ k, (∀ x0 x1 x7 x8 r, daycount_ahead.l0 k x0 x1 x7 x8 = some r → AtL C1 F48 (sub [1, 1, 0, 1, 0, 0] b48) [.blk 0, .code (sub [1, 1, 1] b48)] (some (daycount_ahead.l0S x0 x1 x7 x8)) (RetQ C1 [.tmp 6] [aV [pI .i64 r]])) ∧ (∀ x0 x1 x7 x8 x18 r, daycount_ahead.j0 k x0 x1 x7 x8 x18 = some r → AtJ C1 F48 (sub [1, 1, 0, 1, 0, 0, 1, 0, 0, 0, 1] b48) [.blk 2, .blk 1, .code (sub [1, 1, 0, 1, 0, 0, 1, 1] b48), .lp (sub [1, 1, 0, 1, 0, 0] b48), .blk 0, .code (sub [1, 1, 1] b48)] (some (daycount_ahead.j0S x0 x1 x7 x8 x18)) (RetQ C1 [.tmp 6] [aV [pI .i64 r]])) ∧ (∀ x0 x1 x7 x8 r, daycount_ahead.j1 k x0 x1 x7 x8 = some r → AtJ C1 F48 (sub [1, 1, 0, 1, 0, 0, 1, 1] b48) [.lp (sub [1, 1, 0, 1, 0, 0] b48), .blk 0, .code (sub [1, 1, 1] b48)] (some (daycount_ahead.j1S x0 x1 x7 x8)) (RetQ C1 [.tmp 6] [aV [pI .i64 r]])) ∧ (∀ x0 x1 x7 x8 x32 r, daycount_ahead.j2 k x0 x1 x7 x8 x32 = some r → AtJ C1 F48 (sub [1, 1, 0, 1, 0, 0, 1, 0, 0, 0, 1, 2, 1, 2, 1] b48) [.blk 2, .blk 1, .code (sub [1, 1, 0, 1, 0, 0, 1, 1] b48), .lp (sub [1, 1, 0, 1, 0, 0] b48), .blk 0, .code (sub [1, 1, 1] b48)] (some (daycount_ahead.j2S x0 x1 x7 x8 x32)) (RetQ C1 [.tmp 6] [aV [pI .i64 r]]))
  | 0 => ⟨fun _ _ _ _ r h => (by cases h), fun _ _ _ _ _ r h => (by cases h), fun _ _ _ _ r h => (by cases h), fun _ _ _ _ _ r h => (by cases h)⟩
  | k + 1 => by
    obtain ⟨Il0, Ij0, Ij1, Ij2⟩ := daycount_ahead.all k
    refine ⟨?_, ?_, ?_, ?_⟩
    · intro x0 x1 x7 x8 r h
      rw [daycount_ahead.l0] at h
      rw [atL_some]
      by_cases h1 : x8 < x1
      · rw [if_pos h1] at h
        by_cases h2 : x8 = 2
        · rw [if_pos h2] at h
          obtain ⟨t3, h3, h⟩ := bnd h
          have h3c := ((date_Leap.ok _ _ h3))
          try simp only [Tf, List.nil_append, List.cons_append, Int.reduceToNat] at h3c
          simp only [↓Bp, ↓Bs, Bo, Bh, Ba, Bc, ↓reduceIte, Nat.reduceAdd, Nat.reduceEqDiff, Nat.reduceLT, Nat.reduceLeDiff, Nat.reduceBEq, Nat.reduceMul, Int.reduceLE, Int.reduceLT, Int.reduceEq, Int.reduceToNat, Int.cast_ofNat_Int, reduceCtorEq, G48, Tf, b48, ↓Tryd.f48, F48, TY, H48, h1, eq_true h2, callP_eq h3c, daycount_ahead.l0S]
          refine AtJ.eq (Ij0 _ _ _ _ _ _ h) ?_
          simp only [Tf, Int.reduceToNat, Int.toNat_natCast, daycount_ahead.j0S]
        · rw [if_neg h2] at h
          simp only [↓Bp, ↓Bs, Bo, Bh, Ba, Bc, ↓reduceIte, Nat.reduceAdd, Nat.reduceEqDiff, Nat.reduceLT, Nat.reduceLeDiff, Nat.reduceBEq, Nat.reduceMul, Int.reduceLE, Int.reduceLT, Int.reduceEq, Int.reduceToNat, Int.cast_ofNat_Int, reduceCtorEq, G48, Tf, b48, ↓Tryd.f48, F48, TY, H48, h1, h2, daycount_ahead.l0S]
          refine AtJ.eq (Ij0 _ _ _ _ _ _ h) ?_
          simp only [Tf, Int.reduceToNat, Int.toNat_natCast, daycount_ahead.j0S]
      · rw [if_neg h1] at h
        obtain rfl := Option.some.inj h
        simp only [↓Bp, ↓Bs, Bo, Bh, Ba, Bc, ↓reduceIte, Nat.reduceAdd, Nat.reduceEqDiff, Nat.reduceLT, Nat.reduceLeDiff, Nat.reduceBEq, Nat.reduceMul, Int.reduceLE, Int.reduceLT, Int.reduceEq, Int.reduceToNat, Int.cast_ofNat_Int, reduceCtorEq, G48, Tf, b48, ↓Tryd.f48, F48, TY, H48, h1, daycount_ahead.l0S]
    · intro x0 x1 x7 x8 x18 r h
      rw [daycount_ahead.j0] at h
      rw [atJ_some]
      by_cases h4 : x18 = true
      · rw [if_pos h4] at h
        simp only [↓Bp, ↓Bs, Bo, Bh, Ba, Bc, ↓reduceIte, Nat.reduceAdd, Nat.reduceEqDiff, Nat.reduceLT, Nat.reduceLeDiff, Nat.reduceBEq, Nat.reduceMul, Int.reduceLE, Int.reduceLT, Int.reduceEq, Int.reduceToNat, Int.cast_ofNat_Int, reduceCtorEq, G48, Tf, b48, ↓Tryd.f48, F48, TY, H48, h4, daycount_ahead.j0S]
        refine AtJ.eq (Ij1 _ _ _ _ _ h) ?_
        simp only [Tf, Int.reduceToNat, Int.toNat_natCast, daycount_ahead.j1S, h4]
      · rw [if_neg h4] at h
        by_cases h5 : x8 = 2
        · rw [if_pos h5] at h
          simp only [↓Bp, ↓Bs, Bo, Bh, Ba, Bc, ↓reduceIte, Nat.reduceAdd, Nat.reduceEqDiff, Nat.reduceLT, Nat.reduceLeDiff, Nat.reduceBEq, Nat.reduceMul, Int.reduceLE, Int.reduceLT, Int.reduceEq, Int.reduceToNat, Int.cast_ofNat_Int, reduceCtorEq, G48, Tf, b48, ↓Tryd.f48, F48, TY, H48, h4, eq_true h5, daycount_ahead.j0S]
          refine AtJ.eq (Ij1 _ _ _ _ _ h) ?_
          simp only [Tf, Int.reduceToNat, Int.toNat_natCast, daycount_ahead.j1S, h4]
        · rw [if_neg h5] at h
          by_cases h6 : x8 = 4
          · rw [if_pos h6] at h
            simp only [↓Bp, ↓Bs, Bo, Bh, Ba, Bc, ↓reduceIte, Nat.reduceAdd, Nat.reduceEqDiff, Nat.reduceLT, Nat.reduceLeDiff, Nat.reduceBEq, Nat.reduceMul, Int.reduceLE, Int.reduceLT, Int.reduceEq, Int.reduceToNat, Int.cast_ofNat_Int, reduceCtorEq, G48, Tf, b48, ↓Tryd.f48, F48, TY, H48, h4, h5, eq_true h6, daycount_ahead.j0S]
            refine AtJ.eq (Ij2 _ _ _ _ _ _ h) ?_
            simp only [Tf, Int.reduceToNat, Int.toNat_natCast, daycount_ahead.j2S, h4]
          · rw [if_neg h6] at h
            by_cases h7 : x8 = 6
            · rw [if_pos h7] at h
              simp only [↓Bp, ↓Bs, Bo, Bh, Ba, Bc, ↓reduceIte, Nat.reduceAdd, Nat.reduceEqDiff, Nat.reduceLT, Nat.reduceLeDiff, Nat.reduceBEq, Nat.reduceMul, Int.reduceLE, Int.reduceLT, Int.reduceEq, Int.reduceToNat, Int.cast_ofNat_Int, reduceCtorEq, G48, Tf, b48, ↓Tryd.f48, F48, TY, H48, h4, h5, h6, eq_true h7, daycount_ahead.j0S]
              refine AtJ.eq (Ij2 _ _ _ _ _ _ h) ?_
              simp only [Tf, Int.reduceToNat, Int.toNat_natCast, daycount_ahead.j2S, h4]
            · rw [if_neg h7] at h
              by_cases h8 : x8 = 9
              · rw [if_pos h8] at h
                simp only [↓Bp, ↓Bs, Bo, Bh, Ba, Bc, ↓reduceIte, Nat.reduceAdd, Nat.reduceEqDiff, Nat.reduceLT, Nat.reduceLeDiff, Nat.reduceBEq, Nat.reduceMul, Int.reduceLE, Int.reduceLT, Int.reduceEq, Int.reduceToNat, Int.cast_ofNat_Int, reduceCtorEq, G48, Tf, b48, ↓Tryd.f48, F48, TY, H48, h4, h5, h6, h7, eq_true h8, daycount_ahead.j0S]
                refine AtJ.eq (Ij2 _ _ _ _ _ _ h) ?_
                simp only [Tf, Int.reduceToNat, Int.toNat_natCast, daycount_ahead.j2S, h4]
              · rw [if_neg h8] at h
                simp only [↓Bp, ↓Bs, Bo, Bh, Ba, Bc, ↓reduceIte, Nat.reduceAdd, Nat.reduceEqDiff, Nat.reduceLT, Nat.reduceLeDiff, Nat.reduceBEq, Nat.reduceMul, Int.reduceLE, Int.reduceLT, Int.reduceEq, Int.reduceToNat, Int.cast_ofNat_Int, reduceCtorEq, G48, Tf, b48, ↓Tryd.f48, F48, TY, H48, h4, h5, h6, h7, h8, daycount_ahead.j0S]
                refine AtJ.eq (Ij2 _ _ _ _ _ _ h) ?_
                simp only [Tf, Int.reduceToNat, Int.toNat_natCast, daycount_ahead.j2S, h4]
    · intro x0 x1 x7 x8 r h
      rw [daycount_ahead.j1] at h
      rw [atJ_some]
      simp only [↓Bp, ↓Bs, Bo, Bh, Ba, Bc, ↓reduceIte, Nat.reduceAdd, Nat.reduceEqDiff, Nat.reduceLT, Nat.reduceLeDiff, Nat.reduceBEq, Nat.reduceMul, Int.reduceLE, Int.reduceLT, Int.reduceEq, Int.reduceToNat, Int.cast_ofNat_Int, reduceCtorEq, G48, Tf, b48, ↓Tryd.f48, F48, TY, H48, daycount_ahead.j1S]
      refine AtL.eq (Il0 _ _ _ _ _ h) ?_
      simp only [Tf, Int.reduceToNat, Int.toNat_natCast, daycount_ahead.l0S]
    · intro x0 x1 x7 x8 x32 r h
      rw [daycount_ahead.j2] at h
      rw [atJ_some]
      by_cases h9 : x32 = true
      · rw [if_pos h9] at h
        simp only [↓Bp, ↓Bs, Bo, Bh, Ba, Bc, ↓reduceIte, Nat.reduceAdd, Nat.reduceEqDiff, Nat.reduceLT, Nat.reduceLeDiff, Nat.reduceBEq, Nat.reduceMul, Int.reduceLE, Int.reduceLT, Int.reduceEq, Int.reduceToNat, Int.cast_ofNat_Int, reduceCtorEq, G48, Tf, b48, ↓Tryd.f48, F48, TY, H48, h9, daycount_ahead.j2S]
        refine AtJ.eq (Ij1 _ _ _ _ _ h) ?_
        simp only [Tf, Int.reduceToNat, Int.toNat_natCast, daycount_ahead.j1S, h9]
      · rw [if_neg h9] at h
        simp only [↓Bp, ↓Bs, Bo, Bh, Ba, Bc, ↓reduceIte, Nat.reduceAdd, Nat.reduceEqDiff, Nat.reduceLT, Nat.reduceLeDiff, Nat.reduceBEq, Nat.reduceMul, Int.reduceLE, Int.reduceLT, Int.reduceEq, Int.reduceToNat, Int.cast_ofNat_Int, reduceCtorEq, G48, Tf, b48, ↓Tryd.f48, F48, TY, H48, h9, daycount_ahead.j2S]
        refine AtJ.eq (Ij1 _ _ _ _ _ h) ?_
        simp only [Tf, Int.reduceToNat, Int.toNat_natCast, daycount_ahead.j1S, h9]
theorem daycount_ahead.ok (k : Nat) (x0 : Int) (x1 : Int) (x2 : Int) (r : Int) (h : daycount_ahead.f k x0 x1 x2 = some r) : Ret C1 48 [(false, [.sc (.int .i64 x0)]), (false, [.sc (.int .i64 x1)]), (false, [.sc (.int .i64 x2)])] [aV [pI .i64 r]] := by
  refine ret_of (c := b48) Tryd.func48 rfl rfl ⟨Nat.le_of_ble_eq_true rfl, Nat.le_of_ble_eq_true rfl⟩ ?_
  unfold daycount_ahead.f at h
  rw [show Tryd.f48.results.toList = [.tmp 6] from rfl]
  rw [show Tryd.f48.ntmps = 50 from rfl]
  obtain ⟨Il0, Ij0, Ij1, Ij2⟩ := daycount_ahead.all k
  simp only [↓Bp, ↓Bs, Bo, Bh, Ba, Bc, ↓reduceIte, Nat.reduceAdd, Nat.reduceEqDiff, Nat.reduceLT, Nat.reduceLeDiff, Nat.reduceBEq, Nat.reduceMul, Int.reduceLE, Int.reduceLT, Int.reduceEq, Int.reduceToNat, Int.cast_ofNat_Int, reduceCtorEq, G48, Tf, b48, ↓Tryd.f48, F48, TY, H48]
  refine AtL.eq (Il0 _ _ _ _ _ h) ?_
  simp only [Tf, Int.reduceToNat, Int.toNat_natCast, daycount_ahead.l0S]
def ratio_size.j0 : Nat → Int → Option (List Int)
  | 0, _ => none
  | k + 1, x3 => ((nat_Of.f k x3).bind fun t2 => (some t2))
def ratio_size.f (k : Nat) (x0 : Int) : Option (List Int) := (if x0 < 0 then (ratio_size.j0 k (IntKind.u64.wrap (0 - (IntKind.u64.wrap (x0))))) else (ratio_size.j0 k (IntKind.u64.wrap (x0))))
theorem ratio_size.monos : ∀ k, (∀ x3, LeO (ratio_size.j0 k x3) (ratio_size.j0 (k + 1) x3))
  | 0 => fun _ => leo_none
  | k + 1 => by
    have I := ratio_size.monos k
    · intro x3
      rw [ratio_size.j0, ratio_size.j0]
      exact leo_bind (nat_Of.mono k _) (fun _ => leo_refl)
theorem ratio_size.mono (k : Nat) (x0 : Int) : LeO (ratio_size.f k x0) (ratio_size.f (k + 1) x0) := leo_ite ((ratio_size.monos k) _) ((ratio_size.monos k) _)
noncomputable def b45 : Code := bodyOf Tryd.f45
def F45 : Fr := ⟨0, 12, 1, [], 45⟩
def ratio_size.j0S (x3 : Int) : St := ⟨upd (fun _ => .no) 3 (.one (.p none (pI .u64 x3))), noOb, rtP 2, 2⟩
theorem ratio_size.all : ∀ k, (∀ x3 r, ratio_size.j0 k x3 = some r → AtJ C1 F45 (sub [1, 1, 1] b45) [] (some (ratio_size.j0S x3)) (RetQ C1 [.tmp 2] [aV [.sl 1 (r.map e78)]]))
  | 0 => fun _ r h => (by cases h)
  | k + 1 => by
    have Ij0 := ratio_size.all k
    · intro x3 r h
      rw [ratio_size.j0] at h
      rw [atJ_some]
      obtain ⟨t2, h2, h⟩ := bnd h
      have h2c := ((nat_Of.ok _ _ _ h2))
      try simp only [Tf, List.nil_append, List.cons_append, Int.reduceToNat] at h2c
      obtain rfl := Option.some.inj h
      simp only [↓Bp, ↓Bs, Bo, Bh, Ba, Bc, ↓reduceIte, Nat.reduceAdd, Nat.reduceEqDiff, Nat.reduceLT, Nat.reduceLeDiff, Nat.reduceBEq, Nat.reduceMul, Int.reduceLE, Int.reduceLT, Int.reduceEq, Int.reduceToNat, Int.cast_ofNat_Int, reduceCtorEq, G45, Tf, b45, ↓Tryd.f45, F45, TY, H45, callP_eq h2c, ratio_size.j0S]
theorem ratio_size.ok (k : Nat) (x0 : Int) (r : List Int) (h : ratio_size.f k x0 = some r) : Ret C1 45 [(false, [.sc (.int .i64 x0)])] [aV [.sl 1 (r.map e78)]] := by
  refine ret_of (c := b45) Tryd.func45 rfl rfl ⟨Nat.le_of_ble_eq_true rfl, Nat.le_of_ble_eq_true rfl⟩ ?_
  unfold ratio_size.f at h
  rw [show Tryd.f45.results.toList = [.tmp 2] from rfl]
  rw [show Tryd.f45.ntmps = 12 from rfl]
  have Ij0 := ratio_size.all k
  by_cases h1 : x0 < 0
  · rw [if_pos h1] at h
    simp only [↓Bp, ↓Bs, Bo, Bh, Ba, Bc, ↓reduceIte, Nat.reduceAdd, Nat.reduceEqDiff, Nat.reduceLT, Nat.reduceLeDiff, Nat.reduceBEq, Nat.reduceMul, Int.reduceLE, Int.reduceLT, Int.reduceEq, Int.reduceToNat, Int.cast_ofNat_Int, reduceCtorEq, G45, Tf, b45, ↓Tryd.f45, F45, TY, H45, h1]
    refine AtJ.eq (Ij0 _ _ h) ?_
    simp only [Tf, Int.reduceToNat, Int.toNat_natCast, ratio_size.j0S]
  · rw [if_neg h1] at h
    simp only [↓Bp, ↓Bs, Bo, Bh, Ba, Bc, ↓reduceIte, Nat.reduceAdd, Nat.reduceEqDiff, Nat.reduceLT, Nat.reduceLeDiff, Nat.reduceBEq, Nat.reduceMul, Int.reduceLE, Int.reduceLT, Int.reduceEq, Int.reduceToNat, Int.cast_ofNat_Int, reduceCtorEq, G45, Tf, b45, ↓Tryd.f45, F45, TY, H45, h1]
    refine AtJ.eq (Ij0 _ _ h) ?_
    simp only [Tf, Int.reduceToNat, Int.toNat_natCast, ratio_size.j0S]
def ratio_Of.f (k : Nat) (x0 : Int) (x1 : Int) : Option (S31 × Int) := (if x1 = 0 then (some ((⟨false, ([] : List Int), ([] : List Int)⟩ : S31), 10)) else ((ratio_size.f k x0).bind fun t2 => ((ratio_size.f k x1).bind fun t3 => ((ratio_made.f k (⟨(!((decide (x0 < 0)) == (decide (x1 < 0)))), t2⟩ : S62) t3).bind fun t4 => (some (t4.1, t4.2))))))
theorem ratio_Of.mono (k : Nat) (x0 : Int) (x1 : Int) : LeO (ratio_Of.f k x0 x1) (ratio_Of.f (k + 1) x0 x1) := leo_ite (leo_refl) (leo_bind (ratio_size.mono k _) (fun _ => leo_bind (ratio_size.mono k _) (fun _ => leo_bind (ratio_made.mono k _ _) (fun _ => leo_refl))))
noncomputable def b26 : Code := bodyOf Tryd.f26
def F26 : Fr := ⟨0, 22, 1, [], 26⟩
theorem ratio_Of.ok (k : Nat) (x0 : Int) (x1 : Int) (r : S31 × Int) (h : ratio_Of.f k x0 x1 = some r) : Ret C1 26 [(false, [.sc (.int .i64 x0)]), (false, [.sc (.int .i64 x1)])] [aA [pB r.1.f0, .sl 1 (r.1.f1.map e78), .sl 1 (r.1.f2.map e78)], aV [pI .i64 r.2]] := by
  refine ret_of (c := b26) Tryd.func26 rfl rfl ⟨Nat.le_of_ble_eq_true rfl, Nat.le_of_ble_eq_true rfl⟩ ?_
  unfold ratio_Of.f at h
  rw [show Tryd.f26.results.toList = [.cell 4 31, .tmp 5] from rfl]
  rw [show Tryd.f26.ntmps = 22 from rfl]
  by_cases h1 : x1 = 0
  · rw [if_pos h1] at h
    obtain rfl := Option.some.inj h
    simp only [↓Bp, ↓Bs, Bo, Bh, Ba, Bc, ↓reduceIte, Nat.reduceAdd, Nat.reduceEqDiff, Nat.reduceLT, Nat.reduceLeDiff, Nat.reduceBEq, Nat.reduceMul, Int.reduceLE, Int.reduceLT, Int.reduceEq, Int.reduceToNat, Int.cast_ofNat_Int, reduceCtorEq, G26, Tf, b26, ↓Tryd.f26, F26, TY, H26, eq_true h1]
  · rw [if_neg h1] at h
    obtain ⟨t2, h2, h⟩ := bnd h
    have h2c := ((ratio_size.ok _ _ _ h2))
    try simp only [Tf, List.nil_append, List.cons_append, Int.reduceToNat] at h2c
    obtain ⟨t3, h3, h⟩ := bnd h
    have h3c := ((ratio_size.ok _ _ _ h3))
    try simp only [Tf, List.nil_append, List.cons_append, Int.reduceToNat] at h3c
    obtain ⟨t4, h4, h⟩ := bnd h
    have h4c := ((ratio_made.ok _ _ _ _ h4))
    try simp only [Tf, List.nil_append, List.cons_append, Int.reduceToNat] at h4c
    obtain rfl := Option.some.inj h
    simp only [↓Bp, ↓Bs, Bo, Bh, Ba, Bc, ↓reduceIte, Nat.reduceAdd, Nat.reduceEqDiff, Nat.reduceLT, Nat.reduceLeDiff, Nat.reduceBEq, Nat.reduceMul, Int.reduceLE, Int.reduceLT, Int.reduceEq, Int.reduceToNat, Int.cast_ofNat_Int, reduceCtorEq, G26, Tf, b26, ↓Tryd.f26, F26, TY, H26, h1, callP_eq h2c, callP_eq h3c, callP_eq h4c]
end Go.Proofs.YtjhljcnjafbkfaaDoor.X
