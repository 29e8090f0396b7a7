import Derived.Test.YtcmaohhcbiienaaXQ1a
/-! What Go's functions come to: more of it. PRINTED by xp.py (wip/d). -/
set_option linter.unusedVariables false
set_option linter.unusedSimpArgs false
set_option linter.defProp false
set_option maxHeartbeats 1000000
set_option maxRecDepth 20000
namespace Go.Proofs.Ytcmaohhcbiienaa.X
open Go.RowKit
def cashbookref30_Run.l0 : Nat → List S58 → Int → Int → List Int → List Int → List Int → S49 → Option S49
  | 0, _, _, _, _, _, _, _ => none
  | k + 1, x0, x1, x2, x3, x9, x10, y8 => ((cashbookref30_worst.f k x10 x3).bind fun t2 => (if 0 ≤ t2 then (if x9.length + 1 ≤ 16777216 then ((cashbookref30_without.f k x0 t2).bind fun t5 => ((cashbookref30_Net.f k t5 x1 x2).bind fun t6 => (cashbookref30_Run.l0 k t5 x1 x2 x3 (x9 ++ [t2]) t6 y8))) else none) else ((cashbookref30_Settle.f k x10).bind fun t7 => (some (⟨x9, x10, t7⟩ : S49)))))
def cashbookref30_Run.f (k : Nat) (x0 : List S58) (x1 : Int) (x2 : Int) (x3 : List Int) : Option S49 := ((cashbookref30_Net.f k x0 x1 x2).bind fun t1 => (cashbookref30_Run.l0 k x0 x1 x2 x3 ([] : List Int) t1 (⟨([] : List Int), ([] : List Int), ([] : List S45)⟩ : S49)))
theorem cashbookref30_Run.monos : ∀ k, (∀ x0 x1 x2 x3 x9 x10 y8, LeO (cashbookref30_Run.l0 k x0 x1 x2 x3 x9 x10 y8) (cashbookref30_Run.l0 (k + 1) x0 x1 x2 x3 x9 x10 y8))
  | 0 => fun _ _ _ _ _ _ _ => leo_none
  | k + 1 => by
    have I := cashbookref30_Run.monos k
    · intro x0 x1 x2 x3 x9 x10 y8
      rw [cashbookref30_Run.l0, cashbookref30_Run.l0]
      exact leo_bind (cashbookref30_worst.mono k _ _) (fun _ => leo_ite (leo_if (leo_bind (cashbookref30_without.mono k _ _) (fun _ => leo_bind (cashbookref30_Net.mono k _ _ _) (fun _ => I _ _ _ _ _ _ _)))) (leo_bind (cashbookref30_Settle.mono k _) (fun _ => leo_refl)))
theorem cashbookref30_Run.mono (k : Nat) (x0 : List S58) (x1 : Int) (x2 : Int) (x3 : List Int) : LeO (cashbookref30_Run.f k x0 x1 x2 x3) (cashbookref30_Run.f (k + 1) x0 x1 x2 x3) := leo_bind (cashbookref30_Net.mono k _ _ _) (fun _ => (cashbookref30_Run.monos k) _ _ _ _ _ _ _)
noncomputable def b24 : Code := bodyOf Try.f24
def F24 : Fr := ⟨0, 40, 1, [], 24⟩
def cashbookref30_Run.l0S (x0 : List S58) (x1 : Int) (x2 : Int) (x3 : List Int) (x9 : List Int) (x10 : List Int) (y8 : S49) : St := ⟨upd (upd (upd (upd (upd (upd (upd (fun _ => .no) 10 (.one (.p none (.sl 1 (x10.map e2))))) 9 (.one (.p (some 6) (.sl 1 (x9.map e3))))) 8 (.one (.pt 8 0))) 3 (.one (.p none (.sl 1 (x3.map e2))))) 2 (.one (.p none (pI .i32 x2)))) 1 (.one (.p none (pI .i64 x1)))) 0 (.one (.p none (.sl 6 (x0.map e58)))), upd noOb 8 (some (.var [.p (some 8) (.sl 1 (y8.f0.map e3)), .p (some 9) (.sl 1 (y8.f1.map e2)), .p (some 10) (.sl 3 (y8.f2.map e45))])), rtP 11, 11⟩
theorem cashbookref30_Run.all : ∀ k, (∀ x0 x1 x2 x3 x9 x10 y8 r, cashbookref30_Run.l0 k x0 x1 x2 x3 x9 x10 y8 = some r → AtL C0 F24 (sub [1, 1, 1, 0, 0, 0] b24) [.blk 0, .code (sub [1, 1, 1, 1] b24)] (some (cashbookref30_Run.l0S x0 x1 x2 x3 x9 x10 y8)) (RetQ C0 [.cell 8 49] [aA [.sl 1 (r.f0.map e3), .sl 1 (r.f1.map e2), .sl 3 (r.f2.map e45)]]))
  | 0 => fun _ _ _ _ _ _ _ r h => (by cases h)
  | k + 1 => by
    have Il0 := cashbookref30_Run.all k
    · intro x0 x1 x2 x3 x9 x10 y8 r h
      rw [cashbookref30_Run.l0] at h
      rw [atL_some]
      obtain ⟨t2, h2, h⟩ := bnd h
      have h2c := (cashbookref30_worst.ok _ _ _ _ h2)
      try simp only [Tf, List.nil_append, List.cons_append, Int.reduceToNat] at h2c
      by_cases h3 : 0 ≤ t2
      · rw [if_pos h3] at h
        obtain ⟨h4, h⟩ := ifn h
        obtain ⟨t5, h5, h⟩ := bnd h
        have h5c := (cashbookref30_without.ok _ _ _ _ h5)
        try simp only [Tf, List.nil_append, List.cons_append, Int.reduceToNat] at h5c
        obtain ⟨t6, h6, h⟩ := bnd h
        have h6c := (cashbookref30_Net.ok _ _ _ _ _ h6)
        try simp only [Tf, List.nil_append, List.cons_append, Int.reduceToNat] at h6c
        simp only [↓Bp, ↓Bs, Bo, Bh, Ba, Bc, ↓reduceIte, Nat.reduceAdd, Nat.reduceEqDiff, Nat.reduceLT, Nat.reduceLeDiff, Nat.reduceBEq, Nat.reduceMul, Int.reduceLE, Int.reduceLT, Int.reduceEq, Int.reduceToNat, reduceCtorEq, G24, Tf, b24, ↓Try.f24, F24, TY, H24, callP_eq h2c, h3, h4, callP_eq h5c, callP_eq h6c, cashbookref30_Run.l0S]
        refine AtL.eq (Il0 _ _ _ _ _ _ _ _ h) ?_
        simp only [Tf, Int.reduceToNat, Int.toNat_natCast, cashbookref30_Run.l0S]
      · rw [if_neg h3] at h
        obtain ⟨t7, h7, h⟩ := bnd h
        have h7c := (cashbookref30_Settle.ok _ _ _ h7)
        try simp only [Tf, List.nil_append, List.cons_append, Int.reduceToNat] at h7c
        obtain rfl := Option.some.inj h
        simp only [↓Bp, ↓Bs, Bo, Bh, Ba, Bc, ↓reduceIte, Nat.reduceAdd, Nat.reduceEqDiff, Nat.reduceLT, Nat.reduceLeDiff, Nat.reduceBEq, Nat.reduceMul, Int.reduceLE, Int.reduceLT, Int.reduceEq, Int.reduceToNat, reduceCtorEq, G24, Tf, b24, ↓Try.f24, F24, TY, H24, callP_eq h2c, h3, callP_eq h7c, cashbookref30_Run.l0S]
theorem cashbookref30_Run.ok (k : Nat) (x0 : List S58) (x1 : Int) (x2 : Int) (x3 : List Int) (r : S49) (h : cashbookref30_Run.f k x0 x1 x2 x3 = some r) : Ret C0 24 [(false, [.sl 6 (x0.map e58)]), (false, [.sc (.int .i64 x1)]), (false, [.sc (.int .i32 x2)]), (false, [.sl 1 (x3.map e2)])] [aA [.sl 1 (r.f0.map e3), .sl 1 (r.f1.map e2), .sl 3 (r.f2.map e45)]] := by
  refine ret_of (c := b24) Try.func24 rfl rfl ⟨Nat.le_of_ble_eq_true rfl, Nat.le_of_ble_eq_true rfl⟩ ?_
  unfold cashbookref30_Run.f at h
  rw [show Try.f24.results.toList = [.cell 8 49] from rfl]
  rw [show Try.f24.ntmps = 40 from rfl]
  have Il0 := cashbookref30_Run.all k
  obtain ⟨t1, h1, h⟩ := bnd h
  have h1c := (cashbookref30_Net.ok _ _ _ _ _ h1)
  try simp only [Tf, List.nil_append, List.cons_append, Int.reduceToNat] at h1c
  simp only [↓Bp, ↓Bs, Bo, Bh, Ba, Bc, ↓reduceIte, Nat.reduceAdd, Nat.reduceEqDiff, Nat.reduceLT, Nat.reduceLeDiff, Nat.reduceBEq, Nat.reduceMul, Int.reduceLE, Int.reduceLT, Int.reduceEq, Int.reduceToNat, reduceCtorEq, G24, Tf, b24, ↓Try.f24, F24, TY, H24, callP_eq h1c]
  refine AtL.eq (Il0 _ _ _ _ _ _ _ _ h) ?_
  simp only [Tf, Int.reduceToNat, Int.toNat_natCast, cashbookref30_Run.l0S]

def cashbookref30_Nets.l0 : Nat → List Int → List Int → Int → Int → Option Bool
  | 0, _, _, _, _ => none
  | k + 1, x0, x1, x12, x13 => (if x13 < x12 then (if 0 ≤ x13 then (if x13 < (x0.length : Int) then (if x13 < (x1.length : Int) then (if (x0.getD ((x13 : Int).toNat) 0) = (x1.getD ((x13 : Int).toNat) 0) then (cashbookref30_Nets.l0 k x0 x1 x12 (wrap64 (x13 + 1))) else (some false)) else none) else none) else none) else (some true))
def cashbookref30_Nets.f (k : Nat) (x0 : List Int) (x1 : List Int) : Option Bool := (if (x0.length : Int) = (x1.length : Int) then (cashbookref30_Nets.l0 k x0 x1 (x0.length : Int) 0) else (some false))
theorem cashbookref30_Nets.monos : ∀ k, (∀ x0 x1 x12 x13, LeO (cashbookref30_Nets.l0 k x0 x1 x12 x13) (cashbookref30_Nets.l0 (k + 1) x0 x1 x12 x13))
  | 0 => fun _ _ _ _ => leo_none
  | k + 1 => by
    have I := cashbookref30_Nets.monos k
    · intro x0 x1 x12 x13
      rw [cashbookref30_Nets.l0, cashbookref30_Nets.l0]
      exact leo_ite (leo_if (leo_if (leo_if (leo_ite (I _ _ _ _) (leo_refl))))) (leo_refl)
theorem cashbookref30_Nets.mono (k : Nat) (x0 : List Int) (x1 : List Int) : LeO (cashbookref30_Nets.f k x0 x1) (cashbookref30_Nets.f (k + 1) x0 x1) := leo_ite ((cashbookref30_Nets.monos k) _ _ _ _) (leo_refl)
noncomputable def b19 : Code := bodyOf Try.f19
def F19 : Fr := ⟨0, 26, 1, [], 19⟩
theorem D19_6 {k : List It} {s : St} {Q : Post} {ops : Array Oper} {us : List Upd} (ha : apart2 [(0, 1), (0, 4), (1, 4), (2, 4), (3, 4), (0, 5), (1, 5), (2, 5), (3, 5), (4, 5), (0, 6), (1, 6), (2, 6), (3, 6), (0, 7), (1, 7), (2, 7), (3, 7)] (loud 0 us.reverse) = true) (hl : lessAll us.length [(0, 1), (0, 4), (1, 4), (2, 4), (3, 4), (0, 5), (1, 5), (2, 5), (3, 5), (4, 5), (0, 6), (1, 6), (2, 6), (3, 6), (0, 7), (1, 7), (2, 7), (3, 7)] = true) : GR C0 ⟨0, 26, 1, [], 19⟩ k Q 6 true ops [] s us = Fin C0 ⟨0, 26, 1, [], 19⟩ k .fall s Q := gr_nilD (F := F19) rfl ha hl
def cashbookref30_Nets.l0S (x0 : List Int) (x1 : List Int) (x12 : Int) (x13 : Int) : St := ⟨upd (upd (upd (upd (fun _ => .no) 13 (.one (.p none (pI .i64 x13)))) 12 (.one (.p none (pI .i64 x12)))) 1 (.one (.p none (.sl 1 (x1.map e2))))) 0 (.one (.p none (.sl 1 (x0.map e2)))), noOb, rtP 5, 5⟩
theorem cashbookref30_Nets.all : ∀ k, (∀ x0 x1 x12 x13 r, cashbookref30_Nets.l0 k x0 x1 x12 x13 = some r → AtL C0 F19 (sub [1, 1, 0, 1, 0, 0] b19) [.blk 0, .code (sub [1, 1, 1] b19)] (some (cashbookref30_Nets.l0S x0 x1 x12 x13)) (RetQ C0 [.tmp 4] [aV [pB r]]))
  | 0 => fun _ _ _ _ r h => (by cases h)
  | k + 1 => by
    have Il0 := cashbookref30_Nets.all k
    · intro x0 x1 x12 x13 r h
      rw [cashbookref30_Nets.l0] at h
      rw [atL_some]
      by_cases h2 : x13 < x12
      · rw [if_pos h2] at h
        obtain ⟨h3, h⟩ := ifn h
        obtain ⟨h4, h⟩ := ifn h
        have h4r := fun (q : 0 ≤ x13) => rd_at (l := x0) (i := x13) 0 q h4
        replace h4r := h4r (by omega)
        obtain ⟨h5, h⟩ := ifn h
        have h5r := fun (q : 0 ≤ x13) => rd_at (l := x1) (i := x13) 0 q h5
        replace h5r := h5r (by omega)
        by_cases h6 : (x0.getD ((x13 : Int).toNat) 0) = (x1.getD ((x13 : Int).toNat) 0)
        · rw [if_pos h6] at h
          simp only [↓Bp, ↓Bs, Bo, Bh, Ba, Bc, Bd, ↓reduceIte, Nat.reduceAdd, Nat.reduceEqDiff, Nat.reduceLT, Nat.reduceLeDiff, Nat.reduceBEq, Nat.reduceMul, Int.reduceLE, Int.reduceLT, Int.reduceEq, Int.reduceToNat, reduceCtorEq, G19, Tf, b19, ↓Try.f19, F19, TY, H19, D19_6, h2, h3, h4, h4r, h5, h5r, eq_true h6, cashbookref30_Nets.l0S]
          refine AtL.eq (Il0 _ _ _ _ _ h) ?_
          simp only [Tf, Int.reduceToNat, Int.toNat_natCast, cashbookref30_Nets.l0S]
        · rw [if_neg h6] at h
          obtain rfl := Option.some.inj h
          simp only [↓Bp, ↓Bs, Bo, Bh, Ba, Bc, Bd, ↓reduceIte, Nat.reduceAdd, Nat.reduceEqDiff, Nat.reduceLT, Nat.reduceLeDiff, Nat.reduceBEq, Nat.reduceMul, Int.reduceLE, Int.reduceLT, Int.reduceEq, Int.reduceToNat, reduceCtorEq, G19, Tf, b19, ↓Try.f19, F19, TY, H19, D19_6, h2, h3, h4, h4r, h5, h5r, h6, cashbookref30_Nets.l0S]
      · rw [if_neg h2] at h
        obtain rfl := Option.some.inj h
        simp only [↓Bp, ↓Bs, Bo, Bh, Ba, Bc, Bd, ↓reduceIte, Nat.reduceAdd, Nat.reduceEqDiff, Nat.reduceLT, Nat.reduceLeDiff, Nat.reduceBEq, Nat.reduceMul, Int.reduceLE, Int.reduceLT, Int.reduceEq, Int.reduceToNat, reduceCtorEq, G19, Tf, b19, ↓Try.f19, F19, TY, H19, D19_6, h2, cashbookref30_Nets.l0S]
theorem cashbookref30_Nets.ok (k : Nat) (x0 : List Int) (x1 : List Int) (r : Bool) (h : cashbookref30_Nets.f k x0 x1 = some r) : Ret C0 19 [(false, [.sl 1 (x0.map e2)]), (false, [.sl 1 (x1.map e2)])] [aV [pB r]] := by
  refine ret_of (c := b19) Try.func19 rfl rfl ⟨Nat.le_of_ble_eq_true rfl, Nat.le_of_ble_eq_true rfl⟩ ?_
  unfold cashbookref30_Nets.f at h
  rw [show Try.f19.results.toList = [.tmp 4] from rfl]
  rw [show Try.f19.ntmps = 26 from rfl]
  have Il0 := cashbookref30_Nets.all k
  by_cases h1 : (x0.length : Int) = (x1.length : Int)
  · rw [if_pos h1] at h
    simp only [↓Bp, ↓Bs, Bo, Bh, Ba, Bc, Bd, ↓reduceIte, Nat.reduceAdd, Nat.reduceEqDiff, Nat.reduceLT, Nat.reduceLeDiff, Nat.reduceBEq, Nat.reduceMul, Int.reduceLE, Int.reduceLT, Int.reduceEq, Int.reduceToNat, reduceCtorEq, G19, Tf, b19, ↓Try.f19, F19, TY, H19, D19_6, eq_true h1]
    refine AtL.eq (Il0 _ _ _ _ _ h) ?_
    simp only [Tf, Int.reduceToNat, Int.toNat_natCast, cashbookref30_Nets.l0S]
  · rw [if_neg h1] at h
    obtain rfl := Option.some.inj h
    simp only [↓Bp, ↓Bs, Bo, Bh, Ba, Bc, Bd, ↓reduceIte, Nat.reduceAdd, Nat.reduceEqDiff, Nat.reduceLT, Nat.reduceLeDiff, Nat.reduceBEq, Nat.reduceMul, Int.reduceLE, Int.reduceLT, Int.reduceEq, Int.reduceToNat, reduceCtorEq, G19, Tf, b19, ↓Try.f19, F19, TY, H19, D19_6, h1]

mutual
def cashbookref30_Same.j0 : Nat → Bool → S49 → S49 → Option Bool
  | 0, _, _, _ => none
  | k + 1, x28, y3, y2 => (if x28 = true then (some false) else (cashbookref30_Same.l0 k (y2.f0.length : Int) 0 y3 y2))
def cashbookref30_Same.l0 : Nat → Int → Int → S49 → S49 → Option Bool
  | 0, _, _, _, _ => none
  | k + 1, x31, x32, y3, y2 => (if x32 < x31 then (if 0 ≤ x32 then (if x32 < (y2.f0.length : Int) then (if x32 < (y3.f0.length : Int) then (if (y2.f0.getD ((x32 : Int).toNat) 0) = (y3.f0.getD ((x32 : Int).toNat) 0) then (cashbookref30_Same.l0 k x31 (wrap64 (x32 + 1)) y3 y2) else (some false)) else none) else none) else none) else (some true))
end
def cashbookref30_Same.f (k : Nat) (x0 : S49) (x1 : S49) : Option Bool := (if (x0.f0.length : Int) = (x1.f0.length : Int) then ((cashbookref30_Nets.f k x0.f1 x1.f1).bind fun t2 => (if t2 = true then ((cashbookref30_Rows.f k x0.f2 x1.f2).bind fun t4 => (cashbookref30_Same.j0 k (!t4) x1 x0)) else (cashbookref30_Same.j0 k true x1 x0))) else (cashbookref30_Same.j0 k true x1 x0))
theorem cashbookref30_Same.monos : ∀ k, (∀ x28 y3 y2, LeO (cashbookref30_Same.j0 k x28 y3 y2) (cashbookref30_Same.j0 (k + 1) x28 y3 y2)) ∧ (∀ x31 x32 y3 y2, LeO (cashbookref30_Same.l0 k x31 x32 y3 y2) (cashbookref30_Same.l0 (k + 1) x31 x32 y3 y2))
  | 0 => ⟨fun _ _ _ => leo_none, fun _ _ _ _ => leo_none⟩
  | k + 1 => by
    obtain ⟨Ij0, Il0⟩ := cashbookref30_Same.monos k
    refine ⟨?_, ?_⟩
    · intro x28 y3 y2
      rw [cashbookref30_Same.j0, cashbookref30_Same.j0]
      exact leo_ite (leo_refl) (Il0 _ _ _ _)
    · intro x31 x32 y3 y2
      rw [cashbookref30_Same.l0, cashbookref30_Same.l0]
      exact leo_ite (leo_if (leo_if (leo_if (leo_ite (Il0 _ _ _ _) (leo_refl))))) (leo_refl)
theorem cashbookref30_Same.mono (k : Nat) (x0 : S49) (x1 : S49) : LeO (cashbookref30_Same.f k x0 x1) (cashbookref30_Same.f (k + 1) x0 x1) := leo_ite (leo_bind (cashbookref30_Nets.mono k _ _) (fun _ => leo_ite (leo_bind (cashbookref30_Rows.mono k _ _) (fun _ => (cashbookref30_Same.monos k).1 _ _ _)) ((cashbookref30_Same.monos k).1 _ _ _))) ((cashbookref30_Same.monos k).1 _ _ _)
noncomputable def b23 : Code := bodyOf Try.f23
def F23 : Fr := ⟨0, 47, 1, [], 23⟩
theorem D23_6 {k : List It} {s : St} {Q : Post} {ops : Array Oper} {us : List Upd} (ha : apart2 [(0, 2), (1, 2), (0, 5), (1, 5), (2, 5), (3, 5), (4, 5), (0, 6), (1, 6), (2, 6), (3, 6), (4, 6), (0, 7), (1, 7), (2, 7), (3, 7), (4, 7), (5, 7), (6, 7), (0, 8), (1, 8), (2, 8), (3, 8), (4, 8), (0, 9), (1, 9), (2, 9), (3, 9), (4, 9)] (loud 0 us.reverse) = true) (hl : lessAll us.length [(0, 2), (1, 2), (0, 5), (1, 5), (2, 5), (3, 5), (4, 5), (0, 6), (1, 6), (2, 6), (3, 6), (4, 6), (0, 7), (1, 7), (2, 7), (3, 7), (4, 7), (5, 7), (6, 7), (0, 8), (1, 8), (2, 8), (3, 8), (4, 8), (0, 9), (1, 9), (2, 9), (3, 9), (4, 9)] = true) : GR C0 ⟨0, 47, 1, [], 23⟩ k Q 6 true ops [] s us = Fin C0 ⟨0, 47, 1, [], 23⟩ k .fall s Q := gr_nilD (F := F23) rfl ha hl
def cashbookref30_Same.j0S (x28 : Bool) (y3 : S49) (y2 : S49) : St := ⟨upd (upd (upd (fun _ => .no) 28 (.one (.p none (pB x28)))) 3 (.one (.pt 3 0))) 2 (.one (.pt 2 0)), upd (upd noOb 2 (some (.var [.p none (.sl 1 (y2.f0.map e3)), .p none (.sl 1 (y2.f1.map e2)), .p none (.sl 3 (y2.f2.map e45))]))) 3 (some (.var [.p none (.sl 1 (y3.f0.map e3)), .p none (.sl 1 (y3.f1.map e2)), .p none (.sl 3 (y3.f2.map e45))])), rtP 10, 10⟩
def cashbookref30_Same.l0S (x31 : Int) (x32 : Int) (y3 : S49) (y2 : S49) : St := ⟨upd (upd (upd (upd (fun _ => .no) 32 (.one (.p none (pI .i64 x32)))) 31 (.one (.p none (pI .i64 x31)))) 3 (.one (.pt 3 0))) 2 (.one (.pt 2 0)), upd (upd noOb 2 (some (.var [.p none (.sl 1 (y2.f0.map e3)), .p none (.sl 1 (y2.f1.map e2)), .p none (.sl 3 (y2.f2.map e45))]))) 3 (some (.var [.p none (.sl 1 (y3.f0.map e3)), .p none (.sl 1 (y3.f1.map e2)), .p none (.sl 3 (y3.f2.map e45))])), rtP 11, 11⟩
theorem cashbookref30_Same.all : ∀ k, (∀ x28 y3 y2 r, cashbookref30_Same.j0 k x28 y3 y2 = some r → AtJ C0 F23 (sub [1, 0, 1] b23) [.code (sub [1, 1] b23)] (some (cashbookref30_Same.j0S x28 y3 y2)) (RetQ C0 [.tmp 4] [aV [pB r]])) ∧ (∀ x31 x32 y3 y2 r, cashbookref30_Same.l0 k x31 x32 y3 y2 = some r → AtL C0 F23 (sub [1, 1, 0, 1, 0, 0] b23) [.blk 0, .code (sub [1, 1, 1] b23)] (some (cashbookref30_Same.l0S x31 x32 y3 y2)) (RetQ C0 [.tmp 4] [aV [pB r]]))
  | 0 => ⟨fun _ _ _ r h => (by cases h), fun _ _ _ _ r h => (by cases h)⟩
  | k + 1 => by
    obtain ⟨Ij0, Il0⟩ := cashbookref30_Same.all k
    refine ⟨?_, ?_⟩
    · intro x28 y3 y2 r h
      rw [cashbookref30_Same.j0] at h
      rw [atJ_some]
      by_cases h5 : x28 = true
      · rw [if_pos h5] at h
        obtain rfl := Option.some.inj h
        simp only [↓Bp, ↓Bs, Bo, Bh, Ba, Bc, Bd, ↓reduceIte, Nat.reduceAdd, Nat.reduceEqDiff, Nat.reduceLT, Nat.reduceLeDiff, Nat.reduceBEq, Nat.reduceMul, Int.reduceLE, Int.reduceLT, Int.reduceEq, Int.reduceToNat, reduceCtorEq, G23, Tf, b23, ↓Try.f23, F23, TY, H23, D23_6, h5, cashbookref30_Same.j0S]
      · rw [if_neg h5] at h
        simp only [↓Bp, ↓Bs, Bo, Bh, Ba, Bc, Bd, ↓reduceIte, Nat.reduceAdd, Nat.reduceEqDiff, Nat.reduceLT, Nat.reduceLeDiff, Nat.reduceBEq, Nat.reduceMul, Int.reduceLE, Int.reduceLT, Int.reduceEq, Int.reduceToNat, reduceCtorEq, G23, Tf, b23, ↓Try.f23, F23, TY, H23, D23_6, h5, cashbookref30_Same.j0S]
        refine AtL.eq (Il0 _ _ _ _ _ h) ?_
        simp only [Tf, Int.reduceToNat, Int.toNat_natCast, cashbookref30_Same.l0S]
    · intro x31 x32 y3 y2 r h
      rw [cashbookref30_Same.l0] at h
      rw [atL_some]
      by_cases h6 : x32 < x31
      · rw [if_pos h6] at h
        obtain ⟨h7, h⟩ := ifn h
        obtain ⟨h8, h⟩ := ifn h
        have h8r := fun (q : 0 ≤ x32) => rd_at (l := y2.f0) (i := x32) 0 q h8
        replace h8r := h8r (by omega)
        obtain ⟨h9, h⟩ := ifn h
        have h9r := fun (q : 0 ≤ x32) => rd_at (l := y3.f0) (i := x32) 0 q h9
        replace h9r := h9r (by omega)
        by_cases h10 : (y2.f0.getD ((x32 : Int).toNat) 0) = (y3.f0.getD ((x32 : Int).toNat) 0)
        · rw [if_pos h10] at h
          simp only [↓Bp, ↓Bs, Bo, Bh, Ba, Bc, Bd, ↓reduceIte, Nat.reduceAdd, Nat.reduceEqDiff, Nat.reduceLT, Nat.reduceLeDiff, Nat.reduceBEq, Nat.reduceMul, Int.reduceLE, Int.reduceLT, Int.reduceEq, Int.reduceToNat, reduceCtorEq, G23, Tf, b23, ↓Try.f23, F23, TY, H23, D23_6, h6, h7, h8, h8r, h9, h9r, eq_true h10, cashbookref30_Same.l0S]
          refine AtL.eq (Il0 _ _ _ _ _ h) ?_
          simp only [Tf, Int.reduceToNat, Int.toNat_natCast, cashbookref30_Same.l0S]
        · rw [if_neg h10] at h
          obtain rfl := Option.some.inj h
          simp only [↓Bp, ↓Bs, Bo, Bh, Ba, Bc, Bd, ↓reduceIte, Nat.reduceAdd, Nat.reduceEqDiff, Nat.reduceLT, Nat.reduceLeDiff, Nat.reduceBEq, Nat.reduceMul, Int.reduceLE, Int.reduceLT, Int.reduceEq, Int.reduceToNat, reduceCtorEq, G23, Tf, b23, ↓Try.f23, F23, TY, H23, D23_6, h6, h7, h8, h8r, h9, h9r, h10, cashbookref30_Same.l0S]
      · rw [if_neg h6] at h
        obtain rfl := Option.some.inj h
        simp only [↓Bp, ↓Bs, Bo, Bh, Ba, Bc, Bd, ↓reduceIte, Nat.reduceAdd, Nat.reduceEqDiff, Nat.reduceLT, Nat.reduceLeDiff, Nat.reduceBEq, Nat.reduceMul, Int.reduceLE, Int.reduceLT, Int.reduceEq, Int.reduceToNat, reduceCtorEq, G23, Tf, b23, ↓Try.f23, F23, TY, H23, D23_6, h6, cashbookref30_Same.l0S]
theorem cashbookref30_Same.ok (k : Nat) (x0 : S49) (x1 : S49) (r : Bool) (h : cashbookref30_Same.f k x0 x1 = some r) : Ret C0 23 [(true, [.sl 1 (x0.f0.map e3), .sl 1 (x0.f1.map e2), .sl 3 (x0.f2.map e45)]), (true, [.sl 1 (x1.f0.map e3), .sl 1 (x1.f1.map e2), .sl 3 (x1.f2.map e45)])] [aV [pB r]] := by
  refine ret_of (c := b23) Try.func23 rfl rfl ⟨Nat.le_of_ble_eq_true rfl, Nat.le_of_ble_eq_true rfl⟩ ?_
  unfold cashbookref30_Same.f at h
  rw [show Try.f23.results.toList = [.tmp 4] from rfl]
  rw [show Try.f23.ntmps = 47 from rfl]
  obtain ⟨Ij0, Il0⟩ := cashbookref30_Same.all k
  by_cases h1 : (x0.f0.length : Int) = (x1.f0.length : Int)
  · rw [if_pos h1] at h
    obtain ⟨t2, h2, h⟩ := bnd h
    have h2c := (cashbookref30_Nets.ok _ _ _ _ h2)
    try simp only [Tf, List.nil_append, List.cons_append, Int.reduceToNat] at h2c
    by_cases h3 : t2 = true
    · rw [if_pos h3] at h
      obtain ⟨t4, h4, h⟩ := bnd h
      have h4c := (cashbookref30_Rows.ok _ _ _ _ h4)
      try simp only [Tf, List.nil_append, List.cons_append, Int.reduceToNat] at h4c
      simp only [↓Bp, ↓Bs, Bo, Bh, Ba, Bc, Bd, ↓reduceIte, Nat.reduceAdd, Nat.reduceEqDiff, Nat.reduceLT, Nat.reduceLeDiff, Nat.reduceBEq, Nat.reduceMul, Int.reduceLE, Int.reduceLT, Int.reduceEq, Int.reduceToNat, reduceCtorEq, G23, Tf, b23, ↓Try.f23, F23, TY, H23, D23_6, eq_true h1, callP_eq h2c, h3, callP_eq h4c]
      refine AtJ.eq (Ij0 _ _ _ _ h) ?_
      simp only [Tf, Int.reduceToNat, Int.toNat_natCast, cashbookref30_Same.j0S]
    · rw [if_neg h3] at h
      simp only [↓Bp, ↓Bs, Bo, Bh, Ba, Bc, Bd, ↓reduceIte, Nat.reduceAdd, Nat.reduceEqDiff, Nat.reduceLT, Nat.reduceLeDiff, Nat.reduceBEq, Nat.reduceMul, Int.reduceLE, Int.reduceLT, Int.reduceEq, Int.reduceToNat, reduceCtorEq, G23, Tf, b23, ↓Try.f23, F23, TY, H23, D23_6, eq_true h1, callP_eq h2c, h3]
      refine AtJ.eq (Ij0 _ _ _ _ h) ?_
      simp only [Tf, Int.reduceToNat, Int.toNat_natCast, cashbookref30_Same.j0S]
  · rw [if_neg h1] at h
    simp only [↓Bp, ↓Bs, Bo, Bh, Ba, Bc, Bd, ↓reduceIte, Nat.reduceAdd, Nat.reduceEqDiff, Nat.reduceLT, Nat.reduceLeDiff, Nat.reduceBEq, Nat.reduceMul, Int.reduceLE, Int.reduceLT, Int.reduceEq, Int.reduceToNat, reduceCtorEq, G23, Tf, b23, ↓Try.f23, F23, TY, H23, D23_6, h1]
    refine AtJ.eq (Ij0 _ _ _ _ h) ?_
    simp only [Tf, Int.reduceToNat, Int.toNat_natCast, cashbookref30_Same.j0S]

mutual
def cashbooklaw30_NettingRuns.j0 : Nat → List S58 → Int → Int → List Int → Int → Int → Bool → S49 → Option Bool
  | 0, _, _, _, _, _, _, _, _ => none
  | k + 1, x0, x1, x2, x3, x10, x11, x28, y9 => (if x28 = true then (cashbooklaw30_NettingRuns.j1 k x0 x1 x2 x3 x10 12 y9) else ((cashbookref04_Right.f x2).bind fun t8 => (if t8 = true then ((cashbookref30_Caps.f k x3).bind fun t10 => (if t10 = true then (cashbooklaw30_NettingRuns.j1 k x0 x1 x2 x3 x10 x11 y9) else (cashbooklaw30_NettingRuns.j1 k x0 x1 x2 x3 x10 1 y9))) else (cashbooklaw30_NettingRuns.j1 k x0 x1 x2 x3 x10 11 y9))))
def cashbooklaw30_NettingRuns.j1 : Nat → List S58 → Int → Int → List Int → Int → Int → S49 → Option Bool
  | 0, _, _, _, _, _, _, _ => none
  | k + 1, x0, x1, x2, x3, x10, x11, y9 => (if x11 = 0 then ((cashbooklaw30_alive.f k).bind fun t13 => (if t13 = true then (if x10 = 0 then ((cashbookref30_Run.f k x0 x1 x2 x3).bind fun t16 => ((cashbookref30_Same.f k y9 t16).bind fun t17 => (some t17))) else (some false)) else (some false))) else ((cashbooklaw30_alive.f k).bind fun t18 => (if t18 = true then (if x10 = x11 then ((cashbookref30_Same.f k y9 (⟨([] : List Int), ([] : List Int), ([] : List S45)⟩ : S49)).bind fun t21 => (some t21)) else (some false)) else (some false))))
end
def cashbooklaw30_NettingRuns.f (k : Nat) (x0 : List S58) (x1 : Int) (x2 : Int) (x3 : List Int) : Option Bool := ((cashbooklaw30_few.f x0).bind fun t1 => ((cashbooklaw30_cut.f x3).bind fun t2 => ((netting_Run.f k t1 x1 x2 t2).bind fun t3 => ((cashbookref30_Right.f k t1).bind fun t4 => (if t4 = true then (if x1 < 0 then (cashbooklaw30_NettingRuns.j0 k t1 x1 x2 t2 t3.2 0 true t3.1) else (cashbooklaw30_NettingRuns.j0 k t1 x1 x2 t2 t3.2 0 (decide (3 < x1)) t3.1)) else (cashbooklaw30_NettingRuns.j1 k t1 x1 x2 t2 t3.2 1 t3.1))))))
theorem cashbooklaw30_NettingRuns.monos : ∀ k, (∀ x0 x1 x2 x3 x10 x11 x28 y9, LeO (cashbooklaw30_NettingRuns.j0 k x0 x1 x2 x3 x10 x11 x28 y9) (cashbooklaw30_NettingRuns.j0 (k + 1) x0 x1 x2 x3 x10 x11 x28 y9)) ∧ (∀ x0 x1 x2 x3 x10 x11 y9, LeO (cashbooklaw30_NettingRuns.j1 k x0 x1 x2 x3 x10 x11 y9) (cashbooklaw30_NettingRuns.j1 (k + 1) x0 x1 x2 x3 x10 x11 y9))
  | 0 => ⟨fun _ _ _ _ _ _ _ _ => leo_none, fun _ _ _ _ _ _ _ => leo_none⟩
  | k + 1 => by
    obtain ⟨Ij0, Ij1⟩ := cashbooklaw30_NettingRuns.monos k
    refine ⟨?_, ?_⟩
    · intro x0 x1 x2 x3 x10 x11 x28 y9
      rw [cashbooklaw30_NettingRuns.j0, cashbooklaw30_NettingRuns.j0]
      exact leo_ite (Ij1 _ _ _ _ _ _ _) (leo_bind leo_refl (fun _ => leo_ite (leo_bind (cashbookref30_Caps.mono k _) (fun _ => leo_ite (Ij1 _ _ _ _ _ _ _) (Ij1 _ _ _ _ _ _ _))) (Ij1 _ _ _ _ _ _ _)))
    · intro x0 x1 x2 x3 x10 x11 y9
      rw [cashbooklaw30_NettingRuns.j1, cashbooklaw30_NettingRuns.j1]
      exact leo_ite (leo_bind (cashbooklaw30_alive.mono k) (fun _ => leo_ite (leo_ite (leo_bind (cashbookref30_Run.mono k _ _ _ _) (fun _ => leo_bind (cashbookref30_Same.mono k _ _) (fun _ => leo_refl))) (leo_refl)) (leo_refl))) (leo_bind (cashbooklaw30_alive.mono k) (fun _ => leo_ite (leo_ite (leo_bind (cashbookref30_Same.mono k _ _) (fun _ => leo_refl)) (leo_refl)) (leo_refl)))
theorem cashbooklaw30_NettingRuns.mono (k : Nat) (x0 : List S58) (x1 : Int) (x2 : Int) (x3 : List Int) : LeO (cashbooklaw30_NettingRuns.f k x0 x1 x2 x3) (cashbooklaw30_NettingRuns.f (k + 1) x0 x1 x2 x3) := leo_bind leo_refl (fun _ => leo_bind leo_refl (fun _ => leo_bind (netting_Run.mono k _ _ _ _) (fun _ => leo_bind (cashbookref30_Right.mono k _) (fun _ => leo_ite (leo_ite ((cashbooklaw30_NettingRuns.monos k).1 _ _ _ _ _ _ _ _) ((cashbooklaw30_NettingRuns.monos k).1 _ _ _ _ _ _ _ _)) ((cashbooklaw30_NettingRuns.monos k).2 _ _ _ _ _ _ _)))))
noncomputable def b5 : Code := bodyOf Try.f5
def F5 : Fr := ⟨0, 70, 1, [], 5⟩
theorem D5_14 {k : List It} {s : St} {Q : Post} {ops : Array Oper} {us : List Upd} (ha : apart2 [(6, 7), (6, 8), (7, 8), (6, 9), (7, 9), (8, 9), (6, 10), (7, 10), (8, 10), (9, 10), (6, 11)] (loud 0 us.reverse) = true) (hl : lessAll us.length [(6, 7), (6, 8), (7, 8), (6, 9), (7, 9), (8, 9), (6, 10), (7, 10), (8, 10), (9, 10), (6, 11)] = true) : GR C0 ⟨0, 70, 1, [], 5⟩ k Q 14 true ops [] s us = Fin C0 ⟨0, 70, 1, [], 5⟩ k .fall s Q := gr_nilD (F := F5) rfl ha hl
def cashbooklaw30_NettingRuns.j0S (x0 : List S58) (x1 : Int) (x2 : Int) (x3 : List Int) (x10 : Int) (x11 : Int) (x28 : Bool) (y9 : S49) : St := ⟨upd (upd (upd (upd (upd (upd (upd (upd (fun _ => .no) 28 (.one (.p none (pB x28)))) 11 (.one (.p none (pI .i64 x11)))) 10 (.one (.p none (pI .i64 x10)))) 9 (.one (.pt 9 0))) 3 (.one (.p none (.sl 1 (x3.map e2))))) 2 (.one (.p none (pI .i32 x2)))) 1 (.one (.p none (pI .i64 x1)))) 0 (.one (.p none (.sl 6 (x0.map e58)))), upd noOb 9 (some (.var [.p none (.sl 1 (y9.f0.map e3)), .p none (.sl 1 (y9.f1.map e2)), .p none (.sl 3 (y9.f2.map e45))])), rtP 12, 12⟩
def cashbooklaw30_NettingRuns.j1S (x0 : List S58) (x1 : Int) (x2 : Int) (x3 : List Int) (x10 : Int) (x11 : Int) (y9 : S49) : St := ⟨upd (upd (upd (upd (upd (upd (upd (fun _ => .no) 11 (.one (.p none (pI .i64 x11)))) 10 (.one (.p none (pI .i64 x10)))) 9 (.one (.pt 9 0))) 3 (.one (.p none (.sl 1 (x3.map e2))))) 2 (.one (.p none (pI .i32 x2)))) 1 (.one (.p none (pI .i64 x1)))) 0 (.one (.p none (.sl 6 (x0.map e58)))), upd noOb 9 (some (.var [.p none (.sl 1 (y9.f0.map e3)), .p none (.sl 1 (y9.f1.map e2)), .p none (.sl 3 (y9.f2.map e45))])), rtP 11, 11⟩
theorem cashbooklaw30_NettingRuns.all : ∀ k, (∀ x0 x1 x2 x3 x10 x11 x28 y9 r, cashbooklaw30_NettingRuns.j0 k x0 x1 x2 x3 x10 x11 x28 y9 = some r → AtJ C0 F5 (sub [1, 1, 1, 1, 0, 0, 1, 2, 1] b5) [.blk 0, .code (sub [1, 1, 1, 1, 1] b5)] (some (cashbooklaw30_NettingRuns.j0S x0 x1 x2 x3 x10 x11 x28 y9)) (RetQ C0 [.tmp 8] [aV [pB r]])) ∧ (∀ x0 x1 x2 x3 x10 x11 y9 r, cashbooklaw30_NettingRuns.j1 k x0 x1 x2 x3 x10 x11 y9 = some r → AtJ C0 F5 (sub [1, 1, 1, 1, 1] b5) [] (some (cashbooklaw30_NettingRuns.j1S x0 x1 x2 x3 x10 x11 y9)) (RetQ C0 [.tmp 8] [aV [pB r]]))
  | 0 => ⟨fun _ _ _ _ _ _ _ _ r h => (by cases h), fun _ _ _ _ _ _ _ r h => (by cases h)⟩
  | k + 1 => by
    obtain ⟨Ij0, Ij1⟩ := cashbooklaw30_NettingRuns.all k
    refine ⟨?_, ?_⟩
    · intro x0 x1 x2 x3 x10 x11 x28 y9 r h
      rw [cashbooklaw30_NettingRuns.j0] at h
      rw [atJ_some]
      by_cases h7 : x28 = true
      · rw [if_pos h7] at h
        simp only [↓Bp, ↓Bs, Bo, Bh, Ba, Bc, Bd, ↓reduceIte, Nat.reduceAdd, Nat.reduceEqDiff, Nat.reduceLT, Nat.reduceLeDiff, Nat.reduceBEq, Nat.reduceMul, Int.reduceLE, Int.reduceLT, Int.reduceEq, Int.reduceToNat, reduceCtorEq, G5, Tf, b5, ↓Try.f5, F5, TY, H5, D5_14, h7, cashbooklaw30_NettingRuns.j0S]
        refine AtJ.eq (Ij1 _ _ _ _ _ _ _ _ h) ?_
        simp only [Tf, Int.reduceToNat, Int.toNat_natCast, cashbooklaw30_NettingRuns.j1S]
      · rw [if_neg h7] at h
        obtain ⟨t8, h8, h⟩ := bnd h
        have h8c := (cashbookref04_Right.ok _ _ h8)
        try simp only [Tf, List.nil_append, List.cons_append, Int.reduceToNat] at h8c
        by_cases h9 : t8 = true
        · rw [if_pos h9] at h
          obtain ⟨t10, h10, h⟩ := bnd h
          have h10c := (cashbookref30_Caps.ok _ _ _ h10)
          try simp only [Tf, List.nil_append, List.cons_append, Int.reduceToNat] at h10c
          by_cases h11 : t10 = true
          · rw [if_pos h11] at h
            simp only [↓Bp, ↓Bs, Bo, Bh, Ba, Bc, Bd, ↓reduceIte, Nat.reduceAdd, Nat.reduceEqDiff, Nat.reduceLT, Nat.reduceLeDiff, Nat.reduceBEq, Nat.reduceMul, Int.reduceLE, Int.reduceLT, Int.reduceEq, Int.reduceToNat, reduceCtorEq, G5, Tf, b5, ↓Try.f5, F5, TY, H5, D5_14, h7, callP_eq h8c, h9, callP_eq h10c, h11, cashbooklaw30_NettingRuns.j0S]
            refine AtJ.eq (Ij1 _ _ _ _ _ _ _ _ h) ?_
            simp only [Tf, Int.reduceToNat, Int.toNat_natCast, cashbooklaw30_NettingRuns.j1S]
          · rw [if_neg h11] at h
            simp only [↓Bp, ↓Bs, Bo, Bh, Ba, Bc, Bd, ↓reduceIte, Nat.reduceAdd, Nat.reduceEqDiff, Nat.reduceLT, Nat.reduceLeDiff, Nat.reduceBEq, Nat.reduceMul, Int.reduceLE, Int.reduceLT, Int.reduceEq, Int.reduceToNat, reduceCtorEq, G5, Tf, b5, ↓Try.f5, F5, TY, H5, D5_14, h7, callP_eq h8c, h9, callP_eq h10c, h11, cashbooklaw30_NettingRuns.j0S]
            refine AtJ.eq (Ij1 _ _ _ _ _ _ _ _ h) ?_
            simp only [Tf, Int.reduceToNat, Int.toNat_natCast, cashbooklaw30_NettingRuns.j1S]
        · rw [if_neg h9] at h
          simp only [↓Bp, ↓Bs, Bo, Bh, Ba, Bc, Bd, ↓reduceIte, Nat.reduceAdd, Nat.reduceEqDiff, Nat.reduceLT, Nat.reduceLeDiff, Nat.reduceBEq, Nat.reduceMul, Int.reduceLE, Int.reduceLT, Int.reduceEq, Int.reduceToNat, reduceCtorEq, G5, Tf, b5, ↓Try.f5, F5, TY, H5, D5_14, h7, callP_eq h8c, h9, cashbooklaw30_NettingRuns.j0S]
          refine AtJ.eq (Ij1 _ _ _ _ _ _ _ _ h) ?_
          simp only [Tf, Int.reduceToNat, Int.toNat_natCast, cashbooklaw30_NettingRuns.j1S]
    · intro x0 x1 x2 x3 x10 x11 y9 r h
      rw [cashbooklaw30_NettingRuns.j1] at h
      rw [atJ_some]
      by_cases h12 : x11 = 0
      · rw [if_pos h12] at h
        obtain ⟨t13, h13, h⟩ := bnd h
        have h13c := (cashbooklaw30_alive.ok _  _ h13)
        try simp only [Tf, List.nil_append, List.cons_append, Int.reduceToNat] at h13c
        by_cases h14 : t13 = true
        · rw [if_pos h14] at h
          by_cases h15 : x10 = 0
          · rw [if_pos h15] at h
            obtain ⟨t16, h16, h⟩ := bnd h
            have h16c := (cashbookref30_Run.ok _ _ _ _ _ _ h16)
            try simp only [Tf, List.nil_append, List.cons_append, Int.reduceToNat] at h16c
            obtain ⟨t17, h17, h⟩ := bnd h
            have h17c := (cashbookref30_Same.ok _ _ _ _ h17)
            try simp only [Tf, List.nil_append, List.cons_append, Int.reduceToNat] at h17c
            obtain rfl := Option.some.inj h
            simp only [↓Bp, ↓Bs, Bo, Bh, Ba, Bc, Bd, ↓reduceIte, Nat.reduceAdd, Nat.reduceEqDiff, Nat.reduceLT, Nat.reduceLeDiff, Nat.reduceBEq, Nat.reduceMul, Int.reduceLE, Int.reduceLT, Int.reduceEq, Int.reduceToNat, reduceCtorEq, G5, Tf, b5, ↓Try.f5, F5, TY, H5, D5_14, eq_true h12, callP_eq h13c, h14, eq_true h15, callP_eq h16c, callP_eq h17c, cashbooklaw30_NettingRuns.j1S]
          · rw [if_neg h15] at h
            obtain rfl := Option.some.inj h
            simp only [↓Bp, ↓Bs, Bo, Bh, Ba, Bc, Bd, ↓reduceIte, Nat.reduceAdd, Nat.reduceEqDiff, Nat.reduceLT, Nat.reduceLeDiff, Nat.reduceBEq, Nat.reduceMul, Int.reduceLE, Int.reduceLT, Int.reduceEq, Int.reduceToNat, reduceCtorEq, G5, Tf, b5, ↓Try.f5, F5, TY, H5, D5_14, eq_true h12, callP_eq h13c, h14, h15, cashbooklaw30_NettingRuns.j1S]
        · rw [if_neg h14] at h
          obtain rfl := Option.some.inj h
          simp only [↓Bp, ↓Bs, Bo, Bh, Ba, Bc, Bd, ↓reduceIte, Nat.reduceAdd, Nat.reduceEqDiff, Nat.reduceLT, Nat.reduceLeDiff, Nat.reduceBEq, Nat.reduceMul, Int.reduceLE, Int.reduceLT, Int.reduceEq, Int.reduceToNat, reduceCtorEq, G5, Tf, b5, ↓Try.f5, F5, TY, H5, D5_14, eq_true h12, callP_eq h13c, h14, cashbooklaw30_NettingRuns.j1S]
      · rw [if_neg h12] at h
        obtain ⟨t18, h18, h⟩ := bnd h
        have h18c := (cashbooklaw30_alive.ok _  _ h18)
        try simp only [Tf, List.nil_append, List.cons_append, Int.reduceToNat] at h18c
        by_cases h19 : t18 = true
        · rw [if_pos h19] at h
          by_cases h20 : x10 = x11
          · rw [if_pos h20] at h
            obtain ⟨t21, h21, h⟩ := bnd h
            have h21c := (cashbookref30_Same.ok _ _ _ _ h21)
            try simp only [Tf, List.nil_append, List.cons_append, Int.reduceToNat] at h21c
            obtain rfl := Option.some.inj h
            simp only [↓Bp, ↓Bs, Bo, Bh, Ba, Bc, Bd, ↓reduceIte, Nat.reduceAdd, Nat.reduceEqDiff, Nat.reduceLT, Nat.reduceLeDiff, Nat.reduceBEq, Nat.reduceMul, Int.reduceLE, Int.reduceLT, Int.reduceEq, Int.reduceToNat, reduceCtorEq, G5, Tf, b5, ↓Try.f5, F5, TY, H5, D5_14, h12, callP_eq h18c, h19, eq_true h20, callP_eq h21c, cashbooklaw30_NettingRuns.j1S]
          · rw [if_neg h20] at h
            obtain rfl := Option.some.inj h
            simp only [↓Bp, ↓Bs, Bo, Bh, Ba, Bc, Bd, ↓reduceIte, Nat.reduceAdd, Nat.reduceEqDiff, Nat.reduceLT, Nat.reduceLeDiff, Nat.reduceBEq, Nat.reduceMul, Int.reduceLE, Int.reduceLT, Int.reduceEq, Int.reduceToNat, reduceCtorEq, G5, Tf, b5, ↓Try.f5, F5, TY, H5, D5_14, h12, callP_eq h18c, h19, h20, cashbooklaw30_NettingRuns.j1S]
        · rw [if_neg h19] at h
          obtain rfl := Option.some.inj h
          simp only [↓Bp, ↓Bs, Bo, Bh, Ba, Bc, Bd, ↓reduceIte, Nat.reduceAdd, Nat.reduceEqDiff, Nat.reduceLT, Nat.reduceLeDiff, Nat.reduceBEq, Nat.reduceMul, Int.reduceLE, Int.reduceLT, Int.reduceEq, Int.reduceToNat, reduceCtorEq, G5, Tf, b5, ↓Try.f5, F5, TY, H5, D5_14, h12, callP_eq h18c, h19, cashbooklaw30_NettingRuns.j1S]
theorem cashbooklaw30_NettingRuns.ok (k : Nat) (x0 : List S58) (x1 : Int) (x2 : Int) (x3 : List Int) (r : Bool) (h : cashbooklaw30_NettingRuns.f k x0 x1 x2 x3 = some r) : Ret C0 5 [(false, [.sl 6 (x0.map e58)]), (false, [.sc (.int .i64 x1)]), (false, [.sc (.int .i32 x2)]), (false, [.sl 1 (x3.map e2)])] [aV [pB r]] := by
  refine ret_of (c := b5) Try.func5 rfl rfl ⟨Nat.le_of_ble_eq_true rfl, Nat.le_of_ble_eq_true rfl⟩ ?_
  unfold cashbooklaw30_NettingRuns.f at h
  rw [show Try.f5.results.toList = [.tmp 8] from rfl]
  rw [show Try.f5.ntmps = 70 from rfl]
  obtain ⟨Ij0, Ij1⟩ := cashbooklaw30_NettingRuns.all k
  obtain ⟨t1, h1, h⟩ := bnd h
  have h1c := (cashbooklaw30_few.ok _ _ h1)
  try simp only [Tf, List.nil_append, List.cons_append, Int.reduceToNat] at h1c
  obtain ⟨t2, h2, h⟩ := bnd h
  have h2c := (cashbooklaw30_cut.ok _ _ h2)
  try simp only [Tf, List.nil_append, List.cons_append, Int.reduceToNat] at h2c
  obtain ⟨t3, h3, h⟩ := bnd h
  have h3c := (netting_Run.ok _ _ _ _ _ _ h3)
  try simp only [Tf, List.nil_append, List.cons_append, Int.reduceToNat] at h3c
  obtain ⟨t4, h4, h⟩ := bnd h
  have h4c := (cashbookref30_Right.ok _ _ _ h4)
  try simp only [Tf, List.nil_append, List.cons_append, Int.reduceToNat] at h4c
  by_cases h5 : t4 = true
  · rw [if_pos h5] at h
    by_cases h6 : x1 < 0
    · rw [if_pos h6] at h
      simp only [↓Bp, ↓Bs, Bo, Bh, Ba, Bc, Bd, ↓reduceIte, Nat.reduceAdd, Nat.reduceEqDiff, Nat.reduceLT, Nat.reduceLeDiff, Nat.reduceBEq, Nat.reduceMul, Int.reduceLE, Int.reduceLT, Int.reduceEq, Int.reduceToNat, reduceCtorEq, G5, Tf, b5, ↓Try.f5, F5, TY, H5, D5_14, callP_eq h1c, callP_eq h2c, callP_eq h3c, callP_eq h4c, h5, h6]
      refine AtJ.eq (Ij0 _ _ _ _ _ _ _ _ _ h) ?_
      simp only [Tf, Int.reduceToNat, Int.toNat_natCast, cashbooklaw30_NettingRuns.j0S]
    · rw [if_neg h6] at h
      simp only [↓Bp, ↓Bs, Bo, Bh, Ba, Bc, Bd, ↓reduceIte, Nat.reduceAdd, Nat.reduceEqDiff, Nat.reduceLT, Nat.reduceLeDiff, Nat.reduceBEq, Nat.reduceMul, Int.reduceLE, Int.reduceLT, Int.reduceEq, Int.reduceToNat, reduceCtorEq, G5, Tf, b5, ↓Try.f5, F5, TY, H5, D5_14, callP_eq h1c, callP_eq h2c, callP_eq h3c, callP_eq h4c, h5, h6]
      refine AtJ.eq (Ij0 _ _ _ _ _ _ _ _ _ h) ?_
      simp only [Tf, Int.reduceToNat, Int.toNat_natCast, cashbooklaw30_NettingRuns.j0S]
  · rw [if_neg h5] at h
    simp only [↓Bp, ↓Bs, Bo, Bh, Ba, Bc, Bd, ↓reduceIte, Nat.reduceAdd, Nat.reduceEqDiff, Nat.reduceLT, Nat.reduceLeDiff, Nat.reduceBEq, Nat.reduceMul, Int.reduceLE, Int.reduceLT, Int.reduceEq, Int.reduceToNat, reduceCtorEq, G5, Tf, b5, ↓Try.f5, F5, TY, H5, D5_14, callP_eq h1c, callP_eq h2c, callP_eq h3c, callP_eq h4c, h5]
    refine AtJ.eq (Ij1 _ _ _ _ _ _ _ _ h) ?_
    simp only [Tf, Int.reduceToNat, Int.toNat_natCast, cashbooklaw30_NettingRuns.j1S]

mutual
def cashbooklaw30_NettingCaps.j0 : Nat → List S58 → Int → Int → List Int → Bool → S49 → Option Bool
  | 0, _, _, _, _, _, _ => none
  | k + 1, x0, x1, x2, x3, x75, y9 => (if x75 = true then (some false) else (cashbooklaw30_NettingCaps.l0 k x0 x1 x2 x3 x0 y9.f0 (y9.f0.length : Int) 0 ([], 0) y9))
def cashbooklaw30_NettingCaps.l0 : Nat → List S58 → Int → Int → List Int → List S58 → List Int → Int → Int → MapE → S49 → Option Bool
  | 0, _, _, _, _, _, _, _, _, _, _ => none
  | k + 1, x0, x1, x2, x3, x11, x79, x80, x81, y77, y9 => (if x81 < x80 then (if 0 ≤ x81 then (if x81 < (x79.length : Int) then ((netting_Net.f k x11 x1 x2).bind fun t16 => (if t16.2 = 0 then (if (t16.1.length : Int) = 16 then (if (x79.getD ((x81 : Int).toNat) 0) < 0 then (cashbooklaw30_NettingCaps.j1 k x0 x1 x2 x3 x11 (x79.getD ((x81 : Int).toNat) 0) x79 x80 x81 true y77 y9) else (if 15 < (x79.getD ((x81 : Int).toNat) 0) then (cashbooklaw30_NettingCaps.j1 k x0 x1 x2 x3 x11 (x79.getD ((x81 : Int).toNat) 0) x79 x80 x81 true y77 y9) else (if 0 ≤ (x79.getD ((x81 : Int).toNat) 0) then (if (x79.getD ((x81 : Int).toNat) 0) < (t16.1.length : Int) then (if (x79.getD ((x81 : Int).toNat) 0) < (x3.length : Int) then (if (wrap64 (0 - (t16.1.getD (((x79.getD ((x81 : Int).toNat) 0) : Int).toNat) 0))) ≤ (x3.getD (((x79.getD ((x81 : Int).toNat) 0) : Int).toNat) 0) then (cashbooklaw30_NettingCaps.j1 k x0 x1 x2 x3 x11 (x79.getD ((x81 : Int).toNat) 0) x79 x80 x81 true y77 y9) else (if (x79.getD ((x81 : Int).toNat) 0) < (y9.f1.length : Int) then (cashbooklaw30_NettingCaps.j1 k x0 x1 x2 x3 x11 (x79.getD ((x81 : Int).toNat) 0) x79 x80 x81 (!(decide ((y9.f1.getD (((x79.getD ((x81 : Int).toNat) 0) : Int).toNat) 0) = 0))) y77 y9) else none)) else none) else none) else none))) else (cashbooklaw30_NettingCaps.j1 k x0 x1 x2 x3 x11 (x79.getD ((x81 : Int).toNat) 0) x79 x80 x81 true y77 y9)) else (cashbooklaw30_NettingCaps.j1 k x0 x1 x2 x3 x11 (x79.getD ((x81 : Int).toNat) 0) x79 x80 x81 true y77 y9))) else none) else none) else (cashbooklaw30_NettingCaps.l1 k x0 x1 x2 x3 x11 y9.f1 (y9.f1.length : Int) 0 y9))
def cashbooklaw30_NettingCaps.j1 : Nat → List S58 → Int → Int → List Int → List S58 → Int → List Int → Int → Int → Bool → MapE → S49 → Option Bool
  | 0, _, _, _, _, _, _, _, _, _, _, _, _ => none
  | k + 1, x0, x1, x2, x3, x11, x14, x79, x80, x81, x126, y77, y9 => (if x126 = true then (some false) else (cashbooklaw30_NettingCaps.l2 k x0 x1 x2 x3 x14 ([] : List S58) x79 x80 x81 x11 (x11.length : Int) 0 y77 y9))
def cashbooklaw30_NettingCaps.l1 : Nat → List S58 → Int → Int → List Int → List S58 → List Int → Int → Int → S49 → Option Bool
  | 0, _, _, _, _, _, _, _, _, _ => none
  | k + 1, x0, x1, x2, x3, x11, x159, x160, x161, y9 => (if x161 < x160 then (if 0 ≤ x161 then (if x161 < (x159.length : Int) then (if x161 < (x3.length : Int) then (if (x3.getD ((x161 : Int).toNat) 0) < (wrap64 (0 - (x159.getD ((x161 : Int).toNat) 0))) then (some false) else (cashbooklaw30_NettingCaps.l1 k x0 x1 x2 x3 x11 x159 x160 (wrap64 (x161 + 1)) y9)) else none) else none) else none) else (cashbooklaw30_NettingCaps.l3 k x0 x1 x2 x11 ((List.replicate 16 0).length : Int) 0 (List.replicate 16 0) y9))
def cashbooklaw30_NettingCaps.l2 : Nat → List S58 → Int → Int → List Int → Int → List S58 → List Int → Int → Int → List S58 → Int → Int → MapE → S49 → Option Bool
  | 0, _, _, _, _, _, _, _, _, _, _, _, _, _, _ => none
  | k + 1, x0, x1, x2, x3, x14, x17, x79, x80, x81, x127, x128, x129, y77, y9 => (if x129 < x128 then (if 0 ≤ x129 then (if x129 < (x127.length : Int) then (if (x127.getD ((x129 : Int).toNat) z58).f1 = x14 then (cashbooklaw30_NettingCaps.j2 k x0 x1 x2 x3 x14 x17 x79 x80 x81 x127 x128 x129 false (⟨(x127.getD ((x129 : Int).toNat) z58).f0, (x127.getD ((x129 : Int).toNat) z58).f1, (x127.getD ((x129 : Int).toNat) z58).f2, ((x127.getD ((x129 : Int).toNat) z58).f3), (x127.getD ((x129 : Int).toNat) z58).f4⟩ : S58) y77 y9) else (cashbooklaw30_NettingCaps.j2 k x0 x1 x2 x3 x14 x17 x79 x80 x81 x127 x128 x129 (!(decide ((x127.getD ((x129 : Int).toNat) z58).f2 = x14))) (⟨(x127.getD ((x129 : Int).toNat) z58).f0, (x127.getD ((x129 : Int).toNat) z58).f1, (x127.getD ((x129 : Int).toNat) z58).f2, ((x127.getD ((x129 : Int).toNat) z58).f3), (x127.getD ((x129 : Int).toNat) z58).f4⟩ : S58) y77 y9)) else none) else none) else ((mGetI .i64 .i64 y77 x14).bind fun t36 => ((mPutI .i64 .i64 y77 x14 (wrap64 (t36 + 1))).bind fun t37 => ((mGetI .i64 .i64 t37 x14).bind fun t38 => (if 1 < t38 then (some false) else (cashbooklaw30_NettingCaps.l0 k x0 x1 x2 x3 x17 x79 x80 (wrap64 (x81 + 1)) t37 y9))))))
def cashbooklaw30_NettingCaps.l3 : Nat → List S58 → Int → Int → List S58 → Int → Int → List Int → S49 → Option Bool
  | 0, _, _, _, _, _, _, _, _ => none
  | k + 1, x0, x1, x2, x11, x176, x177, y174, y9 => (if x177 < x176 then (if 0 ≤ x177 then (if x177 < (y174.length : Int) then (cashbooklaw30_NettingCaps.l3 k x0 x1 x2 x11 x176 (wrap64 (x177 + 1)) (y174.set ((x177 : Int).toNat) 1152921504606846976) y9) else none) else none) else ((netting_Run.f k x0 x1 x2 y174).bind fun t43 => ((netting_Net.f k x0 x1 x2).bind fun t44 => ((netting_Net.f k x11 x1 x2).bind fun t45 => (if t43.2 = 0 then (if t44.2 = 0 then (if t45.2 = 0 then (if (t43.1.f0.length : Int) = 0 then ((cashbookref30_Nets.f k t43.1.f1 t44.1).bind fun t50 => (if t50 = true then ((cashbookref30_Nets.f k y9.f1 t45.1).bind fun t52 => (some t52)) else (some false))) else (some false)) else (some false)) else (some false)) else (some false))))))
def cashbooklaw30_NettingCaps.j2 : Nat → List S58 → Int → Int → List Int → Int → List S58 → List Int → Int → Int → List S58 → Int → Int → Bool → S58 → MapE → S49 → Option Bool
  | 0, _, _, _, _, _, _, _, _, _, _, _, _, _, _, _, _ => none
  | k + 1, x0, x1, x2, x3, x14, x17, x79, x80, x81, x127, x128, x129, x142, y19, y77, y9 => (if x142 = true then (if x17.length + 1 ≤ 16777216 then (cashbooklaw30_NettingCaps.j3 k x0 x1 x2 x3 x14 (x17 ++ [y19]) x79 x80 x81 x127 x128 x129 y77 y9) else none) else (cashbooklaw30_NettingCaps.j3 k x0 x1 x2 x3 x14 x17 x79 x80 x81 x127 x128 x129 y77 y9))
def cashbooklaw30_NettingCaps.j3 : Nat → List S58 → Int → Int → List Int → Int → List S58 → List Int → Int → Int → List S58 → Int → Int → MapE → S49 → Option Bool
  | 0, _, _, _, _, _, _, _, _, _, _, _, _, _, _ => none
  | k + 1, x0, x1, x2, x3, x14, x17, x79, x80, x81, x127, x128, x129, y77, y9 => (cashbooklaw30_NettingCaps.l2 k x0 x1 x2 x3 x14 x17 x79 x80 x81 x127 x128 (wrap64 (x129 + 1)) y77 y9)
end
def cashbooklaw30_NettingCaps.f (k : Nat) (x0 : List S58) (x1 : Int) (x2 : Int) (x3 : List Int) : Option Bool := ((cashbooklaw30_few.f x0).bind fun t1 => ((cashbooklaw30_cut.f x3).bind fun t2 => ((netting_Run.f k t1 x1 x2 t2).bind fun t3 => (if t3.2 = 0 then (if (t3.1.f1.length : Int) = 16 then (if (t2.length : Int) = 16 then (if 16 < (t3.1.f0.length : Int) then (cashbooklaw30_NettingCaps.j0 k t1 x1 x2 t2 true t3.1) else ((cashbooklaw30_alive.f k).bind fun t8 => (cashbooklaw30_NettingCaps.j0 k t1 x1 x2 t2 (!t8) t3.1))) else (cashbooklaw30_NettingCaps.j0 k t1 x1 x2 t2 true t3.1)) else (cashbooklaw30_NettingCaps.j0 k t1 x1 x2 t2 true t3.1)) else ((cashbooklaw30_alive.f k).bind fun t9 => (if t9 = true then (if (t3.1.f0.length : Int) = 0 then (some (decide ((t3.1.f1.length : Int) = 0))) else (some false)) else (some false)))))))
theorem cashbooklaw30_NettingCaps.monos : ∀ k, (∀ x0 x1 x2 x3 x75 y9, LeO (cashbooklaw30_NettingCaps.j0 k x0 x1 x2 x3 x75 y9) (cashbooklaw30_NettingCaps.j0 (k + 1) x0 x1 x2 x3 x75 y9)) ∧ (∀ x0 x1 x2 x3 x11 x79 x80 x81 y77 y9, LeO (cashbooklaw30_NettingCaps.l0 k x0 x1 x2 x3 x11 x79 x80 x81 y77 y9) (cashbooklaw30_NettingCaps.l0 (k + 1) x0 x1 x2 x3 x11 x79 x80 x81 y77 y9)) ∧ (∀ x0 x1 x2 x3 x11 x14 x79 x80 x81 x126 y77 y9, LeO (cashbooklaw30_NettingCaps.j1 k x0 x1 x2 x3 x11 x14 x79 x80 x81 x126 y77 y9) (cashbooklaw30_NettingCaps.j1 (k + 1) x0 x1 x2 x3 x11 x14 x79 x80 x81 x126 y77 y9)) ∧ (∀ x0 x1 x2 x3 x11 x159 x160 x161 y9, LeO (cashbooklaw30_NettingCaps.l1 k x0 x1 x2 x3 x11 x159 x160 x161 y9) (cashbooklaw30_NettingCaps.l1 (k + 1) x0 x1 x2 x3 x11 x159 x160 x161 y9)) ∧ (∀ x0 x1 x2 x3 x14 x17 x79 x80 x81 x127 x128 x129 y77 y9, LeO (cashbooklaw30_NettingCaps.l2 k x0 x1 x2 x3 x14 x17 x79 x80 x81 x127 x128 x129 y77 y9) (cashbooklaw30_NettingCaps.l2 (k + 1) x0 x1 x2 x3 x14 x17 x79 x80 x81 x127 x128 x129 y77 y9)) ∧ (∀ x0 x1 x2 x11 x176 x177 y174 y9, LeO (cashbooklaw30_NettingCaps.l3 k x0 x1 x2 x11 x176 x177 y174 y9) (cashbooklaw30_NettingCaps.l3 (k + 1) x0 x1 x2 x11 x176 x177 y174 y9)) ∧ (∀ x0 x1 x2 x3 x14 x17 x79 x80 x81 x127 x128 x129 x142 y19 y77 y9, LeO (cashbooklaw30_NettingCaps.j2 k x0 x1 x2 x3 x14 x17 x79 x80 x81 x127 x128 x129 x142 y19 y77 y9) (cashbooklaw30_NettingCaps.j2 (k + 1) x0 x1 x2 x3 x14 x17 x79 x80 x81 x127 x128 x129 x142 y19 y77 y9)) ∧ (∀ x0 x1 x2 x3 x14 x17 x79 x80 x81 x127 x128 x129 y77 y9, LeO (cashbooklaw30_NettingCaps.j3 k x0 x1 x2 x3 x14 x17 x79 x80 x81 x127 x128 x129 y77 y9) (cashbooklaw30_NettingCaps.j3 (k + 1) x0 x1 x2 x3 x14 x17 x79 x80 x81 x127 x128 x129 y77 y9))
  | 0 => ⟨fun _ _ _ _ _ _ => leo_none, fun _ _ _ _ _ _ _ _ _ _ => leo_none, fun _ _ _ _ _ _ _ _ _ _ _ _ => leo_none, fun _ _ _ _ _ _ _ _ _ => leo_none, fun _ _ _ _ _ _ _ _ _ _ _ _ _ _ => leo_none, fun _ _ _ _ _ _ _ _ => leo_none, fun _ _ _ _ _ _ _ _ _ _ _ _ _ _ _ _ => leo_none, fun _ _ _ _ _ _ _ _ _ _ _ _ _ _ => leo_none⟩
  | k + 1 => by
    obtain ⟨Ij0, Il0, Ij1, Il1, Il2, Il3, Ij2, Ij3⟩ := cashbooklaw30_NettingCaps.monos k
    refine ⟨?_, ?_, ?_, ?_, ?_, ?_, ?_, ?_⟩
    · intro x0 x1 x2 x3 x75 y9
      rw [cashbooklaw30_NettingCaps.j0, cashbooklaw30_NettingCaps.j0]
      exact leo_ite (leo_refl) (Il0 _ _ _ _ _ _ _ _ _ _)
    · intro x0 x1 x2 x3 x11 x79 x80 x81 y77 y9
      rw [cashbooklaw30_NettingCaps.l0, cashbooklaw30_NettingCaps.l0]
      exact leo_ite (leo_if (leo_if (leo_bind (netting_Net.mono k _ _ _) (fun _ => leo_ite (leo_ite (leo_ite (Ij1 _ _ _ _ _ _ _ _ _ _ _ _) (leo_ite (Ij1 _ _ _ _ _ _ _ _ _ _ _ _) (leo_if (leo_if (leo_if (leo_ite (Ij1 _ _ _ _ _ _ _ _ _ _ _ _) (leo_if (Ij1 _ _ _ _ _ _ _ _ _ _ _ _)))))))) (Ij1 _ _ _ _ _ _ _ _ _ _ _ _)) (Ij1 _ _ _ _ _ _ _ _ _ _ _ _))))) (Il1 _ _ _ _ _ _ _ _ _)
    · intro x0 x1 x2 x3 x11 x14 x79 x80 x81 x126 y77 y9
      rw [cashbooklaw30_NettingCaps.j1, cashbooklaw30_NettingCaps.j1]
      exact leo_ite (leo_refl) (Il2 _ _ _ _ _ _ _ _ _ _ _ _ _ _)
    · intro x0 x1 x2 x3 x11 x159 x160 x161 y9
      rw [cashbooklaw30_NettingCaps.l1, cashbooklaw30_NettingCaps.l1]
      exact leo_ite (leo_if (leo_if (leo_if (leo_ite (leo_refl) (Il1 _ _ _ _ _ _ _ _ _))))) (Il3 _ _ _ _ _ _ _ _)
    · intro x0 x1 x2 x3 x14 x17 x79 x80 x81 x127 x128 x129 y77 y9
      rw [cashbooklaw30_NettingCaps.l2, cashbooklaw30_NettingCaps.l2]
      exact leo_ite (leo_if (leo_if (leo_ite (Ij2 _ _ _ _ _ _ _ _ _ _ _ _ _ _ _ _) (Ij2 _ _ _ _ _ _ _ _ _ _ _ _ _ _ _ _)))) (leo_bind leo_refl (fun _ => leo_bind leo_refl (fun _ => leo_bind leo_refl (fun _ => leo_ite (leo_refl) (Il0 _ _ _ _ _ _ _ _ _ _)))))
    · intro x0 x1 x2 x11 x176 x177 y174 y9
      rw [cashbooklaw30_NettingCaps.l3, cashbooklaw30_NettingCaps.l3]
      exact leo_ite (leo_if (leo_if (Il3 _ _ _ _ _ _ _ _))) (leo_bind (netting_Run.mono k _ _ _ _) (fun _ => leo_bind (netting_Net.mono k _ _ _) (fun _ => leo_bind (netting_Net.mono k _ _ _) (fun _ => leo_ite (leo_ite (leo_ite (leo_ite (leo_bind (cashbookref30_Nets.mono k _ _) (fun _ => leo_ite (leo_bind (cashbookref30_Nets.mono k _ _) (fun _ => leo_refl)) (leo_refl))) (leo_refl)) (leo_refl)) (leo_refl)) (leo_refl)))))
    · intro x0 x1 x2 x3 x14 x17 x79 x80 x81 x127 x128 x129 x142 y19 y77 y9
      rw [cashbooklaw30_NettingCaps.j2, cashbooklaw30_NettingCaps.j2]
      exact leo_ite (leo_if (Ij3 _ _ _ _ _ _ _ _ _ _ _ _ _ _)) (Ij3 _ _ _ _ _ _ _ _ _ _ _ _ _ _)
    · intro x0 x1 x2 x3 x14 x17 x79 x80 x81 x127 x128 x129 y77 y9
      rw [cashbooklaw30_NettingCaps.j3, cashbooklaw30_NettingCaps.j3]
      exact Il2 _ _ _ _ _ _ _ _ _ _ _ _ _ _
theorem cashbooklaw30_NettingCaps.mono (k : Nat) (x0 : List S58) (x1 : Int) (x2 : Int) (x3 : List Int) : LeO (cashbooklaw30_NettingCaps.f k x0 x1 x2 x3) (cashbooklaw30_NettingCaps.f (k + 1) x0 x1 x2 x3) := leo_bind leo_refl (fun _ => leo_bind leo_refl (fun _ => leo_bind (netting_Run.mono k _ _ _ _) (fun _ => leo_ite (leo_ite (leo_ite (leo_ite ((cashbooklaw30_NettingCaps.monos k).1 _ _ _ _ _ _) (leo_bind (cashbooklaw30_alive.mono k) (fun _ => (cashbooklaw30_NettingCaps.monos k).1 _ _ _ _ _ _))) ((cashbooklaw30_NettingCaps.monos k).1 _ _ _ _ _ _)) ((cashbooklaw30_NettingCaps.monos k).1 _ _ _ _ _ _)) (leo_bind (cashbooklaw30_alive.mono k) (fun _ => leo_ite (leo_ite (leo_refl) (leo_refl)) (leo_refl))))))
noncomputable def b6 : Code := bodyOf Try.f6
def F6 : Fr := ⟨0, 234, 1, [], 6⟩
theorem D6_13 {k : List It} {s : St} {Q : Post} {ops : Array Oper} {us : List Upd} (ha : apart2 [(16, 17), (16, 21), (17, 21), (18, 21), (19, 21), (20, 21), (16, 22), (17, 22), (18, 22), (19, 22), (20, 22), (21, 22), (16, 23), (17, 23), (18, 23), (19, 23), (20, 23), (16, 24), (17, 24), (18, 24), (19, 24), (20, 24), (28, 30), (29, 30)] (loud 0 us.reverse) = true) (hl : lessAll us.length [(16, 17), (16, 21), (17, 21), (18, 21), (19, 21), (20, 21), (16, 22), (17, 22), (18, 22), (19, 22), (20, 22), (21, 22), (16, 23), (17, 23), (18, 23), (19, 23), (20, 23), (16, 24), (17, 24), (18, 24), (19, 24), (20, 24), (28, 30), (29, 30)] = true) : GR C0 ⟨0, 234, 1, [], 6⟩ k Q 13 true ops [] s us = Fin C0 ⟨0, 234, 1, [], 6⟩ k .fall s Q := gr_nilD (F := F6) rfl ha hl
def cashbooklaw30_NettingCaps.j0S (x0 : List S58) (x1 : Int) (x2 : Int) (x3 : List Int) (x75 : Bool) (y9 : S49) : St := ⟨upd (upd (upd (upd (upd (upd (fun _ => .no) 75 (.one (.p none (pB x75)))) 9 (.one (.pt 9 0))) 3 (.one (.p none (.sl 1 (x3.map e2))))) 2 (.one (.p none (pI .i32 x2)))) 1 (.one (.p none (pI .i64 x1)))) 0 (.one (.p none (.sl 6 (x0.map e58)))), upd noOb 9 (some (.var [.p none (.sl 1 (y9.f0.map e3)), .p none (.sl 1 (y9.f1.map e2)), .p none (.sl 3 (y9.f2.map e45))])), rtP 10, 10⟩
def cashbooklaw30_NettingCaps.l0S (x0 : List S58) (x1 : Int) (x2 : Int) (x3 : List Int) (x11 : List S58) (x79 : List Int) (x80 : Int) (x81 : Int) (y77 : MapE) (y9 : S49) : St := ⟨upd (upd (upd (upd (upd (upd (upd (upd (upd (upd (fun _ => .no) 81 (.one (.p none (pI .i64 x81)))) 80 (.one (.p none (pI .i64 x80)))) 79 (.one (.p none (.sl 1 (x79.map e3))))) 12 (.one (.mt 77))) 11 (.one (.p none (.sl 6 (x11.map e58))))) 9 (.one (.pt 9 0))) 3 (.one (.p none (.sl 1 (x3.map e2))))) 2 (.one (.p none (pI .i32 x2)))) 1 (.one (.p none (pI .i64 x1)))) 0 (.one (.p none (.sl 6 (x0.map e58)))), upd (upd noOb 9 (some (.var [.p none (.sl 1 (y9.f0.map e3)), .p none (.sl 1 (y9.f1.map e2)), .p none (.sl 3 (y9.f2.map e45))]))) 77 (some (.mp y77.1 y77.2)), rtP 14, 14⟩
def cashbooklaw30_NettingCaps.j1S (x0 : List S58) (x1 : Int) (x2 : Int) (x3 : List Int) (x11 : List S58) (x14 : Int) (x79 : List Int) (x80 : Int) (x81 : Int) (x126 : Bool) (y77 : MapE) (y9 : S49) : St := ⟨upd (upd (upd (upd (upd (upd (upd (upd (upd (upd (upd (upd (fun _ => .no) 126 (.one (.p none (pB x126)))) 81 (.one (.p none (pI .i64 x81)))) 80 (.one (.p none (pI .i64 x80)))) 79 (.one (.p none (.sl 1 (x79.map e3))))) 14 (.one (.p none (pI .i64 x14)))) 12 (.one (.mt 77))) 11 (.one (.p none (.sl 6 (x11.map e58))))) 9 (.one (.pt 9 0))) 3 (.one (.p none (.sl 1 (x3.map e2))))) 2 (.one (.p none (pI .i32 x2)))) 1 (.one (.p none (pI .i64 x1)))) 0 (.one (.p none (.sl 6 (x0.map e58)))), upd (upd noOb 9 (some (.var [.p none (.sl 1 (y9.f0.map e3)), .p none (.sl 1 (y9.f1.map e2)), .p none (.sl 3 (y9.f2.map e45))]))) 77 (some (.mp y77.1 y77.2)), rtP 16, 16⟩
def cashbooklaw30_NettingCaps.l1S (x0 : List S58) (x1 : Int) (x2 : Int) (x3 : List Int) (x11 : List S58) (x159 : List Int) (x160 : Int) (x161 : Int) (y9 : S49) : St := ⟨upd (upd (upd (upd (upd (upd (upd (upd (upd (fun _ => .no) 161 (.one (.p none (pI .i64 x161)))) 160 (.one (.p none (pI .i64 x160)))) 159 (.one (.p none (.sl 1 (x159.map e2))))) 11 (.one (.p none (.sl 6 (x11.map e58))))) 9 (.one (.pt 9 0))) 3 (.one (.p none (.sl 1 (x3.map e2))))) 2 (.one (.p none (pI .i32 x2)))) 1 (.one (.p none (pI .i64 x1)))) 0 (.one (.p none (.sl 6 (x0.map e58)))), upd noOb 9 (some (.var [.p none (.sl 1 (y9.f0.map e3)), .p none (.sl 1 (y9.f1.map e2)), .p none (.sl 3 (y9.f2.map e45))])), rtP 13, 13⟩
def cashbooklaw30_NettingCaps.l2S (x0 : List S58) (x1 : Int) (x2 : Int) (x3 : List Int) (x14 : Int) (x17 : List S58) (x79 : List Int) (x80 : Int) (x81 : Int) (x127 : List S58) (x128 : Int) (x129 : Int) (y77 : MapE) (y9 : S49) : St := ⟨upd (upd (upd (upd (upd (upd (upd (upd (upd (upd (upd (upd (upd (upd (fun _ => .no) 129 (.one (.p none (pI .i64 x129)))) 128 (.one (.p none (pI .i64 x128)))) 127 (.one (.p none (.sl 6 (x127.map e58))))) 81 (.one (.p none (pI .i64 x81)))) 80 (.one (.p none (pI .i64 x80)))) 79 (.one (.p none (.sl 1 (x79.map e3))))) 17 (.one (.p (some 8) (.sl 6 (x17.map e58))))) 14 (.one (.p none (pI .i64 x14)))) 12 (.one (.mt 77))) 9 (.one (.pt 9 0))) 3 (.one (.p none (.sl 1 (x3.map e2))))) 2 (.one (.p none (pI .i32 x2)))) 1 (.one (.p none (pI .i64 x1)))) 0 (.one (.p none (.sl 6 (x0.map e58)))), upd (upd noOb 9 (some (.var [.p none (.sl 1 (y9.f0.map e3)), .p none (.sl 1 (y9.f1.map e2)), .p none (.sl 3 (y9.f2.map e45))]))) 77 (some (.mp y77.1 y77.2)), rtP 18, 18⟩
def cashbooklaw30_NettingCaps.l3S (x0 : List S58) (x1 : Int) (x2 : Int) (x11 : List S58) (x176 : Int) (x177 : Int) (y174 : List Int) (y9 : S49) : St := ⟨upd (upd (upd (upd (upd (upd (upd (upd (fun _ => .no) 177 (.one (.p none (pI .i64 x177)))) 176 (.one (.p none (pI .i64 x176)))) 22 (.one (.vw 174 0 y174.length))) 11 (.one (.p none (.sl 6 (x11.map e58))))) 9 (.one (.pt 9 0))) 2 (.one (.p none (pI .i32 x2)))) 1 (.one (.p none (pI .i64 x1)))) 0 (.one (.p none (.sl 6 (x0.map e58)))), upd (upd noOb 9 (some (.var [.p none (.sl 1 (y9.f0.map e3)), .p none (.sl 1 (y9.f1.map e2)), .p none (.sl 3 (y9.f2.map e45))]))) 174 (some (.arr false 1 (y174.map e2))), rtP 12, 12⟩
def cashbooklaw30_NettingCaps.j2S (x0 : List S58) (x1 : Int) (x2 : Int) (x3 : List Int) (x14 : Int) (x17 : List S58) (x79 : List Int) (x80 : Int) (x81 : Int) (x127 : List S58) (x128 : Int) (x129 : Int) (x142 : Bool) (y19 : S58) (y77 : MapE) (y9 : S49) : St := ⟨upd (upd (upd (upd (upd (upd (upd (upd (upd (upd (upd (upd (upd (upd (upd (upd (fun _ => .no) 142 (.one (.p none (pB x142)))) 129 (.one (.p none (pI .i64 x129)))) 128 (.one (.p none (pI .i64 x128)))) 127 (.one (.p none (.sl 6 (x127.map e58))))) 81 (.one (.p none (pI .i64 x81)))) 80 (.one (.p none (pI .i64 x80)))) 79 (.one (.p none (.sl 1 (x79.map e3))))) 19 (.one (.pt 19 0))) 17 (.one (.p (some 8) (.sl 6 (x17.map e58))))) 14 (.one (.p none (pI .i64 x14)))) 12 (.one (.mt 77))) 9 (.one (.pt 9 0))) 3 (.one (.p none (.sl 1 (x3.map e2))))) 2 (.one (.p none (pI .i32 x2)))) 1 (.one (.p none (pI .i64 x1)))) 0 (.one (.p none (.sl 6 (x0.map e58)))), upd (upd (upd noOb 9 (some (.var [.p none (.sl 1 (y9.f0.map e3)), .p none (.sl 1 (y9.f1.map e2)), .p none (.sl 3 (y9.f2.map e45))]))) 77 (some (.mp y77.1 y77.2))) 19 (some (.var [.p none (pI .i64 y19.f0), .p none (pI .i64 y19.f1), .p none (pI .i64 y19.f2), .p none (pI .i64 y19.f3.f0), .p none (pI .i64 y19.f3.f1), .p none (pI .i32 y19.f4)])), rtP 26, 26⟩
def cashbooklaw30_NettingCaps.j3S (x0 : List S58) (x1 : Int) (x2 : Int) (x3 : List Int) (x14 : Int) (x17 : List S58) (x79 : List Int) (x80 : Int) (x81 : Int) (x127 : List S58) (x128 : Int) (x129 : Int) (y77 : MapE) (y9 : S49) : St := ⟨upd (upd (upd (upd (upd (upd (upd (upd (upd (upd (upd (upd (upd (upd (fun _ => .no) 129 (.one (.p none (pI .i64 x129)))) 128 (.one (.p none (pI .i64 x128)))) 127 (.one (.p none (.sl 6 (x127.map e58))))) 81 (.one (.p none (pI .i64 x81)))) 80 (.one (.p none (pI .i64 x80)))) 79 (.one (.p none (.sl 1 (x79.map e3))))) 17 (.one (.p (some 8) (.sl 6 (x17.map e58))))) 14 (.one (.p none (pI .i64 x14)))) 12 (.one (.mt 77))) 9 (.one (.pt 9 0))) 3 (.one (.p none (.sl 1 (x3.map e2))))) 2 (.one (.p none (pI .i32 x2)))) 1 (.one (.p none (pI .i64 x1)))) 0 (.one (.p none (.sl 6 (x0.map e58)))), upd (upd noOb 9 (some (.var [.p none (.sl 1 (y9.f0.map e3)), .p none (.sl 1 (y9.f1.map e2)), .p none (.sl 3 (y9.f2.map e45))]))) 77 (some (.mp y77.1 y77.2)), rtP 18, 18⟩
theorem cashbooklaw30_NettingCaps.all : ∀ k, (∀ x0 x1 x2 x3 x75 y9 r, cashbooklaw30_NettingCaps.j0 k x0 x1 x2 x3 x75 y9 = some r → AtJ C0 F6 (sub [1, 1, 1, 1, 0, 1] b6) [.code (sub [1, 1, 1, 1, 1] b6)] (some (cashbooklaw30_NettingCaps.j0S x0 x1 x2 x3 x75 y9)) (RetQ C0 [.tmp 8] [aV [pB r]])) ∧ (∀ x0 x1 x2 x3 x11 x79 x80 x81 y77 y9 r, cashbooklaw30_NettingCaps.l0 k x0 x1 x2 x3 x11 x79 x80 x81 y77 y9 = some r → AtL C0 F6 (sub [1, 1, 1, 1, 1, 1, 1, 0, 1, 0, 0] b6) [.blk 0, .code (sub [1, 1, 1, 1, 1, 1, 1, 1] b6)] (some (cashbooklaw30_NettingCaps.l0S x0 x1 x2 x3 x11 x79 x80 x81 y77 y9)) (RetQ C0 [.tmp 8] [aV [pB r]])) ∧ (∀ x0 x1 x2 x3 x11 x14 x79 x80 x81 x126 y77 y9 r, cashbooklaw30_NettingCaps.j1 k x0 x1 x2 x3 x11 x14 x79 x80 x81 x126 y77 y9 = some r → AtJ C0 F6 (sub [1, 1, 1, 1, 1, 1, 1, 0, 1, 0, 0, 1, 1, 0, 0, 1, 1, 0, 1] b6) [.code (sub [1, 1, 1, 1, 1, 1, 1, 0, 1, 0, 0, 1, 1, 0, 0, 1, 1, 1] b6), .blk 1, .code (sub [1, 1, 1, 1, 1, 1, 1, 0, 1, 0, 0, 1, 1, 1] b6), .lp (sub [1, 1, 1, 1, 1, 1, 1, 0, 1, 0, 0] b6), .blk 0, .code (sub [1, 1, 1, 1, 1, 1, 1, 1] b6)] (some (cashbooklaw30_NettingCaps.j1S x0 x1 x2 x3 x11 x14 x79 x80 x81 x126 y77 y9)) (RetQ C0 [.tmp 8] [aV [pB r]])) ∧ (∀ x0 x1 x2 x3 x11 x159 x160 x161 y9 r, cashbooklaw30_NettingCaps.l1 k x0 x1 x2 x3 x11 x159 x160 x161 y9 = some r → AtL C0 F6 (sub [1, 1, 1, 1, 1, 1, 1, 1, 0, 1, 0, 0] b6) [.blk 4, .code (sub [1, 1, 1, 1, 1, 1, 1, 1, 1] b6)] (some (cashbooklaw30_NettingCaps.l1S x0 x1 x2 x3 x11 x159 x160 x161 y9)) (RetQ C0 [.tmp 8] [aV [pB r]])) ∧ (∀ x0 x1 x2 x3 x14 x17 x79 x80 x81 x127 x128 x129 y77 y9 r, cashbooklaw30_NettingCaps.l2 k x0 x1 x2 x3 x14 x17 x79 x80 x81 x127 x128 x129 y77 y9 = some r → AtL C0 F6 (sub [1, 1, 1, 1, 1, 1, 1, 0, 1, 0, 0, 1, 1, 0, 0, 1, 1, 1, 1, 0, 1, 0, 0] b6) [.blk 2, .code (sub [1, 1, 1, 1, 1, 1, 1, 0, 1, 0, 0, 1, 1, 0, 0, 1, 1, 1, 1, 1] b6), .blk 1, .code (sub [1, 1, 1, 1, 1, 1, 1, 0, 1, 0, 0, 1, 1, 1] b6), .lp (sub [1, 1, 1, 1, 1, 1, 1, 0, 1, 0, 0] b6), .blk 0, .code (sub [1, 1, 1, 1, 1, 1, 1, 1] b6)] (some (cashbooklaw30_NettingCaps.l2S x0 x1 x2 x3 x14 x17 x79 x80 x81 x127 x128 x129 y77 y9)) (RetQ C0 [.tmp 8] [aV [pB r]])) ∧ (∀ x0 x1 x2 x11 x176 x177 y174 y9 r, cashbooklaw30_NettingCaps.l3 k x0 x1 x2 x11 x176 x177 y174 y9 = some r → AtL C0 F6 (sub [1, 1, 1, 1, 1, 1, 1, 1, 1, 1, 0, 1, 0, 0] b6) [.blk 6, .code (sub [1, 1, 1, 1, 1, 1, 1, 1, 1, 1, 1] b6)] (some (cashbooklaw30_NettingCaps.l3S x0 x1 x2 x11 x176 x177 y174 y9)) (RetQ C0 [.tmp 8] [aV [pB r]])) ∧ (∀ x0 x1 x2 x3 x14 x17 x79 x80 x81 x127 x128 x129 x142 y19 y77 y9 r, cashbooklaw30_NettingCaps.j2 k x0 x1 x2 x3 x14 x17 x79 x80 x81 x127 x128 x129 x142 y19 y77 y9 = some r → AtJ C0 F6 (sub [1, 1, 1, 1, 1, 1, 1, 0, 1, 0, 0, 1, 1, 0, 0, 1, 1, 1, 1, 0, 1, 0, 0, 1, 1, 0, 0, 1, 1] b6) [.blk 3, .code (sub [1, 1, 1, 1, 1, 1, 1, 0, 1, 0, 0, 1, 1, 0, 0, 1, 1, 1, 1, 0, 1, 0, 0, 1, 1, 1] b6), .lp (sub [1, 1, 1, 1, 1, 1, 1, 0, 1, 0, 0, 1, 1, 0, 0, 1, 1, 1, 1, 0, 1, 0, 0] b6), .blk 2, .code (sub [1, 1, 1, 1, 1, 1, 1, 0, 1, 0, 0, 1, 1, 0, 0, 1, 1, 1, 1, 1] b6), .blk 1, .code (sub [1, 1, 1, 1, 1, 1, 1, 0, 1, 0, 0, 1, 1, 1] b6), .lp (sub [1, 1, 1, 1, 1, 1, 1, 0, 1, 0, 0] b6), .blk 0, .code (sub [1, 1, 1, 1, 1, 1, 1, 1] b6)] (some (cashbooklaw30_NettingCaps.j2S x0 x1 x2 x3 x14 x17 x79 x80 x81 x127 x128 x129 x142 y19 y77 y9)) (RetQ C0 [.tmp 8] [aV [pB r]])) ∧ (∀ x0 x1 x2 x3 x14 x17 x79 x80 x81 x127 x128 x129 y77 y9 r, cashbooklaw30_NettingCaps.j3 k x0 x1 x2 x3 x14 x17 x79 x80 x81 x127 x128 x129 y77 y9 = some r → AtJ C0 F6 (sub [1, 1, 1, 1, 1, 1, 1, 0, 1, 0, 0, 1, 1, 0, 0, 1, 1, 1, 1, 0, 1, 0, 0, 1, 1, 1] b6) [.lp (sub [1, 1, 1, 1, 1, 1, 1, 0, 1, 0, 0, 1, 1, 0, 0, 1, 1, 1, 1, 0, 1, 0, 0] b6), .blk 2, .code (sub [1, 1, 1, 1, 1, 1, 1, 0, 1, 0, 0, 1, 1, 0, 0, 1, 1, 1, 1, 1] b6), .blk 1, .code (sub [1, 1, 1, 1, 1, 1, 1, 0, 1, 0, 0, 1, 1, 1] b6), .lp (sub [1, 1, 1, 1, 1, 1, 1, 0, 1, 0, 0] b6), .blk 0, .code (sub [1, 1, 1, 1, 1, 1, 1, 1] b6)] (some (cashbooklaw30_NettingCaps.j3S x0 x1 x2 x3 x14 x17 x79 x80 x81 x127 x128 x129 y77 y9)) (RetQ C0 [.tmp 8] [aV [pB r]]))
  | 0 => ⟨fun _ _ _ _ _ _ r h => (by cases h), fun _ _ _ _ _ _ _ _ _ _ r h => (by cases h), fun _ _ _ _ _ _ _ _ _ _ _ _ r h => (by cases h), fun _ _ _ _ _ _ _ _ _ r h => (by cases h), fun _ _ _ _ _ _ _ _ _ _ _ _ _ _ r h => (by cases h), fun _ _ _ _ _ _ _ _ r h => (by cases h), fun _ _ _ _ _ _ _ _ _ _ _ _ _ _ _ _ r h => (by cases h), fun _ _ _ _ _ _ _ _ _ _ _ _ _ _ r h => (by cases h)⟩
  | k + 1 => by
    obtain ⟨Ij0, Il0, Ij1, Il1, Il2, Il3, Ij2, Ij3⟩ := cashbooklaw30_NettingCaps.all k
    refine ⟨?_, ?_, ?_, ?_, ?_, ?_, ?_, ?_⟩
    · intro x0 x1 x2 x3 x75 y9 r h
      rw [cashbooklaw30_NettingCaps.j0] at h
      rw [atJ_some]
      by_cases h12 : x75 = true
      · rw [if_pos h12] at h
        obtain rfl := Option.some.inj h
        simp only [↓Bp, ↓Bs, Bo, Bh, Ba, Bc, Bm, Nat.reduceSub, Int.sub_zero, Bd, ↓reduceIte, Nat.reduceAdd, Nat.reduceEqDiff, Nat.reduceLT, Nat.reduceLeDiff, Nat.reduceBEq, Nat.reduceMul, Int.reduceLE, Int.reduceLT, Int.reduceEq, Int.reduceToNat, reduceCtorEq, G6, Tf, b6, ↓Try.f6, F6, TY, H6, D6_13, h12, cashbooklaw30_NettingCaps.j0S]
      · rw [if_neg h12] at h
        simp only [↓Bp, ↓Bs, Bo, Bh, Ba, Bc, Bm, Nat.reduceSub, Int.sub_zero, Bd, ↓reduceIte, Nat.reduceAdd, Nat.reduceEqDiff, Nat.reduceLT, Nat.reduceLeDiff, Nat.reduceBEq, Nat.reduceMul, Int.reduceLE, Int.reduceLT, Int.reduceEq, Int.reduceToNat, reduceCtorEq, G6, Tf, b6, ↓Try.f6, F6, TY, H6, D6_13, h12, cashbooklaw30_NettingCaps.j0S]
        refine AtL.eq (Il0 _ _ _ _ _ _ _ _ _ _ _ h) ?_
        simp only [Tf, Int.reduceToNat, Int.toNat_natCast, cashbooklaw30_NettingCaps.l0S]
    · intro x0 x1 x2 x3 x11 x79 x80 x81 y77 y9 r h
      rw [cashbooklaw30_NettingCaps.l0] at h
      rw [atL_some]
      by_cases h13 : x81 < x80
      · rw [if_pos h13] at h
        obtain ⟨h14, h⟩ := ifn h
        obtain ⟨h15, h⟩ := ifn h
        have h15r := fun (q : 0 ≤ x81) => rd_at (l := x79) (i := x81) 0 q h15
        replace h15r := h15r (by omega)
        obtain ⟨t16, h16, h⟩ := bnd h
        have h16c := (netting_Net.ok _ _ _ _ _ h16)
        try simp only [Tf, List.nil_append, List.cons_append, Int.reduceToNat] at h16c
        by_cases h17 : t16.2 = 0
        · rw [if_pos h17] at h
          by_cases h18 : (t16.1.length : Int) = 16
          · rw [if_pos h18] at h
            by_cases h19 : (x79.getD ((x81 : Int).toNat) 0) < 0
            · rw [if_pos h19] at h
              simp only [↓Bp, ↓Bs, Bo, Bh, Ba, Bc, Bm, Nat.reduceSub, Int.sub_zero, Bd, ↓reduceIte, Nat.reduceAdd, Nat.reduceEqDiff, Nat.reduceLT, Nat.reduceLeDiff, Nat.reduceBEq, Nat.reduceMul, Int.reduceLE, Int.reduceLT, Int.reduceEq, Int.reduceToNat, reduceCtorEq, G6, Tf, b6, ↓Try.f6, F6, TY, H6, D6_13, h13, h14, h15, h15r, callP_eq h16c, eq_true h17, eq_true h18, h19, cashbooklaw30_NettingCaps.l0S]
              refine AtJ.eq (Ij1 _ _ _ _ _ _ _ _ _ _ _ _ _ h) ?_
              simp only [Tf, Int.reduceToNat, Int.toNat_natCast, cashbooklaw30_NettingCaps.j1S]
            · rw [if_neg h19] at h
              by_cases h20 : 15 < (x79.getD ((x81 : Int).toNat) 0)
              · rw [if_pos h20] at h
                simp only [↓Bp, ↓Bs, Bo, Bh, Ba, Bc, Bm, Nat.reduceSub, Int.sub_zero, Bd, ↓reduceIte, Nat.reduceAdd, Nat.reduceEqDiff, Nat.reduceLT, Nat.reduceLeDiff, Nat.reduceBEq, Nat.reduceMul, Int.reduceLE, Int.reduceLT, Int.reduceEq, Int.reduceToNat, reduceCtorEq, G6, Tf, b6, ↓Try.f6, F6, TY, H6, D6_13, h13, h14, h15, h15r, callP_eq h16c, eq_true h17, eq_true h18, h19, h20, cashbooklaw30_NettingCaps.l0S]
                refine AtJ.eq (Ij1 _ _ _ _ _ _ _ _ _ _ _ _ _ h) ?_
                simp only [Tf, Int.reduceToNat, Int.toNat_natCast, cashbooklaw30_NettingCaps.j1S]
              · rw [if_neg h20] at h
                obtain ⟨h21, h⟩ := ifn h
                obtain ⟨h22, h⟩ := ifn h
                have h22r := fun (q : 0 ≤ (x79.getD ((x81 : Int).toNat) 0)) => rd_at (l := t16.1) (i := (x79.getD ((x81 : Int).toNat) 0)) 0 q h22
                replace h22r := h22r (by omega)
                obtain ⟨h23, h⟩ := ifn h
                have h23r := fun (q : 0 ≤ (x79.getD ((x81 : Int).toNat) 0)) => rd_at (l := x3) (i := (x79.getD ((x81 : Int).toNat) 0)) 0 q h23
                replace h23r := h23r (by omega)
                by_cases h24 : (wrap64 (0 - (t16.1.getD (((x79.getD ((x81 : Int).toNat) 0) : Int).toNat) 0))) ≤ (x3.getD (((x79.getD ((x81 : Int).toNat) 0) : Int).toNat) 0)
                · rw [if_pos h24] at h
                  simp only [↓Bp, ↓Bs, Bo, Bh, Ba, Bc, Bm, Nat.reduceSub, Int.sub_zero, Bd, ↓reduceIte, Nat.reduceAdd, Nat.reduceEqDiff, Nat.reduceLT, Nat.reduceLeDiff, Nat.reduceBEq, Nat.reduceMul, Int.reduceLE, Int.reduceLT, Int.reduceEq, Int.reduceToNat, reduceCtorEq, G6, Tf, b6, ↓Try.f6, F6, TY, H6, D6_13, h13, h14, h15, h15r, callP_eq h16c, eq_true h17, eq_true h18, h19, h20, h21, h22, h22r, h23, h23r, h24, cashbooklaw30_NettingCaps.l0S]
                  refine AtJ.eq (Ij1 _ _ _ _ _ _ _ _ _ _ _ _ _ h) ?_
                  simp only [Tf, Int.reduceToNat, Int.toNat_natCast, cashbooklaw30_NettingCaps.j1S]
                · rw [if_neg h24] at h
                  obtain ⟨h25, h⟩ := ifn h
                  have h25r := fun (q : 0 ≤ (x79.getD ((x81 : Int).toNat) 0)) => rd_at (l := y9.f1) (i := (x79.getD ((x81 : Int).toNat) 0)) 0 q h25
                  replace h25r := h25r (by omega)
                  simp only [↓Bp, ↓Bs, Bo, Bh, Ba, Bc, Bm, Nat.reduceSub, Int.sub_zero, Bd, ↓reduceIte, Nat.reduceAdd, Nat.reduceEqDiff, Nat.reduceLT, Nat.reduceLeDiff, Nat.reduceBEq, Nat.reduceMul, Int.reduceLE, Int.reduceLT, Int.reduceEq, Int.reduceToNat, reduceCtorEq, G6, Tf, b6, ↓Try.f6, F6, TY, H6, D6_13, h13, h14, h15, h15r, callP_eq h16c, eq_true h17, eq_true h18, h19, h20, h21, h22, h22r, h23, h23r, h24, h25, h25r, cashbooklaw30_NettingCaps.l0S]
                  refine AtJ.eq (Ij1 _ _ _ _ _ _ _ _ _ _ _ _ _ h) ?_
                  simp only [Tf, Int.reduceToNat, Int.toNat_natCast, cashbooklaw30_NettingCaps.j1S]
          · rw [if_neg h18] at h
            simp only [↓Bp, ↓Bs, Bo, Bh, Ba, Bc, Bm, Nat.reduceSub, Int.sub_zero, Bd, ↓reduceIte, Nat.reduceAdd, Nat.reduceEqDiff, Nat.reduceLT, Nat.reduceLeDiff, Nat.reduceBEq, Nat.reduceMul, Int.reduceLE, Int.reduceLT, Int.reduceEq, Int.reduceToNat, reduceCtorEq, G6, Tf, b6, ↓Try.f6, F6, TY, H6, D6_13, h13, h14, h15, h15r, callP_eq h16c, eq_true h17, h18, cashbooklaw30_NettingCaps.l0S]
            refine AtJ.eq (Ij1 _ _ _ _ _ _ _ _ _ _ _ _ _ h) ?_
            simp only [Tf, Int.reduceToNat, Int.toNat_natCast, cashbooklaw30_NettingCaps.j1S]
        · rw [if_neg h17] at h
          simp only [↓Bp, ↓Bs, Bo, Bh, Ba, Bc, Bm, Nat.reduceSub, Int.sub_zero, Bd, ↓reduceIte, Nat.reduceAdd, Nat.reduceEqDiff, Nat.reduceLT, Nat.reduceLeDiff, Nat.reduceBEq, Nat.reduceMul, Int.reduceLE, Int.reduceLT, Int.reduceEq, Int.reduceToNat, reduceCtorEq, G6, Tf, b6, ↓Try.f6, F6, TY, H6, D6_13, h13, h14, h15, h15r, callP_eq h16c, h17, cashbooklaw30_NettingCaps.l0S]
          refine AtJ.eq (Ij1 _ _ _ _ _ _ _ _ _ _ _ _ _ h) ?_
          simp only [Tf, Int.reduceToNat, Int.toNat_natCast, cashbooklaw30_NettingCaps.j1S]
      · rw [if_neg h13] at h
        simp only [↓Bp, ↓Bs, Bo, Bh, Ba, Bc, Bm, Nat.reduceSub, Int.sub_zero, Bd, ↓reduceIte, Nat.reduceAdd, Nat.reduceEqDiff, Nat.reduceLT, Nat.reduceLeDiff, Nat.reduceBEq, Nat.reduceMul, Int.reduceLE, Int.reduceLT, Int.reduceEq, Int.reduceToNat, reduceCtorEq, G6, Tf, b6, ↓Try.f6, F6, TY, H6, D6_13, h13, cashbooklaw30_NettingCaps.l0S]
        refine AtL.eq (Il1 _ _ _ _ _ _ _ _ _ _ h) ?_
        simp only [Tf, Int.reduceToNat, Int.toNat_natCast, cashbooklaw30_NettingCaps.l1S]
    · intro x0 x1 x2 x3 x11 x14 x79 x80 x81 x126 y77 y9 r h
      rw [cashbooklaw30_NettingCaps.j1] at h
      rw [atJ_some]
      by_cases h26 : x126 = true
      · rw [if_pos h26] at h
        obtain rfl := Option.some.inj h
        simp only [↓Bp, ↓Bs, Bo, Bh, Ba, Bc, Bm, Nat.reduceSub, Int.sub_zero, Bd, ↓reduceIte, Nat.reduceAdd, Nat.reduceEqDiff, Nat.reduceLT, Nat.reduceLeDiff, Nat.reduceBEq, Nat.reduceMul, Int.reduceLE, Int.reduceLT, Int.reduceEq, Int.reduceToNat, reduceCtorEq, G6, Tf, b6, ↓Try.f6, F6, TY, H6, D6_13, h26, cashbooklaw30_NettingCaps.j1S]
      · rw [if_neg h26] at h
        simp only [↓Bp, ↓Bs, Bo, Bh, Ba, Bc, Bm, Nat.reduceSub, Int.sub_zero, Bd, ↓reduceIte, Nat.reduceAdd, Nat.reduceEqDiff, Nat.reduceLT, Nat.reduceLeDiff, Nat.reduceBEq, Nat.reduceMul, Int.reduceLE, Int.reduceLT, Int.reduceEq, Int.reduceToNat, reduceCtorEq, G6, Tf, b6, ↓Try.f6, F6, TY, H6, D6_13, h26, cashbooklaw30_NettingCaps.j1S]
        refine AtL.eq (Il2 _ _ _ _ _ _ _ _ _ _ _ _ _ _ _ h) ?_
        simp only [Tf, Int.reduceToNat, Int.toNat_natCast, cashbooklaw30_NettingCaps.l2S]
    · intro x0 x1 x2 x3 x11 x159 x160 x161 y9 r h
      rw [cashbooklaw30_NettingCaps.l1] at h
      rw [atL_some]
      by_cases h27 : x161 < x160
      · rw [if_pos h27] at h
        obtain ⟨h28, h⟩ := ifn h
        obtain ⟨h29, h⟩ := ifn h
        have h29r := fun (q : 0 ≤ x161) => rd_at (l := x159) (i := x161) 0 q h29
        replace h29r := h29r (by omega)
        obtain ⟨h30, h⟩ := ifn h
        have h30r := fun (q : 0 ≤ x161) => rd_at (l := x3) (i := x161) 0 q h30
        replace h30r := h30r (by omega)
        by_cases h31 : (x3.getD ((x161 : Int).toNat) 0) < (wrap64 (0 - (x159.getD ((x161 : Int).toNat) 0)))
        · rw [if_pos h31] at h
          obtain rfl := Option.some.inj h
          simp only [↓Bp, ↓Bs, Bo, Bh, Ba, Bc, Bm, Nat.reduceSub, Int.sub_zero, Bd, ↓reduceIte, Nat.reduceAdd, Nat.reduceEqDiff, Nat.reduceLT, Nat.reduceLeDiff, Nat.reduceBEq, Nat.reduceMul, Int.reduceLE, Int.reduceLT, Int.reduceEq, Int.reduceToNat, reduceCtorEq, G6, Tf, b6, ↓Try.f6, F6, TY, H6, D6_13, h27, h28, h29, h29r, h30, h30r, h31, cashbooklaw30_NettingCaps.l1S]
        · rw [if_neg h31] at h
          simp only [↓Bp, ↓Bs, Bo, Bh, Ba, Bc, Bm, Nat.reduceSub, Int.sub_zero, Bd, ↓reduceIte, Nat.reduceAdd, Nat.reduceEqDiff, Nat.reduceLT, Nat.reduceLeDiff, Nat.reduceBEq, Nat.reduceMul, Int.reduceLE, Int.reduceLT, Int.reduceEq, Int.reduceToNat, reduceCtorEq, G6, Tf, b6, ↓Try.f6, F6, TY, H6, D6_13, h27, h28, h29, h29r, h30, h30r, h31, cashbooklaw30_NettingCaps.l1S]
          refine AtL.eq (Il1 _ _ _ _ _ _ _ _ _ _ h) ?_
          simp only [Tf, Int.reduceToNat, Int.toNat_natCast, cashbooklaw30_NettingCaps.l1S]
      · rw [if_neg h27] at h
        simp only [↓Bp, ↓Bs, Bo, Bh, Ba, Bc, Bm, Nat.reduceSub, Int.sub_zero, Bd, ↓reduceIte, Nat.reduceAdd, Nat.reduceEqDiff, Nat.reduceLT, Nat.reduceLeDiff, Nat.reduceBEq, Nat.reduceMul, Int.reduceLE, Int.reduceLT, Int.reduceEq, Int.reduceToNat, reduceCtorEq, G6, Tf, b6, ↓Try.f6, F6, TY, H6, D6_13, h27, cashbooklaw30_NettingCaps.l1S]
        refine AtL.eq (Il3 _ _ _ _ _ _ _ _ _ h) ?_
        simp only [Tf, Int.reduceToNat, Int.toNat_natCast, cashbooklaw30_NettingCaps.l3S]
    · intro x0 x1 x2 x3 x14 x17 x79 x80 x81 x127 x128 x129 y77 y9 r h
      rw [cashbooklaw30_NettingCaps.l2] at h
      rw [atL_some]
      by_cases h32 : x129 < x128
      · rw [if_pos h32] at h
        obtain ⟨h33, h⟩ := ifn h
        obtain ⟨h34, h⟩ := ifn h
        have h34r := fun (q : 0 ≤ x129) => rd_at (l := x127) (i := x129) z58 q h34
        replace h34r := h34r (by omega)
        by_cases h35 : (x127.getD ((x129 : Int).toNat) z58).f1 = x14
        · rw [if_pos h35] at h
          simp only [↓Bp, ↓Bs, Bo, Bh, Ba, Bc, Bm, Nat.reduceSub, Int.sub_zero, Bd, ↓reduceIte, Nat.reduceAdd, Nat.reduceEqDiff, Nat.reduceLT, Nat.reduceLeDiff, Nat.reduceBEq, Nat.reduceMul, Int.reduceLE, Int.reduceLT, Int.reduceEq, Int.reduceToNat, reduceCtorEq, G6, Tf, b6, ↓Try.f6, F6, TY, H6, D6_13, h32, h33, h34, h34r, eq_true h35, cashbooklaw30_NettingCaps.l2S]
          refine AtJ.eq (Ij2 _ _ _ _ _ _ _ _ _ _ _ _ _ _ _ _ _ h) ?_
          simp only [Tf, Int.reduceToNat, Int.toNat_natCast, cashbooklaw30_NettingCaps.j2S]
        · rw [if_neg h35] at h
          simp only [↓Bp, ↓Bs, Bo, Bh, Ba, Bc, Bm, Nat.reduceSub, Int.sub_zero, Bd, ↓reduceIte, Nat.reduceAdd, Nat.reduceEqDiff, Nat.reduceLT, Nat.reduceLeDiff, Nat.reduceBEq, Nat.reduceMul, Int.reduceLE, Int.reduceLT, Int.reduceEq, Int.reduceToNat, reduceCtorEq, G6, Tf, b6, ↓Try.f6, F6, TY, H6, D6_13, h32, h33, h34, h34r, h35, cashbooklaw30_NettingCaps.l2S]
          refine AtJ.eq (Ij2 _ _ _ _ _ _ _ _ _ _ _ _ _ _ _ _ _ h) ?_
          simp only [Tf, Int.reduceToNat, Int.toNat_natCast, cashbooklaw30_NettingCaps.j2S]
      · rw [if_neg h32] at h
        obtain ⟨t36, h36, h⟩ := bnd h
        have h36c := mg54 h36
        try simp only [Tf, List.nil_append, List.cons_append, Int.reduceToNat] at h36c
        obtain ⟨t37, h37, h⟩ := bnd h
        have h37c := mp54 h37
        try simp only [Tf, List.nil_append, List.cons_append, Int.reduceToNat] at h37c
        obtain ⟨t38, h38, h⟩ := bnd h
        have h38c := mg54 h38
        try simp only [Tf, List.nil_append, List.cons_append, Int.reduceToNat] at h38c
        by_cases h39 : 1 < t38
        · rw [if_pos h39] at h
          obtain rfl := Option.some.inj h
          simp only [↓Bp, ↓Bs, Bo, Bh, Ba, Bc, Bm, Nat.reduceSub, Int.sub_zero, Bd, ↓reduceIte, Nat.reduceAdd, Nat.reduceEqDiff, Nat.reduceLT, Nat.reduceLeDiff, Nat.reduceBEq, Nat.reduceMul, Int.reduceLE, Int.reduceLT, Int.reduceEq, Int.reduceToNat, reduceCtorEq, G6, Tf, b6, ↓Try.f6, F6, TY, H6, D6_13, h32, h36c, h37c, h38c, h39, cashbooklaw30_NettingCaps.l2S]
        · rw [if_neg h39] at h
          simp only [↓Bp, ↓Bs, Bo, Bh, Ba, Bc, Bm, Nat.reduceSub, Int.sub_zero, Bd, ↓reduceIte, Nat.reduceAdd, Nat.reduceEqDiff, Nat.reduceLT, Nat.reduceLeDiff, Nat.reduceBEq, Nat.reduceMul, Int.reduceLE, Int.reduceLT, Int.reduceEq, Int.reduceToNat, reduceCtorEq, G6, Tf, b6, ↓Try.f6, F6, TY, H6, D6_13, h32, h36c, h37c, h38c, h39, cashbooklaw30_NettingCaps.l2S]
          refine AtL.eq (Il0 _ _ _ _ _ _ _ _ _ _ _ h) ?_
          simp only [Tf, Int.reduceToNat, Int.toNat_natCast, cashbooklaw30_NettingCaps.l0S]
    · intro x0 x1 x2 x11 x176 x177 y174 y9 r h
      rw [cashbooklaw30_NettingCaps.l3] at h
      rw [atL_some]
      by_cases h40 : x177 < x176
      · rw [if_pos h40] at h
        obtain ⟨h41, h⟩ := ifn h
        obtain ⟨h42, h⟩ := ifn h
        have h42t := nat_lt (i := x177) (by omega) h42
        have h42g := get_of (l := y174) 0 h42t
        try simp only [List.length_set, List.length_replicate, List.length_map, Int.reduceToNat] at h42t
        simp only [↓Bp, ↓Bs, Bo, Bh, Ba, Bc, Bm, Nat.reduceSub, Int.sub_zero, Bd, ↓reduceIte, Nat.reduceAdd, Nat.reduceEqDiff, Nat.reduceLT, Nat.reduceLeDiff, Nat.reduceBEq, Nat.reduceMul, Int.reduceLE, Int.reduceLT, Int.reduceEq, Int.reduceToNat, reduceCtorEq, G6, Tf, b6, ↓Try.f6, F6, TY, H6, D6_13, h40, h41, h42, h42t, h42g, cashbooklaw30_NettingCaps.l3S]
        refine AtL.eq (Il3 _ _ _ _ _ _ _ _ _ h) ?_
        simp only [Tf, Int.reduceToNat, Int.toNat_natCast, cashbooklaw30_NettingCaps.l3S]
      · rw [if_neg h40] at h
        obtain ⟨t43, h43, h⟩ := bnd h
        have h43c := (netting_Run.ok _ _ _ _ _ _ h43)
        try simp only [Tf, List.nil_append, List.cons_append, Int.reduceToNat] at h43c
        obtain ⟨t44, h44, h⟩ := bnd h
        have h44c := (netting_Net.ok _ _ _ _ _ h44)
        try simp only [Tf, List.nil_append, List.cons_append, Int.reduceToNat] at h44c
        obtain ⟨t45, h45, h⟩ := bnd h
        have h45c := (netting_Net.ok _ _ _ _ _ h45)
        try simp only [Tf, List.nil_append, List.cons_append, Int.reduceToNat] at h45c
        by_cases h46 : t43.2 = 0
        · rw [if_pos h46] at h
          by_cases h47 : t44.2 = 0
          · rw [if_pos h47] at h
            by_cases h48 : t45.2 = 0
            · rw [if_pos h48] at h
              by_cases h49 : (t43.1.f0.length : Int) = 0
              · rw [if_pos h49] at h
                obtain ⟨t50, h50, h⟩ := bnd h
                have h50c := (cashbookref30_Nets.ok _ _ _ _ h50)
                try simp only [Tf, List.nil_append, List.cons_append, Int.reduceToNat] at h50c
                by_cases h51 : t50 = true
                · rw [if_pos h51] at h
                  obtain ⟨t52, h52, h⟩ := bnd h
                  have h52c := (cashbookref30_Nets.ok _ _ _ _ h52)
                  try simp only [Tf, List.nil_append, List.cons_append, Int.reduceToNat] at h52c
                  obtain rfl := Option.some.inj h
                  simp only [↓Bp, ↓Bs, Bo, Bh, Ba, Bc, Bm, Nat.reduceSub, Int.sub_zero, Bd, ↓reduceIte, Nat.reduceAdd, Nat.reduceEqDiff, Nat.reduceLT, Nat.reduceLeDiff, Nat.reduceBEq, Nat.reduceMul, Int.reduceLE, Int.reduceLT, Int.reduceEq, Int.reduceToNat, reduceCtorEq, G6, Tf, b6, ↓Try.f6, F6, TY, H6, D6_13, h40, callP_eq h43c, callP_eq h44c, callP_eq h45c, eq_true h46, eq_true h47, eq_true h48, eq_true h49, callP_eq h50c, h51, callP_eq h52c, cashbooklaw30_NettingCaps.l3S]
                · rw [if_neg h51] at h
                  obtain rfl := Option.some.inj h
                  simp only [↓Bp, ↓Bs, Bo, Bh, Ba, Bc, Bm, Nat.reduceSub, Int.sub_zero, Bd, ↓reduceIte, Nat.reduceAdd, Nat.reduceEqDiff, Nat.reduceLT, Nat.reduceLeDiff, Nat.reduceBEq, Nat.reduceMul, Int.reduceLE, Int.reduceLT, Int.reduceEq, Int.reduceToNat, reduceCtorEq, G6, Tf, b6, ↓Try.f6, F6, TY, H6, D6_13, h40, callP_eq h43c, callP_eq h44c, callP_eq h45c, eq_true h46, eq_true h47, eq_true h48, eq_true h49, callP_eq h50c, h51, cashbooklaw30_NettingCaps.l3S]
              · rw [if_neg h49] at h
                obtain rfl := Option.some.inj h
                simp only [↓Bp, ↓Bs, Bo, Bh, Ba, Bc, Bm, Nat.reduceSub, Int.sub_zero, Bd, ↓reduceIte, Nat.reduceAdd, Nat.reduceEqDiff, Nat.reduceLT, Nat.reduceLeDiff, Nat.reduceBEq, Nat.reduceMul, Int.reduceLE, Int.reduceLT, Int.reduceEq, Int.reduceToNat, reduceCtorEq, G6, Tf, b6, ↓Try.f6, F6, TY, H6, D6_13, h40, callP_eq h43c, callP_eq h44c, callP_eq h45c, eq_true h46, eq_true h47, eq_true h48, h49, cashbooklaw30_NettingCaps.l3S]
            · rw [if_neg h48] at h
              obtain rfl := Option.some.inj h
              simp only [↓Bp, ↓Bs, Bo, Bh, Ba, Bc, Bm, Nat.reduceSub, Int.sub_zero, Bd, ↓reduceIte, Nat.reduceAdd, Nat.reduceEqDiff, Nat.reduceLT, Nat.reduceLeDiff, Nat.reduceBEq, Nat.reduceMul, Int.reduceLE, Int.reduceLT, Int.reduceEq, Int.reduceToNat, reduceCtorEq, G6, Tf, b6, ↓Try.f6, F6, TY, H6, D6_13, h40, callP_eq h43c, callP_eq h44c, callP_eq h45c, eq_true h46, eq_true h47, h48, cashbooklaw30_NettingCaps.l3S]
          · rw [if_neg h47] at h
            obtain rfl := Option.some.inj h
            simp only [↓Bp, ↓Bs, Bo, Bh, Ba, Bc, Bm, Nat.reduceSub, Int.sub_zero, Bd, ↓reduceIte, Nat.reduceAdd, Nat.reduceEqDiff, Nat.reduceLT, Nat.reduceLeDiff, Nat.reduceBEq, Nat.reduceMul, Int.reduceLE, Int.reduceLT, Int.reduceEq, Int.reduceToNat, reduceCtorEq, G6, Tf, b6, ↓Try.f6, F6, TY, H6, D6_13, h40, callP_eq h43c, callP_eq h44c, callP_eq h45c, eq_true h46, h47, cashbooklaw30_NettingCaps.l3S]
        · rw [if_neg h46] at h
          obtain rfl := Option.some.inj h
          simp only [↓Bp, ↓Bs, Bo, Bh, Ba, Bc, Bm, Nat.reduceSub, Int.sub_zero, Bd, ↓reduceIte, Nat.reduceAdd, Nat.reduceEqDiff, Nat.reduceLT, Nat.reduceLeDiff, Nat.reduceBEq, Nat.reduceMul, Int.reduceLE, Int.reduceLT, Int.reduceEq, Int.reduceToNat, reduceCtorEq, G6, Tf, b6, ↓Try.f6, F6, TY, H6, D6_13, h40, callP_eq h43c, callP_eq h44c, callP_eq h45c, h46, cashbooklaw30_NettingCaps.l3S]
    · intro x0 x1 x2 x3 x14 x17 x79 x80 x81 x127 x128 x129 x142 y19 y77 y9 r h
      rw [cashbooklaw30_NettingCaps.j2] at h
      rw [atJ_some]
      by_cases h53 : x142 = true
      · rw [if_pos h53] at h
        obtain ⟨h54, h⟩ := ifn h
        simp only [↓Bp, ↓Bs, Bo, Bh, Ba, Bc, Bm, Nat.reduceSub, Int.sub_zero, Bd, ↓reduceIte, Nat.reduceAdd, Nat.reduceEqDiff, Nat.reduceLT, Nat.reduceLeDiff, Nat.reduceBEq, Nat.reduceMul, Int.reduceLE, Int.reduceLT, Int.reduceEq, Int.reduceToNat, reduceCtorEq, G6, Tf, b6, ↓Try.f6, F6, TY, H6, D6_13, h53, h54, cashbooklaw30_NettingCaps.j2S]
        refine AtJ.eq (Ij3 _ _ _ _ _ _ _ _ _ _ _ _ _ _ _ h) ?_
        simp only [Tf, Int.reduceToNat, Int.toNat_natCast, cashbooklaw30_NettingCaps.j3S]
      · rw [if_neg h53] at h
        simp only [↓Bp, ↓Bs, Bo, Bh, Ba, Bc, Bm, Nat.reduceSub, Int.sub_zero, Bd, ↓reduceIte, Nat.reduceAdd, Nat.reduceEqDiff, Nat.reduceLT, Nat.reduceLeDiff, Nat.reduceBEq, Nat.reduceMul, Int.reduceLE, Int.reduceLT, Int.reduceEq, Int.reduceToNat, reduceCtorEq, G6, Tf, b6, ↓Try.f6, F6, TY, H6, D6_13, h53, cashbooklaw30_NettingCaps.j2S]
        refine AtJ.eq (Ij3 _ _ _ _ _ _ _ _ _ _ _ _ _ _ _ h) ?_
        simp only [Tf, Int.reduceToNat, Int.toNat_natCast, cashbooklaw30_NettingCaps.j3S]
    · intro x0 x1 x2 x3 x14 x17 x79 x80 x81 x127 x128 x129 y77 y9 r h
      rw [cashbooklaw30_NettingCaps.j3] at h
      rw [atJ_some]
      simp only [↓Bp, ↓Bs, Bo, Bh, Ba, Bc, Bm, Nat.reduceSub, Int.sub_zero, Bd, ↓reduceIte, Nat.reduceAdd, Nat.reduceEqDiff, Nat.reduceLT, Nat.reduceLeDiff, Nat.reduceBEq, Nat.reduceMul, Int.reduceLE, Int.reduceLT, Int.reduceEq, Int.reduceToNat, reduceCtorEq, G6, Tf, b6, ↓Try.f6, F6, TY, H6, D6_13, cashbooklaw30_NettingCaps.j3S]
      refine AtL.eq (Il2 _ _ _ _ _ _ _ _ _ _ _ _ _ _ _ h) ?_
      simp only [Tf, Int.reduceToNat, Int.toNat_natCast, cashbooklaw30_NettingCaps.l2S]
theorem cashbooklaw30_NettingCaps.ok (k : Nat) (x0 : List S58) (x1 : Int) (x2 : Int) (x3 : List Int) (r : Bool) (h : cashbooklaw30_NettingCaps.f k x0 x1 x2 x3 = some r) : Ret C0 6 [(false, [.sl 6 (x0.map e58)]), (false, [.sc (.int .i64 x1)]), (false, [.sc (.int .i32 x2)]), (false, [.sl 1 (x3.map e2)])] [aV [pB r]] := by
  refine ret_of (c := b6) Try.func6 rfl rfl ⟨Nat.le_of_ble_eq_true rfl, Nat.le_of_ble_eq_true rfl⟩ ?_
  unfold cashbooklaw30_NettingCaps.f at h
  rw [show Try.f6.results.toList = [.tmp 8] from rfl]
  rw [show Try.f6.ntmps = 234 from rfl]
  obtain ⟨Ij0, Il0, Ij1, Il1, Il2, Il3, Ij2, Ij3⟩ := cashbooklaw30_NettingCaps.all k
  obtain ⟨t1, h1, h⟩ := bnd h
  have h1c := (cashbooklaw30_few.ok _ _ h1)
  try simp only [Tf, List.nil_append, List.cons_append, Int.reduceToNat] at h1c
  obtain ⟨t2, h2, h⟩ := bnd h
  have h2c := (cashbooklaw30_cut.ok _ _ h2)
  try simp only [Tf, List.nil_append, List.cons_append, Int.reduceToNat] at h2c
  obtain ⟨t3, h3, h⟩ := bnd h
  have h3c := (netting_Run.ok _ _ _ _ _ _ h3)
  try simp only [Tf, List.nil_append, List.cons_append, Int.reduceToNat] at h3c
  by_cases h4 : t3.2 = 0
  · rw [if_pos h4] at h
    by_cases h5 : (t3.1.f1.length : Int) = 16
    · rw [if_pos h5] at h
      by_cases h6 : (t2.length : Int) = 16
      · rw [if_pos h6] at h
        by_cases h7 : 16 < (t3.1.f0.length : Int)
        · rw [if_pos h7] at h
          simp only [↓Bp, ↓Bs, Bo, Bh, Ba, Bc, Bm, Nat.reduceSub, Int.sub_zero, Bd, ↓reduceIte, Nat.reduceAdd, Nat.reduceEqDiff, Nat.reduceLT, Nat.reduceLeDiff, Nat.reduceBEq, Nat.reduceMul, Int.reduceLE, Int.reduceLT, Int.reduceEq, Int.reduceToNat, reduceCtorEq, G6, Tf, b6, ↓Try.f6, F6, TY, H6, D6_13, callP_eq h1c, callP_eq h2c, callP_eq h3c, eq_true h4, eq_true h5, eq_true h6, h7]
          refine AtJ.eq (Ij0 _ _ _ _ _ _ _ h) ?_
          simp only [Tf, Int.reduceToNat, Int.toNat_natCast, cashbooklaw30_NettingCaps.j0S]
        · rw [if_neg h7] at h
          obtain ⟨t8, h8, h⟩ := bnd h
          have h8c := (cashbooklaw30_alive.ok _  _ h8)
          try simp only [Tf, List.nil_append, List.cons_append, Int.reduceToNat] at h8c
          simp only [↓Bp, ↓Bs, Bo, Bh, Ba, Bc, Bm, Nat.reduceSub, Int.sub_zero, Bd, ↓reduceIte, Nat.reduceAdd, Nat.reduceEqDiff, Nat.reduceLT, Nat.reduceLeDiff, Nat.reduceBEq, Nat.reduceMul, Int.reduceLE, Int.reduceLT, Int.reduceEq, Int.reduceToNat, reduceCtorEq, G6, Tf, b6, ↓Try.f6, F6, TY, H6, D6_13, callP_eq h1c, callP_eq h2c, callP_eq h3c, eq_true h4, eq_true h5, eq_true h6, h7, callP_eq h8c]
          refine AtJ.eq (Ij0 _ _ _ _ _ _ _ h) ?_
          simp only [Tf, Int.reduceToNat, Int.toNat_natCast, cashbooklaw30_NettingCaps.j0S]
      · rw [if_neg h6] at h
        simp only [↓Bp, ↓Bs, Bo, Bh, Ba, Bc, Bm, Nat.reduceSub, Int.sub_zero, Bd, ↓reduceIte, Nat.reduceAdd, Nat.reduceEqDiff, Nat.reduceLT, Nat.reduceLeDiff, Nat.reduceBEq, Nat.reduceMul, Int.reduceLE, Int.reduceLT, Int.reduceEq, Int.reduceToNat, reduceCtorEq, G6, Tf, b6, ↓Try.f6, F6, TY, H6, D6_13, callP_eq h1c, callP_eq h2c, callP_eq h3c, eq_true h4, eq_true h5, h6]
        refine AtJ.eq (Ij0 _ _ _ _ _ _ _ h) ?_
        simp only [Tf, Int.reduceToNat, Int.toNat_natCast, cashbooklaw30_NettingCaps.j0S]
    · rw [if_neg h5] at h
      simp only [↓Bp, ↓Bs, Bo, Bh, Ba, Bc, Bm, Nat.reduceSub, Int.sub_zero, Bd, ↓reduceIte, Nat.reduceAdd, Nat.reduceEqDiff, Nat.reduceLT, Nat.reduceLeDiff, Nat.reduceBEq, Nat.reduceMul, Int.reduceLE, Int.reduceLT, Int.reduceEq, Int.reduceToNat, reduceCtorEq, G6, Tf, b6, ↓Try.f6, F6, TY, H6, D6_13, callP_eq h1c, callP_eq h2c, callP_eq h3c, eq_true h4, h5]
      refine AtJ.eq (Ij0 _ _ _ _ _ _ _ h) ?_
      simp only [Tf, Int.reduceToNat, Int.toNat_natCast, cashbooklaw30_NettingCaps.j0S]
  · rw [if_neg h4] at h
    obtain ⟨t9, h9, h⟩ := bnd h
    have h9c := (cashbooklaw30_alive.ok _  _ h9)
    try simp only [Tf, List.nil_append, List.cons_append, Int.reduceToNat] at h9c
    by_cases h10 : t9 = true
    · rw [if_pos h10] at h
      by_cases h11 : (t3.1.f0.length : Int) = 0
      · rw [if_pos h11] at h
        obtain rfl := Option.some.inj h
        simp only [↓Bp, ↓Bs, Bo, Bh, Ba, Bc, Bm, Nat.reduceSub, Int.sub_zero, Bd, ↓reduceIte, Nat.reduceAdd, Nat.reduceEqDiff, Nat.reduceLT, Nat.reduceLeDiff, Nat.reduceBEq, Nat.reduceMul, Int.reduceLE, Int.reduceLT, Int.reduceEq, Int.reduceToNat, reduceCtorEq, G6, Tf, b6, ↓Try.f6, F6, TY, H6, D6_13, callP_eq h1c, callP_eq h2c, callP_eq h3c, h4, callP_eq h9c, h10, eq_true h11]
      · rw [if_neg h11] at h
        obtain rfl := Option.some.inj h
        simp only [↓Bp, ↓Bs, Bo, Bh, Ba, Bc, Bm, Nat.reduceSub, Int.sub_zero, Bd, ↓reduceIte, Nat.reduceAdd, Nat.reduceEqDiff, Nat.reduceLT, Nat.reduceLeDiff, Nat.reduceBEq, Nat.reduceMul, Int.reduceLE, Int.reduceLT, Int.reduceEq, Int.reduceToNat, reduceCtorEq, G6, Tf, b6, ↓Try.f6, F6, TY, H6, D6_13, callP_eq h1c, callP_eq h2c, callP_eq h3c, h4, callP_eq h9c, h10, h11]
    · rw [if_neg h10] at h
      obtain rfl := Option.some.inj h
      simp only [↓Bp, ↓Bs, Bo, Bh, Ba, Bc, Bm, Nat.reduceSub, Int.sub_zero, Bd, ↓reduceIte, Nat.reduceAdd, Nat.reduceEqDiff, Nat.reduceLT, Nat.reduceLeDiff, Nat.reduceBEq, Nat.reduceMul, Int.reduceLE, Int.reduceLT, Int.reduceEq, Int.reduceToNat, reduceCtorEq, G6, Tf, b6, ↓Try.f6, F6, TY, H6, D6_13, callP_eq h1c, callP_eq h2c, callP_eq h3c, h4, callP_eq h9c, h10]

end Go.Proofs.Ytcmaohhcbiienaa.X
