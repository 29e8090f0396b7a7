import Derived.Test.YtcmaohhcbiienaaXU
/-! XV: what an operation's answer hangs on. -/
set_option linter.unusedVariables false
namespace Go.Proofs.Ytcmaohhcbiienaa.X
open Go.RowKit

section
variable {E : Env} {ob ob' : ObF}

theorem pvC_local {c : CV} (h : ∀ o ∈ seenC c, ob o = ob' o) : pvC ob c = pvC ob' c := by
  cases c with
  | vw o lo n => simp only [pvC, h o (by simp [seenC])]
  | _ => rfl
theorem pvL_local : ∀ {cs : List CV}, (∀ o ∈ cs.flatMap seenC, ob o = ob' o) → pvL ob cs = pvL ob' cs
  | [], _ => rfl
  | c :: cs, h => by
    simp only [pvL]
    rw [pvC_local fun o ho => h o (by simp only [List.flatMap_cons, List.mem_append]; exact .inl ho),
      pvL_local fun o ho => h o (by simp only [List.flatMap_cons, List.mem_append]; exact .inr ho)]
theorem argOf_local {x : AT} (h : ∀ o ∈ seenT x, ob o = ob' o) : argOf ob x = argOf ob' x := by
  cases x with
  | one c => simp only [argOf, pvC_local h]
  | agg cs => simp only [argOf, pvL_local h]
  | _ => rfl
theorem argsOf_local : ∀ {xs : List AT}, (∀ o ∈ xs.flatMap seenT, ob o = ob' o) → argsOf ob xs = argsOf ob' xs
  | [], _ => rfl
  | c :: cs, h => by
    simp only [argsOf]
    rw [argOf_local fun o ho => h o (by simp only [List.flatMap_cons, List.mem_append]; exact .inl ho),
      argsOf_local fun o ho => h o (by simp only [List.flatMap_cons, List.mem_append]; exact .inr ho)]
theorem icy_local : ∀ {os : List Nat}, (∀ o ∈ os, ob o = ob' o) → icy ob os = icy ob' os
  | [], _ => rfl
  | o :: os, h => by
    have := icy_local (os := os) fun p hp => h p (List.mem_cons_of_mem _ hp)
    unfold icy at this ⊢
    rw [List.filterMap_cons, List.filterMap_cons, h o (List.mem_cons_self ..), this]

theorem opT_congr {ρ ρ' : Operand → AT} {x : Operand} (h : ρ x = ρ' x) (t : TypeId) : opT E ρ t x = opT E ρ' t x := by simp only [opT, h]
theorem fillS_congr {ρ ρ' : Operand → AT} {fs : List (Nat × Nat × Bool × TypeId)} : ∀ {parts : List (Nat × Operand)} {cs : List CV}, (∀ p ∈ parts, ρ p.2 = ρ' p.2) → fillS fs E ρ cs parts = fillS fs E ρ' cs parts
  | [], _, _ => rfl
  | (i, x) :: r, cs, h => by
    have ih := fun cs => fillS_congr (cs := cs) (parts := r) (fs := fs) fun p hp => h p (List.mem_cons_of_mem _ hp)
    have hx : ρ x = ρ' x := h (i, x) (List.mem_cons_self ..)
    simp only [fillS, opT, hx, ih]
theorem fillA_congr {ρ ρ' : Operand → AT} {ti : TI} : ∀ {parts : List (Nat × Operand)} {cs : List CV}, (∀ p ∈ parts, ρ p.2 = ρ' p.2) → fillA ti E ρ cs parts = fillA ti E ρ' cs parts
  | [], _, _ => rfl
  | (i, x) :: r, cs, h => by
    have ih := fun cs => fillA_congr (cs := cs) (parts := r) (ti := ti) fun p hp => h p (List.mem_cons_of_mem _ hp)
    have hx : ρ x = ρ' x := h (i, x) (List.mem_cons_self ..)
    simp only [fillA, opT, hx, ih]
theorem fillR_congr {ρ ρ' : Operand → AT} {ti : TI} : ∀ {parts : List (Nat × Operand)} {cs : List (List PV)}, (∀ p ∈ parts, ρ p.2 = ρ' p.2) → fillR ti E ob ρ cs parts = fillR ti E ob ρ' cs parts
  | [], _, _ => rfl
  | (i, x) :: r, cs, h => by
    have ih := fun cs => fillR_congr (cs := cs) (parts := r) (ti := ti) fun p hp => h p (List.mem_cons_of_mem _ hp)
    have hx : ρ x = ρ' x := h (i, x) (List.mem_cons_self ..)
    simp only [fillR, opT, hx, ih]

theorem optIdx_congr {ρ ρ' : Operand → AT} {x : Option Operand} (h : ∀ y, x = some y → ρ y = ρ' y) : optIdx ρ x = optIdx ρ' x := by
  cases x with
  | none => rfl
  | some y => simp only [optIdx, h y rfl]
theorem evGen_congr {ρ ρ' : Operand → AT} {o : Oper} (hs : ∀ cs b, o.op ≠ .select cs b) (h : ∀ x ∈ o.op.operands, ρ x = ρ' x) : evGen E ρ o = evGen E ρ' o := by
  unfold evGen
  have e1 : (o.op.operands.toList.all fun x => (valOf (ρ x)).isSome) = (o.op.operands.toList.all fun x => (valOf (ρ' x)).isSome) := by
    rw [Bool.eq_iff_iff, List.all_eq_true, List.all_eq_true]
    constructor <;> intro k x hx
    · rw [← h x (by simpa using hx)]; exact k x hx
    · rw [h x (by simpa using hx)]; exact k x hx
  have e2 : execOp (fun x => (valOf (ρ x)).getD undef) o = execOp (fun x => (valOf (ρ' x)).getD undef) o := execOp_congr o hs fun x hx => by simp only [h x hx]
  have e3 : nilGen E ρ o = nilGen E ρ' o := by
    unfold nilGen
    split
    · rename_i op t x y u ho
      rw [h x (by rw [ho]; simp [Op.operands])]
    · rfl
  rw [e1, e2, e3]

theorem evCall_congr {ρ ρ' : Operand → AT} {gen : Nat → Bool} {call : CallF} {base : Nat} {rt : RtF} {nx : Nat} {dst : Option Nat} {c : Call} (h : ∀ x ∈ c.operands, ρ x = ρ' x) :
    evCall E gen call base ρ ob rt nx dst c = evCall E gen call base ρ' ob rt nx dst c := by
  obtain ⟨callee, args, ts⟩ := c
  simp only [Call.operands] at h
  have ha : ∀ x ∈ args.toList, ρ x = ρ' x := fun x hx => h x (by simp; exact .inr (by simpa using hx))
  have hz : ∀ l : List TypeId, ((args.toList.zip l).map fun p => opT E ρ p.2 p.1) = ((args.toList.zip l).map fun p => opT E ρ' p.2 p.1) := fun l =>
    List.map_congr_left fun p hp => opT_congr (ha p.1 (List.of_mem_zip hp).1) p.2
  unfold evCall
  simp only
  split
  · rename_i x t e1 e2
    simp only [ha x (by simp [e1])]
  · rename_i x y t u e1 e2
    simp only [ha x (by simp [e1]), opT, ha y (by simp [e1])]
  · rename_i x t e1 e2
    simp only [ha x (by simp [e1])]
  · rename_i x y t u e1 e2
    simp only [opT, ha x (by simp [e1]), ha y (by simp [e1])]
  · rename_i f
    have hf : ρ f = ρ' f := h f (by simp)
    simp only [hf, hz]
  · rfl

theorem evOp_congr {ρ ρ' : Operand → AT} {gen : Nat → Bool} {call : CallF} {base : Nat} {rt : RtF} {nx : Nat} {o : Oper} (h : ∀ x ∈ o.op.operands, ρ x = ρ' x) :
    evOp E gen call base ρ ob rt nx o = evOp E gen call base ρ' ob rt nx o := by
  have hg : (∀ cs b, o.op ≠ .select cs b) → evGen E ρ o = evGen E ρ' o := fun hs => evGen_congr hs h
  unfold evOp
  split
  · rename_i x hop
    rw [hop] at h
    simp only [Op.operands] at h
    simp only [opT, h x (by simp)]
  · rename_i x hop
    rw [hop] at h
    simp only [Op.operands] at h
    simp only [opT, h x (by simp)]
  · rename_i q x y hop
    rw [hop] at h
    simp only [Op.operands] at h
    simp only [opT, h q (by simp), h x (by simp), h y (by simp)]
  · rfl
  · rename_i t x hop
    rw [hop] at h
    simp only [Op.operands] at h
    simp only [opT, h x (by simp)]
  · rename_i t parts hop
    rw [hop] at h
    simp only [Op.operands] at h
    have hp : ∀ p ∈ parts.toList, ρ p.2 = ρ' p.2 := fun p hp => h p.2 (by simp; exact ⟨p.1, by simpa using hp⟩)
    simp only [fillS_congr hp, fillA_congr hp]
  · rename_i t n parts hop
    rw [hop] at h
    simp only [Op.operands] at h
    have hp : ∀ p ∈ parts.toList, ρ p.2 = ρ' p.2 := fun p hp => h p.2 (by simp; exact ⟨p.1, by simpa using hp⟩)
    have hs : (parts.toList.flatMap fun p => seenT (ρ p.2)) = parts.toList.flatMap fun p => seenT (ρ' p.2) := by
      rw [List.flatMap_def, List.flatMap_def]
      congr 1
      exact List.map_congr_left fun p hp' => by rw [hp p hp']
    simp only [fillR_congr hp, hs]
  · rename_i t x hop
    rw [hop] at h
    simp only [Op.operands] at h
    simp only [h x (by simp)]
  · rename_i t x y hop
    rw [hop] at h
    simp only [Op.operands] at h
    simp only [opT, h x (by simp), h y (by simp)]
  · rename_i t x f hop
    rw [hop] at h
    simp only [Op.operands] at h
    simp only [h x (by simp)]
  · rename_i t x f hop
    rw [hop] at h
    simp only [Op.operands] at h
    simp only [h x (by simp)]
  · rename_i t x y hop
    rw [hop] at h
    simp only [Op.operands] at h
    simp only [h x (by simp), h y (by simp)]
  · rename_i t x y hop
    have hg := hg (fun cs b e => by rw [hop] at e; cases e)
    rw [hop] at h
    simp only [Op.operands] at h
    simp only [h x (by simp), h y (by simp), hg]
  · rename_i t x lo hi mx hop
    have hg := hg (fun cs b e => by rw [hop] at e; cases e)
    rw [hop] at h
    simp only [Op.operands] at h
    have h1 := optIdx_congr (x := lo) (ρ := ρ) (ρ' := ρ') fun y hy => h y (by subst hy; simp)
    have h2 := optIdx_congr (x := hi) (ρ := ρ) (ρ' := ρ') fun y hy => h y (by subst hy; simp)
    have h3 := optIdx_congr (x := mx) (ρ := ρ) (ρ' := ρ') fun y hy => h y (by subst hy; simp)
    simp only [h x (by simp), h1, h2, h3, hg]
  · rename_i t x y hop
    rw [hop] at h
    simp only [Op.operands] at h
    simp only [h x (by simp), h y (by simp)]
  · rfl
  · rename_i t x i f hop
    rw [hop] at h
    simp only [Op.operands] at h
    simp only [h x (by simp), h i (by simp)]
  · rename_i t x i y hop
    rw [hop] at h
    simp only [Op.operands] at h
    simp only [h x (by simp), h i (by simp), h y (by simp)]
  · rename_i x hop
    have hg := hg (fun cs b e => by rw [hop] at e; cases e)
    rw [hop] at h
    simp only [Op.operands] at h
    simp only [h x (by simp), hg]
  · rename_i x f hop
    rw [hop] at h
    simp only [Op.operands] at h
    simp only [h x (by simp)]
  · rename_i f first caps hop
    rw [hop] at h
    simp only [Op.operands] at h
    have hc : caps.toList.map ρ = caps.toList.map ρ' := List.map_congr_left fun x hx => h x (by simp; exact .inr (by simpa using hx))
    simp only [hc]
  · rename_i c hop
    have hg := hg (fun cs b e => by rw [hop] at e; cases e)
    rw [hop] at h
    have hc : evCall E gen call base ρ ob rt nx o.dst c = evCall E gen call base ρ' ob rt nx o.dst c := evCall_congr h
    simp only [hc, hg]
  · rename_i op t x y q hop
    have hg := hg (fun cs b e => by rw [hop] at e; cases e)
    rw [hop] at h
    simp only [Op.operands] at h
    simp only [h x (by simp), h y (by simp), hg]
  all_goals first | rfl | (rename_i hop; exact hg (fun cs b e => by rw [hop] at e; cases e))
end
end Go.Proofs.Ytcmaohhcbiienaa.X
