import Derived.Test.YtjhljcnjafbkfaaDoorQC7
set_option linter.unusedSimpArgs false
set_option linter.unusedVariables false
set_option linter.unusedVariables false
set_option linter.defProp false
namespace Go.Proofs.YtjhljcnjafbkfaaDoor.X
open Go.RowKit
def daycount_Part.l : Nat → Int → Int → S31 → Option S31
  | 0, _, _, _ => none
  | k + 1, f, t, s => if f < t then
      (date_Split.f k f).bind fun p => (date_Leap.f p.1).bind fun q => (daycount_ahead.f k p.1 p.2.1 p.2.2.1).bind fun a =>
        (ratio_Of.f k (wrap64 (min (wrap64 t) (wrap64 (wrap64 (wrap32 (f - wrap32 a)) + (if q = true then 366 else 365))) - wrap64 f)) (if q = true then 366 else 365)).bind fun r =>
          (ratio_Add.f k s r.1).bind fun u => daycount_Part.l k (wrap32 (f + wrap32 (wrap64 (min (wrap64 t) (wrap64 (wrap64 (wrap32 (f - wrap32 a)) + (if q = true then 366 else 365))) - wrap64 f)))) t u.1
    else some s
def daycount_Part.f (k : Nat) (x0 x1 x2 : Int) : Option (S31 × Int) := (daycount_Days.f k x0 x1 x2).bind fun d =>
  if d.2 = 0 then (if x0 = 0 then ratio_Of.f k d.1 365 else if x0 = 3 then (ratio_Of.f k 0 1).bind fun q => (daycount_Part.l k x1 x2 q.1).bind fun s => some (s, 0)
    else ratio_Of.f k d.1 360)
  else some (⟨false, [], []⟩, d.2)
theorem daycount_Part.monol : ∀ k f t s, LeO (daycount_Part.l k f t s) (daycount_Part.l (k + 1) f t s)
  | 0, f, t, s => leo_none
  | k + 1, f, t, s => by
    rw [daycount_Part.l, daycount_Part.l]
    refine leo_ite ?_ leo_refl
    exact leo_bind (date_Split.mono k _) fun p => leo_bind leo_refl fun q => leo_bind (daycount_ahead.mono k _ _ _) fun a => leo_bind (ratio_Of.mono k _ _) fun r => leo_bind (ratio_Add.mono k _ _) fun u => daycount_Part.monol k _ _ _
theorem daycount_Part.mono (k : Nat) (x0 x1 x2 : Int) : LeO (daycount_Part.f k x0 x1 x2) (daycount_Part.f (k + 1) x0 x1 x2) := by
  unfold daycount_Part.f
  exact leo_bind (daycount_Days.mono k _ _ _) fun d => leo_ite (leo_ite (ratio_Of.mono k _ _) (leo_ite (leo_bind (ratio_Of.mono k _ _) fun q => leo_bind (daycount_Part.monol k _ _ _) fun s => leo_refl) (ratio_Of.mono k _ _))) leo_refl
theorem ev_one {α : Type} {g : Nat → Option α} {a b : α} (h1 : Ev g a) (h2 : Ev g b) : a = b := by
  obtain ⟨K, hK⟩ := h1
  obtain ⟨K', hK'⟩ := h2
  have e1 := hK (max K K') (by omega)
  rw [hK' (max K K') (by omega)] at e1
  exact (Option.some.inj e1).symm
noncomputable def exF {α : Type} (F : Nat → Option α) : Option α := open Classical in if h : ∃ r k, F k = some r then some (Classical.choose h) else none
theorem exF_some {α : Type} {F : Nat → Option α} {r : α} (h : exF F = some r) : ∃ k, F k = some r := by
  unfold exF at h
  split at h
  · rename_i q
    cases h
    exact Classical.choose_spec q
  · cases h
theorem exF_of {α : Type} {F : Nat → Option α} (hm : ∀ k, LeO (F k) (F (k + 1))) {k : Nat} {r : α} (h : F k = some r) : exF F = some r := by
  unfold exF
  have q : ∃ r k, F k = some r := ⟨r, k, h⟩
  rw [dif_pos q]
  obtain ⟨k', h'⟩ := Classical.choose_spec q
  exact congrArg some (ev_one (Ev.of hm h') (Ev.of hm h))
noncomputable def ext10 : List Arg → Option (List Arg)
  | [(false, [.sc (.int .i64 b)]), (false, [.sc (.int .i32 f)]), (false, [.sc (.int .i32 t)])] => (exF fun k => daycount_Part.f k b f t).map fun r => [aA (e31 r.1), aV [pI .i64 r.2]]
  | _ => none
noncomputable def ext0 : ExtF := fun f => if f = 10 then some ext10 else extA f
noncomputable def C0 : Cx := ⟨E0, gen0, H0, ext0⟩
theorem ext_le : ExtLe ext1 ext0 := fun f => by
  unfold ext1 ext0
  by_cases h : f = 10
  · rw [if_pos h, if_pos h]
    exact .inr ⟨_, _, rfl, rfl, fun xs r q => by cases q⟩
  · rw [if_neg h, if_neg h]
    cases e : extA f with
    | none => exact .inl ⟨rfl, rfl⟩
    | some g => exact .inr ⟨_, _, rfl, rfl, fun xs r q => q⟩
theorem up0 {f : FuncId} {xs rs : List Arg} (h : Ret C1 f xs rs) : Ret C0 f xs rs := Ret.up (C := C1) (C' := C0) rfl rfl rfl ext_le h
theorem daycount_Part.ok (k : Nat) (x0 : Int) (x1 : Int) (x2 : Int) (r : S31 × Int) (h : daycount_Part.f k x0 x1 x2 = some r) : Ret C0 10 [(false, [.sc (.int .i64 x0)]), (false, [.sc (.int .i32 x1)]), (false, [.sc (.int .i32 x2)])] [aA [pB r.1.f0, .sl 1 (r.1.f1.map e78), .sl 1 (r.1.f2.map e78)], aV [pI .i64 r.2]] :=
  ret_ext (h := ext10) rfl (by show (exF fun k => daycount_Part.f k x0 x1 x2).map _ = _; rw [exF_of (fun k => daycount_Part.mono k x0 x1 x2) h]; rfl) rfl rfl
end Go.Proofs.YtjhljcnjafbkfaaDoor.X
