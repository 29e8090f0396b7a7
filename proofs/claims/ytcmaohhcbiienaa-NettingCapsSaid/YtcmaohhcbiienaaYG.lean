import Derived.Test.YtcmaohhcbiienaaYF
/-! YG: more rounds, and calls that say more, say the same. -/
set_option linter.unusedVariables false
namespace Go.Proofs.Ytcmaohhcbiienaa.X
open Go.RowKit

def CallLe (c c' : CallF) : Prop := ∀ base mv f args ob rt nx r, c base mv f args ob rt nx = some r → c' base mv f args ob rt nx = some r

section
variable {E : Env} {gen : Nat → Bool} {genF : FuncId → Nat → Bool} {mv : Bool} {call call' : CallF} {base nt nx0 : Nat} {vis : List Nat} {ob : ObF} {rt : RtF} {nx : Nat} {ρ : Operand → AT} {H : Hint} {ops : Array Oper}

theorem pureCall_mono (h : CallLe call call') {f : FuncId} {xs rs : List Arg} (k : pureCall call f xs = some rs) : pureCall call' f xs = some rs := by
  unfold pureCall at k ⊢
  split at k
  · rename_i hc
    rw [h _ _ _ _ _ _ _ _ hc]
    exact k
  · cases k

theorem flatCall_mono (h : CallLe call call') {f : FuncId} {xs : List Arg} {R : List Nat} {u : Upd} (k : flatCall call f xs R = some u) : flatCall call' f xs R = some u := by
  unfold flatCall at k ⊢
  simp only [Option.bind_eq_some_iff] at k ⊢
  obtain ⟨rs, h1, h2⟩ := k
  exact ⟨rs, pureCall_mono h h1, h2⟩
theorem mvCall_mono (h : CallLe call call') {d : Nat} {f : FuncId} {xs : List AT} {u : Upd} (k : mvCall call base d f xs ob rt nx = some u) : mvCall call' base d f xs ob rt nx = some u := by
  unfold mvCall at k ⊢
  split at k
  · simp only at k ⊢
    split at k
    · rename_i hn
      rw [if_pos hn]
      split at k
      · rename_i hc
        rw [h _ _ _ _ _ _ _ _ hc]
        exact k
      · cases k
    · cases k
  · cases k
theorem evCall_mono (h : CallLe call call') {dst : Option Nat} {c : Call} {u : Upd} (k : evCall E gen call base ρ ob rt nx dst c = some u) : evCall E gen call' base ρ ob rt nx dst c = some u := by
  obtain ⟨callee, args, ts⟩ := c
  unfold evCall at k ⊢
  simp only at k ⊢
  split at k
  · exact k
  · exact k
  · exact k
  · exact k
  · split at k
    · rename_i hk
      rw [if_pos hk]
      split at k
      · split at k
        · rename_i hg
          rw [if_pos hg]
          exact mvCall_mono h k
        · rename_i hg
          rw [if_neg hg]
          split at k
          · simp only [Option.map_eq_some_iff] at k ⊢
            obtain ⟨rs, hrs, rfl⟩ := k
            exact ⟨rs, pureCall_mono h hrs, rfl⟩
          · split at k
            · exact flatCall_mono h k
            · cases k
      · split at k
        · rename_i hg
          rw [if_pos hg]
          exact mvCall_mono h k
        · rename_i hg
          rw [if_neg hg]
          split at k
          · exact flatCall_mono h k
          · cases k
      · cases k
    · cases k
  · cases k

theorem evOp_mono (h : CallLe call call') {o : Oper} {u : Upd} (k : evOp E gen call base ρ ob rt nx o = some u) : evOp E gen call' base ρ ob rt nx o = some u := by
  unfold evOp at k ⊢
  split at k
  all_goals first
    | with_reducible exact k
    | skip
  split at k
  · split at k
    · rename_i hu
      cases k
      rw [evCall_mono h hu]
    · rename_i hc _ hu
      have hl : ∀ (c : Call), c.callee = .builtin .len → evCall E gen call base ρ ob rt nx o.dst c = evCall E gen call' base ρ ob rt nx o.dst c := by
        intro c hc
        obtain ⟨callee, args, ts⟩ := c
        simp only at hc
        subst hc
        unfold evCall
        simp only
        generalize args.toList = as
        generalize ts.toList = us
        rcases as with _ | ⟨x, _ | ⟨y, l⟩⟩ <;> rcases us with _ | ⟨t, _ | ⟨t', us⟩⟩ <;> rfl
      rw [← hl _ hc, hu]
      exact k
  · exact evCall_mono h k
  · exact evCall_mono h k
  · exact evCall_mono h k
  · split at k
    · rename_i hb
      rw [if_pos hb]
      exact evCall_mono h k
    · rename_i hb
      rw [if_neg hb]
      exact k
  · cases k

theorem evRow_mono (h : CallLe call call') {s : St} {o : Oper} {u : Upd} (k : evRow E gen call base nt ops s o = some u) : evRow E gen call' base nt ops s o = some u := by
  unfold evRow at k ⊢
  split at k
  · rename_i hd
    rw [if_pos hd]
    split at k
    · exact evOp_mono h k
    · exact k
    · cases k
  · cases k

theorem evRows_mono (h : CallLe call call') : ∀ {l : List Oper} {s s' : St} {us : List Upd}, evRows E gen call base nt ops l s = some (s', us) → evRows E gen call' base nt ops l s = some (s', us)
  | [], s, s', us, k => k
  | o :: l, s, s', us, k => by
    obtain ⟨u, us', k1, k2, rfl⟩ := evRows_cons.1 k
    exact evRows_cons.2 ⟨u, us', evRow_mono h k1, evRows_mono h k2, rfl⟩

theorem evCode_mono (h : CallLe call call') : ∀ (n m : Nat), n ≤ m → ∀ (c : Code) (s : St) (r : Out × St), evCode ⟨E, gen, call, base, nt, nx0, vis, H⟩ n c s = some r → evCode ⟨E, gen, call', base, nt, nx0, vis, H⟩ m c s = some r := by
  intro n
  induction n with
  | zero => intro m _ c s r k; cases k
  | succ n ihn =>
    intro m hm c
    obtain ⟨m, rfl⟩ : ∃ q, m = q + 1 := ⟨m - 1, by omega⟩
    have hj : ∀ b s, atJoin ⟨E, gen, call, base, nt, nx0, vis, H⟩ b s = atJoin ⟨E, gen, call', base, nt, nx0, vis, H⟩ b s := fun _ _ => rfl
    induction c with
    | skip => intro s r k; exact k
    | label l => intro s r k; exact k
    | exit id => intro s r k; exact k
    | ret => intro s r k; exact k
    | region id ops draw =>
      intro s r k
      replace k : evCodeA ⟨E, gen, call, base, nt, nx0, vis, H⟩ (evCode ⟨E, gen, call, base, nt, nx0, vis, H⟩ n) (.region id ops draw) s = some r := k
      show evCodeA ⟨E, gen, call', base, nt, nx0, vis, H⟩ (evCode ⟨E, gen, call', base, nt, nx0, vis, H⟩ m) (.region id ops draw) s = some r
      simp only [evCodeA] at k ⊢
      split at k
      · rename_i hr
        rw [evRows_mono h hr]
        exact k
      · cases k
    | seq x y ihx ihy =>
      intro s r k
      replace k : evCodeA ⟨E, gen, call, base, nt, nx0, vis, H⟩ (evCode ⟨E, gen, call, base, nt, nx0, vis, H⟩ n) (.seq x y) s = some r := k
      show evCodeA ⟨E, gen, call', base, nt, nx0, vis, H⟩ (evCode ⟨E, gen, call', base, nt, nx0, vis, H⟩ m) (.seq x y) s = some r
      simp only [evCodeA] at k ⊢
      cases hx : evCodeA ⟨E, gen, call, base, nt, nx0, vis, H⟩ (evCode ⟨E, gen, call, base, nt, nx0, vis, H⟩ n) x s with
      | none => rw [hx] at k; cases k
      | some q =>
        have hx' : evCodeA ⟨E, gen, call', base, nt, nx0, vis, H⟩ (evCode ⟨E, gen, call', base, nt, nx0, vis, H⟩ m) x s = some q := ihx _ _ hx
        rw [hx] at k
        rw [hx']
        obtain ⟨o, s2⟩ := q
        cases o with
        | fall =>
          simp only at k ⊢
          rw [← hj]
          split at k
          · exact ihy _ _ k
          · cases k
        | exit i => exact k
        | ret => exact k
    | cond c x y ihx ihy =>
      intro s r k
      replace k : evCodeA ⟨E, gen, call, base, nt, nx0, vis, H⟩ (evCode ⟨E, gen, call, base, nt, nx0, vis, H⟩ n) (.cond c x y) s = some r := k
      show evCodeA ⟨E, gen, call', base, nt, nx0, vis, H⟩ (evCode ⟨E, gen, call', base, nt, nx0, vis, H⟩ m) (.cond c x y) s = some r
      simp only [evCodeA] at k ⊢
      split at k
      · split at k
        · rename_i ht
          rw [if_pos ht]
          exact ihx _ _ k
        · rename_i ht
          rw [if_neg ht]
          exact ihy _ _ k
      · cases k
    | block id x ihx =>
      intro s r k
      replace k : evCodeA ⟨E, gen, call, base, nt, nx0, vis, H⟩ (evCode ⟨E, gen, call, base, nt, nx0, vis, H⟩ n) (.block id x) s = some r := k
      show evCodeA ⟨E, gen, call', base, nt, nx0, vis, H⟩ (evCode ⟨E, gen, call', base, nt, nx0, vis, H⟩ m) (.block id x) s = some r
      simp only [evCodeA] at k ⊢
      cases hx : evCodeA ⟨E, gen, call, base, nt, nx0, vis, H⟩ (evCode ⟨E, gen, call, base, nt, nx0, vis, H⟩ n) x s with
      | none => rw [hx] at k; cases k
      | some q =>
        have hx' : evCodeA ⟨E, gen, call', base, nt, nx0, vis, H⟩ (evCode ⟨E, gen, call', base, nt, nx0, vis, H⟩ m) x s = some q := ihx _ _ hx
        rw [hx] at k
        rw [hx']
        exact k
    | loop x ihx =>
      intro s r k
      replace k : evCodeA ⟨E, gen, call, base, nt, nx0, vis, H⟩ (evCode ⟨E, gen, call, base, nt, nx0, vis, H⟩ n) (.loop x) s = some r := k
      show evCodeA ⟨E, gen, call', base, nt, nx0, vis, H⟩ (evCode ⟨E, gen, call', base, nt, nx0, vis, H⟩ m) (.loop x) s = some r
      simp only [evCodeA] at k ⊢
      split at k
      · rename_i s1 hh
        cases hx : evCodeA ⟨E, gen, call, base, nt, nx0, vis, H⟩ (evCode ⟨E, gen, call, base, nt, nx0, vis, H⟩ n) x s1 with
        | none => rw [hx] at k; cases k
        | some q =>
          have hx' : evCodeA ⟨E, gen, call', base, nt, nx0, vis, H⟩ (evCode ⟨E, gen, call', base, nt, nx0, vis, H⟩ m) x s1 = some q := ihx _ _ hx
          rw [hx] at k
          rw [hx']
          obtain ⟨o, s2⟩ := q
          cases o with
          | fall => exact ihn m (by omega) _ _ _ k
          | exit i => exact k
          | ret => exact k
      · cases k
    | _ => intro s r k; cases k

theorem evFn_mono (h : CallLe call call') {H : FuncId → Hint} {n m : Nat} (hm : n ≤ m) {f : FuncId} {fn : Func} {args : List AT} {r : List AT × ObF × RtF × Nat} (k : evFn E genF H call n base mv f fn args ob rt nx = some r) :
    evFn E genF H call' m base mv f fn args ob rt nx = some r := by
  unfold evFn at k ⊢
  split at k
  · split at k
    · rename_i hl
      rw [if_pos hl]
      split at k
      · rename_i hc
        rw [evCode_mono h n m hm _ _ _ hc]
        exact k
      · rename_i hc
        rw [evCode_mono h n m hm _ _ _ hc]
        exact k
      · cases k
    · cases k
  · cases k

theorem evF_mono {H : FuncId → Hint} {ext : FuncId → Option (List Arg → Option (List Arg))} : ∀ {n m : Nat}, n ≤ m → CallLe (evF E genF H ext n) (evF E genF H ext m) := by
  intro n
  induction n with
  | zero => intro m _ base mv f args ob rt nx r k; cases k
  | succ n ih =>
    intro m hm base mv f args ob rt nx r k
    obtain ⟨m, rfl⟩ : ∃ q, m = q + 1 := ⟨m - 1, by omega⟩
    simp only [evF] at k ⊢
    split at k
    · exact k
    · split at k
      · exact evFn_mono (ih (by omega)) (by omega) k
      · cases k
end
end Go.Proofs.Ytcmaohhcbiienaa.X
