import Derived.Test.YtjhljcnjafbkfaaDoorQB1
import Derived.ChangeSlices
import Derived.ChangeArms
import Derived.Deep.Slices
import Derived.ChangeOld
import Derived.DataReads
import Derived.Lib.LaidTab
import Derived.ChangeMaps5
set_option linter.unusedSimpArgs false
set_option linter.unusedVariables false
section
set_option linter.unusedVariables false
namespace Go.Proofs.YtjhljcnjafbkfaaDoor.X
open Go.RowKit
def CallLe (c c' : CallF) : Prop := ∀ base mv f args ob rt nx r, c base mv f args ob rt nx = some r → c' base mv f args ob rt nx = some r
section
variable {E : Env} {gen : Nat → Bool} {genF : FuncId → Nat → Bool} {mv : Bool} {call call' : CallF} {base nt nx0 : Nat} {vis : List Nat} {ob : ObF} {rt : RtF} {nx : Nat} {ρ : Operand → AT} {H : Hint} {ops : Array Oper}
theorem pureCall_mono (h : CallLe call call') {f : FuncId} {xs rs : List Arg} (k : pureCall call f xs = some rs) : pureCall call' f xs = some rs := by
  unfold pureCall at k ⊢
  split at k
  · rename_i hc
    rw [h _ _ _ _ _ _ _ _ hc]
    exact k
  · cases k
theorem flatCall_mono (h : CallLe call call') {f : FuncId} {xs : List Arg} {R : List Nat} {u : Upd} (k : flatCall call f xs R = some u) : flatCall call' f xs R = some u := by
  unfold flatCall at k ⊢
  simp only [Option.bind_eq_some_iff] at k ⊢
  obtain ⟨rs, h1, h2⟩ := k
  exact ⟨rs, pureCall_mono h h1, h2⟩
theorem mvCall_mono (h : CallLe call call') {d : Nat} {f : FuncId} {xs : List AT} {u : Upd} (k : mvCall call base d f xs ob rt nx = some u) : mvCall call' base d f xs ob rt nx = some u := by
  unfold mvCall at k ⊢
  split at k
  · simp only at k ⊢
    split at k
    · rename_i hn
      rw [if_pos hn]
      split at k
      · rename_i hc
        rw [h _ _ _ _ _ _ _ _ hc]
        exact k
      · cases k
    · cases k
  · cases k
theorem evCall_mono (h : CallLe call call') {dst : Option Nat} {c : Call} {u : Upd} (k : evCall E gen call base ρ ob rt nx dst c = some u) : evCall E gen call' base ρ ob rt nx dst c = some u := by
  obtain ⟨callee, args, ts⟩ := c
  unfold evCall at k ⊢
  simp only at k ⊢
  split at k
  · exact k
  · exact k
  · exact k
  · exact k
  · split at k
    · rename_i hk
      rw [if_pos hk]
      split at k
      · split at k
        · rename_i hg
          rw [if_pos hg]
          exact mvCall_mono h k
        · rename_i hg
          rw [if_neg hg]
          split at k
          · simp only [Option.map_eq_some_iff] at k ⊢
            obtain ⟨rs, hrs, rfl⟩ := k
            exact ⟨rs, pureCall_mono h hrs, rfl⟩
          · split at k
            · exact flatCall_mono h k
            · cases k
      · split at k
        · rename_i hg
          rw [if_pos hg]
          exact mvCall_mono h k
        · rename_i hg
          rw [if_neg hg]
          split at k
          · exact flatCall_mono h k
          · cases k
      · cases k
    · cases k
  · cases k
theorem evOp_mono (h : CallLe call call') {o : Oper} {u : Upd} (k : evOp E gen call base ρ ob rt nx o = some u) : evOp E gen call' base ρ ob rt nx o = some u := by
  unfold evOp at k ⊢
  split at k
  all_goals first
    | with_reducible exact k
    | skip
  split at k
  · split at k
    · rename_i hu
      cases k
      rw [evCall_mono h hu]
    · rename_i hc _ hu
      have hl : ∀ (c : Call), c.callee = .builtin .len → evCall E gen call base ρ ob rt nx o.dst c = evCall E gen call' base ρ ob rt nx o.dst c := by
        intro c hc
        obtain ⟨callee, args, ts⟩ := c
        simp only at hc
        subst hc
        unfold evCall
        simp only
        generalize args.toList = as
        generalize ts.toList = us
        rcases as with _ | ⟨x, _ | ⟨y, l⟩⟩ <;> rcases us with _ | ⟨t, _ | ⟨t', us⟩⟩ <;> rfl
      rw [← hl _ hc, hu]
      exact k
  · exact evCall_mono h k
  · exact evCall_mono h k
  · exact evCall_mono h k
  · split at k
    · rename_i hb
      rw [if_pos hb]
      exact evCall_mono h k
    · rename_i hb
      rw [if_neg hb]
      exact k
  · cases k
theorem evRow_mono (h : CallLe call call') {s : St} {o : Oper} {u : Upd} (k : evRow E gen call base nt ops s o = some u) : evRow E gen call' base nt ops s o = some u := by
  unfold evRow at k ⊢
  split at k
  · rename_i hd
    rw [if_pos hd]
    split at k
    · exact evOp_mono h k
    · exact k
    · cases k
  · cases k
theorem evRows_mono (h : CallLe call call') : ∀ {l : List Oper} {s s' : St} {us : List Upd}, evRows E gen call base nt ops l s = some (s', us) → evRows E gen call' base nt ops l s = some (s', us)
  | [], s, s', us, k => k
  | o :: l, s, s', us, k => by
    obtain ⟨u, us', k1, k2, rfl⟩ := evRows_cons.1 k
    exact evRows_cons.2 ⟨u, us', evRow_mono h k1, evRows_mono h k2, rfl⟩
theorem evCode_mono (h : CallLe call call') : ∀ (n m : Nat), n ≤ m → ∀ (c : Code) (s : St) (r : Out × St), evCode ⟨E, gen, call, base, nt, nx0, vis, H⟩ n c s = some r → evCode ⟨E, gen, call', base, nt, nx0, vis, H⟩ m c s = some r := by
  intro n
  induction n with
  | zero => intro m _ c s r k; cases k
  | succ n ihn =>
    intro m hm c
    obtain ⟨m, rfl⟩ : ∃ q, m = q + 1 := ⟨m - 1, by omega⟩
    have hj : ∀ b s, atJoin ⟨E, gen, call, base, nt, nx0, vis, H⟩ b s = atJoin ⟨E, gen, call', base, nt, nx0, vis, H⟩ b s := fun _ _ => rfl
    induction c with
    | skip => intro s r k; exact k
    | label l => intro s r k; exact k
    | exit id => intro s r k; exact k
    | ret => intro s r k; exact k
    | region id ops draw =>
      intro s r k
      replace k : evCodeA ⟨E, gen, call, base, nt, nx0, vis, H⟩ (evCode ⟨E, gen, call, base, nt, nx0, vis, H⟩ n) (.region id ops draw) s = some r := k
      show evCodeA ⟨E, gen, call', base, nt, nx0, vis, H⟩ (evCode ⟨E, gen, call', base, nt, nx0, vis, H⟩ m) (.region id ops draw) s = some r
      simp only [evCodeA] at k ⊢
      split at k
      · rename_i hr
        rw [evRows_mono h hr]
        exact k
      · cases k
    | seq x y ihx ihy =>
      intro s r k
      replace k : evCodeA ⟨E, gen, call, base, nt, nx0, vis, H⟩ (evCode ⟨E, gen, call, base, nt, nx0, vis, H⟩ n) (.seq x y) s = some r := k
      show evCodeA ⟨E, gen, call', base, nt, nx0, vis, H⟩ (evCode ⟨E, gen, call', base, nt, nx0, vis, H⟩ m) (.seq x y) s = some r
      simp only [evCodeA] at k ⊢
      cases hx : evCodeA ⟨E, gen, call, base, nt, nx0, vis, H⟩ (evCode ⟨E, gen, call, base, nt, nx0, vis, H⟩ n) x s with
      | none => rw [hx] at k; cases k
      | some q =>
        have hx' : evCodeA ⟨E, gen, call', base, nt, nx0, vis, H⟩ (evCode ⟨E, gen, call', base, nt, nx0, vis, H⟩ m) x s = some q := ihx _ _ hx
        rw [hx] at k
        rw [hx']
        obtain ⟨o, s2⟩ := q
        cases o with
        | fall =>
          simp only at k ⊢
          rw [← hj]
          split at k
          · exact ihy _ _ k
          · cases k
        | exit i => exact k
        | ret => exact k
    | cond c x y ihx ihy =>
      intro s r k
      replace k : evCodeA ⟨E, gen, call, base, nt, nx0, vis, H⟩ (evCode ⟨E, gen, call, base, nt, nx0, vis, H⟩ n) (.cond c x y) s = some r := k
      show evCodeA ⟨E, gen, call', base, nt, nx0, vis, H⟩ (evCode ⟨E, gen, call', base, nt, nx0, vis, H⟩ m) (.cond c x y) s = some r
      simp only [evCodeA] at k ⊢
      split at k
      · split at k
        · rename_i ht
          rw [if_pos ht]
          exact ihx _ _ k
        · rename_i ht
          rw [if_neg ht]
          exact ihy _ _ k
      · cases k
    | scope x ihx =>
      intro s r k
      exact ihx _ _ k
    | block id x ihx =>
      intro s r k
      replace k : evCodeA ⟨E, gen, call, base, nt, nx0, vis, H⟩ (evCode ⟨E, gen, call, base, nt, nx0, vis, H⟩ n) (.block id x) s = some r := k
      show evCodeA ⟨E, gen, call', base, nt, nx0, vis, H⟩ (evCode ⟨E, gen, call', base, nt, nx0, vis, H⟩ m) (.block id x) s = some r
      simp only [evCodeA] at k ⊢
      cases hx : evCodeA ⟨E, gen, call, base, nt, nx0, vis, H⟩ (evCode ⟨E, gen, call, base, nt, nx0, vis, H⟩ n) x s with
      | none => rw [hx] at k; cases k
      | some q =>
        have hx' : evCodeA ⟨E, gen, call', base, nt, nx0, vis, H⟩ (evCode ⟨E, gen, call', base, nt, nx0, vis, H⟩ m) x s = some q := ihx _ _ hx
        rw [hx] at k
        rw [hx']
        exact k
    | loop x ihx =>
      intro s r k
      replace k : evCodeA ⟨E, gen, call, base, nt, nx0, vis, H⟩ (evCode ⟨E, gen, call, base, nt, nx0, vis, H⟩ n) (.loop x) s = some r := k
      show evCodeA ⟨E, gen, call', base, nt, nx0, vis, H⟩ (evCode ⟨E, gen, call', base, nt, nx0, vis, H⟩ m) (.loop x) s = some r
      simp only [evCodeA] at k ⊢
      split at k
      · rename_i s1 hh
        cases hx : evCodeA ⟨E, gen, call, base, nt, nx0, vis, H⟩ (evCode ⟨E, gen, call, base, nt, nx0, vis, H⟩ n) x s1 with
        | none => rw [hx] at k; cases k
        | some q =>
          have hx' : evCodeA ⟨E, gen, call', base, nt, nx0, vis, H⟩ (evCode ⟨E, gen, call', base, nt, nx0, vis, H⟩ m) x s1 = some q := ihx _ _ hx
          rw [hx] at k
          rw [hx']
          obtain ⟨o, s2⟩ := q
          cases o with
          | fall => exact ihn m (by omega) _ _ _ k
          | exit i => exact k
          | ret => exact k
      · cases k
    | _ => intro s r k; cases k
theorem evFn_mono (h : CallLe call call') {H : FuncId → Hint} {n m : Nat} (hm : n ≤ m) {f : FuncId} {fn : Func} {args : List AT} {r : List AT × ObF × RtF × Nat} (k : evFn E genF H call n base mv f fn args ob rt nx = some r) :
    evFn E genF H call' m base mv f fn args ob rt nx = some r := by
  unfold evFn at k ⊢
  split at k
  · split at k
    · rename_i hl
      rw [if_pos hl]
      split at k
      · rename_i hc
        rw [evCode_mono h n m hm _ _ _ hc]
        exact k
      · rename_i hc
        rw [evCode_mono h n m hm _ _ _ hc]
        exact k
      · cases k
    · cases k
  · cases k
theorem evF_mono {H : FuncId → Hint} {ext : FuncId → Option (List Arg → Option (List Arg))} : ∀ {n m : Nat}, n ≤ m → CallLe (evF E genF H ext n) (evF E genF H ext m) := by
  intro n
  induction n with
  | zero => intro m _ base mv f args ob rt nx r k; cases k
  | succ n ih =>
    intro m hm base mv f args ob rt nx r k
    obtain ⟨m, rfl⟩ : ∃ q, m = q + 1 := ⟨m - 1, by omega⟩
    simp only [evF] at k ⊢
    split at k
    · exact k
    · split at k
      · exact evFn_mono (ih (by omega)) (by omega) k
      · cases k
abbrev ExtF := FuncId → Option (List Arg → Option (List Arg))
def ExtLe (e e' : ExtF) : Prop := ∀ f, (e f = none ∧ e' f = none) ∨ ∃ h h', e f = some h ∧ e' f = some h' ∧ ∀ xs r, h xs = some r → h' xs = some r
theorem evF_up {H : FuncId → Hint} {e e' : ExtF} (he : ExtLe e e') : ∀ n, CallLe (evF E genF H e n) (evF E genF H e' n) := by
  intro n
  induction n with
  | zero => intro base mv f args ob rt nx r k; cases k
  | succ n ih =>
    intro base mv f args ob rt nx r k
    simp only [evF] at k ⊢
    rcases he f with ⟨h1, h2⟩ | ⟨h, h', h1, h2, h3⟩
    · simp only [h1] at k
      simp only [h2]
      split at k
      · exact evFn_mono ih (Nat.le_refl _) k
      · cases k
    · simp only [h1] at k
      simp only [h2]
      split at k
      · rename_i xs hx
        simp only [Option.map_eq_some_iff] at k ⊢
        obtain ⟨rs, hrs, rfl⟩ := k
        exact ⟨rs, h3 _ _ hrs, rfl⟩
      · cases k
end
end Go.Proofs.YtjhljcnjafbkfaaDoor.X
end
section
set_option linter.unusedVariables false
namespace Go.Proofs.YtjhljcnjafbkfaaDoor.X
open Go.RowKit
inductive It where
  | code (c : Code)
  | blk (id : Nat)
  | lp (b : Code)
structure Cx where
  E : Env
  gen : FuncId → Nat → Bool
  H : FuncId → Hint
  ext : FuncId → Option (List Arg → Option (List Arg))
structure Fr where
  base : Nat
  nt : Nat
  nx0 : Nat
  vis : List Nat
  f : FuncId
def Cx.ev (C : Cx) (n : Nat) : CallF := evF C.E C.gen C.H C.ext n
def Cx.fx (C : Cx) (F : Fr) (n : Nat) : Fx := ⟨C.E, C.gen F.f, C.ev n, F.base, F.nt, F.nx0, F.vis, C.H F.f⟩
def fin (X : Fx) (n : Nat) : List It → Out → St → Option (Out × St)
  | [], o, s => some (o, s)
  | .code c :: k, .fall, s => (atJoin X c s).bind fun s => (evCode X n c s).bind fun p => fin X n k p.1 p.2
  | .code _ :: k, o, s => fin X n k o s
  | .blk id :: k, .exit i, s => if i = id then fin X n k .fall s else fin X n k (.exit i) s
  | .blk _ :: k, o, s => fin X n k o s
  | .lp b :: k, .fall, s => (evCode X n (.loop b) s).bind fun p => fin X n k p.1 p.2
  | .lp _ :: k, o, s => fin X n k o s
abbrev Post := Out → St → Prop
def Fin (C : Cx) (F : Fr) (k : List It) (o : Out) (s : St) (Q : Post) : Prop := ∃ n r, fin (C.fx F n) n k o s = some r ∧ Q r.1 r.2
def Go (C : Cx) (F : Fr) (c : Code) (k : List It) (s : St) (Q : Post) : Prop := ∃ n p, evCode (C.fx F n) n c s = some p ∧ Fin C F k p.1 p.2 Q
section
variable {C : Cx} {F : Fr} {k : List It} {s : St} {Q : Post} {a b : Code} {id : Nat} {draw : Bool} {ops : Array Oper} {l : List Oper} {us : List Upd}
theorem code_le {n m : Nat} (h : n ≤ m) {c : Code} {s : St} {p : Out × St} (k : evCode (C.fx F n) n c s = some p) : evCode (C.fx F m) m c s = some p :=
  evCode_mono (evF_mono h) n m h c s p k
theorem fin_le {n m : Nat} (h : n ≤ m) : ∀ {k : List It} {o : Out} {s : St} {r : Out × St}, fin (C.fx F n) n k o s = some r → fin (C.fx F m) m k o s = some r
  | [], o, s, r, q => q
  | .code c :: k, .fall, s, r, q => by
    simp only [fin, Option.bind_eq_some_iff] at q ⊢
    obtain ⟨s1, h1, p, h2, h3⟩ := q
    exact ⟨s1, h1, p, code_le h h2, fin_le h h3⟩
  | .code c :: k, .exit i, s, r, q => fin_le (k := k) h q
  | .code c :: k, .ret, s, r, q => fin_le (k := k) h q
  | .blk id :: k, .exit i, s, r, q => by
    simp only [fin] at q ⊢
    split at q
    · rename_i hi
      rw [if_pos hi]
      exact fin_le h q
    · rename_i hi
      rw [if_neg hi]
      exact fin_le h q
  | .blk id :: k, .fall, s, r, q => fin_le (k := k) h q
  | .blk id :: k, .ret, s, r, q => fin_le (k := k) h q
  | .lp b :: k, .fall, s, r, q => by
    simp only [fin, Option.bind_eq_some_iff] at q ⊢
    obtain ⟨p, h2, h3⟩ := q
    exact ⟨p, code_le h h2, fin_le h h3⟩
  | .lp b :: k, .exit i, s, r, q => fin_le (k := k) h q
  | .lp b :: k, .ret, s, r, q => fin_le (k := k) h q
def AtJ (C : Cx) (F : Fr) (c : Code) (k : List It) (s : Option St) (Q : Post) : Prop := ∃ s', s = some s' ∧ Go C F c k s' Q
theorem atJ_some : AtJ C F a k (some s) Q = Go C F a k s Q := propext ⟨fun ⟨s', h, q⟩ => by cases h; exact q, fun q => ⟨s, rfl, q⟩⟩
theorem AtJ.eq {x y : Option St} (h : AtJ C F a k x Q) (e : y = x) : AtJ C F a k y Q := e ▸ h
def AtL (C : Cx) (F : Fr) (b : Code) (k : List It) (s : Option St) (Q : Post) : Prop := ∃ s', s = some s' ∧ Go C F b (.lp b :: k) s' Q
theorem atL_some : AtL C F b k (some s) Q = Go C F b (.lp b :: k) s Q := propext ⟨fun ⟨s', h, q⟩ => by cases h; exact q, fun q => ⟨s, rfl, q⟩⟩
theorem AtL.eq {x y : Option St} (h : AtL C F a k x Q) (e : y = x) : AtL C F a k y Q := e ▸ h
@[congr] theorem atJ_congr {x y : Option St} (h : x = y) : AtJ C F a k x Q = AtJ C F a k y Q := by rw [h]
@[congr] theorem atL_congr {x y : Option St} (h : x = y) : AtL C F a k x Q = AtL C F a k y Q := by rw [h]
def joinOf (H : Hint) (base nx0 : Nat) (vis : List Nat) (c : Code) (s : St) : Option St := match joinKey c with
  | some j => match H.join j with
    | some l => head base nx0 vis l s
    | none => some s
  | none => some s
theorem fin_code : Fin C F (.code a :: k) .fall s Q = AtJ C F a k (joinOf (C.H F.f) F.base F.nx0 F.vis a s) Q := by
  refine propext ⟨fun ⟨n, r, h, q⟩ => ?_, fun ⟨s', h, n, p, h1, m, r, h2, h3⟩ => ?_⟩
  · simp only [fin, Option.bind_eq_some_iff] at h
    obtain ⟨s1, h1, p, h2, h3⟩ := h
    exact ⟨s1, h1, n, p, h2, n, r, h3, q⟩
  · refine ⟨max n m, r, ?_, h3⟩
    simp only [fin, Option.bind_eq_some_iff]
    exact ⟨s', h, p, code_le (Nat.le_max_left ..) h1, fin_le (Nat.le_max_right ..) h2⟩
theorem fin_code1 {i : Nat} : Fin C F (.code a :: k) (.exit i) s Q = Fin C F k (.exit i) s Q := rfl
theorem fin_code2 : Fin C F (.code a :: k) .ret s Q = Fin C F k .ret s Q := rfl
theorem fin_blk {i : Nat} : Fin C F (.blk id :: k) (.exit i) s Q = if i = id then Fin C F k .fall s Q else Fin C F k (.exit i) s Q := by
  unfold Fin
  simp only [fin]
  split <;> rfl
theorem fin_blk1 : Fin C F (.blk id :: k) .fall s Q = Fin C F k .fall s Q := rfl
theorem fin_blk2 : Fin C F (.blk id :: k) .ret s Q = Fin C F k .ret s Q := rfl
theorem fin_lp1 {i : Nat} : Fin C F (.lp a :: k) (.exit i) s Q = Fin C F k (.exit i) s Q := rfl
theorem fin_lp2 : Fin C F (.lp a :: k) .ret s Q = Fin C F k .ret s Q := rfl
theorem fin_lp : Fin C F (.lp b :: k) .fall s Q = Go C F (.loop b) k s Q := by
  refine propext ⟨fun ⟨n, r, h, q⟩ => ?_, fun ⟨n, p, h1, m, r, h2, h3⟩ => ?_⟩
  · simp only [fin, Option.bind_eq_some_iff] at h
    obtain ⟨p, h2, h3⟩ := h
    exact ⟨n, p, h2, n, r, h3, q⟩
  · refine ⟨max n m, r, ?_, h3⟩
    simp only [fin, Option.bind_eq_some_iff]
    exact ⟨p, code_le (Nat.le_max_left ..) h1, fin_le (Nat.le_max_right ..) h2⟩
theorem fin_nil {o : Out} : Fin C F [] o s Q = Q o s := propext ⟨fun ⟨n, r, h, q⟩ => by cases h; exact q, fun q => ⟨0, (o, s), rfl, q⟩⟩
theorem go_one {c : Code} {o : Out} {s' : St} (h : ∀ n p, evCode (C.fx F (n + 1)) (n + 1) c s = some p ↔ p = (o, s')) : Go C F c k s Q = Fin C F k o s' Q := by
  refine propext ⟨fun ⟨n, p, h1, h2⟩ => ?_, fun q => ⟨1, (o, s'), (h 0 _).2 rfl, q⟩⟩
  cases n with
  | zero => cases h1
  | succ n => obtain rfl := (h n p).1 h1; exact h2
theorem go_skip : Go C F .skip k s Q = Fin C F k .fall s Q := go_one fun n p => ⟨fun h => by cases h; rfl, fun h => by subst h; rfl⟩
theorem go_label {i : Nat} : Go C F (.label i) k s Q = Fin C F k .fall s Q := go_one fun n p => ⟨fun h => by cases h; rfl, fun h => by subst h; rfl⟩
theorem go_exit : Go C F (.exit id) k s Q = Fin C F k (.exit id) s Q := go_one fun n p => ⟨fun h => by cases h; rfl, fun h => by subst h; rfl⟩
theorem go_ret : Go C F .ret k s Q = Fin C F k .ret s Q := go_one fun n p => ⟨fun h => by cases h; rfl, fun h => by subst h; rfl⟩
theorem seq_ev {n : Nat} {p : Out × St} : evCode (C.fx F (n + 1)) (n + 1) (.seq a b) s = some p ↔ ∃ q, evCode (C.fx F (n + 1)) (n + 1) a s = some q ∧
    (match q with
     | (.fall, s') => (joinOf (C.H F.f) F.base F.nx0 F.vis b s').bind (evCode (C.fx F (n + 1)) (n + 1) b)
     | r => some r) = some p := by
  show evCodeA _ (evCode (C.fx F (n + 1)) n) (.seq a b) s = some p ↔ _
  simp only [evCodeA]
  show (match evCode (C.fx F (n + 1)) (n + 1) a s with
    | some (.fall, s') => match joinOf (C.H F.f) F.base F.nx0 F.vis b s' with
      | some s' => evCode (C.fx F (n + 1)) (n + 1) b s'
      | none => none
    | r => r) = some p ↔ _
  cases evCode (C.fx F (n + 1)) (n + 1) a s with
  | none => simp
  | some q =>
    obtain ⟨o, s'⟩ := q
    cases o with
    | fall =>
      simp only [Option.some.injEq, exists_eq_left']
      cases joinOf (C.H F.f) F.base F.nx0 F.vis b s' <;> simp
    | exit i => simp
    | ret => simp
theorem go_seq : Go C F (.seq a b) k s Q = Go C F a (.code b :: k) s Q := by
  refine propext ⟨fun ⟨n, p, h1, h2⟩ => ?_, fun ⟨n, q, h1, h2⟩ => ?_⟩
  · cases n with
    | zero => cases h1
    | succ n =>
      obtain ⟨q, hq, hp⟩ := seq_ev.1 h1
      refine ⟨n + 1, q, hq, ?_⟩
      obtain ⟨o, s'⟩ := q
      cases o with
      | fall =>
        simp only [Option.bind_eq_some_iff] at hp
        obtain ⟨s1, hj, hb⟩ := hp
        rw [fin_code]
        exact ⟨s1, hj, n + 1, p, hb, h2⟩
      | exit i => cases hp; exact h2
      | ret => cases hp; exact h2
  · obtain ⟨o, s'⟩ := q
    cases o with
    | fall =>
      rw [fin_code] at h2
      obtain ⟨s1, hj, m, p, hb, h3⟩ := h2
      refine ⟨max n m + 1, p, seq_ev.2 ⟨(.fall, s'), code_le (by omega) h1, ?_⟩, h3⟩
      simp only [Option.bind_eq_some_iff]
      exact ⟨s1, hj, code_le (by omega) hb⟩
    | exit i => exact ⟨n + 1, (.exit i, s'), seq_ev.2 ⟨_, code_le (by omega) h1, rfl⟩, h2⟩
    | ret => exact ⟨n + 1, (.ret, s'), seq_ev.2 ⟨_, code_le (by omega) h1, rfl⟩, h2⟩
theorem block_ev {n : Nat} {p : Out × St} : evCode (C.fx F (n + 1)) (n + 1) (.block id b) s = some p ↔ ∃ q, evCode (C.fx F (n + 1)) (n + 1) b s = some q ∧
    (match q with
     | (.exit i, s') => if i = id then (.fall, s') else (.exit i, s')
     | r => r) = p := by
  show evCodeA _ (evCode (C.fx F (n + 1)) n) (.block id b) s = some p ↔ _
  simp only [evCodeA]
  show (match evCode (C.fx F (n + 1)) (n + 1) b s with
    | some (.exit i, s') => if i = id then some (.fall, s') else some (.exit i, s')
    | r => r) = some p ↔ _
  cases evCode (C.fx F (n + 1)) (n + 1) b s with
  | none => simp
  | some q =>
    obtain ⟨o, s'⟩ := q
    cases o with
    | fall => simp
    | exit i =>
      simp only [Option.some.injEq, exists_eq_left']
      split <;> simp
    | ret => simp
theorem go_scope : Go C F (.scope b) k s Q = Go C F b k s Q := by
  refine propext ⟨fun ⟨n, p, h1, h2⟩ => ?_, fun ⟨n, q, h1, h2⟩ => ?_⟩
  · cases n with
    | zero => cases h1
    | succ n => exact ⟨n + 1, p, h1, h2⟩
  · exact ⟨n + 1, q, (code_le (c := b) (Nat.le_succ n) h1 : evCode (C.fx F (n + 1)) (n + 1) b s = some q), h2⟩
theorem go_block : Go C F (.block id b) k s Q = Go C F b (.blk id :: k) s Q := by
  have key : ∀ q : Out × St, Fin C F (.blk id :: k) q.1 q.2 Q ↔ Fin C F k (match q with
     | (.exit i, s') => if i = id then ((.fall, s') : Out × St) else (.exit i, s')
     | r => r).1 (match q with
     | (.exit i, s') => if i = id then ((.fall, s') : Out × St) else (.exit i, s')
     | r => r).2 Q := by
    rintro ⟨o, s'⟩
    cases o with
    | fall => exact Iff.rfl
    | exit i =>
      simp only [fin_blk]
      split <;> exact Iff.rfl
    | ret => exact Iff.rfl
  refine propext ⟨fun ⟨n, p, h1, h2⟩ => ?_, fun ⟨n, q, h1, h2⟩ => ?_⟩
  · cases n with
    | zero => cases h1
    | succ n =>
      obtain ⟨q, hq, rfl⟩ := block_ev.1 h1
      exact ⟨n + 1, q, hq, (key q).2 h2⟩
  · exact ⟨n + 1, _, block_ev.2 ⟨q, code_le (by omega) h1, rfl⟩, (key q).1 h2⟩
theorem loop_ev {n : Nat} {p : Out × St} : evCode (C.fx F (n + 1)) (n + 1) (.loop b) s = some p ↔ ∃ s1, head F.base F.nx0 F.vis ((C.H F.f).keep (firstR b)) s = some s1 ∧ ∃ q, evCode (C.fx F (n + 1)) (n + 1) b s1 = some q ∧
    (match q with
     | (.fall, s') => evCode (C.fx F (n + 1)) n (.loop b) s'
     | r => some r) = some p := by
  show evCodeA _ (evCode (C.fx F (n + 1)) n) (.loop b) s = some p ↔ _
  simp only [evCodeA]
  show (match head F.base F.nx0 F.vis ((C.H F.f).keep (firstR b)) s with
    | some s => match evCode (C.fx F (n + 1)) (n + 1) b s with
      | some (.fall, s') => evCode (C.fx F (n + 1)) n (.loop b) s'
      | r => r
    | none => none) = some p ↔ _
  cases head F.base F.nx0 F.vis ((C.H F.f).keep (firstR b)) s with
  | none => simp
  | some s1 =>
    simp only [Option.some.injEq, exists_eq_left']
    cases evCode (C.fx F (n + 1)) (n + 1) b s1 with
    | none => simp
    | some q =>
      obtain ⟨o, s'⟩ := q
      cases o <;> simp
theorem go_loop : Go C F (.loop b) k s Q = AtL C F b k (head F.base F.nx0 F.vis ((C.H F.f).keep (firstR b)) s) Q := by
  refine propext ⟨fun ⟨n, p, h1, h2⟩ => ?_, fun ⟨s1, hs, n, q, h1, h2⟩ => ?_⟩
  · cases n with
    | zero => cases h1
    | succ n =>
      obtain ⟨s1, hs, q, hq, hp⟩ := loop_ev.1 h1
      refine ⟨s1, hs, n + 1, q, hq, ?_⟩
      obtain ⟨o, s'⟩ := q
      cases o with
      | fall =>
        rw [fin_lp]
        exact ⟨n + 1, p, evCode_mono (fun _ _ _ _ _ _ _ _ h => h) n (n + 1) (by omega) _ _ _ hp, h2⟩
      | exit i => cases hp; exact h2
      | ret => cases hp; exact h2
  · obtain ⟨o, s'⟩ := q
    cases o with
    | fall =>
      rw [fin_lp] at h2
      obtain ⟨m, p, hb, h3⟩ := h2
      refine ⟨max n m + 1, p, loop_ev.2 ⟨s1, hs, (.fall, s'), code_le (by omega) h1, ?_⟩, h3⟩
      exact evCode_mono (evF_mono (by omega)) m (max n m) (by omega) _ _ _ hb
    | exit i => exact ⟨n + 1, (.exit i, s'), loop_ev.2 ⟨s1, hs, _, code_le (by omega) h1, rfl⟩, h2⟩
    | ret => exact ⟨n + 1, (.ret, s'), loop_ev.2 ⟨s1, hs, _, code_le (by omega) h1, rfl⟩, h2⟩
theorem go_cond {c : Operand} : Go C F (.cond c a b) k s Q = (match evOpd C.E s.tm c with
  | .one (.p _ (.sc (.bool t))) => if t = true then Go C F a k s Q else Go C F b k s Q
  | _ => False) := by
  have ev : ∀ n p, evCode (C.fx F (n + 1)) (n + 1) (.cond c a b) s = some p ↔ (match evOpd C.E s.tm c with
    | .one (.p _ (.sc (.bool t))) => if t then evCode (C.fx F (n + 1)) (n + 1) a s else evCode (C.fx F (n + 1)) (n + 1) b s
    | _ => none) = some p := fun n p => Iff.rfl
  split
  · rename_i w t ht
    simp only [ht] at ev
    cases t with
    | true =>
      simp only [if_true] at ev ⊢
      refine propext ⟨fun ⟨n, p, h1, h2⟩ => ?_, fun ⟨n, p, h1, h2⟩ => ?_⟩
      · cases n with
        | zero => cases h1
        | succ n => exact ⟨n + 1, p, (ev n p).1 h1, h2⟩
      · exact ⟨n + 1, p, (ev n p).2 (code_le (by omega) h1), h2⟩
    | false =>
      simp only [Bool.false_eq_true, if_false] at ev ⊢
      refine propext ⟨fun ⟨n, p, h1, h2⟩ => ?_, fun ⟨n, p, h1, h2⟩ => ?_⟩
      · cases n with
        | zero => cases h1
        | succ n => exact ⟨n + 1, p, (ev n p).1 h1, h2⟩
      · exact ⟨n + 1, p, (ev n p).2 (code_le (by omega) h1), h2⟩
  · rename_i hne
    refine propext ⟨fun ⟨n, p, h1, h2⟩ => ?_, fun h => h.elim⟩
    cases n with
    | zero => cases h1
    | succ n =>
      have := (ev n p).1 h1
      split at this
      · exact hne _ _ (by assumption)
      · cases this
end
end Go.Proofs.YtjhljcnjafbkfaaDoor.X
end
section
set_option linter.unusedVariables false
namespace Go.Proofs.YtjhljcnjafbkfaaDoor.X
open Go.RowKit
def GR (C : Cx) (F : Fr) (k : List It) (Q : Post) (id : Nat) (draw : Bool) (ops : Array Oper) (l : List Oper) (s : St) (us : List Upd) : Prop := ∃ n s' us', evRows C.E (C.gen F.f) (C.ev n) F.base F.nt ops l s = some (s', us') ∧
  us'.all (touchOk F.base F.vis) = true ∧ (draw = true → ∃ q, (C.H F.f).pairs id = some q ∧ apartAll (us.reverse ++ us') q = true) ∧ Fin C F k .fall s' Q
def StepU (C : Cx) (F : Fr) (k : List It) (Q : Post) (id : Nat) (draw : Bool) (ops : Array Oper) (l : List Oper) (s : St) (us : List Upd) (d : Option Nat) (u : Option Upd) : Prop :=
  match u with
  | some u => touchOk F.base F.vis u = true ∧ GR C F k Q id draw ops l (apU d u s) (u :: us)
  | none => False
def StepO (C : Cx) (F : Fr) (k : List It) (Q : Post) (id : Nat) (draw : Bool) (ops : Array Oper) (l : List Oper) (s : St) (us : List Upd) (o : Oper) : Prop :=
  ∃ n u, evOp C.E (C.gen F.f) (C.ev n) F.base (evOpd C.E s.tm) s.ob s.rt s.nx o = some u ∧ touchOk F.base F.vis u = true ∧ GR C F k Q id draw ops l (apU o.dst u s) (u :: us)
def StepG (C : Cx) (F : Fr) (k : List It) (Q : Post) (id : Nat) (draw : Bool) (ops : Array Oper) (l : List Oper) (s : St) (us : List Upd) (o : Oper) (b : Option Bool) : Prop :=
  match b with
  | some true => StepO C F k Q id draw ops l s us o
  | some false => GR C F k Q id draw ops l (apU o.dst { val := .tup [] } s) ({ val := .tup [] } :: us)
  | none => False
section
variable {C : Cx} {F : Fr} {k : List It} {s : St} {Q : Post} {a b : Code} {id : Nat} {draw : Bool} {ops : Array Oper} {l : List Oper} {us : List Upd} {d : Option Nat}
theorem stepU_some {u : Upd} : StepU C F k Q id draw ops l s us d (some u) = (touchOk F.base F.vis u = true ∧ GR C F k Q id draw ops l (apU d u s) (u :: us)) := rfl
@[congr] theorem stepU_congr {u v : Option Upd} (h : u = v) : StepU C F k Q id draw ops l s us d u = StepU C F k Q id draw ops l s us d v := by rw [h]
@[congr] theorem stepG_congr {o : Oper} {u v : Option Bool} (h : u = v) : StepG C F k Q id draw ops l s us o u = StepG C F k Q id draw ops l s us o v := by rw [h]
theorem stepG_t {o : Oper} : StepG C F k Q id draw ops l s us o (some true) = StepO C F k Q id draw ops l s us o := rfl
theorem stepG_f {o : Oper} : StepG C F k Q id draw ops l s us o (some false) = GR C F k Q id draw ops l (apU o.dst { val := .tup [] } s) ({ val := .tup [] } :: us) := rfl
theorem stepG_b {o : Oper} {b : Bool} : StepG C F k Q id draw ops l s us o (some b) = if b = true then StepO C F k Q id draw ops l s us o else GR C F k Q id draw ops l (apU o.dst { val := .tup [] } s) ({ val := .tup [] } :: us) := by cases b <;> rfl
theorem go_region {l : List Oper} : Go C F (.region id l.toArray draw) k s Q = GR C F k Q id draw l.toArray l s [] := by
  have ev : ∀ n p, evCode (C.fx F (n + 1)) (n + 1) (.region id l.toArray draw) s = some p ↔ (match evRows C.E (C.gen F.f) (C.ev (n + 1)) F.base F.nt l.toArray l s with
    | some (s', us) => if us.all (touchOk F.base F.vis) then
        if draw then match (C.H F.f).pairs id with
        | some l => if apartAll us l then some (.fall, s') else none
        | none => none
        else some (.fall, s')
      else none
    | none => none) = some p := fun n p => Iff.rfl
  refine propext ⟨fun ⟨n, p, h1, h2⟩ => ?_, fun ⟨n, s', us', h1, h2, h3, h4⟩ => ?_⟩
  · cases n with
    | zero => cases h1
    | succ n =>
      have h := (ev n p).1 h1
      split at h
      · rename_i s' us' hr
        split at h
        · rename_i ht
          split at h
          · rename_i hd
            split at h
            · rename_i q hq
              split at h
              · rename_i hap
                cases h
                exact ⟨n + 1, s', us', hr, ht, fun _ => ⟨q, hq, hap⟩, h2⟩
              · cases h
            · cases h
          · rename_i hd
            cases h
            exact ⟨n + 1, s', us', hr, ht, fun h => absurd h hd, h2⟩
        · cases h
      · cases h
  · refine ⟨n + 1, (.fall, s'), (ev n _).2 ?_, h4⟩
    have h1' : evRows C.E (C.gen F.f) (C.ev (n + 1)) F.base F.nt l.toArray l s = some (s', us') := evRows_mono (evF_mono (Nat.le_succ n)) h1
    rw [h1']
    simp only [h2, if_true]
    cases draw with
    | false => rfl
    | true =>
      obtain ⟨q, hq, hap⟩ := h3 rfl
      replace hap : apartAll us' q = true := hap
      simp only [if_true, hq]
      rw [if_pos hap]
theorem gr_nil : GR C F k Q id false ops [] s us = Fin C F k .fall s Q :=
  propext ⟨fun ⟨n, s', us', h1, h2, h3, h4⟩ => by cases h1; exact h4, fun h => ⟨0, s, [], rfl, rfl, (fun h => by cases h), h⟩⟩
def loud : Nat → List Upd → List (Nat × Upd)
  | _, [] => []
  | n, u :: us => if u.quiet then loud (n + 1) us else (n, u) :: loud (n + 1) us
def apart2 (q : List (Nat × Nat)) : List (Nat × Upd) → Bool
  | [] => true
  | (i, u) :: r => (r.all fun p => !(q.contains (i, p.1)) || u.apart p.2) && apart2 q r
def lessAll (n : Nat) (q : List (Nat × Nat)) : Bool := q.all fun p => decide (p.1 < p.2) && decide (p.2 < n)
theorem quiet_apart {u v : Upd} (h : u.quiet = true) : u.apart v = true := by
  obtain ⟨h1, h2, h3, h4⟩ := quiet_ob h
  unfold Upd.apart
  split
  · simp [h]
  · simp [h1, h2, h3]
theorem loud_at : ∀ {us : List Upd} {n i : Nat} {u : Upd}, us[i]? = some u → u.quiet = false → (n + i, u) ∈ loud n us
  | [], n, i, u, h, _ => by simp at h
  | v :: us, n, i, u, h, hq => by
    simp only [loud]
    cases i with
    | zero =>
      simp at h
      subst h
      rw [if_neg (by simp [hq])]
      exact List.mem_cons_self ..
    | succ i =>
      have := loud_at (us := us) (n := n + 1) (i := i) (by simpa using h) hq
      rw [show n + 1 + i = n + (i + 1) by omega] at this
      split
      · exact this
      · exact List.mem_cons_of_mem _ this
theorem loud_ge : ∀ {us : List Upd} {n : Nat} {p : Nat × Upd}, p ∈ loud n us → n ≤ p.1
  | [], n, p, h => by simp [loud] at h
  | v :: us, n, p, h => by
    simp only [loud] at h
    split at h
    · exact Nat.le_of_succ_le (loud_ge h)
    · rcases List.mem_cons.1 h with rfl | h
      · exact Nat.le_refl _
      · exact Nat.le_of_succ_le (loud_ge h)
theorem loud_sorted : ∀ {us : List Upd} {n : Nat}, (loud n us).Pairwise fun p q => p.1 < q.1
  | [], n => List.Pairwise.nil
  | v :: us, n => by
    simp only [loud]
    split
    · exact loud_sorted
    · exact List.pairwise_cons.2 ⟨fun p hp => loud_ge hp, loud_sorted⟩
theorem apart2_spec {q : List (Nat × Nat)} : ∀ {r : List (Nat × Upd)}, apart2 q r = true → r.Pairwise fun p p' => (p.1, p'.1) ∈ q → p.2.apart p'.2 = true
  | [], _ => List.Pairwise.nil
  | (i, u) :: r, h => by
    simp only [apart2, Bool.and_eq_true, List.all_eq_true, Bool.or_eq_true, Bool.not_eq_true', List.contains_eq_mem, decide_eq_false_iff_not] at h
    exact List.pairwise_cons.2 ⟨fun p hp hq => (h.1 p hp).resolve_left fun hn => hn hq, apart2_spec h.2⟩
theorem apart_of_loud {us : List Upd} {q : List (Nat × Nat)} (h : apart2 q (loud 0 us) = true) (hl : lessAll us.length q = true) : apartAll us q = true := by
  unfold apartAll
  rw [List.all_eq_true]
  rintro ⟨i, j⟩ hp
  have hij := List.all_eq_true.1 hl _ hp
  simp only [Bool.and_eq_true, decide_eq_true_eq] at hij
  have hi : us[i]? = some (us[i]'(by omega)) := List.getElem?_eq_getElem (by omega)
  have hj : us[j]? = some us[j] := List.getElem?_eq_getElem hij.2
  simp only [hi, hj]
  by_cases q1 : (us[i]'(by omega)).quiet = true
  · exact quiet_apart q1
  · by_cases q2 : us[j].quiet = true
    · exact apart_symm (quiet_apart q2)
    · have m1 := loud_at (n := 0) hi (by simpa using q1)
      have m2 := loud_at (n := 0) hj (by simpa using q2)
      rw [Nat.zero_add] at m1 m2
      have hs := loud_sorted (us := us) (n := 0)
      have ha := apart2_spec h
      obtain ⟨x, hx⟩ := List.mem_iff_getElem.1 m1
      obtain ⟨y, hy⟩ := List.mem_iff_getElem.1 m2
      obtain ⟨hx1, hx2⟩ := hx
      obtain ⟨hy1, hy2⟩ := hy
      rcases Nat.lt_trichotomy x y with hxy | hxy | hxy
      · have := List.pairwise_iff_getElem.1 ha x y hx1 hy1 hxy
        rw [hx2, hy2] at this
        exact this hp
      · subst hxy
        rw [hx2] at hy2
        cases hy2
        omega
      · have := List.pairwise_iff_getElem.1 hs y x hy1 hx1 hxy
        rw [hx2, hy2] at this
        simp only at this
        omega
theorem gr_nilD {q : List (Nat × Nat)} (hq : (C.H F.f).pairs id = some q) (ha : apart2 q (loud 0 us.reverse) = true) (hl : lessAll us.length q = true) : GR C F k Q id true ops [] s us = Fin C F k .fall s Q := by
  refine propext ⟨fun ⟨n, s', us', h1, h2, h3, h4⟩ => by cases h1; exact h4, fun h => ⟨0, s, [], rfl, rfl, fun _ => ⟨q, hq, ?_⟩, h⟩⟩
  rw [List.append_nil]
  exact apart_of_loud ha (by simpa using hl)
theorem gr_cons {op : Op} {t : TypeId} {pos : String} {after : Array Edge} : GR C F k Q id draw ops (⟨d, op, t, pos, after, none⟩ :: l) s us = (okDst F.nt d = true ∧ StepO C F k Q id draw ops l s us ⟨d, op, t, pos, after, none⟩) := by
  refine propext ⟨fun ⟨n, s', us', h1, h2, h3, h4⟩ => ?_, fun ⟨h0, n, u, h1, h2, m, s', us', h3, h4, h5, h6⟩ => ?_⟩
  · obtain ⟨u, us2, g1, g2, rfl⟩ := evRows_cons.1 h1
    unfold evRow at g1
    split at g1
    · rename_i hd
      simp only [evGuard] at g1
      simp only [List.all_cons, Bool.and_eq_true] at h2
      exact ⟨hd, n, u, g1, h2.1, n, s', us2, g2, h2.2, fun h => by
        obtain ⟨q, hq, ha⟩ := h3 h
        exact ⟨q, hq, by simpa using ha⟩, h4⟩
    · cases g1
  · refine ⟨max n m, s', u :: us', evRows_cons.2 ⟨u, us', ?_, evRows_mono (evF_mono (Nat.le_max_right ..)) h3, rfl⟩, by simp [h2, h4], fun h => ?_, h6⟩
    · unfold evRow
      simp only [h0, if_true, evGuard]
      exact evOp_mono (evF_mono (Nat.le_max_left ..)) h1
    · obtain ⟨q, hq, ha⟩ := h5 h
      exact ⟨q, hq, by simpa using ha⟩
theorem gr_consG {op : Op} {t : TypeId} {pos : String} {after : Array Edge} {g : Nat × Bool} : GR C F k Q id draw ops (⟨d, op, t, pos, after, some g⟩ :: l) s us =
    (okDst F.nt d = true ∧ StepG C F k Q id draw ops l s us ⟨d, op, t, pos, after, some g⟩ (evGuard ops s.tm (some g))) := by
  refine propext ⟨fun ⟨n, s', us', h1, h2, h3, h4⟩ => ?_, fun ⟨h0, hg⟩ => ?_⟩
  · obtain ⟨u, us2, g1, g2, rfl⟩ := evRows_cons.1 h1
    unfold evRow at g1
    split at g1
    · rename_i hd
      simp only [List.all_cons, Bool.and_eq_true] at h2
      have rest : GR C F k Q id draw ops l (apU d u s) (u :: us) := ⟨n, s', us2, g2, h2.2, fun h => by
        obtain ⟨q, hq, ha⟩ := h3 h
        exact ⟨q, hq, by simpa using ha⟩, h4⟩
      refine ⟨hd, ?_⟩
      split at g1
      · rename_i he
        simp only [] at he
        rw [he]
        exact ⟨n, u, g1, h2.1, rest⟩
      · rename_i he
        simp only [] at he
        rw [he]
        cases g1
        exact rest
      · cases g1
    · cases g1
  · cases he : evGuard ops s.tm (some g) with
    | none => rw [he] at hg; exact hg.elim
    | some b =>
      rw [he] at hg
      cases b with
      | true =>
        obtain ⟨n, u, h1, h2, m, s', us', h3, h4, h5, h6⟩ := hg
        refine ⟨max n m, s', u :: us', evRows_cons.2 ⟨u, us', ?_, evRows_mono (evF_mono (Nat.le_max_right ..)) h3, rfl⟩, by simp [h2, h4], fun h => ?_, h6⟩
        · unfold evRow
          simp only [h0, if_true, he]
          exact evOp_mono (evF_mono (Nat.le_max_left ..)) h1
        · obtain ⟨q, hq, ha⟩ := h5 h
          exact ⟨q, hq, by simpa using ha⟩
      | false =>
        obtain ⟨m, s', us', h3, h4, h5, h6⟩ := hg
        refine ⟨m, s', { val := .tup [] } :: us', evRows_cons.2 ⟨{ val := .tup [] }, us', ?_, h3, rfl⟩, by simp [h4, touchOk], fun h => ?_, h6⟩
        · unfold evRow
          simp only [h0, if_true, he]
        · obtain ⟨q, hq, ha⟩ := h5 h
          exact ⟨q, hq, by simpa using ha⟩
def Ret (C : Cx) (f : FuncId) (xs rs : List Arg) : Prop := ∃ n, pureCall (C.ev n) f xs = some rs
theorem Ret.one {f : FuncId} {xs rs rs' : List Arg} (h : Ret C f xs rs) (h' : Ret C f xs rs') : rs = rs' := by
  obtain ⟨n, h⟩ := h
  obtain ⟨m, h'⟩ := h'
  have h1 := pureCall_mono (evF_mono (Nat.le_max_left n m)) h
  have h2 := pureCall_mono (evF_mono (Nat.le_max_right n m)) h'
  rw [h1] at h2
  cases h2
  rfl
theorem Ret.up {C C' : Cx} (hE : C.E = C'.E) (hg : C.gen = C'.gen) (hH : C.H = C'.H) (he : ExtLe C.ext C'.ext) {f : FuncId} {xs rs : List Arg} (h : Ret C f xs rs) : Ret C' f xs rs := by
  obtain ⟨E, gen, H, e⟩ := C
  obtain ⟨E', gen', H', e'⟩ := C'
  cases hE; cases hg; cases hH
  obtain ⟨n, h⟩ := h
  exact ⟨n, pureCall_mono (evF_up he n) h⟩
def CallP (C : Cx) (F : Fr) (k : List It) (Q : Post) (id : Nat) (draw : Bool) (ops : Array Oper) (l : List Oper) (s : St) (us : List Upd) (d : Option Nat) (g : FuncId) (xs : List Arg) (seen : List Nat) : Prop :=
  ∃ rs, Ret C g xs rs ∧ StepU C F k Q id draw ops l s us d (some { val := resAT rs, ow := if rs.all flatArg then [] else icy s.ob seen, rd := seen })
theorem callP_eq {g : FuncId} {xs rs : List Arg} {seen : List Nat} (h : Ret C g xs rs) :
    CallP C F k Q id draw ops l s us d g xs seen = StepU C F k Q id draw ops l s us d (some { val := resAT rs, ow := if rs.all flatArg then [] else icy s.ob seen, rd := seen }) :=
  propext ⟨fun ⟨rs', h1, h2⟩ => by rw [h.one h1]; exact h2, fun q => ⟨rs, h, q⟩⟩
def argL (E : Env) (ρ : Operand → AT) : List Operand → List TypeId → List AT
  | x :: xs, t :: ts => X.opT E ρ t x :: argL E ρ xs ts
  | _, _ => []
theorem argL_eq {E : Env} {ρ : Operand → AT} : ∀ {xs : List Operand} {ts : List TypeId}, ((xs.zip ts).map fun p => X.opT E ρ p.2 p.1) = argL E ρ xs ts
  | [], _ => by simp [argL]
  | _ :: _, [] => by simp [argL]
  | x :: xs, t :: ts => by simp [argL, argL_eq]
def RetM (C : Cx) (m : Nat) (g : FuncId) (as : List AT) (ob : ObF) (rt : RtF) (nx : Nat) (rs : List AT) (ob' : ObF) (rt' : RtF) (nx' : Nat) : Prop := ∃ n, C.ev n m true g as ob rt nx = some (rs, ob', rt', nx')
theorem RetM.up {C C' : Cx} (hE : C.E = C'.E) (hg : C.gen = C'.gen) (hH : C.H = C'.H) (he : ExtLe C.ext C'.ext) {m nx : Nat} {f : FuncId} {as : List AT} {ob ob' : ObF} {rt rt' : RtF} {nx' : Nat} {rs : List AT}
    (h : RetM C m f as ob rt nx rs ob' rt' nx') : RetM C' m f as ob rt nx rs ob' rt' nx' := by
  obtain ⟨E, gen, H, e⟩ := C
  obtain ⟨E', gen', H', e'⟩ := C'
  cases hE; cases hg; cases hH
  obtain ⟨n, h⟩ := h
  exact ⟨n, evF_up he n _ _ _ _ _ _ _ _ h⟩
theorem RetM.one {m nx : Nat} {f : FuncId} {as : List AT} {ob ob' ob'' : ObF} {rt rt' rt'' : RtF} {nx' nx'' : Nat} {rs rs' : List AT} (h : RetM C m f as ob rt nx rs ob' rt' nx') (h' : RetM C m f as ob rt nx rs' ob'' rt'' nx'') : rs = rs' ∧ ob' = ob'' ∧ rt' = rt'' ∧ nx' = nx'' := by
  obtain ⟨n, h⟩ := h
  obtain ⟨n', h'⟩ := h'
  have h1 := evF_mono (Nat.le_max_left n n') _ _ _ _ _ _ _ _ h
  have h2 := evF_mono (Nat.le_max_right n n') _ _ _ _ _ _ _ _ h'
  rw [h1] at h2
  cases h2
  exact ⟨rfl, rfl, rfl, rfl⟩
def MvC (C : Cx) (F : Fr) (k : List It) (Q : Post) (id : Nat) (draw : Bool) (ops : Array Oper) (l : List Oper) (s : St) (us : List Upd) (d : Option Nat) (g : FuncId) (os used : List Nat) (as : List AT) (ob : ObF) (rt : RtF) (nx : Nat) : Prop :=
  ∃ rs ob' rt' nx', RetM C os.length g as ob rt nx rs ob' rt' nx' ∧ StepU C F k Q id draw ops l s us d (mvEnd F.base (d.getD 4095) s.nx os s.ob s.rt used rs ob' rt' nx')
def MvH (C : Cx) (F : Fr) (k : List It) (Q : Post) (id : Nat) (draw : Bool) (ops : Array Oper) (l : List Oper) (s : St) (us : List Upd) (d : Option Nat) (g : FuncId) (n : Nat) (os used : List Nat) (h : Option St) : Prop :=
  ∃ s1, h = some s1 ∧ noDup os = true ∧ MvC C F k Q id draw ops l s us d g os used ((List.range n).map fun i => renT (posIn os) 0 (s1.tm i)) (takeO s1.ob os) s1.rt s1.nx
def MvO (C : Cx) (F : Fr) (k : List It) (Q : Post) (id : Nat) (draw : Bool) (ops : Array Oper) (l : List Oper) (s : St) (us : List Upd) (d : Option Nat) (g : FuncId) (as : List AT) (os : List Nat) : Prop :=
  MvH C F k Q id draw ops l s us d g as.length os (as.flatMap rtsT ++ os.flatMap fun o => rtsO (s.ob o)) (head 0 1 [] (List.range as.length) ⟨initTm as 0, s.ob, s.rt, s.nx⟩)
def CallM (C : Cx) (F : Fr) (k : List It) (Q : Post) (id : Nat) (draw : Bool) (ops : Array Oper) (l : List Oper) (s : St) (us : List Upd) (d : Option Nat) (g : FuncId) (as : List AT) : Prop :=
  MvO C F k Q id draw ops l s us d g as (seeO s.ob (as.map (coldT s.ob)) []).reverse
theorem callM_eq {g : FuncId} {as : List AT} : CallM C F k Q id draw ops l s us d g as = MvO C F k Q id draw ops l s us d g as (seeO s.ob (as.map (coldT s.ob)) []).reverse := rfl
theorem mvO_eq {g : FuncId} {as : List AT} {os : List Nat} : MvO C F k Q id draw ops l s us d g as os = MvH C F k Q id draw ops l s us d g as.length os (as.flatMap rtsT ++ os.flatMap fun o => rtsO (s.ob o)) (head 0 1 [] (List.range as.length) ⟨initTm as 0, s.ob, s.rt, s.nx⟩) := rfl
theorem mvH_eq {g : FuncId} {n : Nat} {os used : List Nat} {tm : Nat → AT} {ob : ObF} {rt : RtF} {nx : Nat} : MvH C F k Q id draw ops l s us d g n os used (some ⟨tm, ob, rt, nx⟩) = (noDup os = true ∧ MvC C F k Q id draw ops l s us d g os used ((List.range n).map fun i => renT (posIn os) 0 (tm i)) (takeO ob os) rt nx) :=
  propext ⟨fun ⟨_, e, h⟩ => by cases e; exact h, fun h => ⟨_, rfl, h⟩⟩
theorem mvC_eq {m : Nat} {g : FuncId} {os used : List Nat} {as rs : List AT} {ob ob' : ObF} {rt rt' : RtF} {nx nx' : Nat} (h : RetM C m g as ob rt nx rs ob' rt' nx') (hm : os.length = m) : MvC C F k Q id draw ops l s us d g os used as ob rt nx =
    StepU C F k Q id draw ops l s us d (mvEnd F.base (d.getD 4095) s.nx os s.ob s.rt used rs ob' rt' nx') := by
  subst hm
  refine propext ⟨fun ⟨rs', o', r', n', h1, h2⟩ => ?_, fun q => ⟨_, _, _, _, h, q⟩⟩
  obtain ⟨rfl, rfl, rfl, rfl⟩ := h.one h1
  exact h2
@[congr] theorem mvO_congr {g : FuncId} {as as' : List AT} {os os' : List Nat} (h : as = as') (h' : os = os') : MvO C F k Q id draw ops l s us d g as os = MvO C F k Q id draw ops l s us d g as' os' := by rw [h, h']
@[congr] theorem mvH_congr {g : FuncId} {n n' : Nat} {os os' used used' : List Nat} {x x' : Option St} (hn : n = n') (ho : os = os') (hu : used = used') (hx : x = x') : MvH C F k Q id draw ops l s us d g n os used x = MvH C F k Q id draw ops l s us d g n' os' used' x' := by rw [hn, ho, hu, hx]
@[congr] theorem mvC_congr {g : FuncId} {os os' used used' : List Nat} {as as' : List AT} {ob ob' : ObF} {rt rt' : RtF} {nx nx' : Nat} (ho : os = os') (hu : used = used') (ha : as = as') (hb : ob = ob') (hr : rt = rt') (hn : nx = nx') :
    MvC C F k Q id draw ops l s us d g os used as ob rt nx = MvC C F k Q id draw ops l s us d g os' used' as' ob' rt' nx' := by rw [ho, hu, ha, hb, hr, hn]
theorem callM_iff {g : FuncId} {as : List AT} {X : Nat → Option Upd} (hX : ∀ n, X n = mvCall (C.ev n) F.base (d.getD 4095) g as s.ob s.rt s.nx) :
    (∃ n u, X n = some u ∧ touchOk F.base F.vis u = true ∧ GR C F k Q id draw ops l (apU d u s) (u :: us)) = CallM C F k Q id draw ops l s us d g as := by
  simp only [hX]
  refine propext ⟨?_, ?_⟩
  · rintro ⟨n, u, h, h1, h2⟩
    unfold mvCall at h
    split at h
    · rename_i s1 hh
      simp only at h
      split at h
      · rename_i hnd
        split at h
        · rename_i rs ob' rt' nx' hc
          exact ⟨s1, hh, hnd, rs, ob', rt', nx', ⟨n, hc⟩, by rw [h]; exact ⟨h1, h2⟩⟩
        · cases h
      · cases h
    · cases h
  · rintro ⟨s1, hh, hnd, rs, ob', rt', nx', ⟨n, hc⟩, hs⟩
    cases he : mvEnd F.base (d.getD 4095) s.nx (seeO s.ob (as.map (coldT s.ob)) []).reverse s.ob s.rt (as.flatMap rtsT ++ (seeO s.ob (as.map (coldT s.ob)) []).reverse.flatMap fun o => rtsO (s.ob o)) rs ob' rt' nx' with
    | none => rw [he] at hs; exact hs.elim
    | some u =>
      rw [he] at hs
      refine ⟨n, u, ?_, hs.1, hs.2⟩
      unfold mvCall
      rw [hh]
      simp only
      rw [if_pos hnd, hc]
      exact he
def CallS (C : Cx) (F : Fr) (k : List It) (Q : Post) (id : Nat) (draw : Bool) (ops : Array Oper) (l : List Oper) (s : St) (us : List Upd) (d : Option Nat) (g : FuncId) (xs : Option (List Arg)) (looks : List Nat) : Prop :=
  ∃ ys rs, xs = some ys ∧ Ret C g ys rs ∧ rs.all flatArg = true ∧ StepU C F k Q id draw ops l s us d (some { val := resAT rs, rd := looks })
def StepC (C : Cx) (F : Fr) (k : List It) (Q : Post) (id : Nat) (draw : Bool) (ops : Array Oper) (l : List Oper) (s : St) (us : List Upd) (d : Option Nat) (f : AT) (as : List AT) : Prop :=
  match f with
  | .one (.p _ (.fn g caps)) => if C.gen F.f (d.getD 4095) = true then CallM C F k Q id draw ops l s us d g (as ++ caps.map fun x => .one (.p none x)) else match argsOf s.ob as with
    | some ys => CallP C F k Q id draw ops l s us d g (ys ++ capArgs caps) (as.flatMap seenT)
    | none => CallS C F k Q id draw ops l s us d g (snapArgs s.ob (as ++ caps.map fun x => .one (.p none x))) (as.flatMap (looksT s.ob))
  | .one (.cl g caps) => if C.gen F.f (d.getD 4095) = true then CallM C F k Q id draw ops l s us d g (as ++ caps.map .one) else
      CallS C F k Q id draw ops l s us d g (snapArgs s.ob (as ++ caps.map .one)) (as.flatMap (looksT s.ob) ++ looksL s.ob caps)
  | _ => False
theorem stepC_fn {w : Option Nat} {g : FuncId} {caps : List PV} {as : List AT} : StepC C F k Q id draw ops l s us d (.one (.p w (.fn g caps))) as = (if C.gen F.f (d.getD 4095) = true then CallM C F k Q id draw ops l s us d g (as ++ caps.map fun x => .one (.p none x)) else match argsOf s.ob as with
    | some ys => CallP C F k Q id draw ops l s us d g (ys ++ capArgs caps) (as.flatMap seenT)
    | none => CallS C F k Q id draw ops l s us d g (snapArgs s.ob (as ++ caps.map fun x => .one (.p none x))) (as.flatMap (looksT s.ob))) := rfl
theorem stepC_cl {g : FuncId} {caps : List CV} {as : List AT} : StepC C F k Q id draw ops l s us d (.one (.cl g caps)) as = (if C.gen F.f (d.getD 4095) = true then CallM C F k Q id draw ops l s us d g (as ++ caps.map .one) else
      CallS C F k Q id draw ops l s us d g (snapArgs s.ob (as ++ caps.map .one)) (as.flatMap (looksT s.ob) ++ looksL s.ob caps)) := rfl
@[congr] theorem callS_congr {g : FuncId} {xs xs' : Option (List Arg)} {se se' : List Nat} (h : xs = xs') (h' : se = se') : CallS C F k Q id draw ops l s us d g xs se = CallS C F k Q id draw ops l s us d g xs' se' := by rw [h, h']
@[congr] theorem stepC_congr {f f' : AT} {as as' : List AT} (h : f = f') (h' : as = as') : StepC C F k Q id draw ops l s us d f as = StepC C F k Q id draw ops l s us d f' as' := by rw [h, h']
@[congr] theorem callP_congr {g : FuncId} {xs xs' : List Arg} {se se' : List Nat} (h : xs = xs') (h' : se = se') : CallP C F k Q id draw ops l s us d g xs se = CallP C F k Q id draw ops l s us d g xs' se' := by rw [h, h']
theorem flat_eq {g : FuncId} {xs : Option (List Arg)} {R : List Nat} {X : Nat → Option Upd} (hX : ∀ n, X n = xs.bind fun ys => flatCall (C.ev n) g ys R) :
    (∃ n u, X n = some u ∧ touchOk F.base F.vis u = true ∧ GR C F k Q id draw ops l (apU d u s) (u :: us)) = CallS C F k Q id draw ops l s us d g xs R := by
  simp only [hX]
  refine propext ⟨?_, ?_⟩
  · rintro ⟨n, u, h, h1, h2⟩
    simp only [Option.bind_eq_some_iff] at h
    obtain ⟨ys, hy, h⟩ := h
    unfold flatCall at h
    simp only [Option.bind_eq_some_iff] at h
    obtain ⟨rs, hr, h⟩ := h
    split at h
    · rename_i hfl
      cases h
      exact ⟨ys, rs, hy, ⟨n, hr⟩, hfl, h1, h2⟩
    · cases h
  · rintro ⟨ys, rs, hy, ⟨n, hr⟩, hfl, h1, h2⟩
    refine ⟨n, _, ?_, h1, h2⟩
    rw [hy]
    simp only [flatCall, hr, Option.bind_some, hfl, if_true]
theorem so_call {f : Operand} {as : List Operand} {ts : List TypeId} {t : TypeId} {pos : String} {after : Array Edge} {g : Option (Nat × Bool)} (hl : as.length = ts.length) :
    StepO C F k Q id draw ops l s us ⟨d, .call { callee := .value f, args := as.toArray, argTypes := ts.toArray }, t, pos, after, g⟩ = StepC C F k Q id draw ops l s us d (evOpd C.E s.tm f) (argL C.E (evOpd C.E s.tm) as ts) := by
  have e : ∀ n, evOp C.E (C.gen F.f) (C.ev n) F.base (evOpd C.E s.tm) s.ob s.rt s.nx ⟨d, .call { callee := .value f, args := as.toArray, argTypes := ts.toArray }, t, pos, after, g⟩ =
    evCall C.E (C.gen F.f) (C.ev n) F.base (evOpd C.E s.tm) s.ob s.rt s.nx d { callee := .value f, args := as.toArray, argTypes := ts.toArray } := fun n => rfl
  unfold StepO StepC
  simp only [e]
  unfold evCall
  simp only [hl, if_true, argL_eq]
  cases hf : evOpd C.E s.tm f with
  | one c =>
    cases c with
    | p w x =>
      cases x with
      | fn gg caps =>
        simp only
        by_cases hg : C.gen F.f (d.getD 4095) = true
        · simp only [hg, if_true]
          exact callM_iff fun n => rfl
        · simp only [hg, Bool.false_eq_true, if_false]
          cases hx : argsOf s.ob (argL C.E (evOpd C.E s.tm) as ts) with
          | some ys =>
            simp only [Option.map_eq_some_iff]
            refine propext ⟨?_, ?_⟩
            · rintro ⟨n, u, ⟨rs, hr, rfl⟩, h1, h2⟩
              exact ⟨rs, ⟨n, hr⟩, h1, h2⟩
            · rintro ⟨rs, ⟨n, hr⟩, h1, h2⟩
              exact ⟨n, _, ⟨rs, hr, rfl⟩, h1, h2⟩
          | none =>
            simp only
            exact flat_eq fun n => by cases snapArgs s.ob (argL C.E (evOpd C.E s.tm) as ts ++ caps.map fun x => AT.one (.p none x)) <;> rfl
      | _ => simp
    | cl gg caps =>
      simp only
      by_cases hg : C.gen F.f (d.getD 4095) = true
      · simp only [hg, if_true]
        exact callM_iff fun n => rfl
      · simp only [hg, Bool.false_eq_true, if_false]
        exact flat_eq fun n => by cases snapArgs s.ob (argL C.E (evOpd C.E s.tm) as ts ++ caps.map AT.one) <;> rfl
    | _ => simp
  | _ => simp
def outRet : Out → Bool
  | .exit _ => false
  | _ => true
def RetQ (C : Cx) (rv : List ResultVar) (rs : List Arg) : Post := fun o s => outRet o = true ∧ (backAll 0 s.ob (rv.map (resAT1 C.E s))).bind (argsOf noOb) = some rs
theorem ret_of {f : FuncId} {fn : Func} {c : Code} {xs rs : List Arg} (hf : C.E.P.funcs[f]? = some fn) (hx : C.ext f = none) (hb : fn.body = some c) (hn : xs.length ≤ fn.ntmps ∧ fn.ntmps ≤ 4095)
    (h : Go C ⟨0, fn.ntmps, 1, [], f⟩ c [] ⟨initTm (xs.map atOf) 0, noOb, noRt, 1⟩ (RetQ C fn.results.toList rs)) : Ret C f xs rs := by
  obtain ⟨n, p, h1, h2⟩ := h
  rw [fin_nil] at h2
  obtain ⟨o, s⟩ := p
  obtain ⟨h3, h4⟩ := h2
  simp only [Option.bind_eq_some_iff] at h4
  obtain ⟨rs', h5, h6⟩ := h4
  refine ⟨n + 1, ?_⟩
  unfold pureCall Cx.ev
  simp only [evF, hx, hf]
  have : evFn C.E C.gen C.H (evF C.E C.gen C.H C.ext n) n 0 false f fn (xs.map atOf) noOb noRt 1 = some (rs', obH 0 s.ob, s.rt, s.nx) := by
    unfold evFn
    simp only [hb, List.length_map]
    rw [if_pos hn]
    have h1' : evCode ⟨C.E, C.gen f, evF C.E C.gen C.H C.ext n, 0, fn.ntmps, 1, List.range 0, C.H f⟩ n c ⟨initTm (xs.map atOf) 0, noOb, noRt, 1⟩ = some (o, s) := h1
    rw [h1']
    cases o with
    | exit i => cases h3
    | fall => simp [h5]
    | ret => simp [h5]
  rw [this]
  simp only [obH_zero]
  exact h6
def RetQM (C : Cx) (m nx : Nat) (rv : List ResultVar) (rs : List AT) (ob' : ObF) (rt' : RtF) (nx' : Nat) : Post := fun o s => outRet o = true ∧ leave m nx s (rv.map (resAT1 C.E s)) = some (rs, ob', rt', nx')
theorem retM_of {m nx : Nat} {vis : List Nat} {f : FuncId} {fn : Func} {c : Code} {as rs : List AT} {ob ob' : ObF} {rt rt' : RtF} {nx' : Nat} (hf : C.E.P.funcs[f]? = some fn) (hx : C.ext f = none) (hb : fn.body = some c) (hn : as.length ≤ fn.ntmps ∧ fn.ntmps ≤ 4095) (hv : List.range m = vis)
    (h : Go C ⟨m, fn.ntmps, nx, vis, f⟩ c [] ⟨initTm as 0, ob, rt, nx⟩ (RetQM C m nx fn.results.toList rs ob' rt' nx')) : RetM C m f as ob rt nx rs ob' rt' nx' := by
  subst hv
  obtain ⟨n, p, h1, h2⟩ := h
  rw [fin_nil] at h2
  obtain ⟨o, s⟩ := p
  obtain ⟨h3, h4⟩ := h2
  refine ⟨n + 1, ?_⟩
  unfold Cx.ev
  simp only [evF, hx, hf]
  unfold evFn
  simp only [hb]
  rw [if_pos hn]
  have h1' : evCode ⟨C.E, C.gen f, evF C.E C.gen C.H C.ext n, m, fn.ntmps, nx, List.range m, C.H f⟩ n c ⟨initTm as 0, ob, rt, nx⟩ = some (o, s) := h1
  rw [h1']
  cases o with
  | exit i => cases h3
  | fall =>
    simp only [↓reduceIte]
    exact h4
  | ret =>
    simp only [↓reduceIte]
    exact h4
theorem ret_ext {f : FuncId} {h : List Arg → Option (List Arg)} {xs rs : List Arg} (hx : C.ext f = some h) (hr : h xs = some rs) (h1 : argsOf noOb (xs.map atOf) = some xs) (h2 : argsOf noOb (rs.map atOf) = some rs) : Ret C f xs rs := by
  refine ⟨1, ?_⟩
  unfold pureCall Cx.ev
  simp only [evF, hx, h1, hr, Option.map_some]
  exact h2
end
end Go.Proofs.YtjhljcnjafbkfaaDoor.X
end
section
set_option linter.unusedVariables false
namespace Go.Proofs.YtjhljcnjafbkfaaDoor.X
open Go.RowKit
section
variable {C : Cx} {F : Fr} {k : List It} {s : St} {Q : Post} {id : Nat} {draw : Bool} {ops : Array Oper} {l : List Oper} {us : List Upd} {d : Option Nat} {t u v : TypeId} {pos : String} {after : Array Edge} {g : Option (Nat × Bool)} {x y z : Operand}
theorem stepO_of {o : Oper} {r : Option Upd} (h : ∀ call, evOp C.E (C.gen F.f) call F.base (evOpd C.E s.tm) s.ob s.rt s.nx o = r) : StepO C F k Q id draw ops l s us o = StepU C F k Q id draw ops l s us o.dst r := by
  refine propext ⟨fun ⟨n, w, h1, h2⟩ => ?_, fun q => ?_⟩
  · rw [h] at h1
    subst h1
    exact h2
  · cases r with
    | none => exact q.elim
    | some w => exact ⟨0, w, h _, q⟩
def opV (E : Env) (m : Nat → AT) (t : TypeId) : Operand → AT
  | .tmp n => m n
  | .const (.slice none 0 0) => .one (.p (some 0) (.sl ((E.T t).map (·.esz)).get! []))
  | x => evOpd E m x
theorem opT_eq {E : Env} {m : Nat → AT} : opT E (evOpd E m) t x = opV E m t x := by
  unfold opV
  split
  · rfl
  · rfl
  · rename_i h1 h2
    unfold opT
    rw [if_neg]
    unfold isNilSl
    split
    · exact absurd rfl h2
    · exact Bool.false_ne_true
theorem opV_tmp {E : Env} {m : Nat → AT} {n : Nat} : opV E m t (.tmp n) = m n := rfl
theorem opV_int {E : Env} {m : Nat → AT} {kd : IntKind} {n : Int} : opV E m t (.const (.int kd n)) = .one (.p none (.sc (.int kd n))) := rfl
theorem opV_bool {E : Env} {m : Nat → AT} {b : Bool} : opV E m t (.const (.bool b)) = .one (.p none (.sc (.bool b))) := rfl
theorem opV_str {E : Env} {m : Nat → AT} {b : ByteArray} : opV E m t (.const (.string b)) = .one (.p none (.sc (.string b))) := rfl
theorem opV_fn {E : Env} {m : Nat → AT} {f : FuncId} : opV E m t (.func f) = .one (.p none (.fn f [])) := rfl
def nilS (ti : Option TI) : AT := .one (.p (some 0) (.sl (ti.map (·.esz)).get! []))
theorem opV_nil {E : Env} {m : Nat → AT} : opV E m t (.const (.slice none 0 0)) = nilS (E.T t) := rfl
theorem nilS_eq {ti : TI} : nilS (some ti) = .one (.p (some 0) (.sl ti.esz [])) := rfl
theorem opd_tmp {E : Env} {m : Nat → AT} {n : Nat} : evOpd E m (.tmp n) = m n := rfl
theorem opd_int {E : Env} {m : Nat → AT} {kd : IntKind} {n : Int} : evOpd E m (.const (.int kd n)) = .one (.p none (.sc (.int kd n))) := rfl
theorem opd_bool {E : Env} {m : Nat → AT} {b : Bool} : evOpd E m (.const (.bool b)) = .one (.p none (.sc (.bool b))) := rfl
theorem opd_str {E : Env} {m : Nat → AT} {b : ByteArray} : evOpd E m (.const (.string b)) = .one (.p none (.sc (.string b))) := rfl
theorem opd_fn {E : Env} {m : Nat → AT} {f : FuncId} : evOpd E m (.func f) = .one (.p none (.fn f [])) := rfl
def globV (E : Env) (g : Nat) : Option (List PV) → AT
  | some cs => .one (.p none (.ref cs))
  | none => .one (.p none (.sc (.pointer (some ⟨g, 0, none⟩))))
theorem opd_glob {E : Env} {m : Nat → AT} {g : Nat} : evOpd E m (.global g) = globV E g (E.G g) := by
  unfold globV
  show (match E.G g with
    | some cs => AT.one (.p none (.ref cs))
    | none => .one (.p none (.sc (.pointer (some ⟨g, 0, none⟩))))) = _
  split <;> rfl
theorem globV_some {E : Env} {g : Nat} {cs : List PV} : globV E g (some cs) = .one (.p none (.ref cs)) := rfl
theorem upd_at {α : Type} {f : Nat → α} {t u : Nat} {x : α} : upd f t x u = if u = t then x else f u := rfl
theorem so_move : StepO C F k Q id draw ops l s us ⟨d, .move x, t, pos, after, g⟩ = StepU C F k Q id draw ops l s us d (some { val := opV C.E s.tm t x }) :=
  (stepO_of fun _ => rfl).trans (by rw [opT_eq])
theorem so_assign : StepO C F k Q id draw ops l s us ⟨d, .assign x, t, pos, after, g⟩ = StepU C F k Q id draw ops l s us d (some { val := asg (C.gen F.f (d.getD 4095)) (opV C.E s.tm t x) }) :=
  (stepO_of fun _ => rfl).trans (by rw [opT_eq])
theorem asg_f {a : AT} : asg false a = a := rfl
theorem asg_t {w : Option Nat} {p : PV} : asg true (.one (.p w p)) = .one (.p none p) := rfl
def pickU (c : AT) (x y : AT) : Option Upd := match c with
  | .one (.p _ (.sc (.bool t))) => some { val := if t = true then x else y }
  | _ => none
theorem so_pick {c : Operand} : StepO C F k Q id draw ops l s us ⟨d, .pick c x y, t, pos, after, g⟩ = StepU C F k Q id draw ops l s us d (pickU (evOpd C.E s.tm c) (opV C.E s.tm t x) (opV C.E s.tm t y)) :=
  stepO_of fun call => by
    show (match evOpd C.E s.tm c with
      | .one (.p _ (.sc (.bool q))) => some { val := if q then opT C.E (evOpd C.E s.tm) t x else opT C.E (evOpd C.E s.tm) t y }
      | _ => none : Option Upd) = _
    simp only [opT_eq]
    rfl
theorem pickU_b {w : Option Nat} {b : Bool} {x y : AT} : pickU (.one (.p w (.sc (.bool b)))) x y = some { val := if b = true then x else y } := rfl
def vU (v : Option Value) : Option Upd := match v with
  | some r => (atOfV r).map fun a => { val := a }
  | none => none
theorem vU_int {kd : IntKind} {n : Int} : vU (some (.int kd n)) = some { val := .one (.p none (.sc (.int kd n))) } := rfl
theorem vU_bool {b : Bool} : vU (some (.bool b)) = some { val := .one (.p none (.sc (.bool b))) } := rfl
theorem vU_str {b : ByteArray} : vU (some (.string b)) = some { val := .one (.p none (.sc (.string b))) } := rfl
def bin2 (P : Program) (op : BinOp) (t : TypeId) (x y : Operand) (a b : AT) : Option Upd := match valOf a, valOf b with
  | some v, some w => vU (tryP P (do eqGuard op t x y v w; binOp op t v w))
  | _, _ => nilB P op t y a
theorem tryP_bind {α β : Type} {P : Program} (m : Sem α) (f : α → Sem β) : tryP P (m >>= f) = (tryP P m).bind fun a => tryP P (f a) := by
  show tryP P (m.bind f) = _
  induction m with
  | pure a => rfl
  | program k ih => exact ih P
  | _ => rfl
theorem gen_val {o : Oper} {m : Sem Value} (h : execOp (fun x => (valOf (evOpd C.E s.tm x)).getD undef) o = (do pure (.value (← m)))) (ha : (o.op.operands.toList.all fun x => (valOf (evOpd C.E s.tm x)).isSome) = true) :
    evGen C.E (evOpd C.E s.tm) o = vU (tryP C.E.P m) := by
  unfold evGen
  rw [if_pos ha, h, tryP_bind]
  cases tryP C.E.P m with
  | none => rfl
  | some v => rfl
theorem gen_none {o : Oper} (ha : (o.op.operands.toList.all fun x => (valOf (evOpd C.E s.tm x)).isSome) = false) : evGen C.E (evOpd C.E s.tm) o = nilGen C.E (evOpd C.E s.tm) o := by
  unfold evGen
  rw [ha]
  rfl
theorem gen_bin {op : BinOp} : evGen C.E (evOpd C.E s.tm) ⟨d, .binOp op u x y v, t, pos, after, g⟩ = bin2 C.E.P op u x y (evOpd C.E s.tm x) (evOpd C.E s.tm y) := by
  unfold bin2
  cases hx : valOf (evOpd C.E s.tm x) with
  | none => exact gen_none (by simp [Op.operands, hx])
  | some a =>
    cases hy : valOf (evOpd C.E s.tm y) with
    | none => exact gen_none (by simp [Op.operands, hx, hy])
    | some b =>
      refine gen_val ?_ (by simp [Op.operands, hx, hy])
      simp only [execOp, hx, hy, Option.getD_some]
def un1 (P : Program) (op : UnOp) (a : AT) : Option Upd := match valOf a with
  | some v => vU (tryP P (Op.unary op v))
  | none => none
theorem gen_un {op : UnOp} : evGen C.E (evOpd C.E s.tm) ⟨d, .unOp op u x, t, pos, after, g⟩ = un1 C.E.P op (evOpd C.E s.tm x) := by
  unfold un1
  cases hx : valOf (evOpd C.E s.tm x) with
  | none => exact gen_none (by simp [Op.operands, hx])
  | some a =>
    refine gen_val ?_ (by simp [Op.operands, hx])
    simp only [execOp, hx, Option.getD_some]
def cv1 (P : Program) (src dst : TypeId) (a : AT) : Option Upd := match valOf a with
  | some v => vU (tryP P (convert src dst v))
  | none => none
theorem gen_cv : evGen C.E (evOpd C.E s.tm) ⟨d, .convert u v x, t, pos, after, g⟩ = cv1 C.E.P u v (evOpd C.E s.tm x) := by
  unfold cv1
  cases hx : valOf (evOpd C.E s.tm x) with
  | none => exact gen_none (by simp [Op.operands, hx])
  | some a =>
    refine gen_val ?_ (by simp [Op.operands, hx])
    simp only [execOp, hx, Option.getD_some]
def bin3 (P : Program) (op : BinOp) (t : TypeId) (x y : Operand) (a b : AT) : Option Upd := match aggB P op t a b with
  | some u => some u
  | none => bin2 P op t x y a b
theorem bin3_1 {P : Program} {op : BinOp} {w : Option Nat} {p : PV} {b : AT} : bin3 P op u x y (.one (.p w p)) b = bin2 P op u x y (.one (.p w p)) b := rfl
theorem bin3_v {P : Program} {op : BinOp} {o lo n : Nat} {b : AT} : bin3 P op u x y (.one (.vw o lo n)) b = bin2 P op u x y (.one (.vw o lo n)) b := rfl
theorem so_bin {op : BinOp} : StepO C F k Q id draw ops l s us ⟨d, .binOp op u x y v, t, pos, after, g⟩ = StepU C F k Q id draw ops l s us d (bin3 C.E.P op u x y (evOpd C.E s.tm x) (evOpd C.E s.tm y)) :=
  stepO_of fun _ => by
    unfold bin3
    rw [← gen_bin]
    rfl
theorem so_un {op : UnOp} : StepO C F k Q id draw ops l s us ⟨d, .unOp op u x, t, pos, after, g⟩ = StepU C F k Q id draw ops l s us d (un1 C.E.P op (evOpd C.E s.tm x)) :=
  stepO_of fun _ => gen_un
theorem so_cv : StepO C F k Q id draw ops l s us ⟨d, .convert u v x, t, pos, after, g⟩ = StepU C F k Q id draw ops l s us d (cv1 C.E.P u v (evOpd C.E s.tm x)) :=
  stepO_of fun _ => gen_cv
section
variable {P : Program} {w1 w2 : Option Nat} {kd : IntKind} {m n : Int}
theorem b_add : bin2 P .add u x y (.one (.p w1 (.sc (.int kd m)))) (.one (.p w2 (.sc (.int kd n)))) = some { val := .one (.p none (.sc (.int kd (kd.wrap (m + n))))) } := by cases kd <;> rfl
theorem b_sub : bin2 P .sub u x y (.one (.p w1 (.sc (.int kd m)))) (.one (.p w2 (.sc (.int kd n)))) = some { val := .one (.p none (.sc (.int kd (kd.wrap (m - n))))) } := by cases kd <;> rfl
theorem b_mul : bin2 P .mul u x y (.one (.p w1 (.sc (.int kd m)))) (.one (.p w2 (.sc (.int kd n)))) = some { val := .one (.p none (.sc (.int kd (kd.wrap (m * n))))) } := by cases kd <;> rfl
theorem b_quo (h : n ≠ 0) : bin2 P .quo u x y (.one (.p w1 (.sc (.int kd m)))) (.one (.p w2 (.sc (.int kd n)))) = some { val := .one (.p none (.sc (.int kd (kd.wrap (m.tdiv n))))) } := by
  cases kd <;> simp [bin2, valOf, scC, binOp, eqGuard, Op.intDiv, vU, atOfV, h] <;> rfl
theorem b_rem (h : n ≠ 0) : bin2 P .rem u x y (.one (.p w1 (.sc (.int kd m)))) (.one (.p w2 (.sc (.int kd n)))) = some { val := .one (.p none (.sc (.int kd (m.tmod n)))) } := by
  cases kd <;> simp [bin2, valOf, scC, binOp, eqGuard, Op.intDiv, vU, atOfV, h] <;> rfl
theorem b_lss : bin2 P .lss u x y (.one (.p w1 (.sc (.int kd m)))) (.one (.p w2 (.sc (.int kd n)))) = some { val := .one (.p none (.sc (.bool (decide (m < n))))) } := by cases kd <;> rfl
theorem b_leq : bin2 P .leq u x y (.one (.p w1 (.sc (.int kd m)))) (.one (.p w2 (.sc (.int kd n)))) = some { val := .one (.p none (.sc (.bool (decide (m ≤ n))))) } := by cases kd <;> rfl
theorem b_gtr : bin2 P .gtr u x y (.one (.p w1 (.sc (.int kd m)))) (.one (.p w2 (.sc (.int kd n)))) = some { val := .one (.p none (.sc (.bool (decide (n < m))))) } := by cases kd <;> rfl
theorem b_geq : bin2 P .geq u x y (.one (.p w1 (.sc (.int kd m)))) (.one (.p w2 (.sc (.int kd n)))) = some { val := .one (.p none (.sc (.bool (decide (n ≤ m))))) } := by cases kd <;> rfl
theorem b_eql : bin2 P .eql u x y (.one (.p w1 (.sc (.int kd m)))) (.one (.p w2 (.sc (.int kd n)))) = some { val := .one (.p none (.sc (.bool (decide (m = n))))) } := by cases kd <;> rfl
theorem b_neq : bin2 P .neq u x y (.one (.p w1 (.sc (.int kd m)))) (.one (.p w2 (.sc (.int kd n)))) = some { val := .one (.p none (.sc (.bool (!decide (m = n))))) } := by cases kd <;> rfl
theorem b_and : bin2 P .and u x y (.one (.p w1 (.sc (.int kd m)))) (.one (.p w2 (.sc (.int kd n)))) = some { val := .one (.p none (.sc (.int kd (Go.bits .and kd m n)))) } := by cases kd <;> rfl
theorem b_or : bin2 P .or u x y (.one (.p w1 (.sc (.int kd m)))) (.one (.p w2 (.sc (.int kd n)))) = some { val := .one (.p none (.sc (.int kd (Go.bits .or kd m n)))) } := by cases kd <;> rfl
theorem b_xor : bin2 P .xor u x y (.one (.p w1 (.sc (.int kd m)))) (.one (.p w2 (.sc (.int kd n)))) = some { val := .one (.p none (.sc (.int kd (Go.bits .xor kd m n)))) } := by cases kd <;> rfl
end
end
end Go.Proofs.YtjhljcnjafbkfaaDoor.X
end
section
set_option linter.unusedVariables false
namespace Go.Proofs.YtjhljcnjafbkfaaDoor.X
open Go.RowKit
section
variable {C : Cx} {F : Fr} {k : List It} {s : St} {Q : Post} {id : Nat} {draw : Bool} {ops : Array Oper} {l : List Oper} {us : List Upd} {d : Option Nat} {t u v : TypeId} {pos : String} {after : Array Edge} {g : Option (Nat × Bool)} {x y z : Operand}
def alU (ti : Option TI) (o : Nat) (was : Option Obj) : Option Upd := match ti, was with
  | some ti, none => some { val := .one (.pt o 0), ow := [(o, .var ti.zero)], rd := [o] }
  | _, _ => none
theorem so_alloc {d : Nat} : StepO C F k Q id draw ops l s us ⟨some d, .alloc u, t, pos, after, g⟩ = StepU C F k Q id draw ops l s us (some d) (alU (C.E.T u) (F.base + d) (s.ob (F.base + d))) :=
  stepO_of fun call => by
    show (match C.E.T u, some d with
      | some ti, some d => match s.ob (F.base + d) with
        | none => some { val := .one (.pt (F.base + d) 0), ow := [(F.base + d, .var ti.zero)], rd := [F.base + d] }
        | some _ => none
      | _, _ => none : Option Upd) = _
    unfold alU
    cases C.E.T u with
    | none => rfl
    | some ti =>
      simp only
      cases s.ob (F.base + d) <;> rfl
theorem alU_eq {ti : TI} {o : Nat} : alU (some ti) o none = some { val := .one (.pt o 0), ow := [(o, .var ti.zero)], rd := [o] } := rfl
def bxU (cs : Option (List CV)) (o : Nat) (was : Option Obj) : Option Upd := match cs, was with
  | some cs, none => some { val := .one (.pt o 0), ow := [(o, .var cs)], rd := [o] }
  | _, _ => none
theorem so_box {d : Nat} : StepO C F k Q id draw ops l s us ⟨some d, .box u x, t, pos, after, g⟩ = StepU C F k Q id draw ops l s us (some d) (bxU (cellsOf (opV C.E s.tm u x)) (F.base + d) (s.ob (F.base + d))) :=
  stepO_of fun call => by
    show (match cellsOf (opT C.E (evOpd C.E s.tm) u x), some d with
      | some cs, some d => match s.ob (F.base + d) with
        | none => some { val := .one (.pt (F.base + d) 0), ow := [(F.base + d, .var cs)], rd := [F.base + d] }
        | some _ => none
      | _, _ => none : Option Upd) = _
    rw [opT_eq]
    unfold bxU
    cases cellsOf (opV C.E s.tm u x) with
    | none => rfl
    | some cs =>
      simp only
      cases s.ob (F.base + d) <;> rfl
theorem bxU_eq {cs : List CV} {o : Nat} : bxU (some cs) o none = some { val := .one (.pt o 0), ow := [(o, .var cs)], rd := [o] } := rfl
theorem cells_one {c : CV} : cellsOf (.one c) = some [c] := rfl
theorem cells_agg {cs : List CV} : cellsOf (.agg cs) = some cs := rfl
inductive Pl where
  | var (o : Nat) (cs : List CV) (off : Nat)
  | row (o : Nat) (row : List PV) (off : Nat)
  | ref (cs : List PV)
  | no
def plOf (ob : ObF) : AT → Pl
  | .one (.pt o off) => match ob o with
    | some (.var cs) => .var o cs off
    | _ => .no
  | .one (.pr o r off) => match ob o with
    | some (.arr _ _ rows) => match rows[r]? with
      | some row => .row o row off
      | none => .no
    | _ => .no
  | .one (.p _ (.ref cs)) => .ref cs
  | _ => .no
def plVar (o off : Nat) : Option Obj → Pl
  | some (.var cs) => .var o cs off
  | _ => .no
def plRow2 (o off : Nat) : Option (List PV) → Pl
  | some row => .row o row off
  | none => .no
def plRow (o r off : Nat) : Option Obj → Pl
  | some (.arr _ _ rows) => plRow2 o off rows[r]?
  | _ => .no
theorem pl_pt {ob : ObF} {o off : Nat} : plOf ob (.one (.pt o off)) = plVar o off (ob o) := by
  unfold plOf plVar
  rfl
theorem pl_pr {ob : ObF} {o r off : Nat} : plOf ob (.one (.pr o r off)) = plRow o r off (ob o) := by
  unfold plOf plRow
  simp only
  split
  · unfold plRow2; rfl
  · rfl
theorem pl_ref {ob : ObF} {w : Option Nat} {cs : List PV} : plOf ob (.one (.p w (.ref cs))) = .ref cs := rfl
theorem plVar_eq {o off : Nat} {cs : List CV} : plVar o off (some (.var cs)) = .var o cs off := rfl
theorem plRow_eq {o r off z : Nat} {fz : Bool} {rows : List (List PV)} : plRow o r off (some (.arr fz z rows)) = plRow2 o off rows[r]? := rfl
theorem plRow2_eq {o off : Nat} {row : List PV} : plRow2 o off (some row) = .row o row off := rfl
def ldU (ti : Option TI) (p : Pl) : Option Upd := match ti, p with
  | some ti, .var o cs off => (partOf cs off ti.sz ti.agg).map fun a => { val := a, rd := [o] }
  | some ti, .row o row off => (partOf (row.map (.p none)) off ti.sz ti.agg).map fun a => { val := a, rd := [o] }
  | some ti, .ref cs => (partOf (cs.map (.p none)) 0 ti.sz ti.agg).map fun a => { val := a }
  | _, _ => none
theorem so_load : StepO C F k Q id draw ops l s us ⟨d, .load u x, t, pos, after, g⟩ = StepU C F k Q id draw ops l s us d (ldU (C.E.T u) (plOf s.ob (evOpd C.E s.tm x))) :=
  stepO_of fun call => by
    show (match C.E.T u with
    | some ti => match evOpd C.E s.tm x with
      | .one (.pt c off) => match s.ob c with
        | some (.var cs) => (partOf cs off ti.sz ti.agg).map fun a => { val := a, rd := [c] }
        | _ => none
      | .one (.pr c r off) => match s.ob c with
        | some (.arr _ _ rows) => match rows[r]? with
          | some row => (partOf (row.map (.p none)) off ti.sz ti.agg).map fun a => { val := a, rd := [c] }
          | none => none
        | _ => none
      | .one (.p _ (.ref cs)) => (partOf (cs.map (.p none)) 0 ti.sz ti.agg).map fun a => { val := a }
      | _ => none
    | none => none) = (_ : Option Upd)
    cases C.E.T u with
    | none => rfl
    | some ti =>
      simp only
      split
      · rename_i c off h
        simp only [h, pl_pt]
        cases s.ob c with
        | none => rfl
        | some o => cases o <;> rfl
      · rename_i c r off h
        simp only [h, pl_pr]
        cases s.ob c with
        | none => rfl
        | some o =>
          cases o with
          | var cs => rfl
          | mp => rfl
          | arr fz z rows =>
            simp only [plRow_eq]
            cases rows[r]? <;> rfl
      · rename_i w cs h
        simp only [h, pl_ref]
        rfl
      · rename_i h1 h2 h3
        unfold plOf
        split
        · rename_i h; exact absurd h (h1 _ _)
        · rename_i h; exact absurd h (h2 _ _ _)
        · rename_i h; exact absurd h (h3 _ _)
        · rfl
theorem ldU_var {ti : TI} {o off : Nat} {cs : List CV} : ldU (some ti) (.var o cs off) = (partOf cs off ti.sz ti.agg).map fun a => { val := a, rd := [o] } := rfl
theorem ldU_row {ti : TI} {o off : Nat} {row : List PV} : ldU (some ti) (.row o row off) = (partOf (row.map (.p none)) off ti.sz ti.agg).map fun a => { val := a, rd := [o] } := rfl
theorem ldU_ref {ti : TI} {cs : List PV} : ldU (some ti) (.ref cs) = (partOf (cs.map (.p none)) 0 ti.sz ti.agg).map fun a => { val := a } := rfl
theorem part_one {cs : List CV} {off sz : Nat} : partOf cs off sz false = (cs[off]?).map .one := rfl
theorem part_agg {cs : List CV} {off sz : Nat} : partOf cs off sz true = if off + sz ≤ cs.length then some (.agg ((cs.drop off).take sz)) else none := rfl
def faU (ti : Option TI) (x : AT) (f : Nat) : Option Upd := match ti with
  | some ti => if ti.kd = 1 then match ti.fs[f]? with
      | some (off, sz, _, _) => if sz = 0 then none else (evPtr x off).map fun a => { val := a }
      | none => none
      else none
  | none => none
theorem so_fieldAddr {f : Nat} : StepO C F k Q id draw ops l s us ⟨d, .fieldAddr u x f, t, pos, after, g⟩ = StepU C F k Q id draw ops l s us d (faU (C.E.T u) (evOpd C.E s.tm x) f) :=
  stepO_of fun call => rfl
theorem faU_eq {ti : TI} {x : AT} {f : Nat} : faU (some ti) x f = if ti.kd = 1 then match ti.fs[f]? with
      | some (off, sz, _, _) => if sz = 0 then none else (evPtr x off).map fun a => { val := a }
      | none => none
      else none := rfl
theorem ptr_pt {o off e : Nat} : evPtr (.one (.pt o off)) e = some (.one (.pt o (off + e))) := rfl
theorem ptr_pr {o r off e : Nat} : evPtr (.one (.pr o r off)) e = some (.one (.pr o r (off + e))) := rfl
theorem ptr_ref {w : Option Nat} {cs : List PV} {e : Nat} : evPtr (.one (.p w (.ref cs))) e = some (.one (.p none (.ref (cs.drop e)))) := rfl
def fiU (ti : Option TI) (x : AT) (f : Nat) : Option Upd := match ti, x with
  | some ti, .agg cs => if ti.kd = 1 then match ti.fs[f]? with
      | some (off, sz, g, _) => (partOf cs off sz g).map fun a => { val := a }
      | none => none
      else none
  | _, _ => none
theorem so_field {f : Nat} : StepO C F k Q id draw ops l s us ⟨d, .field u x f, t, pos, after, g⟩ = StepU C F k Q id draw ops l s us d (fiU (C.E.T u) (evOpd C.E s.tm x) f) :=
  stepO_of fun call => rfl
theorem fiU_eq {ti : TI} {cs : List CV} {f : Nat} : fiU (some ti) (.agg cs) f = if ti.kd = 1 then match ti.fs[f]? with
      | some (off, sz, g, _) => (partOf cs off sz g).map fun a => { val := a }
      | none => none
      else none := rfl
def rd {α : Type} (l : List α) (n : Int) : Option α := if 0 ≤ n then l[n.toNat]? else none
theorem rd_map {α β : Type} {f : α → β} {l : List α} {n : Int} : rd (l.map f) n = (rd l n).map f := by
  unfold rd
  split
  · rw [List.getElem?_map]
  · rfl
def ixU (ti : Option TI) (x : AT) (n : Option Int) (ob : ObF) : Option Upd := match ti, n with
  | some ti, some n =>
      if ti.kd = 2 then (if 0 ≤ n ∧ n < ti.len then (evPtr x (n.toNat * ti.esz)).map fun a => { val := a } else none)
      else if ti.kd = 3 then match x with
        | .one (.p _ (.sl z l)) => if z = ti.esz then (rd l n).map fun r => { val := .one (.p none (.ref r)) } else none
        | .one (.vw o lo m) => match ob o with
          | some (.arr _ z _) => if z = ti.esz ∧ 0 ≤ n ∧ n.toNat < m then some { val := .one (.pr o (lo + n.toNat) 0), rd := [o] } else none
          | _ => none
        | _ => none
      else none
  | _, _ => none
theorem so_indexAddr : StepO C F k Q id draw ops l s us ⟨d, .indexAddr u x y, t, pos, after, g⟩ = StepU C F k Q id draw ops l s us d (ixU (C.E.T u) (evOpd C.E s.tm x) (idxOf (evOpd C.E s.tm y)) s.ob) :=
  stepO_of fun call => by
    show (match C.E.T u, idxOf (evOpd C.E s.tm y) with
    | some ti, some n =>
      if ti.kd = 2 then (if 0 ≤ n ∧ n < ti.len then (evPtr (evOpd C.E s.tm x) (n.toNat * ti.esz)).map fun a => { val := a } else none)
      else if ti.kd = 3 then match evOpd C.E s.tm x with
        | .one (.p _ (.sl z l)) => if z = ti.esz ∧ 0 ≤ n then match l[n.toNat]? with
          | some r => some { val := .one (.p none (.ref r)) }
          | none => none
          else none
        | .one (.vw o lo m) => match s.ob o with
          | some (.arr _ z _) => if z = ti.esz ∧ 0 ≤ n ∧ n.toNat < m then some { val := .one (.pr o (lo + n.toNat) 0), rd := [o] } else none
          | _ => none
        | _ => none
      else none
    | _, _ => none) = (_ : Option Upd)
    unfold ixU
    cases C.E.T u with
    | none => rfl
    | some ti =>
      cases idxOf (evOpd C.E s.tm y) with
      | none => rfl
      | some n =>
        simp only
        by_cases h2 : ti.kd = 2
        · rw [if_pos h2, if_pos h2]
        · rw [if_neg h2, if_neg h2]
          by_cases h3 : ti.kd = 3
          · rw [if_pos h3, if_pos h3]
            split
            · rename_i w z l h
              unfold rd
              by_cases e1 : z = ti.esz
              · by_cases e2 : 0 ≤ n
                · rw [if_pos ⟨e1, e2⟩, if_pos e1, if_pos e2]
                  cases l[n.toNat]? <;> rfl
                · rw [if_neg fun q => e2 q.2, if_pos e1, if_neg e2]
                  rfl
              · rw [if_neg fun q => e1 q.1, if_neg e1]
            · rfl
            · rfl
          · rw [if_neg h3, if_neg h3]
theorem idx_int {w : Option Nat} {kd : IntKind} {n : Int} : idxOf (.one (.p w (.sc (.int kd n)))) = some n := rfl
theorem ixU_eq {ti : TI} {x : AT} {n : Int} {ob : ObF} : ixU (some ti) x (some n) ob = if ti.kd = 2 then (if 0 ≤ n ∧ n < ti.len then (evPtr x (n.toNat * ti.esz)).map fun a => { val := a } else none)
      else if ti.kd = 3 then match x with
        | .one (.p _ (.sl z l)) => if z = ti.esz then (rd l n).map fun r => { val := .one (.p none (.ref r)) } else none
        | .one (.vw o lo m) => match ob o with
          | some (.arr _ z _) => if z = ti.esz ∧ 0 ≤ n ∧ n.toNat < m then some { val := .one (.pr o (lo + n.toNat) 0), rd := [o] } else none
          | _ => none
        | _ => none
      else none := rfl
def stU (ti : Option TI) (x : AT) (vs : Option (List CV)) (ob : ObF) : Option Upd := match ti, x, vs with
    | some ti, .one (.pt c off), some vs => match ob c with
      | some (.var cs) => if vs.length = ti.sz ∧ off + vs.length ≤ cs.length then
          some { val := .no, ow := [(c, .var (splice cs off vs))], rd := [c] } else none
      | _ => none
    | some ti, .one (.pr c r off), some vs => match ob c, pvL ob vs with
      | some (.arr false z rows), some xs => match rows[r]? with
        | some row => if xs.length = ti.sz ∧ off + xs.length ≤ row.length ∧ c ∉ vs.flatMap seenC then
            some { val := .no, ow := icy ob (vs.flatMap seenC) ++ [(c, .arr false z (rows.set r (splice row off xs)))], rd := c :: vs.flatMap seenC } else none
        | none => none
      | _, _ => none
    | _, _, _ => none
theorem so_store : StepO C F k Q id draw ops l s us ⟨d, .store u x y, t, pos, after, g⟩ = StepU C F k Q id draw ops l s us d (stU (C.E.T u) (evOpd C.E s.tm x) (cellsOf (opV C.E s.tm u y)) s.ob) :=
  stepO_of fun call => by
    rw [← opT_eq]
    rfl
theorem stU_pt {ti : TI} {c off : Nat} {vs : List CV} {ob : ObF} : stU (some ti) (.one (.pt c off)) (some vs) ob = match ob c with
      | some (.var cs) => if vs.length = ti.sz ∧ off + vs.length ≤ cs.length then
          some { val := .no, ow := [(c, .var (splice cs off vs))], rd := [c] } else none
      | _ => none := rfl
theorem stU_pr {ti : TI} {c r off : Nat} {vs : List CV} {ob : ObF} : stU (some ti) (.one (.pr c r off)) (some vs) ob = match ob c, pvL ob vs with
      | some (.arr false z rows), some xs => match rows[r]? with
        | some row => if xs.length = ti.sz ∧ off + xs.length ≤ row.length ∧ c ∉ vs.flatMap seenC then
            some { val := .no, ow := icy ob (vs.flatMap seenC) ++ [(c, .arr false z (rows.set r (splice row off xs)))], rd := c :: vs.flatMap seenC } else none
        | none => none
      | _, _ => none := rfl
end
end Go.Proofs.YtjhljcnjafbkfaaDoor.X
end
section
set_option linter.unusedVariables false
namespace Go.Proofs.YtjhljcnjafbkfaaDoor.X
open Go.RowKit
section
variable {C : Cx} {F : Fr} {k : List It} {s : St} {Q : Post} {id : Nat} {draw : Bool} {ops : Array Oper} {l : List Oper} {us : List Upd} {d : Option Nat} {t u v : TypeId} {pos : String} {after : Array Edge} {g : Option (Nat × Bool)} {x y z : Operand}
def lnU (x : AT) (kd : Option Nat) : Option Upd := match x, kd with
  | .one (.p _ (.sl _ l)), some 3 => some { val := .one (.p none (.sc (.int .i64 l.length))) }
  | .one (.vw _ _ n), some 3 => some { val := .one (.p none (.sc (.int .i64 n))) }
  | _, _ => none
def StepL (C : Cx) (F : Fr) (k : List It) (Q : Post) (id : Nat) (draw : Bool) (ops : Array Oper) (l : List Oper) (s : St) (us : List Upd) (d : Option Nat) (u : Option Upd) (o : Oper) : Prop :=
  match u with
  | some u => StepU C F k Q id draw ops l s us d (some u)
  | none => StepU C F k Q id draw ops l s us d (evGen C.E (evOpd C.E s.tm) o)
@[congr] theorem stepL_congr {o : Oper} {u v : Option Upd} (h : u = v) : StepL C F k Q id draw ops l s us d u o = StepL C F k Q id draw ops l s us d v o := by rw [h]
theorem stepL_some {o : Oper} {u : Upd} : StepL C F k Q id draw ops l s us d (some u) o = StepU C F k Q id draw ops l s us d (some u) := rfl
theorem so_len : StepO C F k Q id draw ops l s us ⟨d, .call { callee := .builtin .len, args := [x].toArray, argTypes := [u].toArray }, t, pos, after, g⟩ =
    StepL C F k Q id draw ops l s us d (lnU (evOpd C.E s.tm x) ((C.E.T u).map (·.kd))) ⟨d, .call { callee := .builtin .len, args := [x].toArray, argTypes := [u].toArray }, t, pos, after, g⟩ := by
  have e : ∀ call, evOp C.E (C.gen F.f) call F.base (evOpd C.E s.tm) s.ob s.rt s.nx ⟨d, .call { callee := .builtin .len, args := [x].toArray, argTypes := [u].toArray }, t, pos, after, g⟩ =
      (match lnU (evOpd C.E s.tm x) ((C.E.T u).map (·.kd)) with
      | some u => some u
      | none => evGen C.E (evOpd C.E s.tm) ⟨d, .call { callee := .builtin .len, args := [x].toArray, argTypes := [u].toArray }, t, pos, after, g⟩) := fun _ => rfl
  rw [stepO_of e]
  unfold StepL
  split <;> simp_all
theorem lnU_sl {w : Option Nat} {z : Nat} {l : List (List PV)} : lnU (.one (.p w (.sl z l))) (some 3) = some { val := .one (.p none (.sc (.int .i64 l.length))) } := rfl
theorem lnU_vw {o lo n : Nat} : lnU (.one (.vw o lo n)) (some 3) = some { val := .one (.p none (.sc (.int .i64 n))) } := rfl
theorem lnU_sc {w : Option Nat} {v : Value} {kd : Option Nat} : lnU (.one (.p w (.sc v))) kd = none := by cases kd <;> rfl
def apnV (E : Env) (ti : TI) (z : Nat) (q : Nat) (sn : List Nat) (y : Option PV) (oq : Option Obj) : Option Upd := match y, oq with
  | some (.sl z' l'), none => if z = ti.esz ∧ z' = ti.esz ∧ (E.T ti.e).isSome ∧ 0 < ti.esz ∧ l'.length ≤ 16777216 ∧ ti.eby ≤ 4096 then
      some { val := .one (.vw q 0 l'.length), ow := [(q, .arr false z l')], rd := q :: sn }
    else none
  | _, _ => none
def apnU (E : Env) (ti : Option TI) (tu : Bool) (a b : AT) (q : Nat) (ob : ObF) : Option Upd := match ti with
    | some ti => if ti.kd = 3 ∧ tu = true then match a, b with
      | .one (.p (some 0) (.sl z [])), .one cy => apnV E ti z q (seenC cy) (pvC ob cy) (ob q)
      | _, _ => none
      else none
    | none => none
theorem apnU_eq {E : Env} {ti : TI} {z q : Nat} {cy : CV} {ob : ObF} : apnU E (some ti) true (.one (.p (some 0) (.sl z []))) (.one cy) q ob = if ti.kd = 3 then apnV E ti z q (seenC cy) (pvC ob cy) (ob q) else none := by
  simp only [apnU, and_true]
theorem apnV_eq {E : Env} {ti : TI} {z z' q : Nat} {sn : List Nat} {l' : List (List PV)} : apnV E ti z q sn (some (.sl z' l')) none = if z = ti.esz ∧ z' = ti.esz ∧ (E.T ti.e).isSome ∧ 0 < ti.esz ∧ l'.length ≤ 16777216 ∧ ti.eby ≤ 4096 then
      some { val := .one (.vw q 0 l'.length), ow := [(q, .arr false z l')], rd := q :: sn }
    else none := rfl
def apdU (E : Env) (ti : Option TI) (tu : Bool) (a b : AT) (rt : RtF) (nx : Nat) : Option Upd := match ti with
    | some ti => if ti.kd = 3 ∧ tu = true then match a, b with
      | .one (.p (some n) (.sl z l)), .one (.p _ (.sl z' l')) =>
        if z = ti.esz ∧ z' = ti.esz ∧ (E.T ti.e).isSome ∧ 0 < ti.esz ∧ (n = 0 ∨ rt n = true) ∧ l.length + l'.length ≤ 16777216 ∧ ti.eby ≤ 4096 then
          some { val := .one (.p (some nx) (.sl z (l ++ l'))), rw := some n, nl := true }
        else none
      | _, _ => none
      else none
    | none => none
theorem so_append {d : Nat} : StepO C F k Q id draw ops l s us ⟨some d, .call { callee := .builtin .append, args := [x, y].toArray, argTypes := [u, v].toArray }, t, pos, after, g⟩ =
    StepU C F k Q id draw ops l s us (some d) (if C.gen F.f d = true then apnU C.E (C.E.T u) (decide (u = v)) (opV C.E s.tm u x) (opV C.E s.tm u y) (F.base + d) s.ob else apdU C.E (C.E.T u) (decide (u = v)) (opV C.E s.tm u x) (opV C.E s.tm u y) s.rt s.nx) :=
  stepO_of fun call => by
    have e : evOp C.E (C.gen F.f) call F.base (evOpd C.E s.tm) s.ob s.rt s.nx ⟨some d, .call { callee := .builtin .append, args := [x, y].toArray, argTypes := [u, v].toArray }, t, pos, after, g⟩ =
      (match C.E.T u with
      | some ti => if ti.kd = 3 ∧ u = v then
        if C.gen F.f d = true then match opT C.E (evOpd C.E s.tm) u x, opT C.E (evOpd C.E s.tm) u y, some d with
          | .one (.p (some 0) (.sl z [])), .one cy, some d => match pvC s.ob cy, s.ob (F.base + d) with
            | some (.sl z' l'), none => if z = ti.esz ∧ z' = ti.esz ∧ (C.E.T ti.e).isSome ∧ 0 < ti.esz ∧ l'.length ≤ 16777216 ∧ ti.eby ≤ 4096 then
                some { val := .one (.vw (F.base + d) 0 l'.length), ow := [(F.base + d, .arr false z l')], rd := (F.base + d) :: seenC cy }
              else none
            | _, _ => none
          | _, _, _ => none
        else match opT C.E (evOpd C.E s.tm) u x, opT C.E (evOpd C.E s.tm) u y, some d with
        | .one (.p (some n) (.sl z l)), .one (.p _ (.sl z' l')), some d =>
          if z = ti.esz ∧ z' = ti.esz ∧ (C.E.T ti.e).isSome ∧ 0 < ti.esz ∧ (n = 0 ∨ s.rt n = true) ∧ l.length + l'.length ≤ 16777216 ∧ ti.eby ≤ 4096 then
            some { val := .one (.p (some s.nx) (.sl z (l ++ l'))), rw := some n, nl := true }
          else none
        | _, _, _ => none
        else none
      | none => none : Option Upd) := rfl
    rw [e, opT_eq, opT_eq]
    unfold apdU apnU
    cases C.E.T u with
    | none => simp
    | some ti =>
      simp only
      by_cases h : ti.kd = 3 ∧ u = v
      · by_cases hg : C.gen F.f d = true
        · rw [if_pos h, if_pos hg, if_pos hg, if_pos ⟨h.1, decide_eq_true h.2⟩]
          unfold apnV
          split
          · rename_i z cy d' e1 e2 e3
            cases e3
            simp only [e1, e2]
          · rename_i h1
            split
            · rename_i z cy e1 e2
              exact absurd rfl (h1 _ _ _ e1 e2)
            · rfl
        rw [if_pos h, if_neg hg, if_neg hg, if_pos ⟨h.1, decide_eq_true h.2⟩]
        split
        · simp_all
        · rename_i h1
          split
          · rename_i w z l w' z' l' e1 e2
            exact absurd e2 (h1 _ _ _ _ _ _ _ e1 · rfl)
          · rfl
      · have hd : ¬ (ti.kd = 3 ∧ decide (u = v) = true) := fun q => h ⟨q.1, of_decide_eq_true q.2⟩
        by_cases hg : C.gen F.f d = true
        · rw [if_neg h, if_pos hg, if_neg hd]
        · rw [if_neg h, if_neg hg, if_neg hd]
theorem apdU_eq {E : Env} {ti : TI} {n z z' nx : Nat} {w : Option Nat} {l l' : List (List PV)} {rt : RtF} : apdU E (some ti) true (.one (.p (some n) (.sl z l))) (.one (.p w (.sl z' l'))) rt nx =
    if ti.kd = 3 then (if z = ti.esz ∧ z' = ti.esz ∧ (E.T ti.e).isSome ∧ 0 < ti.esz ∧ (n = 0 ∨ rt n = true) ∧ l.length + l'.length ≤ 16777216 ∧ ti.eby ≤ 4096 then
          some { val := .one (.p (some nx) (.sl z (l ++ l'))), rw := some n, nl := true }
        else none) else none := by simp [apdU]
def StepS (C : Cx) (F : Fr) (k : List It) (Q : Post) (id : Nat) (draw : Bool) (ops : Array Oper) (l : List Oper) (s : St) (us : List Upd) (d : Option Nat) (ti : Option TI) (x : AT) (lo hi mx : Option (Option Int)) (o : Oper) : Prop :=
  StepU C F k Q id draw ops l s us d (match ti, x, lo, hi, mx with
    | some ti, .one (.p _ (.sl z l)), some lo, some hi, some mx =>
      if ti.kd = 3 ∧ z = ti.esz ∧ 0 ≤ lo.getD 0 ∧ lo.getD 0 ≤ hi.getD l.length ∧ hi.getD l.length ≤ mx.getD (hi.getD l.length) ∧ mx.getD (hi.getD l.length) ≤ l.length ∧ (mx.isSome → hi.isSome) then
        some { val := .one (.p (if mx.isSome ∧ hi.getD l.length = mx.getD (hi.getD l.length) then some 0 else none) (.sl z ((l.take (hi.getD l.length).toNat).drop (lo.getD 0).toNat))) }
      else none
    | some ti, .one (.vw o lo n), some l, some hi, some none =>
      match s.ob o with
      | some (.arr _ z _) => if ti.kd = 3 ∧ z = ti.esz ∧ 0 ≤ l.getD 0 ∧ l.getD 0 ≤ hi.getD n ∧ hi.getD n ≤ n then some { val := .one (.vw o (lo + (l.getD 0).toNat) (hi.getD n - l.getD 0).toNat), rd := [o] } else none
      | _ => none
    | some ti, .one (.p _ (.ref cs)), some none, some none, some none =>
      if ti.kd = 2 ∧ ti.esz = 1 ∧ cs.length = ti.len ∧ ti.len ≤ 65536 then some { val := .one (.p none (.sl 1 (cs.map fun c => [c]))) } else none
    | _, _, _, _, _ => evGen C.E (evOpd C.E s.tm) o)
theorem so_slice {lo hi mx : Option Operand} : StepO C F k Q id draw ops l s us ⟨d, .slice u x lo hi mx, t, pos, after, g⟩ =
    StepS C F k Q id draw ops l s us d (C.E.T u) (evOpd C.E s.tm x) (optIdx (evOpd C.E s.tm) lo) (optIdx (evOpd C.E s.tm) hi) (optIdx (evOpd C.E s.tm) mx) ⟨d, .slice u x lo hi mx, t, pos, after, g⟩ :=
  stepO_of fun call => rfl
theorem stepS_p {ti : TI} {w : Option Nat} {z : Nat} {ls : List (List PV)} {lo hi mx : Option Int} {o : Oper} : StepS C F k Q id draw ops l s us d (some ti) (.one (.p w (.sl z ls))) (some lo) (some hi) (some mx) o =
    StepU C F k Q id draw ops l s us d (if ti.kd = 3 ∧ z = ti.esz ∧ 0 ≤ lo.getD 0 ∧ lo.getD 0 ≤ hi.getD ls.length ∧ hi.getD ls.length ≤ mx.getD (hi.getD ls.length) ∧ mx.getD (hi.getD ls.length) ≤ ls.length ∧ (mx.isSome → hi.isSome) then
        some { val := .one (.p (if mx.isSome ∧ hi.getD ls.length = mx.getD (hi.getD ls.length) then some 0 else none) (.sl z ((ls.take (hi.getD ls.length).toNat).drop (lo.getD 0).toNat))) }
      else none) := rfl
theorem stepS_vw {ti : TI} {o lo n : Nat} {a hi : Option Int} {op : Oper} : StepS C F k Q id draw ops l s us d (some ti) (.one (.vw o lo n)) (some a) (some hi) (some none) op =
    StepU C F k Q id draw ops l s us d (match s.ob o with
      | some (.arr _ z _) => if ti.kd = 3 ∧ z = ti.esz ∧ 0 ≤ a.getD 0 ∧ a.getD 0 ≤ hi.getD n ∧ hi.getD n ≤ n then some { val := .one (.vw o (lo + (a.getD 0).toNat) (hi.getD n - a.getD 0).toNat), rd := [o] } else none
      | _ => none) := rfl
theorem stepS_ref {ti : TI} {w : Option Nat} {cs : List PV} {o : Oper} : StepS C F k Q id draw ops l s us d (some ti) (.one (.p w (.ref cs))) (some none) (some none) (some none) o =
    StepU C F k Q id draw ops l s us d (if ti.kd = 2 ∧ ti.esz = 1 ∧ cs.length = ti.len ∧ ti.len ≤ 65536 then some { val := .one (.p none (.sl 1 (cs.map fun c => [c]))) } else none) := rfl
theorem optIdx_none {ρ : Operand → AT} : optIdx ρ none = some none := rfl
theorem optIdx_some {ρ : Operand → AT} : optIdx ρ (some x) = (idxOf (ρ x)).map some := rfl
def mkU (E : Env) (ti : Option TI) (z0 : Bool) (no c : Option Int) (o : Nat) (ob : ObF) (nx : Nat) : Option Upd := match ti, no, c with
    | some ti, some n, some c => match E.T ti.e with
      | some te => match pvL ob te.zero with
        | some z => if ti.kd = 3 ∧ 0 < ti.esz ∧ z.length = ti.esz ∧ 0 ≤ n ∧ n ≤ c ∧ c ≤ 16777216 ∧ ti.eby ≤ 4096 then
            (if z0 then some { val := .one (.p (some nx) (.sl ti.esz [])), rw := some 0, nl := true }
            else if n = c then match ob o with
              | none => some { val := .one (.vw o 0 n.toNat), ow := [(o, .arr false ti.esz (List.replicate n.toNat z))], rd := [o] }
              | some _ => none
            else none)
          else none
        | none => none
      | none => none
    | _, _, _ => none
theorem so_makeSlice {d : Nat} : StepO C F k Q id draw ops l s us ⟨some d, .makeSlice u x y, t, pos, after, g⟩ =
    StepU C F k Q id draw ops l s us (some d) (mkU C.E (C.E.T u) (isZero x) (idxOf (evOpd C.E s.tm x)) (idxOf (evOpd C.E s.tm y)) (F.base + d) s.ob s.nx) :=
  stepO_of fun call => by
    have e : evOp C.E (C.gen F.f) call F.base (evOpd C.E s.tm) s.ob s.rt s.nx ⟨some d, .makeSlice u x y, t, pos, after, g⟩ =
      (match C.E.T u, idxOf (evOpd C.E s.tm x), idxOf (evOpd C.E s.tm y), some d with
    | some ti, some n, some c, some d => match C.E.T ti.e with
      | some te => match pvL s.ob te.zero with
        | some z => if ti.kd = 3 ∧ 0 < ti.esz ∧ z.length = ti.esz ∧ 0 ≤ n ∧ n ≤ c ∧ c ≤ 16777216 ∧ ti.eby ≤ 4096 then
            (if isZero x then some { val := .one (.p (some s.nx) (.sl ti.esz [])), rw := some 0, nl := true }
            else if n = c then match s.ob (F.base + d) with
              | none => some { val := .one (.vw (F.base + d) 0 n.toNat), ow := [(F.base + d, .arr false ti.esz (List.replicate n.toNat z))], rd := [F.base + d] }
              | some _ => none
            else none)
          else none
        | none => none
      | none => none
    | _, _, _, _ => none : Option Upd) := rfl
    rw [e]
    unfold mkU
    cases C.E.T u with
    | none => rfl
    | some ti =>
      cases idxOf (evOpd C.E s.tm x) with
      | none => rfl
      | some n =>
        cases idxOf (evOpd C.E s.tm y) with
        | none => rfl
        | some c => rfl
theorem mkU_eq {E : Env} {ti : TI} {z0 : Bool} {n c : Int} {o nx : Nat} {ob : ObF} : mkU E (some ti) z0 (some n) (some c) o ob nx = match E.T ti.e with
      | some te => match pvL ob te.zero with
        | some z => if ti.kd = 3 ∧ 0 < ti.esz ∧ z.length = ti.esz ∧ 0 ≤ n ∧ n ≤ c ∧ c ≤ 16777216 ∧ ti.eby ≤ 4096 then
            (if z0 then some { val := .one (.p (some nx) (.sl ti.esz [])), rw := some 0, nl := true }
            else if n = c then match ob o with
              | none => some { val := .one (.vw o 0 n.toNat), ow := [(o, .arr false ti.esz (List.replicate n.toNat z))], rd := [o] }
              | some _ => none
            else none)
          else none
        | none => none
      | none => none := rfl
theorem pvL_nil {ob : ObF} : pvL ob [] = some [] := rfl
theorem pvL_p {ob : ObF} {w : Option Nat} {a : PV} {cs : List CV} : pvL ob (.p w a :: cs) = (pvL ob cs).map (a :: ·) := by
  simp only [pvL, pvC]
  cases pvL ob cs <;> rfl
theorem so_build {parts : Array (Nat × Operand)} : StepO C F k Q id draw ops l s us ⟨d, .build u parts, t, pos, after, g⟩ =
    StepU C F k Q id draw ops l s us d (match C.E.T u with
    | some ti => if ti.kd = 1 then (fillS ti.fs C.E (evOpd C.E s.tm) ti.zero parts.toList).map fun cs => { val := .agg cs }
      else if ti.kd = 2 then (fillA ti C.E (evOpd C.E s.tm) ti.zero parts.toList).map fun cs => { val := .agg cs }
      else none
    | none => none) := stepO_of fun call => rfl
theorem fillA_nil {E : Env} {ti : TI} {ρ : Operand → AT} {cs : List CV} : fillA ti E ρ cs [] = some cs := rfl
theorem fillA_cons {E : Env} {ti : TI} {m : Nat → AT} {cs : List CV} {i : Nat} {r : List (Nat × Operand)} : fillA ti E (evOpd E m) cs ((i, x) :: r) = match cellsOf (opV E m ti.e x) with
      | some vs => if vs.length = ti.esz ∧ i * ti.esz + ti.esz ≤ cs.length then fillA ti E (evOpd E m) (splice cs (i * ti.esz) vs) r else none
      | none => none := by
  rw [← opT_eq]
  rfl
theorem fillS_nil {E : Env} {fs : List (Nat × Nat × Bool × TypeId)} {ρ : Operand → AT} {cs : List CV} : fillS fs E ρ cs [] = some cs := rfl
theorem fillS_cons {E : Env} {fs : List (Nat × Nat × Bool × TypeId)} {m : Nat → AT} {cs : List CV} {i : Nat} {r : List (Nat × Operand)} : fillS fs E (evOpd E m) cs ((i, x) :: r) = match fs[i]? with
    | some (off, sz, _, t) => match cellsOf (opV E m t x) with
      | some vs => if vs.length = sz ∧ off + sz ≤ cs.length then fillS fs E (evOpd E m) (splice cs off vs) r else none
      | none => none
    | none => none := by
  simp only [fillS, opT_eq]
  rfl
theorem so_buildSlice {n : Nat} {parts : Array (Nat × Operand)} : StepO C F k Q id draw ops l s us ⟨d, .buildSlice u n parts, t, pos, after, g⟩ =
    StepU C F k Q id draw ops l s us d (match C.E.T u with
    | some ti => if ti.kd = 3 ∧ 0 < ti.esz ∧ n ≤ 65536 ∧ ti.esz ≤ 256 then
        match C.E.T ti.e with
        | some te => match pvL s.ob te.zero with
          | some z => if z.length = ti.esz then
              (fillR ti C.E s.ob (evOpd C.E s.tm) (List.replicate n z) parts.toList).map fun rs =>
                { val := .one (.p (some 0) (.sl ti.esz rs)), ow := icy s.ob (parts.toList.flatMap fun p => seenT (evOpd C.E s.tm p.2)), rd := parts.toList.flatMap fun p => seenT (evOpd C.E s.tm p.2) }
            else none
          | none => none
        | none => none
      else none
    | none => none) := stepO_of fun call => rfl
theorem fillR_nil {E : Env} {ti : TI} {ob : ObF} {ρ : Operand → AT} {cs : List (List PV)} : fillR ti E ob ρ cs [] = some cs := rfl
theorem fillR_cons {E : Env} {ti : TI} {ob : ObF} {m : Nat → AT} {cs : List (List PV)} {i : Nat} {r : List (Nat × Operand)} : fillR ti E ob (evOpd E m) cs ((i, x) :: r) = match (cellsOf (opV E m ti.e x)).bind (pvL ob) with
    | some vs => if vs.length = ti.esz ∧ i < cs.length then fillR ti E ob (evOpd E m) (cs.set i vs) r else none
    | none => none := by
  simp only [fillR, opT_eq]
  rfl
theorem so_extract {i : Nat} : StepO C F k Q id draw ops l s us ⟨d, .extract x i, t, pos, after, g⟩ = StepU C F k Q id draw ops l s us d (match evOpd C.E s.tm x with
    | .tup ts => (ts[i]?).map fun r => { val := atC r }
    | _ => none) := stepO_of fun call => rfl
theorem atC_one {c : CV} : atC (false, [c]) = .one c := rfl
theorem atC_agg {cs : List CV} : atC (true, cs) = .agg cs := rfl
theorem so_makeFunc {f : FuncId} {caps : Array Operand} : StepO C F k Q id draw ops l s us ⟨d, .makeFunc (.func f) #[] caps, t, pos, after, g⟩ = StepU C F k Q id draw ops l s us d (match cvAs (caps.toList.map (evOpd C.E s.tm)) with
      | some cs => if cs.all (fun c => !c.1) then
          match pvL noOb (cs.flatMap (·.2)) with
          | some ps => some { val := .one (.p none (.fn f ps)) }
          | none => some { val := .one (.cl f (cs.flatMap (·.2))) }
        else none
      | none => none) := stepO_of fun call => rfl
theorem so_nilCheck : StepO C F k Q id draw ops l s us ⟨d, .nilCheck x, t, pos, after, g⟩ = StepU C F k Q id draw ops l s us d (match evOpd C.E s.tm x with
    | .one (.pt c off) => some { val := .one (.pt c off) }
    | .one (.pr c r off) => some { val := .one (.pr c r off) }
    | .one (.p p (.ref cs)) => some { val := .one (.p p (.ref cs)) }
    | .one (.p p (.fn f cs)) => some { val := .one (.p p (.fn f cs)) }
    | .one (.cl f cs) => some { val := .one (.cl f cs) }
    | _ => evGen C.E (evOpd C.E s.tm) ⟨d, .nilCheck x, t, pos, after, g⟩) := stepO_of fun call => rfl
theorem ap_val {d : Nat} {v : AT} {rd : List Nat} {tm : Nat → AT} {ob : ObF} {rt : RtF} {nx : Nat} : apU (some d) { val := v, rd := rd } ⟨tm, ob, rt, nx⟩ = ⟨upd tm d v, ob, rt, nx⟩ := rfl
theorem ap_none {v : AT} {rd : List Nat} {st : St} : apU none { val := v, rd := rd } st = st := rfl
theorem ap_ow {d : Option Nat} {v : AT} {ow : List (Nat × Obj)} {rd : List Nat} {tm : Nat → AT} {ob : ObF} {rt : RtF} {nx : Nat} : apU d { val := v, ow := ow, rd := rd } ⟨tm, ob, rt, nx⟩ = ⟨(match d with
    | some d => upd tm d v
    | none => tm), ow.foldl (fun f p => upd f p.1 (some p.2)) ob, rt, nx⟩ := rfl
theorem ap_rw {d n : Nat} {v : AT} {tm : Nat → AT} {ob : ObF} {rt : RtF} {nx : Nat} : apU (some d) { val := v, rw := some n, nl := true } ⟨tm, ob, rt, nx⟩ = ⟨upd tm d v, ob, upd (upd rt n false) nx true, nx + 1⟩ := rfl
theorem ok_dst {n d : Nat} : (okDst n (some d) = true) = (d < n) := by simp [okDst]
theorem ok_none {n : Nat} : (okDst n none = true) = True := by simp [okDst]
theorem touch_v {v : AT} {rd : List Nat} {base : Nat} {vis : List Nat} : touchOk base vis { val := v, rd := rd } = true := rfl
theorem touch_r {v : AT} {n base : Nat} {vis : List Nat} : touchOk base vis { val := v, rw := some n, nl := true } = true := rfl
theorem touch_0 {u : Upd} {vis : List Nat} (h : u.all = none) : touchOk 0 vis u = true := by simp [touchOk, h]
theorem touch_o {v : AT} {ow : List (Nat × Obj)} {rd : List Nat} {vis : List Nat} : touchOk 0 vis { val := v, ow := ow, rd := rd } = true := touch_0 rfl
theorem guard_l {ls : List Oper} {m : Nat → AT} {j : Nat} {w : Bool} : evGuard ls.toArray m (some (j, w)) = match (ls[j]?).bind (·.dst) with
    | some t => match m t with
      | .one (.p _ (.sc (.bool b))) => some (b == w)
      | .tup _ => some false
      | _ => none
    | none => none := by
  unfold evGuard
  simp only [List.getElem?_toArray]
  rfl
end
end Go.Proofs.YtjhljcnjafbkfaaDoor.X
end
section
set_option linter.unusedVariables false
namespace Go.Proofs.YtjhljcnjafbkfaaDoor.X
open Go.RowKit
def bodyOf (f : Func) : Code := f.body.getD .skip
def sub : List Nat → Code → Code
  | [], c => c
  | 0 :: p, .seq a _ => sub p a
  | 1 :: p, .seq _ b => sub p b
  | _ :: p, .block _ b => sub p b
  | _ :: p, .loop b => sub p b
  | _ :: p, .scope b => sub p b
  | 1 :: p, .cond _ a _ => sub p a
  | 2 :: p, .cond _ _ b => sub p b
  | _, c => c
section
variable {p : List Nat} {a b : Code} {c : Operand} {id n : Nat}
theorem sub_nil : sub [] a = a := by cases a <;> rfl
theorem sub_s0 : sub (0 :: p) (.seq a b) = sub p a := rfl
theorem sub_s1 : sub (1 :: p) (.seq a b) = sub p b := rfl
theorem sub_bl : sub (0 :: p) (.block id b) = sub p b := rfl
theorem sub_sc : sub (0 :: p) (.scope b) = sub p b := rfl
theorem sub_lp : sub (0 :: p) (.loop b) = sub p b := rfl
theorem sub_c1 : sub (1 :: p) (.cond c a b) = sub p a := rfl
theorem sub_c2 : sub (2 :: p) (.cond c a b) = sub p b := rfl
end
def aV (l : List PV) : Arg := (false, l)
def aA (l : List PV) : Arg := (true, l)
def pI (k : IntKind) (n : Int) : PV := .sc (.int k n)
def pB (b : Bool) : PV := .sc (.bool b)
def pS (b : ByteArray) : PV := .sc (.string b)
section
variable {α β : Type}
theorem ifn {c : Prop} [Decidable c] {a : Option α} {r : α} (h : (if c then a else none) = some r) : c ∧ a = some r := by
  split at h
  · exact ⟨by assumption, h⟩
  · cases h
theorem ifz {c : Prop} [Decidable c] {a : Option α} {r : α} (h : (if c then none else a) = some r) : ¬ c ∧ a = some r := by
  split at h
  · cases h
  · exact ⟨by assumption, h⟩
theorem bnd {o : Option α} {f : α → Option β} {r : β} (h : o.bind f = some r) : ∃ a, o = some a ∧ f a = some r := Option.bind_eq_some_iff.1 h
theorem rd_at {l : List α} {i : Int} (d : α) (h0 : 0 ≤ i) (h1 : i < (l.length : Int)) : rd l i = some (l.getD i.toNat d) := by
  have h2 : i.toNat < l.length := by omega
  rw [rd, if_pos h0, List.getElem?_eq_getElem h2, List.getD_eq_getElem?_getD, List.getElem?_eq_getElem h2]
  rfl
end
def LeO {α : Type} (a b : Option α) : Prop := ∀ r, a = some r → b = some r
section
variable {α β : Type}
theorem leo_refl {a : Option α} : LeO a a := fun _ h => h
theorem leo_none {a : Option α} : LeO none a := fun _ h => by cases h
theorem leo_ite {c : Prop} [Decidable c] {a a' b b' : Option α} (h : LeO a a') (k : LeO b b') : LeO (if c then a else b) (if c then a' else b') := by
  split
  · exact h
  · exact k
theorem leo_if {c : Prop} [Decidable c] {a a' : Option α} (h : LeO a a') : LeO (if c then a else none) (if c then a' else none) := leo_ite h leo_refl
theorem leo_ifz {c : Prop} [Decidable c] {a a' : Option α} (h : LeO a a') : LeO (if c then none else a) (if c then none else a') := leo_ite leo_refl h
theorem leo_bind {g g' : Option α} {f f' : α → Option β} (h : LeO g g') (k : ∀ t, LeO (f t) (f' t)) : LeO (g.bind f) (g'.bind f') := fun r q => by
  obtain ⟨a, h1, h2⟩ := Option.bind_eq_some_iff.1 q
  exact Option.bind_eq_some_iff.2 ⟨a, h _ h1, k a _ h2⟩
end
def Ev {α : Type} (g : Nat → Option α) (r : α) : Prop := ∃ K, ∀ k, K ≤ k → g k = some r
theorem Ev.of {α : Type} {g : Nat → Option α} {r : α} (hg : ∀ k, LeO (g k) (g (k + 1))) {k : Nat} (h : g k = some r) : Ev g r := by
  refine ⟨k, fun j hj => ?_⟩
  obtain ⟨d, rfl⟩ : ∃ d, j = k + d := ⟨j - k, by omega⟩
  clear hj
  induction d with
  | zero => exact h
  | succ d ih => exact hg _ _ ih
theorem Ev.now {α : Type} (r : α) : Ev (fun _ => some r) r := ⟨0, fun _ _ => rfl⟩
theorem Ev.rounds {α : Type} {g : Nat → Option α} {r : α} (h : Ev g r) : ∃ k, g k = some r := by
  obtain ⟨K, h⟩ := h
  exact ⟨K, h K (Nat.le_refl _)⟩
theorem Ev.bind {α β : Type} {g : Nat → Option α} {f : Nat → α → Option β} {a : α} {r : β} (h : Ev g a) (k : Ev (fun n => f n a) r) : Ev (fun n => (g n).bind (f n)) r := by
  obtain ⟨K, h⟩ := h
  obtain ⟨K', k⟩ := k
  refine ⟨max K K', fun n hn => ?_⟩
  show (g n).bind (f n) = _
  rw [h n (by omega)]
  exact k n (by omega)
theorem Ev.step {α : Type} {g f : Nat → Option α} {r : α} (h : ∀ k, g (k + 1) = f k) (k : Ev f r) : Ev g r := by
  obtain ⟨K, k⟩ := k
  refine ⟨K + 1, fun n hn => ?_⟩
  obtain ⟨m, rfl⟩ : ∃ m, n = m + 1 := ⟨n - 1, by omega⟩
  rw [h]
  exact k m (by omega)
theorem Ev.congr {α : Type} {g f : Nat → Option α} {r : α} (h : ∀ k, g k = f k) (k : Ev f r) : Ev g r := by
  obtain ⟨K, k⟩ := k
  exact ⟨K, fun n hn => by rw [h]; exact k n hn⟩
theorem w32 {n : Int} : IntKind.wrap .i32 n = wrap32 n := by
  unfold wrap32
  show (if (true && decide (n % (4294967296 : Int) ≥ 2147483648)) = true then n % 4294967296 - 4294967296 else n % 4294967296) = _
  rw [Bool.true_and]
  split <;> simp_all <;> omega
theorem w64 {n : Int} : IntKind.wrap .i64 n = wrap64 n := by
  unfold wrap64
  show (if (true && decide (n % (18446744073709551616 : Int) ≥ 9223372036854775808)) = true then n % 18446744073709551616 - 18446744073709551616 else n % 18446744073709551616) = _
  rw [Bool.true_and]
  by_cases h : n % 18446744073709551616 ≥ 9223372036854775808
  · rw [if_pos (decide_eq_true h)]; omega
  · rw [if_neg (by simpa using h)]; omega
theorem u_neg {P : Program} {w : Option Nat} {kd : IntKind} {m : Int} : un1 P .neg (.one (.p w (.sc (.int kd m)))) = some { val := .one (.p none (.sc (.int kd (kd.wrap (0 - m))))) } := by cases kd <;> rfl
theorem u_not {P : Program} {w : Option Nat} {b : Bool} : un1 P .not (.one (.p w (.sc (.bool b)))) = some { val := .one (.p none (.sc (.bool (!b)))) } := rfl
theorem rtP_at {m n : Nat} : rtP m n = if n = 0 then false else decide (n < m) := rfl
end Go.Proofs.YtjhljcnjafbkfaaDoor.X
end
section
set_option linter.unusedVariables false
namespace Go.Proofs.YtjhljcnjafbkfaaDoor.X
open Go.RowKit
section
variable {C : Cx} {F : Fr} {k : List It} {s : St} {Q : Post} {a b : Code} {c : Operand} {id n : Nat} {ops : Array Oper} {us : List Upd} {draw : Bool} {l : List Oper}
def GoIf (C : Cx) (F : Fr) (a b : Code) (k : List It) (s : St) (Q : Post) (x : AT) : Prop := match x with
  | .one (.p _ (.sc (.bool t))) => if t = true then Go C F a k s Q else Go C F b k s Q
  | _ => False
@[congr] theorem goIf_congr {x y : AT} (h : x = y) : GoIf C F a b k s Q x = GoIf C F a b k s Q y := by rw [h]
theorem goIf_b {w : Option Nat} {t : Bool} : GoIf C F a b k s Q (.one (.p w (.sc (.bool t)))) = if t = true then Go C F a k s Q else Go C F b k s Q := rfl
theorem go_if : Go C F (.cond c a b) k s Q = GoIf C F a b k s Q (evOpd C.E s.tm c) := go_cond
def keyJ (H : Hint) (c : Code) : Option (List Nat) := (joinKey c).bind H.join
def FinJ (C : Cx) (F : Fr) (a : Code) (k : List It) (s : St) (Q : Post) (x : Option (List Nat)) : Prop := match x with
  | none => Go C F a k s Q
  | some l => AtJ C F a k (head F.base F.nx0 F.vis l s) Q
@[congr] theorem finJ_congr {x y : Option (List Nat)} (h : x = y) : FinJ C F a k s Q x = FinJ C F a k s Q y := by rw [h]
theorem finJ_n : FinJ C F a k s Q none = Go C F a k s Q := rfl
theorem finJ_s {l : List Nat} : FinJ C F a k s Q (some l) = AtJ C F a k (head F.base F.nx0 F.vis l s) Q := rfl
theorem finJ_code : Fin C F (.code a :: k) .fall s Q = FinJ C F a k s Q (keyJ (C.H F.f) a) := by
  rw [fin_code]
  unfold FinJ keyJ joinOf
  cases joinKey a with
  | none => exact atJ_some
  | some j =>
    simp only [Option.bind_some]
    cases (C.H F.f).join j with
    | none => exact atJ_some
    | some l => rfl
section
variable {rt : RtF} {nx0 q : Nat} {seen : List Nat} {x : PV} {cs : List CV} {os : List Nat} {tm : Nat → AT} {t : Nat} {ts : List Nat} {ob rest : ObF} {o off lo m : Nat}
theorem relC_0 : relC rt nx0 q seen (.p none x) = (.p none x, seen) := rfl
theorem relC_f : relC rt nx0 q seen (.p (some 0) x) = (.p (some q) x, seen) := rfl
theorem relC_n : relC rt nx0 q seen (.p (some (n + 1)) x) = if n + 1 < nx0 then (.p (some (n + 1)) x, seen) else if rt (n + 1) = true ∧ n + 1 ∉ seen then (.p (some q) x, (n + 1) :: seen) else (.p none x, seen) := rfl
theorem relC_pt : relC rt nx0 q seen (.pt o off) = (.pt o off, seen) := rfl
theorem relC_vw : relC rt nx0 q seen (.vw o lo m) = (.vw o lo m, seen) := rfl
theorem relL_0 : relL rt nx0 q seen [] = ([], seen) := rfl
theorem relL_c {c : CV} : relL rt nx0 q seen (c :: cs) = ((relC rt nx0 q seen c).1 :: (relL rt nx0 (q + 1) (relC rt nx0 q seen c).2 cs).1, (relL rt nx0 (q + 1) (relC rt nx0 q seen c).2 cs).2) := rfl
theorem relT_1 {c : CV} : relT rt nx0 q seen (.one c) = (.one (relC rt nx0 q seen c).1, q + 1, (relC rt nx0 q seen c).2) := rfl
theorem relT_a : relT rt nx0 q seen (.agg cs) = (.agg (relL rt nx0 q seen cs).1, q + cs.length, (relL rt nx0 q seen cs).2) := rfl
theorem relT_n : relT rt nx0 q seen .no = (.no, q, seen) := rfl
theorem okC_p {w : Option Nat} : okC os false (.p w x) = true := rfl
theorem okC_pt {d : Bool} : okC os d (.pt o off) = os.contains o := rfl
theorem okC_vw {d : Bool} : okC os d (.vw o lo m) = os.contains o := rfl
theorem okL_0 {d : Bool} : okL os d [] = true := rfl
theorem okL_c {d : Bool} {c : CV} : okL os d (c :: cs) = (okC os d c && okL os d cs) := rfl
theorem okT_1 {c : CV} : okT os (.one c) = okC os false c := rfl
theorem okT_a : okT os (.agg cs) = okL os false cs := rfl
theorem okT_n : okT os .no = true := rfl
theorem headT_0 : headT rt nx0 os tm q seen [] = (fun _ => .no, q, seen) := rfl
theorem headT_c : headT rt nx0 os tm q seen (t :: ts) =
  (upd (headT rt nx0 os tm (relT rt nx0 q seen (if okT os (tm t) = true then tm t else .no)).2.1 (relT rt nx0 q seen (if okT os (tm t) = true then tm t else .no)).2.2 ts).1 t (relT rt nx0 q seen (if okT os (tm t) = true then tm t else .no)).1,
   (headT rt nx0 os tm (relT rt nx0 q seen (if okT os (tm t) = true then tm t else .no)).2.1 (relT rt nx0 q seen (if okT os (tm t) = true then tm t else .no)).2.2 ts).2) := rfl
theorem headO_0 : headO rt nx0 os ob rest q seen [] = some (rest, q) := rfl
theorem headO_c : headO rt nx0 os ob rest q seen (o :: ts) = match ob o with
    | none => headO rt nx0 os ob rest q seen ts
    | some (.var cs) => if okL os false cs = true then
        match headO rt nx0 os ob rest (q + cs.length) (relL rt nx0 q seen cs).2 ts with
        | some (f, m) => some (upd f o (some (.var (relL rt nx0 q seen cs).1)), m)
        | none => none
      else none
    | some (.arr z n rows) => match headO rt nx0 os ob rest q seen ts with
      | some (f, m) => some (upd f o (some (.arr z n rows)), m)
      | none => none
    | some (.mp es c) => match headO rt nx0 os ob rest q seen ts with
      | some (f, m) => some (upd f o (some (.mp es c)), m)
      | none => none := rfl
def headEnd (tm : Nat → AT) (rt : RtF) (nx0 : Nat) : Option (ObF × Nat) → Option St
  | some (f, m) => some { tm := tm, ob := f, rt := rtH rt nx0 m, nx := m }
  | none => none
def headB (base nx0 : Nat) (h : List Nat) (vis : List Nat) (s : St) (all : List Nat) : Option St :=
  headEnd (headT s.rt nx0 all s.tm nx0 [] h).1 s.rt nx0 (headO s.rt nx0 all s.ob noOb (headT s.rt nx0 all s.tm nx0 [] h).2.1 (headT s.rt nx0 all s.tm nx0 [] h).2.2 (all.filter fun o => decide (base ≤ o) || vis.contains o))
theorem head_eq {base nx0 nx : Nat} {vis h : List Nat} {tm : Nat → AT} {ob : ObF} {rt : RtF} : head base nx0 vis h ⟨tm, ob, rt, nx⟩ = headB base nx0 h vis ⟨fun t => coldT ob (tm t), ob, rt, nx⟩ ((reach ob 2 (addS (h.flatMap fun t => refsT (coldT ob (tm t))) vis)).filter fun o => (ob o).isSome) := by
  unfold head head0 headB headEnd coldS
  rfl
def coldV (o lo n : Nat) : Option Obj → CV
  | some (.arr true z rows) => .p none (.sl z ((rows.drop lo).take n))
  | _ => .vw o lo n
theorem coldC_vw : coldC ob (.vw o lo n) = coldV o lo n (ob o) := by
  simp only [coldC, coldV]
  cases ob o with
  | none => rfl
  | some x =>
    cases x with
    | var cs => rfl
    | mp => rfl
    | arr fz z rows => cases fz <;> rfl
theorem coldV_t {z : Nat} {rows : List (List PV)} : coldV o lo n (some (.arr true z rows)) = .p none (.sl z ((rows.drop lo).take n)) := rfl
theorem coldV_f {z : Nat} {rows : List (List PV)} : coldV o lo n (some (.arr false z rows)) = .vw o lo n := rfl
theorem coldC_p {w : Option Nat} : coldC ob (.p w x) = .p w x := rfl
theorem coldC_pt : coldC ob (.pt o off) = .pt o off := rfl
theorem coldC_pr {r : Nat} : coldC ob (.pr o r off) = .pr o r off := rfl
theorem coldC_cl {f : FuncId} : coldC ob (.cl f cs) = .cl f cs := rfl
theorem coldT_1 {c : CV} : coldT ob (.one c) = .one (coldC ob c) := rfl
theorem coldT_a : coldT ob (.agg cs) = .agg (cs.map (coldC ob)) := rfl
theorem coldT_n : coldT ob .no = .no := rfl
theorem coldT_t {l : List (Bool × List CV)} : coldT ob (.tup l) = .tup l := rfl
theorem headEnd_s {f : ObF} {m : Nat} : headEnd tm rt nx0 (some (f, m)) = some { tm := tm, ob := f, rt := rtH rt nx0 m, nx := m } := rfl
theorem headB_eq {base nx0 : Nat} {vis h all : List Nat} {s : St} : headB base nx0 h vis s all = headEnd (headT s.rt nx0 all s.tm nx0 [] h).1 s.rt nx0 (headO s.rt nx0 all s.ob noOb (headT s.rt nx0 all s.tm nx0 [] h).2.1 (headT s.rt nx0 all s.tm nx0 [] h).2.2 (all.filter fun o => decide (base ≤ o) || vis.contains o)) := rfl
def refsO : Option Obj → List Nat
  | some (.var cs) => refsL cs
  | _ => []
theorem reach_r {l : List Nat} : reach ob 2 l = addS ((addS (l.flatMap fun o => refsO (ob o)) l).flatMap fun o => refsO (ob o)) (addS (l.flatMap fun o => refsO (ob o)) l) := rfl
theorem refsO_v : refsO (some (.var cs)) = refsL cs := rfl
theorem refsO_a {fz : Bool} {z : Nat} {r : List (List PV)} : refsO (some (.arr fz z r)) = [] := rfl
theorem refsO_n : refsO none = [] := rfl
theorem addS_0 {b : List Nat} : addS [] b = b := rfl
theorem addS_c {a b : List Nat} : addS (t :: a) b = addS a (if b.contains t = true then b else t :: b) := rfl
theorem refsC_p {w : Option Nat} : refsC (.p w x) = [] := rfl
theorem refsC_pt : refsC (.pt o off) = [o] := rfl
theorem refsC_cl {f : FuncId} : refsC (.cl f cs) = refsL cs := rfl
theorem relC_cl {f : FuncId} : relC rt nx0 q seen (.cl f cs) = (.cl f cs, seen) := rfl
theorem okC_cl {d : Bool} {f : FuncId} : okC os d (.cl f cs) = okL os true cs := rfl
theorem okC_pn : okC os true (.p none x) = true := rfl
theorem seenC_cl {f : FuncId} : seenC (.cl f cs) = [] := rfl
theorem refsC_vw : refsC (.vw o lo m) = [o] := rfl
theorem refsL_0 : refsL [] = [] := rfl
theorem refsL_c {c : CV} : refsL (c :: cs) = refsC c ++ refsL cs := rfl
theorem refsT_1 {c : CV} : refsT (.one c) = refsC c := rfl
theorem refsT_a : refsT (.agg cs) = refsL cs := rfl
theorem refsT_n : refsT .no = [] := rfl
theorem seenC_p {w : Option Nat} : seenC (.p w x) = [] := rfl
theorem seenC_pt : seenC (.pt o off) = [] := rfl
theorem seenC_vw : seenC (.vw o lo m) = [o] := rfl
theorem seenT_1 {c : CV} : seenT (.one c) = seenC c := rfl
theorem seenT_a : seenT (.agg cs) = cs.flatMap seenC := rfl
theorem seenT_n : seenT .no = [] := rfl
theorem keyJ_e {H : Hint} : keyJ H a = (joinKey a).bind H.join := rfl
theorem jk_r {id : Nat} {p : Array Oper} {d : Bool} : joinKey (.region id p d) = some id := rfl
theorem jk_s : joinKey (.seq a b) = joinKey a := rfl
theorem jk_c : joinKey (.cond (.tmp n) a b) = some (1000000 + n) := rfl
theorem jk_b : joinKey (.block id b) = none := rfl
theorem jk_l : joinKey (.loop b) = none := rfl
theorem jk_e : joinKey (.exit id) = none := rfl
theorem jk_t : joinKey .ret = none := rfl
theorem jk_k : joinKey .skip = none := rfl
theorem fr_r {id : Nat} {p : Array Oper} {d : Bool} : firstR (.region id p d) = id := rfl
theorem fr_s : firstR (.seq a b) = firstR a := rfl
theorem fr_b : firstR (.block id b) = firstR b := rfl
theorem fr_l : firstR (.loop b) = firstR b := rfl
theorem fr_c : firstR (.cond c a b) = firstR a := rfl
end
section
variable {ob : ObF} {x : PV} {w : Option Nat} {cs : List CV} {xs : List PV} {E : Env} {ρ : Operand → AT}
theorem argL_0 {ts : List TypeId} : argL E ρ [] ts = [] := by cases ts <;> rfl
theorem argL_c {m : Nat → AT} {x : Operand} {xs : List Operand} {t : TypeId} {ts : List TypeId} : argL E (evOpd E m) (x :: xs) (t :: ts) = opV E m t x :: argL E (evOpd E m) xs ts := by
  simp only [argL, opT_eq]
theorem argsOf_0 : argsOf ob [] = some [] := rfl
theorem argsOf_1 {r : List AT} : argsOf ob (.one (.p w x) :: r) = (argsOf ob r).map ((false, [x]) :: ·) := by
  simp only [argsOf, argOf, pvC, Option.map_some]
  cases argsOf ob r <;> rfl
theorem argsOf_a {r : List AT} : argsOf ob (.agg cs :: r) = match pvL ob cs with
    | some y => (argsOf ob r).map ((true, y) :: ·)
    | none => none := by
  simp only [argsOf, argOf]
  cases pvL ob cs <;> cases argsOf ob r <;> rfl
def vwA (r : List AT) (ob : ObF) (lo n : Nat) : Option Obj → Option (List Arg)
  | some (.arr _ z rows) => (argsOf ob r).map ((false, [.sl z ((rows.drop lo).take n)]) :: ·)
  | _ => none
theorem argsOf_v {r : List AT} {o lo n : Nat} : argsOf ob (.one (.vw o lo n) :: r) = vwA r ob lo n (ob o) := by
  simp only [argsOf, argOf, pvC, vwA]
  split
  · rename_i h1 h2
    split at h1
    · rename_i h3
      simp only [h3]
      simp at h1
      subst h1
      simp [h2]
    · cases h1
  · rename_i h1
    split
    · rename_i fz z rows h3
      simp only [h3, Option.map_some] at h1
      cases h4 : argsOf ob r with
      | none => rfl
      | some y => exact absurd h4 (h1 _ y rfl)
    · rfl
theorem vwA_a {r : List AT} {lo n z : Nat} {fz : Bool} {rows : List (List PV)} : vwA r ob lo n (some (.arr fz z rows)) = (argsOf ob r).map ((false, [.sl z ((rows.drop lo).take n)]) :: ·) := rfl
theorem argsOf_pt {o off : Nat} {r : List AT} : argsOf ob (.one (.pt o off) :: r) = none := rfl
theorem argsOf_cl {f : FuncId} {cs : List CV} {r : List AT} : argsOf ob (.one (.cl f cs) :: r) = none := rfl
theorem snA_0 : snapArgs ob [] = some [] := rfl
theorem snA_1 {c : CV} {r : List AT} : snapArgs ob (.one c :: r) = (snapC ob c).bind fun y => (snapArgs ob r).map ((false, [y]) :: ·) := by
  simp only [snapArgs, snapOf]
  cases snapC ob c <;> cases snapArgs ob r <;> rfl
theorem snA_a {r : List AT} : snapArgs ob (.agg cs :: r) = (snapL ob cs).bind fun y => (snapArgs ob r).map ((true, y) :: ·) := by
  simp only [snapArgs, snapOf]
  cases snapL ob cs <;> cases snapArgs ob r <;> rfl
theorem snC_p : snapC ob (.p w x) = some x := rfl
def snapP (ob : ObF) (off : Nat) : Option Obj → Option PV
  | some (.var cs) => (pvL ob cs).map fun xs => .ref (xs.drop off)
  | _ => none
theorem snC_pt {o off : Nat} : snapC ob (.pt o off) = snapP ob off (ob o) := by
  simp only [snapC, snapP]
  cases ob o with
  | none => rfl
  | some y => cases y <;> rfl
theorem snapP_v {off : Nat} : snapP ob off (some (.var cs)) = (pvL ob cs).map fun xs => .ref (xs.drop off) := rfl
def snapV (lo n : Nat) : Option Obj → Option PV
  | some (.arr _ z rows) => some (.sl z ((rows.drop lo).take n))
  | _ => none
theorem snC_vw {o lo n : Nat} : snapC ob (.vw o lo n) = snapV lo n (ob o) := by
  simp only [snapC, pvC, snapV]
  cases ob o with
  | none => rfl
  | some y => cases y <;> rfl
theorem snapV_a {lo n z : Nat} {fz : Bool} {rows : List (List PV)} : snapV lo n (some (.arr fz z rows)) = some (.sl z ((rows.drop lo).take n)) := rfl
theorem snC_cl {f : FuncId} : snapC ob (.cl f cs) = (snapL ob cs).map (.fn f) := rfl
theorem snL_0 : snapL ob [] = some [] := rfl
theorem snL_c {c : CV} : snapL ob (c :: cs) = (snapC ob c).bind fun y => (snapL ob cs).map (y :: ·) := by
  simp only [snapL]
  cases snapC ob c <;> cases snapL ob cs <;> rfl
theorem cvAs_0 : cvAs [] = some [] := rfl
theorem cvAs_1 {c : CV} {r : List AT} : cvAs (.one c :: r) = (cvAs r).map ((false, [c]) :: ·) := by
  simp only [cvAs, cvA]
  cases cvAs r <;> rfl
theorem pvL_pt {o off : Nat} : pvL ob (.pt o off :: cs) = none := rfl
theorem pvL_cl {f : FuncId} {ds : List CV} : pvL ob (.cl f ds :: cs) = none := rfl
def vwL (ob : ObF) (cs : List CV) (lo n : Nat) : Option Obj → Option (List PV)
  | some (.arr _ z rows) => (pvL ob cs).map (.sl z ((rows.drop lo).take n) :: ·)
  | _ => none
theorem pvL_vw {o lo n : Nat} : pvL ob (.vw o lo n :: cs) = vwL ob cs lo n (ob o) := by
  simp only [pvL, pvC, vwL]
  cases h : ob o with
  | none => rfl
  | some x =>
    cases x with
    | var ds => rfl
    | mp => rfl
    | arr fz z rows =>
      simp only
      cases pvL ob cs <;> rfl
theorem vwL_a {lo n z : Nat} {fz : Bool} {rows : List (List PV)} : vwL ob cs lo n (some (.arr fz z rows)) = (pvL ob cs).map (.sl z ((rows.drop lo).take n) :: ·) := rfl
theorem looksT_1 {c : CV} : looksT ob (.one c) = looksC ob c := rfl
theorem looksT_a : looksT ob (.agg cs) = looksL ob cs := rfl
theorem looksC_p : looksC ob (.p w x) = [] := rfl
theorem looksC_vw {o lo n : Nat} : looksC ob (.vw o lo n) = [o] := rfl
def looksP (o : Nat) : Option Obj → List Nat
  | some (.var cs) => o :: cs.flatMap seenC
  | _ => [o]
theorem looksC_pt {o off : Nat} : looksC ob (.pt o off) = looksP o (ob o) := by
  simp only [looksC, looksP]
  cases ob o with
  | none => rfl
  | some y => cases y <;> rfl
theorem looksP_v {o : Nat} : looksP o (some (.var cs)) = o :: cs.flatMap seenC := rfl
theorem looksC_cl {f : FuncId} : looksC ob (.cl f cs) = looksL ob cs := rfl
theorem looksL_0 : looksL ob [] = [] := rfl
theorem looksL_c {c : CV} : looksL ob (c :: cs) = looksC ob c ++ looksL ob cs := rfl
theorem atOf_v : atOf (false, [x]) = .one (.p none x) := rfl
theorem atOf_a : atOf (true, xs) = .agg (xs.map (.p none)) := rfl
theorem resAT_1 {r : Arg} : resAT [r] = atOf r := rfl
theorem resAT_0 : resAT [] = .tup [] := rfl
theorem resAT_2 {a b : Arg} {r : List Arg} : resAT (a :: b :: r) = .tup ((a :: b :: r).map cvOf) := rfl
theorem cvOf_v {t : Bool} : cvOf (t, xs) = (t, xs.map (.p none)) := rfl
theorem capArgs_0 : capArgs [] = [] := rfl
theorem capArgs_c {xs : List PV} : capArgs (x :: xs) = (false, [x]) :: capArgs xs := rfl
theorem icy_0 : icy ob [] = [] := rfl
def icyO (o : Nat) : Option Obj → List (Nat × Obj)
  | some (.arr _ z rows) => [(o, .arr true z rows)]
  | _ => []
theorem icy_c {o : Nat} {os : List Nat} : icy ob (o :: os) = icyO o (ob o) ++ icy ob os := by
  unfold icy
  rw [List.filterMap_cons]
  cases h : ob o with
  | none => rfl
  | some x => cases x <;> rfl
theorem icyO_a {o z : Nat} {fz : Bool} {rows : List (List PV)} : icyO o (some (.arr fz z rows)) = [(o, .arr true z rows)] := rfl
theorem flat_s {v : Value} : flatP (.sc v) = true := rfl
theorem flat_l {z : Nat} {l : List (List PV)} : flatP (.sl z l) = false := rfl
theorem flatArg_e {t : Bool} : flatArg (t, xs) = xs.all flatP := rfl
theorem initTm_0 : initTm [] n = fun _ => .no := rfl
theorem initTm_c {a : AT} {r : List AT} : initTm (a :: r) n = upd (initTm r (n + 1)) n a := rfl
theorem retQ_e {rv : List ResultVar} {rs : List Arg} {o : Out} : RetQ C rv rs o s = (outRet o = true ∧ (backAll 0 s.ob (rv.map (resAT1 C.E s))).bind (argsOf noOb) = some rs) := rfl
theorem outRet_r : outRet .ret = true := rfl
theorem outRet_f : outRet .fall = true := rfl
theorem backAll_0 : backAll 0 ob [] = some [] := rfl
theorem backAll_c {x : AT} {r : List AT} : backAll 0 ob (x :: r) = match backT 0 ob x with
  | some y => (backAll 0 ob r).map (y :: ·)
  | none => none := by
  simp only [backAll]
  cases backT 0 ob x <;> cases backAll 0 ob r <;> rfl
theorem backT_p : backT 0 ob (.one (.p w x)) = some (.one (.p w x)) := rfl
theorem backT_a : backT 0 ob (.agg cs) = (backL 0 ob cs).map .agg := rfl
def backV (lo n : Nat) : Option Obj → Option AT
  | some (.arr _ z rows) => some (.one (.p none (.sl z ((rows.drop lo).take n))))
  | _ => none
theorem backT_v {o lo n : Nat} : backT 0 ob (.one (.vw o lo n)) = backV lo n (ob o) := by
  simp only [backT, backC, backV, Nat.not_lt_zero, if_false, pvC]
  cases h : ob o with
  | none => rfl
  | some x => cases x <;> rfl
theorem backV_a {lo n z : Nat} {fz : Bool} {rows : List (List PV)} : backV lo n (some (.arr fz z rows)) = some (.one (.p none (.sl z ((rows.drop lo).take n)))) := rfl
theorem backL_0 : backL 0 ob [] = some [] := rfl
theorem backL_c : backL 0 ob (.p w x :: cs) = (backL 0 ob cs).map (.p w x :: ·) := by
  simp only [backL, backC]
  cases backL 0 ob cs <;> rfl
theorem rv_t {t : Nat} : resAT1 E s (.tmp t) = s.tm t := rfl
def rvC (ti : Option TI) (x : AT) (ob : ObF) : AT := match x, ti with
    | .one (.pt o off), some ti => match ob o with
      | some (.var cs) => (partOf cs off ti.sz ti.agg).getD .no
      | _ => .no
    | _, _ => .no
theorem rv_c {a : Nat} {t : TypeId} : resAT1 E s (.cell a t) = rvC (E.T t) (s.tm a) s.ob := rfl
theorem rvC_e {ti : TI} {o off : Nat} : rvC (some ti) (.one (.pt o off)) ob = match ob o with
      | some (.var cs) => (partOf cs off ti.sz ti.agg).getD .no
      | _ => .no := rfl
theorem splice_e {α : Type} {l cs : List α} {off : Nat} : splice l off cs = l.take off ++ cs ++ l.drop (off + cs.length) := rfl
end
def mmU (P : Program) (m : Value → Value → Sem Value) (a b : AT) : Option Upd := match valOf a, valOf b with
  | some v, some w => vU (tryP P (m v w))
  | _, _ => none
section
variable {d : Option Nat} {t u v : TypeId} {pos : String} {after : Array Edge} {g : Option (Nat × Bool)} {x y : Operand}
theorem gen_min : evGen C.E (evOpd C.E s.tm) ⟨d, .call { callee := .builtin .min, args := [x, y].toArray, argTypes := [u, v].toArray }, t, pos, after, g⟩ = mmU C.E.P Builtin.min2 (evOpd C.E s.tm x) (evOpd C.E s.tm y) := by
  unfold mmU
  cases hx : valOf (evOpd C.E s.tm x) with
  | none => exact gen_none (by simp [Op.operands, Call.operands, hx])
  | some a =>
    cases hy : valOf (evOpd C.E s.tm y) with
    | none => exact gen_none (by simp [Op.operands, Call.operands, hx, hy])
    | some b =>
      have e := gen_val (C := C) (s := s) (o := ⟨d, .call { callee := .builtin .min, args := [x, y].toArray, argTypes := [u, v].toArray }, t, pos, after, g⟩) (m := [b].foldlM Builtin.min2 a) (by
        simp [execOp, resolve, invoke, builtin, Builtin.min_, hx, hy]) (by simp [Op.operands, Call.operands, hx, hy])
      rw [e]
      simp only [List.foldlM_cons, List.foldlM_nil, bind_pure]
theorem gen_max : evGen C.E (evOpd C.E s.tm) ⟨d, .call { callee := .builtin .max, args := [x, y].toArray, argTypes := [u, v].toArray }, t, pos, after, g⟩ = mmU C.E.P Builtin.max2 (evOpd C.E s.tm x) (evOpd C.E s.tm y) := by
  unfold mmU
  cases hx : valOf (evOpd C.E s.tm x) with
  | none => exact gen_none (by simp [Op.operands, Call.operands, hx])
  | some a =>
    cases hy : valOf (evOpd C.E s.tm y) with
    | none => exact gen_none (by simp [Op.operands, Call.operands, hx, hy])
    | some b =>
      have e := gen_val (C := C) (s := s) (o := ⟨d, .call { callee := .builtin .max, args := [x, y].toArray, argTypes := [u, v].toArray }, t, pos, after, g⟩) (m := [b].foldlM Builtin.max2 a) (by
        simp [execOp, resolve, invoke, builtin, Builtin.max_, hx, hy]) (by simp [Op.operands, Call.operands, hx, hy])
      rw [e]
      simp only [List.foldlM_cons, List.foldlM_nil, bind_pure]
theorem so_min : StepO C F k Q id draw ops l s us ⟨d, .call { callee := .builtin .min, args := [x, y].toArray, argTypes := [u, v].toArray }, t, pos, after, g⟩ = StepU C F k Q id draw ops l s us d (mmU C.E.P Builtin.min2 (evOpd C.E s.tm x) (evOpd C.E s.tm y)) :=
  stepO_of fun _ => gen_min
theorem so_max : StepO C F k Q id draw ops l s us ⟨d, .call { callee := .builtin .max, args := [x, y].toArray, argTypes := [u, v].toArray }, t, pos, after, g⟩ = StepU C F k Q id draw ops l s us d (mmU C.E.P Builtin.max2 (evOpd C.E s.tm x) (evOpd C.E s.tm y)) :=
  stepO_of fun _ => gen_max
theorem mm_min {P : Program} {w1 w2 : Option Nat} {kd : IntKind} {m n : Int} : mmU P Builtin.min2 (.one (.p w1 (.sc (.int kd m)))) (.one (.p w2 (.sc (.int kd n)))) = some { val := .one (.p none (.sc (.int kd (min m n)))) } := by
  have : (if n < m then n else m) = min m n := by split <;> omega
  rw [← this]
  rfl
theorem mm_max {P : Program} {w1 w2 : Option Nat} {kd : IntKind} {m n : Int} : mmU P Builtin.max2 (.one (.p w1 (.sc (.int kd m)))) (.one (.p w2 (.sc (.int kd n)))) = some { val := .one (.p none (.sc (.int kd (max m n)))) } := by
  have : (if n > m then n else m) = max m n := by split <;> omega
  rw [← this]
  rfl
end
theorem beq_t {b : Bool} : (b == true) = b := by cases b <;> rfl
theorem beq_f {b : Bool} : (b == false) = !b := by cases b <;> rfl
theorem tryP_under {P : Program} {t : TypeId} {d : TypeDesc} (h : P.underlying t = some d) : tryP P (underlying t) = some d := by
  unfold underlying
  show tryP P (match P.underlying t with
    | some d => pure d
    | none => _) = some d
  rw [h]
  rfl
theorem cv_int {P : Program} {u v : TypeId} {du : TypeDesc} {kd kk : IntKind} {m : Int} {w : Option Nat} (h1 : P.underlying u = some du) (h2 : P.underlying v = some (.int kk)) :
    cv1 P u v (.one (.p w (.sc (.int kd m)))) = some { val := .one (.p none (.sc (.int kk (kk.wrap m)))) } := by
  have : tryP P (convert u v (.int kd m)) = some (.int kk (kk.wrap m)) := by
    unfold convert
    simp only [tryP_bind, tryP_under h1, tryP_under h2, Option.bind_some]
    rfl
  unfold cv1
  simp only [valOf, scC, this]
  rfl
theorem noOb_eq {o : Nat} : noOb o = none := rfl
theorem tk_map {α β : Type} {f : α → β} {l : List α} : (l.map f).take l.length = l.map f := List.take_of_length_le (Nat.le_of_eq (List.length_map f))
def nilC (t : Option TI) (r : Bool) (n : Nat) : Option Upd := match t with
  | some ti => if ti.kd = 3 ∧ 0 < n then some { val := .one (.p none (.sc (.bool r))) } else none
  | none => none
theorem nilC_eq {ti : TI} {r : Bool} {n : Nat} : nilC (some ti) r n = if ti.kd = 3 ∧ 0 < n then some { val := .one (.p none (.sc (.bool r))) } else none := rfl
theorem b_nilE {E : Env} {u : TypeId} {x : Operand} {w : Option Nat} {z : Nat} {l : List (List PV)} {b : AT} : bin2 E.P .eql u x (.const (.slice none 0 0)) (.one (.p w (.sl z l))) b = nilC (E.T u) false l.length := by
  show nilB E.P .eql u (.const (.slice none 0 0)) (.one (.p w (.sl z l))) = nilC (tiOf E.P u) false l.length
  unfold nilB nilC
  cases tiOf E.P u with
  | none => rfl
  | some ti => simp [isNilS, filled]
theorem b_nilN {E : Env} {u : TypeId} {x : Operand} {w : Option Nat} {z : Nat} {l : List (List PV)} {b : AT} : bin2 E.P .neq u x (.const (.slice none 0 0)) (.one (.p w (.sl z l))) b = nilC (E.T u) true l.length := by
  show nilB E.P .neq u (.const (.slice none 0 0)) (.one (.p w (.sl z l))) = nilC (tiOf E.P u) true l.length
  unfold nilB nilC
  cases tiOf E.P u with
  | none => rfl
  | some ti => simp [isNilS, filled]
theorem isZ_int {k : IntKind} {n : Int} : isZero (.const (.int k n)) = decide (n = 0) := by
  unfold isZero
  split
  · rename_i h; cases h; rfl
  · rename_i h
    exact (decide_eq_false fun e => h k (by rw [e])).symm
theorem isZ_tmp {d : Nat} : isZero (.tmp d) = false := rfl
theorem pair_beq {a b c d : Nat} : ((a, b) == (c, d)) = ((a == c) && (b == d)) := rfl
theorem nat_lt {i : Int} {n : Nat} (h : 0 ≤ i) (q : i < (n : Int)) : i.toNat < n := by omega
theorem loud_0 {n : Nat} : loud n [] = [] := rfl
theorem loud_c {n : Nat} {u : Upd} {us : List Upd} : loud n (u :: us) = if u.quiet = true then loud (n + 1) us else (n, u) :: loud (n + 1) us := rfl
theorem quiet_e {u : Upd} : u.quiet = (u.ow.isEmpty && u.rd.isEmpty && !u.nl && u.all.isNone) := rfl
theorem apart2_0 {q : List (Nat × Nat)} : apart2 q [] = true := rfl
theorem apart2_c {q : List (Nat × Nat)} {p : Nat × Upd} {r : List (Nat × Upd)} : apart2 q (p :: r) = ((r.all fun x => !(q.contains (p.1, x.1)) || p.2.apart x.2) && apart2 q r) := rfl
theorem apart_e {a b : Upd} : a.apart b = (if (a.all.isSome || b.all.isSome) = true then (a.quiet || b.quiet) else
  (a.ow.all fun p => !(b.rd.contains p.1) && !(b.ow.any fun q => q.1 == p.1)) && (b.ow.all fun p => !(a.rd.contains p.1)) && !(a.nl && b.nl)) := rfl
theorem lessAll_0 {n : Nat} : lessAll n [] = true := rfl
theorem lessAll_c {n i j : Nat} {q : List (Nat × Nat)} : lessAll n ((i, j) :: q) = (decide (i < j) && decide (j < n) && lessAll n q) := rfl
theorem isN_n {α : Type} : (none : Option α).isNone = true := rfl
theorem isN_s {α : Type} {a : α} : (some a).isNone = false := rfl
theorem isE_n {α : Type} : ([] : List α).isEmpty = true := rfl
theorem isE_c {α : Type} {a : α} {l : List α} : (a :: l).isEmpty = false := rfl
theorem any_0 {α : Type} {f : α → Bool} : ([] : List α).any f = false := rfl
theorem any_c {α : Type} {f : α → Bool} {a : α} {l : List α} : (a :: l).any f = (f a || l.any f) := rfl
theorem get_of {α : Type} {l : List α} {i : Nat} (z : α) (h : i < l.length) : l[i]? = some (l.getD i z) := by
  rw [List.getElem?_eq_getElem h, List.getD_eq_getElem?_getD, List.getElem?_eq_getElem h]; rfl
theorem noRt_eq {o : Nat} : noRt o = false := rfl
theorem ple_i {a : Int} : (a ≤ a) = True := by simp
theorem ple_n {a : Nat} : (a ≤ a) = True := by simp
def cvK (P : Program) (u v : TypeId) (kd : IntKind) (m : Int) : Option TypeDesc → Option TypeDesc → Option Upd
  | some _, some (.int kk) => some { val := .one (.p none (.sc (.int kk (kk.wrap m)))) }
  | _, _ => vU (tryP P (convert u v (.int kd m)))
theorem cv_i {P : Program} {u v : TypeId} {kd : IntKind} {m : Int} {w : Option Nat} : cv1 P u v (.one (.p w (.sc (.int kd m)))) = cvK P u v kd m (P.underlying u) (P.underlying v) := by
  unfold cvK
  split
  · rename_i h1 h2
    exact cv_int h1 h2
  · rfl
theorem cvK_i {P : Program} {u v : TypeId} {kd kk : IntKind} {m : Int} {du : TypeDesc} : cvK P u v kd m (some du) (some (.int kk)) = some { val := .one (.p none (.sc (.int kk (kk.wrap m)))) } := rfl
end
section
variable {P : Program} {w1 w2 : Option Nat} {a b : ByteArray} {u v : TypeId} {x y : Operand}
theorem b_eqlS : bin2 P .eql u x y (.one (.p w1 (.sc (.string a)))) (.one (.p w2 (.sc (.string b)))) = some { val := .one (.p none (.sc (.bool (a.toList == b.toList)))) } := rfl
theorem b_neqS : bin2 P .neq u x y (.one (.p w1 (.sc (.string a)))) (.one (.p w2 (.sc (.string b)))) = some { val := .one (.p none (.sc (.bool (!(a.toList == b.toList))))) } := rfl
theorem b_lssS : bin2 P .lss u x y (.one (.p w1 (.sc (.string a)))) (.one (.p w2 (.sc (.string b)))) = some { val := .one (.p none (.sc (.bool (Op.bytesLess a.toList b.toList)))) } := rfl
theorem b_addS (h : a.size + b.size ≤ 9223372036854775807) : bin2 P .add u x y (.one (.p w1 (.sc (.string a)))) (.one (.p w2 (.sc (.string b)))) = some { val := .one (.p none (.sc (.string (a ++ b)))) } := by
  have : ¬ ((a.size + b.size : Nat) : Int) > IntKind.i64.max := by
    have : IntKind.i64.max = 9223372036854775807 := rfl
    omega
  have e : Op.stringOp .add a b = pure (.string (a ++ b)) := by
    unfold Op.stringOp
    simp only [if_neg this]
  show vU (tryP P (Op.stringOp .add a b)) = _
  rw [e]
  rfl
end
def lenG (P : Program) (u t : TypeId) (a : AT) : Option Upd := match valOf a with
  | some v => vU (tryP P (Builtin.len_ #[u] t #[v]))
  | none => none
section
variable {C : Cx} {F : Fr} {k : List It} {Q : Post} {id : Nat} {draw : Bool} {ops : Array Oper} {l : List Oper} {s : St} {us : List Upd}
variable {d : Option Nat} {t u v : TypeId} {pos : String} {after : Array Edge} {g : Option (Nat × Bool)} {x y : Operand}
theorem gen_len : evGen C.E (evOpd C.E s.tm) ⟨d, .call { callee := .builtin .len, args := [x].toArray, argTypes := [u].toArray }, t, pos, after, g⟩ = lenG C.E.P u t (evOpd C.E s.tm x) := by
  unfold lenG
  cases hx : valOf (evOpd C.E s.tm x) with
  | none => exact gen_none (by simp [Op.operands, Call.operands, hx])
  | some a =>
    exact gen_val (C := C) (s := s) (o := ⟨d, .call { callee := .builtin .len, args := [x].toArray, argTypes := [u].toArray }, t, pos, after, g⟩) (m := Builtin.len_ #[u] t #[a]) (by
        simp [execOp, resolve, invoke, builtin, hx]) (by simp [Op.operands, Call.operands, hx])
theorem stepL_none : StepL C F k Q id draw ops l s us d none ⟨d, .call { callee := .builtin .len, args := [x].toArray, argTypes := [u].toArray }, t, pos, after, g⟩ = StepU C F k Q id draw ops l s us d (lenG C.E.P u t (evOpd C.E s.tm x)) := by
  unfold StepL
  rw [gen_len]
end
def lenS (P : Program) (u t : TypeId) (b : ByteArray) : Option TypeDesc → Option Upd
  | some .string => some { val := .one (.p none (.sc (.int .i64 b.size))) }
  | _ => lenG P u t (.one (.p none (.sc (.string b))))
theorem lenG_s {P : Program} {u t : TypeId} {b : ByteArray} {w : Option Nat} : lenG P u t (.one (.p w (.sc (.string b)))) = lenS P u t b (P.underlying u) := by
  unfold lenS
  split
  · rename_i hu
    have e : tryP P (Builtin.len_ #[u] t #[.string b]) = some (.int .i64 b.size) := by
      unfold Builtin.len_
      simp [tryP_bind, tryP_under hu]
      rfl
    unfold lenG
    simp only [valOf, scC, e]
    rfl
  · rfl
theorem lenS_s {P : Program} {u t : TypeId} {b : ByteArray} : lenS P u t b (some .string) = some { val := .one (.p none (.sc (.int .i64 b.size))) } := rfl
section
variable {P : Program} {w1 w2 : Option Nat} {a b : Bool} {u v : TypeId} {x y : Operand} {kd k2 : IntKind} {m n : Int}
theorem b_shl (h : ¬ n < 0) : bin2 P .shl u x y (.one (.p w1 (.sc (.int kd m)))) (.one (.p w2 (.sc (.int k2 n)))) = some { val := .one (.p none (.sc (.int kd (kd.wrap (m * 2 ^ min n.toNat kd.bits))))) } := by
  have e : tryP P (do eqGuard .shl u x y (.int kd m) (.int k2 n); binOp .shl u (.int kd m) (.int k2 n)) = some (.int kd (kd.wrap (m * 2 ^ min n.toNat kd.bits))) := by
    cases kd <;> simp [binOp, eqGuard, Op.shift, h] <;> rfl
  show vU (tryP P (do eqGuard .shl u x y (.int kd m) (.int k2 n); binOp .shl u (.int kd m) (.int k2 n))) = _
  rw [e]
  rfl
theorem b_shr (h : ¬ n < 0) : bin2 P .shr u x y (.one (.p w1 (.sc (.int kd m)))) (.one (.p w2 (.sc (.int k2 n)))) = some { val := .one (.p none (.sc (.int kd (Int.fdiv m (2 ^ min n.toNat kd.bits))))) } := by
  have e : tryP P (do eqGuard .shr u x y (.int kd m) (.int k2 n); binOp .shr u (.int kd m) (.int k2 n)) = some (.int kd (Int.fdiv m (2 ^ min n.toNat kd.bits))) := by
    cases kd <;> simp [binOp, eqGuard, Op.shift, h] <;> rfl
  show vU (tryP P (do eqGuard .shr u x y (.int kd m) (.int k2 n); binOp .shr u (.int kd m) (.int k2 n))) = _
  rw [e]
  rfl
def eqB (P : Program) (u : TypeId) (x y : Operand) (r : Bool) (a b : Bool) : Option TypeDesc → Option Upd
  | some .bool => some { val := .one (.p none (.sc (.bool (if r then !(a == b) else a == b)))) }
  | _ => if r then vU (tryP P (do eqGuard .neq u x y (.bool a) (.bool b); binOp .neq u (.bool a) (.bool b))) else vU (tryP P (do eqGuard .eql u x y (.bool a) (.bool b); binOp .eql u (.bool a) (.bool b)))
theorem equal_b (hu : P.underlying u = some .bool) : tryP P (Op.equal u (.bool a) (.bool b)) = some (a == b) := by
  unfold Op.equal Op.maxDepth
  unfold Op.equalIn
  simp [tryP_bind, tryP_under hu]
  rfl
theorem b_eqlB : bin2 P .eql u x y (.one (.p w1 (.sc (.bool a)))) (.one (.p w2 (.sc (.bool b)))) = eqB P u x y false a b (P.underlying u) := by
  unfold eqB
  split
  · rename_i hu
    have e : tryP P (do eqGuard .eql u x y (.bool a) (.bool b); binOp .eql u (.bool a) (.bool b)) = some (.bool (a == b)) := by
      simp only [binOp, eqGuard]
      simp
      rw [← bind_pure_comp, tryP_bind, equal_b hu]
      rfl
    show vU (tryP P (do eqGuard .eql u x y (.bool a) (.bool b); binOp .eql u (.bool a) (.bool b))) = _
    rw [e]
    rfl
  · rfl
theorem b_neqB : bin2 P .neq u x y (.one (.p w1 (.sc (.bool a)))) (.one (.p w2 (.sc (.bool b)))) = eqB P u x y true a b (P.underlying u) := by
  unfold eqB
  split
  · rename_i hu
    have e : tryP P (do eqGuard .neq u x y (.bool a) (.bool b); binOp .neq u (.bool a) (.bool b)) = some (.bool (!(a == b))) := by
      simp only [binOp, eqGuard]
      simp
      rw [← bind_pure_comp, tryP_bind, equal_b hu]
      rfl
    show vU (tryP P (do eqGuard .neq u x y (.bool a) (.bool b); binOp .neq u (.bool a) (.bool b))) = _
    rw [e]
    rfl
  · rfl
theorem eqB_e {x y : Operand} : eqB P u x y false a b (some .bool) = some { val := .one (.p none (.sc (.bool (a == b)))) } := rfl
theorem eqB_n {x y : Operand} : eqB P u x y true a b (some .bool) = some { val := .one (.p none (.sc (.bool (!(a == b))))) } := rfl
end
theorem rep1 {α : Type} {a : α} : List.replicate 1 a = [a] := rfl
theorem rep2 {α : Type} {a : α} : List.replicate 2 a = [a, a] := rfl
theorem rep3 {α : Type} {a : α} : List.replicate 3 a = [a, a, a] := rfl
theorem rep4 {α : Type} {a : α} : List.replicate 4 a = [a, a, a, a] := rfl
end Go.Proofs.YtjhljcnjafbkfaaDoor.X
end
section
set_option linter.unusedVariables false
set_option linter.unusedSimpArgs false
namespace Go.Proofs.YtjhljcnjafbkfaaDoor.X
open Go.RowKit
section
variable {C : Cx} {F : Fr} {k : List It} {Q : Post} {id : Nat} {draw : Bool} {ops : Array Oper} {l : List Oper} {us : List Upd} {d : Option Nat} {ob ob' : ObF} {rt rt' : RtF} {nx nx' n m o q i p sh off lo : Nat} {x : PV} {cs : List CV} {c : CV} {f : Nat → Nat} {os tg : List Nat} {tm : Nat → AT} {r : AT} {rs : List AT} {t : TypeId} {u v : TypeId} {pos : String} {after : Array Edge} {g : Option (Nat × Bool)} {y : Operand} {s : St}
theorem range_0 : List.range 0 = [] := rfl
theorem range_1 : List.range 1 = [0] := rfl
theorem range_2 : List.range 2 = [0, 1] := rfl
theorem range_3 : List.range 3 = [0, 1, 2] := rfl
theorem range_4 : List.range 4 = [0, 1, 2, 3] := rfl
theorem range_5 : List.range 5 = [0, 1, 2, 3, 4] := rfl
theorem range_6 : List.range 6 = [0, 1, 2, 3, 4, 5] := rfl
theorem range_7 : List.range 7 = [0, 1, 2, 3, 4, 5, 6] := rfl
theorem range_8 : List.range 8 = [0, 1, 2, 3, 4, 5, 6, 7] := rfl
theorem range_9 : List.range 9 = [0, 1, 2, 3, 4, 5, 6, 7, 8] := rfl
theorem noDup_0 : noDup [] = true := rfl
theorem noDup_c {l : List Nat} : noDup (o :: l) = (!(l.contains o) && noDup l) := rfl
theorem posIn_c {l : List Nat} : posIn (q :: l) o = if o = q then 0 else posIn l o + 1 := rfl
theorem renC_p : renC f sh (.p none x) = .p none x := rfl
theorem renC_n : renC f sh (.p (some n) x) = .p (some (if n = 0 then 0 else n + sh)) x := rfl
theorem renC_pt : renC f sh (.pt o off) = .pt (f o) off := rfl
theorem renC_pr {r : Nat} : renC f sh (.pr o r off) = .pr (f o) r off := rfl
theorem renC_vw : renC f sh (.vw o lo n) = .vw (f o) lo n := rfl
theorem renC_cl {g : FuncId} : renC f sh (.cl g cs) = .cl g (renL f sh cs) := rfl
theorem renL_0 : renL f sh [] = [] := rfl
theorem renL_c : renL f sh (c :: cs) = renC f sh c :: renL f sh cs := rfl
theorem renT_1 : renT f sh (.one c) = .one (renC f sh c) := rfl
theorem renT_a : renT f sh (.agg cs) = .agg (renL f sh cs) := rfl
theorem renT_n : renT f sh .no = .no := rfl
theorem renO_v : renO f sh (.var cs) = .var (renL f sh cs) := rfl
theorem renO_a {fz : Bool} {z : Nat} {rows : List (List PV)} : renO f sh (.arr fz z rows) = .arr fz z rows := rfl
theorem rtsC_p : rtsC (.p none x) = [] := rfl
theorem rtsC_n : rtsC (.p (some n) x) = [n] := rfl
theorem rtsC_pt : rtsC (.pt o off) = [] := rfl
theorem rtsC_pr {r : Nat} : rtsC (.pr o r off) = [] := rfl
theorem rtsC_vw : rtsC (.vw o lo n) = [] := rfl
theorem rtsC_cl {g : FuncId} : rtsC (.cl g cs) = [] := rfl
theorem rtsT_1 : rtsT (.one c) = rtsC c := rfl
theorem rtsT_a : rtsT (.agg cs) = cs.flatMap rtsC := rfl
theorem rtsT_n : rtsT .no = [] := rfl
theorem rtsO_v : rtsO (some (.var cs)) = cs.flatMap rtsC := rfl
theorem rtsO_a {fz : Bool} {z : Nat} {rows : List (List PV)} : rtsO (some (.arr fz z rows)) = [] := rfl
theorem rtsO_n : rtsO none = [] := rfl
def inS (f : Nat → Nat) (i : Nat) (r : ObF) : Option Obj → ObF
  | some x => upd r i (some (renO f 0 x))
  | none => r
theorem inO_0 : inO ob f [] i = noOb := rfl
theorem inO_c : inO ob f (o :: os) i = inS f i (inO ob f os (i + 1)) (ob o) := by
  simp only [inO, inS]
  cases ob o <;> rfl
theorem inS_s {r : ObF} {x : Obj} : inS f i r (some x) = upd r i (some (renO f 0 x)) := rfl
theorem inS_n {r : ObF} : inS f i r none = r := rfl
theorem takeO_e : takeO ob os = inO ob (posIn os) os 0 := rfl
def bkS (f : Nat → Nat) (sh q : Nat) (r : List (Nat × Obj)) : Option Obj → List (Nat × Obj)
  | some x => (q, renO f sh x) :: r
  | none => r
theorem backO_0 : backO ob' f sh [] p = [] := rfl
theorem backO_c : backO ob' f sh (q :: tg) p = bkS f sh q (backO ob' f sh tg (p + 1)) (ob' p) := by
  simp only [backO, bkS]
  cases ob' p <;> rfl
theorem bkS_s {r : List (Nat × Obj)} {x : Obj} : bkS f sh q r (some x) = (q, renO f sh x) :: r := rfl
theorem bkS_n {r : List (Nat × Obj)} : bkS f sh q r none = r := rfl
theorem pvC_p' {w : Option Nat} : pvC ob (.p w x) = some x := rfl
theorem pvC_vw' : pvC ob (.vw o lo n) = snapV lo n (ob o) := by
  simp only [pvC, snapV]
  cases ob o with
  | none => rfl
  | some y => cases y <;> rfl
theorem seeO_e {xs : List AT} {vis : List Nat} : seeO ob xs vis = (reach ob 2 (addS (xs.flatMap refsT) vis)).filter fun o => (ob o).isSome := rfl
theorem resAll_1 : resAll [r] = some r := rfl
theorem resAll_0 : resAll [] = some (.tup []) := rfl
theorem resAll_2 {r' : AT} : resAll (r :: r' :: rs) = (cvAs (r :: r' :: rs)).map .tup := rfl
theorem cvAs_a : cvAs (.agg cs :: rs) = (cvAs rs).map ((true, cs) :: ·) := by
  simp only [cvAs, cvA]
  cases cvAs rs <;> rfl
def rtM (rt : RtF) (used : List Nat) (nx : Nat) (rt' : RtF) : RtF := fun n => if n < nx then rt n && !(used.contains n) else !(n == nx) && rt' (n - nx)
theorem rtM_at {used : List Nat} : rtM rt used nx rt' n = if n < nx then rt n && !(used.contains n) else !(n == nx) && rt' (n - nx) := rfl
theorem rtH_M {a : Nat} (h : a ≤ nx) : rtH (rtM rt [] nx rt') a m = rtH rt a m := by
  funext n
  unfold rtH rtM
  by_cases h1 : n < a
  · have : n < nx := by omega
    simp [h1, this]
  · simp [h1]
theorem rtH_H {a m' : Nat} : rtH (rtH rt a m) a m' = rtH rt a m' := by
  funext n
  unfold rtH
  by_cases h1 : n < a
  · by_cases h0 : n = 0
    · simp [h1, h0]
    · simp [h1, h0]
  · simp [h1]
theorem rtH_P {a : Nat} (ha : 0 < a) (h : a ≤ m) : rtH (rtP a) a m = rtP m := by
  funext n
  unfold rtH rtP
  by_cases h1 : n < a
  · have : n < m := by omega
    by_cases h0 : n = 0
    · simp [h0, ha]
    · simp [h1, h0, this]
  · by_cases h0 : n = 0
    · subst h0; omega
    · simp [h1, h0]
theorem rtH_P2 {a k : Nat} (ha : 0 < a) (h : a ≤ m) (hk : a ≤ k) : rtH (rtP k) a m = rtP m := by
  funext n
  unfold rtH rtP
  by_cases h1 : n < a
  · have h2 : n < m := by omega
    have h3 : n < k := by omega
    by_cases h0 : n = 0
    · simp [h0, ha]
    · simp [h1, h0, h2, h3]
  · by_cases h0 : n = 0
    · subst h0; omega
    · simp [h1, h0]
theorem rtH_u {a : Nat} {b : Bool} (h : a ≤ n) : rtH (upd rt n b) a m = rtH rt a m := by
  funext j
  unfold rtH
  by_cases h1 : j < a
  · rw [upd_ne _ _ (show j ≠ n by omega)]
  · simp [h1]
def mvN (base d : Nat) (rt : RtF) (used : List Nat) (nx : Nat) (tg : List Nat) (r : Option AT) (L : List (Nat × Obj)) (ob : ObF) (rt' : RtF) (nx' : Nat) (ok : Bool) : Option Upd :=
  if ok = true then r.map fun r => { val := r, rd := tg, all := some (L.foldl (fun f p => upd f p.1 (some p.2)) ob, rtM rt used nx rt', nx + nx') } else none
theorem mvEnd_e {base d : Nat} {used : List Nat} : mvEnd base d nx os ob rt used rs ob' rt' nx' =
    mvN base d rt used nx (os ++ [base + d, base + d + 4096, base + d + 8192, base + d + 12288]) (resAll (rs.map (renT (fun p => (os ++ [base + d, base + d + 4096, base + d + 8192, base + d + 12288]).getD p 0) nx)))
      (backO ob' (fun p => (os ++ [base + d, base + d + 4096, base + d + 8192, base + d + 12288]).getD p 0) nx (os ++ [base + d, base + d + 4096, base + d + 8192, base + d + 12288]) 0) ob rt' nx'
      ((ob (base + d)).isNone && ((ob (base + d + 4096)).isNone && ((ob (base + d + 8192)).isNone && (ob (base + d + 12288)).isNone))) := by
  have : ([base + d, base + d + 4096, base + d + 8192, base + d + 12288].all fun q => (ob q).isNone) = ((ob (base + d)).isNone && ((ob (base + d + 4096)).isNone && ((ob (base + d + 8192)).isNone && (ob (base + d + 12288)).isNone))) := by
    simp only [List.all_cons, List.all_nil, Bool.and_true]
  unfold mvEnd mvN
  simp only [this]
  rfl
theorem mvN_t {base d : Nat} {used tg : List Nat} {L : List (Nat × Obj)} : mvN base d rt used nx tg (some r) L ob rt' nx' true = some { val := r, rd := tg, all := some (L.foldl (fun f p => upd f p.1 (some p.2)) ob, rtM rt used nx rt', nx + nx') } := rfl
@[congr] theorem mvN_congr {base d : Nat} {used used' tg : List Nat} {nx2 nx3 : Nat} {r r' : Option AT} {L L' : List (Nat × Obj)} {ok ok' : Bool} (hu : used = used') (hr : r = r') (hL : L = L') (hk : ok = ok') (h2 : nx = nx2) (h3 : nx' = nx3) :
    mvN base d rt used nx tg r L ob rt' nx' ok = mvN base d rt used' nx2 tg r' L' ob rt' nx3 ok' := by rw [hu, hr, hL, hk, h2, h3]
theorem ap_all {d : Nat} {r : AT} {rd : List Nat} {ob0 : ObF} {rt0 : RtF} {nx0 : Nat} : apU (some d) { val := r, rd := rd, all := some (ob', rt', nx') } ⟨tm, ob0, rt0, nx0⟩ = ⟨upd tm d r, ob', rt', nx'⟩ := rfl
theorem ap_all0 {r : AT} {rd : List Nat} {ob0 : ObF} {rt0 : RtF} {nx0 : Nat} : apU none { val := r, rd := rd, all := some (ob', rt', nx') } ⟨tm, ob0, rt0, nx0⟩ = ⟨tm, ob', rt', nx'⟩ := rfl
theorem touch_range {base : Nat} {u : Upd} : touchOk base (List.range base) u = true := by
  unfold touchOk
  have h : ∀ q, (decide (base ≤ q) || (List.range base).contains q) = true := fun q => by
    simp
    omega
  simp only [Bool.and_eq_true, List.all_eq_true, Bool.or_eq_true]
  exact ⟨fun p _ => by simpa using h p.1, .inr fun q _ => by simpa using h q⟩
theorem touch_m0 {u : Upd} : touchOk 0 [] u = true := touch_range (base := 0)
theorem touch_m1 {u : Upd} : touchOk 1 [0] u = true := touch_range (base := 1)
theorem touch_m2 {u : Upd} : touchOk 2 [0, 1] u = true := touch_range (base := 2)
theorem touch_m3 {u : Upd} : touchOk 3 [0, 1, 2] u = true := touch_range (base := 3)
theorem touch_m4 {u : Upd} : touchOk 4 [0, 1, 2, 3] u = true := touch_range (base := 4)
theorem isAT_1 : isAT (.one c) = true := rfl
theorem isAT_a : isAT (.agg cs) = true := rfl
theorem isAT_n : isAT .no = false := rfl
def lvL (n base : Nat) (ok : Bool) (L : List Nat) (tm : Nat → AT) (ob : ObF) (rt : RtF) (nx : Nat) : Option (List AT × ObF × RtF × Nat) :=
  if noDup L = true ∧ L.length ≤ base + 4 ∧ ok = true then some ((List.range n).map fun i => renT (posIn L) 0 (tm i), takeO ob L, rt, nx) else none
def lvH (n base : Nat) (ok : Bool) (see : List Nat) : Option St → Option (List AT × ObF × RtF × Nat)
  | some ⟨tm, ob, rt, nx⟩ => lvL n base ok (List.range base ++ (see.filter fun o => decide (base ≤ o)).reverse) tm ob rt nx
  | none => none
theorem leave_e {base : Nat} : leave base nx ⟨tm, ob, rt, nx'⟩ rs = lvH rs.length base (rs.all isAT) (seeO ob (rs.map (coldT ob)) (List.range base)) (head base nx (List.range base) (List.range rs.length) ⟨initTm rs 0, ob, rt, nx'⟩) := by
  unfold leave
  simp only
  cases head base nx (List.range base) (List.range rs.length) ⟨initTm rs 0, ob, rt, nx'⟩ with
  | none => rfl
  | some s1 => rfl
theorem lvH_s {base : Nat} {ok : Bool} {see : List Nat} : lvH n base ok see (some ⟨tm, ob, rt, nx⟩) = lvL n base ok (List.range base ++ (see.filter fun o => decide (base ≤ o)).reverse) tm ob rt nx := rfl
@[congr] theorem lvH_congr {base n' : Nat} {ok ok' : Bool} {see see' : List Nat} {h h' : Option St} (h1 : n = n') (h2 : ok = ok') (h3 : see = see') (h4 : h = h') : lvH n base ok see h = lvH n' base ok' see' h' := by rw [h1, h2, h3, h4]
theorem lvL_e {base : Nat} {ok : Bool} {L : List Nat} : lvL n base ok L tm ob rt nx = if noDup L = true ∧ L.length ≤ base + 4 ∧ ok = true then some ((List.range n).map fun i => renT (posIn L) 0 (tm i), takeO ob L, rt, nx) else none := rfl
@[congr] theorem lvL_congr {base : Nat} {ok : Bool} {L L' : List Nat} (h : L = L') : lvL n base ok L tm ob rt nx = lvL n base ok L' tm ob rt nx := by rw [h]
theorem retQM_e {base : Nat} {rv : List ResultVar} {z : Out} {s : St} : RetQM C base nx rv rs ob' rt' nx' z s = (outRet z = true ∧ leave base nx s (rv.map (resAT1 C.E s)) = some (rs, ob', rt', nx')) := rfl
def clrV (o lo n : Nat) (ti : TI) (zr : Option (List PV)) : Option Obj → Option Upd
  | some (.arr false z' rows) => match zr with
    | some z => if ti.kd = 3 ∧ z' = ti.esz ∧ z.length = ti.esz ∧ lo + n ≤ rows.length then some { val := .tup [], ow := [(o, .arr false z' (splice rows lo (List.replicate n z)))], rd := [o] } else none
    | none => none
  | _ => none
def clrU (E : Env) (ti : Option TI) (a : AT) (ob : ObF) : Option Upd := match ti, a with
  | some ti, .one (.vw o lo n) => clrV o lo n ti ((E.T ti.e).bind fun te => pvL ob te.zero) (ob o)
  | _, _ => none
theorem clrU_eq {E : Env} {ti : TI} : clrU E (some ti) (.one (.vw o lo n)) ob = clrV o lo n ti ((E.T ti.e).bind fun te => pvL ob te.zero) (ob o) := rfl
theorem clrV_eq {ti : TI} {z' : Nat} {z : List PV} {rows : List (List PV)} : clrV o lo n ti (some z) (some (.arr false z' rows)) = if ti.kd = 3 ∧ z' = ti.esz ∧ z.length = ti.esz ∧ lo + n ≤ rows.length then some { val := .tup [], ow := [(o, .arr false z' (splice rows lo (List.replicate n z)))], rd := [o] } else none := rfl
theorem so_clear : StepO C F k Q id draw ops l s us ⟨d, .call { callee := .builtin .clear, args := [y].toArray, argTypes := [u].toArray }, t, pos, after, g⟩ =
    StepU C F k Q id draw ops l s us d (clrU C.E (C.E.T u) (evOpd C.E s.tm y) s.ob) :=
  stepO_of fun call => by
    have e : evOp C.E (C.gen F.f) call F.base (evOpd C.E s.tm) s.ob s.rt s.nx ⟨d, .call { callee := .builtin .clear, args := [y].toArray, argTypes := [u].toArray }, t, pos, after, g⟩ =
      (match C.E.T u, evOpd C.E s.tm y with
        | some ti, .one (.vw o lo n) => match s.ob o, C.E.T ti.e with
          | some (.arr false z' rows), some te => match pvL s.ob te.zero with
            | some z => if ti.kd = 3 ∧ z' = ti.esz ∧ z.length = ti.esz ∧ lo + n ≤ rows.length then
                some { val := .tup [], ow := [(o, .arr false z' (splice rows lo (List.replicate n z)))], rd := [o] }
              else none
            | none => none
          | _, _ => none
        | _, _ => none : Option Upd) := rfl
    rw [e]
    unfold clrU clrV
    split
    · rename_i ti o lo n h1 h2
      split
      · rename_i z' rows te h3 h4
        rw [h3, h4]
        rfl
      · rename_i h5
        split
        · rename_i z' rows h6
          cases h7 : C.E.T ti.e with
          | none => rfl
          | some te => exact absurd h7 (h5 _ _ _ h6)
        · rfl
    · rfl
end
end Go.Proofs.YtjhljcnjafbkfaaDoor.X
end
section
set_option linter.unusedVariables false
set_option linter.unusedSimpArgs false
namespace Go.Proofs.YtjhljcnjafbkfaaDoor.X
open Go.RowKit
section
variable {C : Cx} {F : Fr} {k : List It} {Q : Post} {id : Nat} {draw : Bool} {ops : Array Oper} {l : List Oper} {us : List Upd} {d : Option Nat} {ob : ObF} {rt : RtF} {nx nx0 n m o q sh : Nat} {w : Option Nat} {f : Nat → Nat} {os seen : List Nat} {t u : TypeId} {pos : String} {after : Array Edge} {g : Option (Nat × Bool)} {x y z : Operand} {s : St} {ok : Bool} {v v' : Value} {es : List MapEntry} {a : AT} {E : Env} {b : Obj}
theorem coldC_mt : coldC ob (.mt o) = .mt o := rfl
theorem okC_mt {d : Bool} : okC os d (.mt o) = os.contains o := rfl
theorem refsC_mt : refsC (.mt o) = [o] := rfl
theorem seenC_mt : seenC (.mt o) = [] := rfl
theorem relC_mt : relC rt nx0 q seen (.mt o) = (.mt o, seen) := rfl
theorem renC_mt : renC f sh (.mt o) = .mt (f o) := rfl
theorem rtsC_mt : rtsC (.mt o) = [] := rfl
theorem refsO_m : refsO (some (.mp es n)) = [] := rfl
theorem renO_m : renO f sh (.mp es n) = .mp es n := rfl
theorem rtsO_m : rtsO (some (.mp es n)) = [] := rfl
theorem jk_sc {b : Code} : joinKey (.scope b) = none := rfl
theorem jk_lb {i : Nat} : joinKey (.label i) = none := rfl
def mkM (o : Nat) : Option Obj → Option Upd
  | none => some { val := .one (.mt o), ow := [(o, .mp [] 0)], rd := [o] }
  | some _ => none
theorem so_makeMap {d : Nat} : StepO C F k Q id draw ops l s us ⟨some d, .makeMap u none, t, pos, after, g⟩ = StepU C F k Q id draw ops l s us (some d) (mkM (F.base + d) (s.ob (F.base + d))) :=
  stepO_of fun call => by
    show (match s.ob (F.base + d) with
      | none => some { val := .one (.mt (F.base + d)), ow := [(F.base + d, .mp [] 0)], rd := [F.base + d] }
      | some _ => none : Option Upd) = _
    unfold mkM
    cases s.ob (F.base + d) <;> rfl
theorem mkM_n : mkM o none = some { val := .one (.mt o), ow := [(o, .mp [] 0)], rd := [o] } := rfl
def lkW (m : Nat) : Option AT → Option Upd
  | some a => some { val := a, rd := [m] }
  | none => none
def lkV (E : Env) (u : TypeId) (ok : Bool) (m : Nat) (v : Value) : Option Obj → Option Upd
  | some (.mp es _) => lkW m (mapGet E u es v ok)
  | _ => none
def lkA (E : Env) (u : TypeId) (ok : Bool) (ob : ObF) (x a : AT) : Option Upd := match x, valOf a with
  | .one (.mt m), some v => lkV E u ok m v (ob m)
  | _, _ => none
theorem so_lookup : StepO C F k Q id draw ops l s us ⟨d, .lookup u x y ok, t, pos, after, g⟩ = StepU C F k Q id draw ops l s us d (lkA C.E u ok s.ob (evOpd C.E s.tm x) (evOpd C.E s.tm y)) :=
  stepO_of fun call => by
    show (match evOpd C.E s.tm x, valOf (evOpd C.E s.tm y) with
      | .one (.mt m), some k => match s.ob m with
        | some (.mp es _) => (mapGet C.E u es k ok).map fun a => { val := a, rd := [m] }
        | _ => none
      | _, _ => none : Option Upd) = _
    unfold lkA
    split
    · rename_i m k h1 h2
      simp only [lkV]
      split
      · simp only [lkW]
        cases mapGet C.E u _ k ok <;> rfl
      · rfl
    · rfl
theorem lkA_p : lkA E u ok ob (.one (.mt m)) (.one (.p w (.sc v))) = lkV E u ok m v (ob m) := rfl
theorem lkV_m : lkV E u ok m v (some (.mp es n)) = lkW m (mapGet E u es v ok) := rfl
theorem lkW_s : lkW m (some a) = some { val := a, rd := [m] } := rfl
def muW (m : Nat) : Option Obj → Option Upd
  | some q => some { val := .no, ow := [(m, q)], rd := [m] }
  | none => none
def muV (P : Program) (u : TypeId) (m : Nat) (v v' : Value) : Option Obj → Option Upd
  | some (.mp es c) => muW m (mapPut P u es c v v')
  | _ => none
def muA (P : Program) (u : TypeId) (ob : ObF) (x a b : AT) : Option Upd := match x, valOf a, valOf b with
  | .one (.mt m), some v, some v' => muV P u m v v' (ob m)
  | _, _, _ => none
theorem so_mapUpdate : StepO C F k Q id draw ops l s us ⟨d, .mapUpdate u x y z, t, pos, after, g⟩ = StepU C F k Q id draw ops l s us d (muA C.E.P u s.ob (evOpd C.E s.tm x) (evOpd C.E s.tm y) (evOpd C.E s.tm z)) :=
  stepO_of fun call => by
    show (match evOpd C.E s.tm x, valOf (evOpd C.E s.tm y), valOf (evOpd C.E s.tm z) with
      | .one (.mt m), some k, some v => match s.ob m with
        | some (.mp es c) => (mapPut C.E.P u es c k v).map fun q => { val := .no, ow := [(m, q)], rd := [m] }
        | _ => none
      | _, _, _ => none : Option Upd) = _
    unfold muA
    split
    · rename_i m k v h1 h2 h3
      simp only [muV]
      split
      · simp only [muW]
        cases mapPut C.E.P u _ _ k v <;> rfl
      · rfl
    · rfl
theorem muA_p {P : Program} {w' : Option Nat} : muA P u ob (.one (.mt m)) (.one (.p w (.sc v))) (.one (.p w' (.sc v'))) = muV P u m v v' (ob m) := rfl
theorem muV_m {P : Program} : muV P u m v v' (some (.mp es n)) = muW m (mapPut P u es n v v') := rfl
theorem muW_s : muW m (some b) = some { val := .no, ow := [(m, b)], rd := [m] } := rfl
end
theorem bs_0 : (⟨#[]⟩ : ByteArray) = ByteArray.empty := rfl
def gB (b : ByteArray) (n : Int) : Int := ((b[n.toNat]?).getD 0).toNat
def ixG (P : Program) (u : TypeId) (a b : AT) : Option Upd := match valOf a, valOf b with
  | some v, some w => vU (tryP P (Instr.index u v w))
  | _, _ => none
def ixA (E : Env) (u : TypeId) (a b : AT) : Option Upd := match E.T u, a, idxOf b with
  | some ti, .agg cs, some n => if ti.kd = 2 ∧ 0 ≤ n ∧ n < ti.len then (partOf cs (n.toNat * ti.esz) ti.esz ti.eagg).map fun a => { val := a } else none
  | _, _, _ => ixG E.P u a b
section
variable {C : Cx} {F : Fr} {k : List It} {Q : Post} {id : Nat} {draw : Bool} {ops : Array Oper} {l : List Oper} {us : List Upd} {d : Option Nat} {t u : TypeId} {pos : String} {after : Array Edge} {g : Option (Nat × Bool)} {x y z : Operand} {s : St} {c : CV} {w w1 w2 : Option Nat} {kd : IntKind} {n m : Int} {b : ByteArray} {P : Program} {E : Env}
theorem gen_index : evGen C.E (evOpd C.E s.tm) ⟨d, .index u x y, t, pos, after, g⟩ = ixG C.E.P u (evOpd C.E s.tm x) (evOpd C.E s.tm y) := by
  unfold ixG
  cases hx : valOf (evOpd C.E s.tm x) with
  | none => exact gen_none (by simp [Op.operands, hx])
  | some a =>
    cases hy : valOf (evOpd C.E s.tm y) with
    | none => exact gen_none (by simp [Op.operands, hx, hy])
    | some b =>
      refine gen_val ?_ (by simp [Op.operands, hx, hy])
      simp only [execOp, hx, hy, Option.getD_some]
theorem so_index : StepO C F k Q id draw ops l s us ⟨d, .index u x y, t, pos, after, g⟩ = StepU C F k Q id draw ops l s us d (ixA C.E u (evOpd C.E s.tm x) (evOpd C.E s.tm y)) :=
  stepO_of fun _ => by
    unfold ixA
    rw [← gen_index (d := d) (t := t) (pos := pos) (after := after) (g := g)]
    rfl
theorem ixA_1 {a : AT} : ixA E u (.one c) a = ixG E.P u (.one c) a := by
  unfold ixA
  split
  · rename_i h _; cases h
  · rfl
def ixS (P : Program) (u : TypeId) (b : ByteArray) (kd : IntKind) (n : Int) : Option TypeDesc → Option Upd
  | some .string => if 0 ≤ n ∧ n < b.size then some { val := .one (.p none (.sc (.int .u8 (gB b n)))) } else ixG P u (.one (.p none (.sc (.string b)))) (.one (.p none (.sc (.int kd n))))
  | _ => ixG P u (.one (.p none (.sc (.string b)))) (.one (.p none (.sc (.int kd n))))
theorem ixG_s : ixG P u (.one (.p w1 (.sc (.string b)))) (.one (.p w2 (.sc (.int kd n)))) = ixS P u b kd n (P.underlying u) := by
  unfold ixS
  split
  · rename_i hu
    split
    · rename_i h
      obtain ⟨h0, h1⟩ := h
      have hn : n.toNat < b.size := by omega
      have e : tryP P (Instr.index u (.string b) (.int kd n)) = some (.int .u8 (gB b n)) := by
        have hb : b[n.toNat]? = some b[n.toNat] := getElem?_pos b n.toNat hn
        unfold Instr.index gB
        simp [asIntOf, tryP_bind, tryP_under hu, h0, hb]
        rfl
      unfold ixG
      simp only [valOf, scC, e]
      rfl
    · rfl
  · rfl
theorem ixS_s (h0 : 0 ≤ n) (h1 : n < b.size) : ixS P u b kd n (some .string) = some { val := .one (.p none (.sc (.int .u8 (gB b n)))) } := by
  unfold ixS
  rw [if_pos ⟨h0, h1⟩]
theorem stepS_sc {ti : TI} {v : Value} {lo hi mx : Option (Option Int)} {o : Oper} : StepS C F k Q id draw ops l s us d (some ti) (.one (.p w (.sc v))) lo hi mx o = StepU C F k Q id draw ops l s us d (evGen C.E (evOpd C.E s.tm) o) := by
  unfold StepS
  congr 1
def sliG (P : Program) (u : TypeId) (a : AT) (lo hi : Option AT) : Option Upd := match valOf a with
  | some v => match (lo.map valOf), (hi.map valOf) with
    | none, some (some h) => vU (tryP P (Instr.sliceAt u v none (some h) none))
    | some (some l), none => vU (tryP P (Instr.sliceAt u v (some l) none none))
    | some (some l), some (some h) => vU (tryP P (Instr.sliceAt u v (some l) (some h) none))
    | _, _ => none
  | none => none
theorem gen_slice_h : evGen C.E (evOpd C.E s.tm) ⟨d, .slice u x none (some y) none, t, pos, after, g⟩ = sliG C.E.P u (evOpd C.E s.tm x) none (some (evOpd C.E s.tm y)) := by
  unfold sliG
  cases hx : valOf (evOpd C.E s.tm x) with
  | none => exact gen_none (by simp [Op.operands, hx])
  | some a =>
    cases hy : valOf (evOpd C.E s.tm y) with
    | none => simp only [Option.map_none, Option.map_some, hy]; exact gen_none (by simp [Op.operands, hx, hy])
    | some b =>
      simp only [Option.map_none, Option.map_some, hy]
      refine gen_val ?_ (by simp [Op.operands, hx, hy])
      simp only [execOp, hx, hy, Option.getD_some, Option.map_none, Option.map_some]
theorem gen_slice_l : evGen C.E (evOpd C.E s.tm) ⟨d, .slice u x (some y) none none, t, pos, after, g⟩ = sliG C.E.P u (evOpd C.E s.tm x) (some (evOpd C.E s.tm y)) none := by
  unfold sliG
  cases hx : valOf (evOpd C.E s.tm x) with
  | none => exact gen_none (by simp [Op.operands, hx])
  | some a =>
    cases hy : valOf (evOpd C.E s.tm y) with
    | none => simp only [Option.map_none, Option.map_some, hy]; exact gen_none (by simp [Op.operands, hx, hy])
    | some b =>
      simp only [Option.map_none, Option.map_some, hy]
      refine gen_val ?_ (by simp [Op.operands, hx, hy])
      simp only [execOp, hx, hy, Option.getD_some, Option.map_none, Option.map_some]
theorem gen_slice_b : evGen C.E (evOpd C.E s.tm) ⟨d, .slice u x (some y) (some z) none, t, pos, after, g⟩ = sliG C.E.P u (evOpd C.E s.tm x) (some (evOpd C.E s.tm y)) (some (evOpd C.E s.tm z)) := by
  unfold sliG
  cases hx : valOf (evOpd C.E s.tm x) with
  | none => exact gen_none (by simp [Op.operands, hx])
  | some a =>
    cases hy : valOf (evOpd C.E s.tm y) with
    | none => simp only [Option.map_none, Option.map_some, hy]; exact gen_none (by simp [Op.operands, hx, hy])
    | some b =>
      cases hz : valOf (evOpd C.E s.tm z) with
      | none => simp only [Option.map_none, Option.map_some, hy, hz]; exact gen_none (by simp [Op.operands, hx, hy, hz])
      | some c =>
        simp only [Option.map_none, Option.map_some, hy, hz]
        refine gen_val ?_ (by simp [Op.operands, hx, hy, hz])
        simp only [execOp, hx, hy, hz, Option.getD_some, Option.map_none, Option.map_some]
end
section
variable {C : Cx} {tm : Nat → AT} {d : Option Nat} {t u : TypeId} {pos : String} {after : Array Edge} {g : Option (Nat × Bool)} {x y z : Operand}
theorem gsl_h : evGen C.E (evOpd C.E tm) ⟨d, .slice u x none (some y) none, t, pos, after, g⟩ = sliG C.E.P u (evOpd C.E tm x) none (some (evOpd C.E tm y)) := gen_slice_h (s := ⟨tm, noOb, noRt, 0⟩)
theorem gsl_l : evGen C.E (evOpd C.E tm) ⟨d, .slice u x (some y) none none, t, pos, after, g⟩ = sliG C.E.P u (evOpd C.E tm x) (some (evOpd C.E tm y)) none := gen_slice_l (s := ⟨tm, noOb, noRt, 0⟩)
theorem gsl_b : evGen C.E (evOpd C.E tm) ⟨d, .slice u x (some y) (some z) none, t, pos, after, g⟩ = sliG C.E.P u (evOpd C.E tm x) (some (evOpd C.E tm y)) (some (evOpd C.E tm z)) := gen_slice_b (s := ⟨tm, noOb, noRt, 0⟩)
end
section
variable {P : Program} {u : TypeId} {b : ByteArray} {w w1 w2 : Option Nat} {k1 k2 : IntKind} {l h : Int}
theorem try_slice_h (hu : P.underlying u = some .string) (h0 : 0 ≤ h) (h1 : h ≤ b.size) : tryP P (Instr.sliceAt u (.string b) none (some (.int k2 h)) none) = some (.string (b.extract 0 h.toNat)) := by
  unfold Instr.sliceAt
  rw [tryP_bind, tryP_under hu]
  simp only [Option.bind_some]
  unfold Instr.slice
  rw [tryP_bind, tryP_under hu]
  simp [Instr.sliceBounds, Instr.sliceBound, asIntOf, tryP_bind, h0, h1]
  rfl
theorem try_slice_l (hu : P.underlying u = some .string) (h0 : 0 ≤ l) (h1 : l ≤ b.size) : tryP P (Instr.sliceAt u (.string b) (some (.int k1 l)) none none) = some (.string (b.extract l.toNat b.size)) := by
  unfold Instr.sliceAt
  rw [tryP_bind, tryP_under hu]
  simp only [Option.bind_some]
  unfold Instr.slice
  rw [tryP_bind, tryP_under hu]
  simp [Instr.sliceBounds, Instr.sliceBound, asIntOf, tryP_bind, h0, h1]
  rfl
theorem try_slice_b (hu : P.underlying u = some .string) (h0 : 0 ≤ l) (h1 : l ≤ h) (h2 : h ≤ b.size) : tryP P (Instr.sliceAt u (.string b) (some (.int k1 l)) (some (.int k2 h)) none) = some (.string (b.extract l.toNat h.toNat)) := by
  have h3 : 0 ≤ h := by omega
  have h4 : l ≤ max h 0 := by omega
  unfold Instr.sliceAt
  rw [tryP_bind, tryP_under hu]
  simp only [Option.bind_some]
  unfold Instr.slice
  rw [tryP_bind, tryP_under hu]
  simp [Instr.sliceBounds, Instr.sliceBound, asIntOf, tryP_bind, h0, h1, h2, h3, h4]
  rfl
def slH (P : Program) (u : TypeId) (b : ByteArray) (k2 : IntKind) (h : Int) : Option TypeDesc → Option Upd
  | some .string => if 0 ≤ h ∧ h ≤ b.size then some { val := .one (.p none (.sc (.string (b.extract 0 h.toNat)))) } else sliG P u (.one (.p none (.sc (.string b)))) none (some (.one (.p none (.sc (.int k2 h)))))
  | _ => sliG P u (.one (.p none (.sc (.string b)))) none (some (.one (.p none (.sc (.int k2 h)))))
def slL (P : Program) (u : TypeId) (b : ByteArray) (k1 : IntKind) (l : Int) : Option TypeDesc → Option Upd
  | some .string => if 0 ≤ l ∧ l ≤ b.size then some { val := .one (.p none (.sc (.string (b.extract l.toNat b.size)))) } else sliG P u (.one (.p none (.sc (.string b)))) (some (.one (.p none (.sc (.int k1 l))))) none
  | _ => sliG P u (.one (.p none (.sc (.string b)))) (some (.one (.p none (.sc (.int k1 l))))) none
def slB (P : Program) (u : TypeId) (b : ByteArray) (k1 k2 : IntKind) (l h : Int) : Option TypeDesc → Option Upd
  | some .string => if 0 ≤ l ∧ l ≤ h ∧ h ≤ b.size then some { val := .one (.p none (.sc (.string (b.extract l.toNat h.toNat)))) } else sliG P u (.one (.p none (.sc (.string b)))) (some (.one (.p none (.sc (.int k1 l))))) (some (.one (.p none (.sc (.int k2 h)))))
  | _ => sliG P u (.one (.p none (.sc (.string b)))) (some (.one (.p none (.sc (.int k1 l))))) (some (.one (.p none (.sc (.int k2 h)))))
theorem sliG_h : sliG P u (.one (.p w (.sc (.string b)))) none (some (.one (.p w2 (.sc (.int k2 h))))) = slH P u b k2 h (P.underlying u) := by
  unfold slH
  split
  · rename_i hu
    split
    · rename_i q
      show vU (tryP P (Instr.sliceAt u (.string b) none (some (.int k2 h)) none)) = _
      rw [try_slice_h hu q.1 q.2]
      rfl
    · rfl
  · rfl
theorem sliG_l : sliG P u (.one (.p w (.sc (.string b)))) (some (.one (.p w1 (.sc (.int k1 l))))) none = slL P u b k1 l (P.underlying u) := by
  unfold slL
  split
  · rename_i hu
    split
    · rename_i q
      show vU (tryP P (Instr.sliceAt u (.string b) (some (.int k1 l)) none none)) = _
      rw [try_slice_l hu q.1 q.2]
      rfl
    · rfl
  · rfl
theorem sliG_b : sliG P u (.one (.p w (.sc (.string b)))) (some (.one (.p w1 (.sc (.int k1 l))))) (some (.one (.p w2 (.sc (.int k2 h))))) = slB P u b k1 k2 l h (P.underlying u) := by
  unfold slB
  split
  · rename_i hu
    split
    · rename_i q
      show vU (tryP P (Instr.sliceAt u (.string b) (some (.int k1 l)) (some (.int k2 h)) none)) = _
      rw [try_slice_b hu q.1 q.2.1 q.2.2]
      rfl
    · rfl
  · rfl
theorem slH_s (h0 : 0 ≤ h) (h1 : h ≤ b.size) : slH P u b k2 h (some .string) = some { val := .one (.p none (.sc (.string (b.extract 0 h.toNat)))) } := by
  unfold slH
  rw [if_pos ⟨h0, h1⟩]
theorem slL_s (h0 : 0 ≤ l) (h1 : l ≤ b.size) : slL P u b k1 l (some .string) = some { val := .one (.p none (.sc (.string (b.extract l.toNat b.size)))) } := by
  unfold slL
  rw [if_pos ⟨h0, h1⟩]
theorem slB_s (h0 : 0 ≤ l) (h1 : l ≤ h) (h2 : h ≤ b.size) : slB P u b k1 k2 l h (some .string) = some { val := .one (.p none (.sc (.string (b.extract l.toNat h.toNat)))) } := by
  unfold slB
  rw [if_pos ⟨h0, h1, h2⟩]
end
end Go.Proofs.YtjhljcnjafbkfaaDoor.X
end
section
set_option linter.unusedVariables false
set_option linter.defProp false
namespace Go.Proofs.YtjhljcnjafbkfaaDoor.X
open Go.RowKit
def Bp := And.intro @sub_sc (And.intro @go_scope (And.intro @sub_nil (And.intro @sub_s0 (And.intro @sub_s1 (And.intro @sub_bl (And.intro @sub_lp (And.intro @sub_c1 (And.intro @sub_c2 (And.intro @go_seq (And.intro @go_block (And.intro @go_skip (And.intro @go_label (And.intro @go_exit (And.intro @go_ret (And.intro @go_region (And.intro @go_loop (And.intro @go_if (And.intro @finJ_code (And.intro @finJ_n (And.intro @finJ_s (And.intro @fin_code1 (And.intro @fin_code2 (And.intro @fin_blk (And.intro @fin_blk1 (And.intro @fin_blk2 (And.intro @fin_lp1 (And.intro @fin_lp2 (And.intro @fin_lp (@fin_nil)))))))))))))))))))))))))))))
def Bs := And.intro @so_index (And.intro @asg_f (And.intro @asg_t (And.intro @so_makeMap (And.intro @so_lookup (And.intro @so_mapUpdate (And.intro @mkM_n (And.intro @lkA_p (And.intro @lkV_m (And.intro @lkW_s (And.intro @muA_p (And.intro @muV_m (And.intro @muW_s (And.intro @gr_cons (And.intro @gr_consG (And.intro @gr_nil (And.intro @stepU_some (And.intro @stepG_t (And.intro @stepG_f (And.intro @stepG_b (And.intro @so_move (And.intro @so_assign (And.intro @so_pick (And.intro @so_bin (And.intro @so_un (And.intro @so_cv (And.intro @so_alloc (And.intro @so_box (And.intro @so_load (And.intro @so_fieldAddr (And.intro @so_field (And.intro @so_indexAddr (And.intro @so_store (And.intro @so_len (And.intro @so_append (And.intro @so_min (And.intro @so_max (And.intro @so_call (And.intro @so_slice (And.intro @so_makeSlice (And.intro @so_build (And.intro @so_buildSlice (And.intro @so_extract (And.intro @so_makeFunc (@so_nilCheck))))))))))))))))))))))))))))))))))))))))))))
def Bo := And.intro @w32 (And.intro @fillA_cons (And.intro @fillA_nil (And.intro @stepS_ref (And.intro @bin3_v (And.intro @stepS_sc (And.intro @lnU_sc (And.intro @ixA_1 (And.intro @ixG_s (And.intro @ixS_s (And.intro @gsl_h (And.intro @gsl_l (And.intro @gsl_b (And.intro @sliG_h (And.intro @sliG_l (And.intro @sliG_b (And.intro @slH_s (And.intro @slL_s (And.intro @slB_s (And.intro @bin3_1 (And.intro @apnU_eq (And.intro @apnV_eq (And.intro @b_or (And.intro @b_xor (And.intro @b_shl (And.intro @b_shr (And.intro @b_eqlB (And.intro @b_neqB (And.intro @eqB_e (And.intro @eqB_n (And.intro @b_eqlS (And.intro @b_neqS (And.intro @b_lssS (And.intro @b_addS (And.intro @lenG_s (And.intro @lenS_s (And.intro @stepL_none (And.intro @nilC_eq (And.intro @b_nilE (And.intro @b_nilN (And.intro @isZ_int (And.intro @isZ_tmp (And.intro @pair_beq (And.intro @noOb_eq (And.intro @noRt_eq (And.intro @ple_i (And.intro @ple_n (And.intro @goIf_b (And.intro @mm_min (And.intro @mm_max (And.intro @beq_t (And.intro @beq_f (And.intro @opV_tmp (And.intro @opV_int (And.intro @opV_bool (And.intro @opV_str (And.intro @opV_fn (And.intro @opV_nil (And.intro @nilS_eq (And.intro @opd_tmp (And.intro @opd_int (And.intro @opd_bool (And.intro @opd_str (And.intro @opd_fn (And.intro @opd_glob (And.intro @globV_some (And.intro @upd_at (And.intro @pickU_b (And.intro @vU_int (And.intro @vU_bool (And.intro @vU_str (And.intro @b_add (And.intro @b_sub (And.intro @b_mul (And.intro @b_lss (And.intro @b_leq (And.intro @b_gtr (And.intro @b_geq (And.intro @b_eql (And.intro @b_neq (And.intro @b_and (And.intro @b_quo (And.intro @b_rem (And.intro @u_neg (And.intro @u_not (And.intro @w64 (And.intro @alU_eq (And.intro @bxU_eq (And.intro @cells_one (And.intro @cells_agg (And.intro @pl_pt (And.intro @pl_pr (And.intro @pl_ref (And.intro @plVar_eq (And.intro @plRow_eq (And.intro @plRow2_eq (And.intro @ldU_var (And.intro @ldU_row (And.intro @ldU_ref (And.intro @part_one (And.intro @part_agg (And.intro @faU_eq (And.intro @ptr_pt (And.intro @ptr_pr (And.intro @ptr_ref (And.intro @fiU_eq (And.intro @rd_map (And.intro @idx_int (And.intro @ixU_eq (And.intro @stU_pt (And.intro @stU_pr (And.intro @lnU_sl (And.intro @lnU_vw (And.intro @stepL_some (And.intro @apdU_eq (And.intro @stepS_p (And.intro @stepS_vw (And.intro @optIdx_none (And.intro @optIdx_some (And.intro @mkU_eq (And.intro @pvL_nil (And.intro @pvL_p (And.intro @fillS_nil (And.intro @fillS_cons (And.intro @fillR_nil (And.intro @fillR_cons (And.intro @atC_one (And.intro @atC_agg (And.intro @ap_val (And.intro @ap_none (And.intro @ap_ow (And.intro @ap_rw (And.intro @ok_dst (And.intro @ok_none (And.intro @touch_v (And.intro @touch_r (And.intro @touch_o (And.intro @guard_l (And.intro @rtP_at (And.intro @rtH_one (And.intro @obH_zero (And.intro @cv_i (And.intro @cvK_i (And.intro @stepC_fn (@stepC_cl))))))))))))))))))))))))))))))))))))))))))))))))))))))))))))))))))))))))))))))))))))))))))))))))))))))))))))))))))))))))))))))))))))))))))))))))
def Bh := And.intro @jk_sc (And.intro @jk_lb (And.intro @coldC_mt (And.intro @okC_mt (And.intro @refsC_mt (And.intro @seenC_mt (And.intro @relC_mt (And.intro @refsO_m (And.intro @coldC_vw (And.intro @coldV_t (And.intro @coldV_f (And.intro @coldC_p (And.intro @coldC_pt (And.intro @coldC_pr (And.intro @coldC_cl (And.intro @coldT_1 (And.intro @coldT_a (And.intro @coldT_n (And.intro @coldT_t (And.intro @refsC_cl (And.intro @relC_cl (And.intro @okC_cl (And.intro @okC_pn (And.intro @seenC_cl (And.intro @relC_0 (And.intro @relC_f (And.intro @relC_n (And.intro @relC_pt (And.intro @relC_vw (And.intro @relL_0 (And.intro @relL_c (And.intro @relT_1 (And.intro @relT_a (And.intro @relT_n (And.intro @okC_p (And.intro @okC_pt (And.intro @okC_vw (And.intro @okL_0 (And.intro @okL_c (And.intro @okT_1 (And.intro @okT_a (And.intro @okT_n (And.intro @headT_0 (And.intro @headT_c (And.intro @headO_0 (And.intro @headO_c (And.intro @head_eq (And.intro @headB_eq (And.intro @headEnd_s (And.intro @reach_r (And.intro @refsO_v (And.intro @refsO_a (And.intro @refsO_n (And.intro @addS_0 (And.intro @addS_c (And.intro @refsC_p (And.intro @refsC_pt (And.intro @refsC_vw (And.intro @refsL_0 (And.intro @refsL_c (And.intro @refsT_1 (And.intro @refsT_a (And.intro @refsT_n (And.intro @seenC_p (And.intro @seenC_pt (And.intro @seenC_vw (And.intro @seenT_1 (And.intro @seenT_a (And.intro @seenT_n (And.intro @keyJ_e (And.intro @jk_r (And.intro @jk_s (And.intro @jk_c (And.intro @jk_b (And.intro @jk_l (And.intro @jk_e (And.intro @jk_t (And.intro @jk_k (And.intro @fr_r (And.intro @fr_s (And.intro @fr_b (And.intro @fr_l (@fr_c))))))))))))))))))))))))))))))))))))))))))))))))))))))))))))))))))))))))))))))))))
def Ba := And.intro @argsOf_pt (And.intro @argsOf_cl (And.intro @snA_0 (And.intro @snA_1 (And.intro @snA_a (And.intro @snC_p (And.intro @snC_pt (And.intro @snapP_v (And.intro @snC_vw (And.intro @snapV_a (And.intro @snC_cl (And.intro @snL_0 (And.intro @snL_c (And.intro @cvAs_0 (And.intro @cvAs_1 (And.intro @pvL_pt (And.intro @pvL_cl (And.intro @pvL_vw (And.intro @vwL_a (And.intro @looksT_1 (And.intro @looksT_a (And.intro @looksC_p (And.intro @looksC_vw (And.intro @looksC_pt (And.intro @looksP_v (And.intro @looksC_cl (And.intro @looksL_0 (And.intro @looksL_c (And.intro @argL_0 (And.intro @argL_c (And.intro @argsOf_0 (And.intro @argsOf_1 (And.intro @argsOf_a (And.intro @argsOf_v (And.intro @vwA_a (And.intro @atOf_v (And.intro @atOf_a (And.intro @resAT_1 (And.intro @resAT_0 (And.intro @resAT_2 (And.intro @cvOf_v (And.intro @capArgs_0 (And.intro @capArgs_c (And.intro @icy_0 (And.intro @icy_c (And.intro @icyO_a (And.intro @flat_s (And.intro @flat_l (And.intro @flatArg_e (And.intro @initTm_0 (And.intro @initTm_c (And.intro @retQ_e (And.intro @outRet_r (And.intro @outRet_f (And.intro @backAll_0 (And.intro @backAll_c (And.intro @backT_p (And.intro @backT_a (And.intro @backT_v (And.intro @backV_a (And.intro @backL_0 (And.intro @backL_c (And.intro @rv_t (And.intro @rv_c (And.intro @rvC_e (And.intro @splice_e (And.intro @pI.eq_1 (And.intro @pB.eq_1 (And.intro @pS.eq_1 (And.intro @aV.eq_1 (And.intro @aA.eq_1 (@bodyOf.eq_1)))))))))))))))))))))))))))))))))))))))))))))))))))))))))))))))))))))))
def Bc := And.intro @bs_0 (And.intro @Nat.mul_one (And.intro @List.getElem?_drop.{0} (And.intro @ne_eq.{1} (And.intro @rep1 (And.intro @rep2 (And.intro @rep3 (And.intro @rep4 (And.intro @List.replicate_zero.{0} (And.intro @List.map_cons.{0, 0} (And.intro @List.map_nil.{0, 0} (And.intro @List.flatMap_cons.{0, 0} (And.intro @List.flatMap_nil.{0, 0} (And.intro @List.nil_append.{0} (And.intro @List.append_nil.{0} (And.intro @List.cons_append.{0} (And.intro @List.length_cons.{0} (And.intro @List.length_nil.{0} (And.intro @List.length_map.{0, 0} (And.intro @List.length_replicate.{0} (And.intro @List.length_set.{0} (And.intro @List.map_replicate.{0, 0} (And.intro @List.getElem?_cons_zero.{0} (And.intro @List.getElem?_cons_succ.{0} (And.intro @List.all_cons.{0} (And.intro @List.all_nil.{0} (And.intro @List.filter_cons.{0} (And.intro @List.filter_nil.{0} (And.intro @List.foldl_cons.{0, 0} (And.intro @List.foldl_nil.{0, 0} (And.intro @List.take_succ_cons.{0} (And.intro @List.take_zero.{0} (And.intro @List.drop_succ_cons.{0} (And.intro @List.drop_zero.{0} (And.intro @List.set_cons_zero.{0} (And.intro @List.set_cons_succ.{0} (And.intro @List.contains_cons.{0} (And.intro @List.contains_nil.{0} (And.intro @List.mem_cons.{0} (And.intro @List.not_mem_nil.{0} (And.intro @List.reverse_cons.{0} (And.intro @List.reverse_nil.{0} (And.intro @List.take_length.{0} (And.intro @List.drop_length.{0} (And.intro @List.length_append.{0} (And.intro @List.getElem?_map.{0, 0} (And.intro @Option.map_some.{0, 0} (And.intro @Option.map_none.{0, 0} (And.intro @Option.bind_some.{0, 0} (And.intro @Option.bind_none.{0, 0} (And.intro @Option.isSome_some.{0} (And.intro @Option.isSome_none.{0} (And.intro @Option.getD_some.{0} (And.intro @Option.getD_none.{0} (And.intro @Bool.and_true (And.intro @Bool.true_and (And.intro @Bool.and_false (And.intro @Bool.false_and (And.intro @Bool.or_true (And.intro @Bool.true_or (And.intro @Bool.or_false (And.intro @Bool.false_or (And.intro @Bool.not_true (And.intro @Bool.not_false (And.intro @Bool.false_eq_true (And.intro @beq_self_eq_true.{0} (And.intro @decide_true (And.intro @decide_false (And.intro @decide_eq_true_eq (And.intro @and_true (And.intro @true_and (And.intro @and_self (And.intro @and_false (And.intro @false_and (And.intro @true_or (And.intro @or_true (And.intro @or_false (And.intro @false_or (And.intro @not_true_eq_false (And.intro @not_false_eq_true (And.intro @implies_true.{0} (And.intro @if_true.{0} (And.intro @if_false.{0} (And.intro @Nat.zero_le (And.intro @Nat.add_zero (And.intro @Nat.zero_add (And.intro @Int.toNat_natCast (And.intro @Int.toNat_zero (@eq_self.{0}))))))))))))))))))))))))))))))))))))))))))))))))))))))))))))))))))))))))))))))))))))))))
def Bd := And.intro @loud_0 (And.intro @loud_c (And.intro @quiet_e (And.intro @apart2_0 (And.intro @apart2_c (And.intro @apart_e (And.intro @lessAll_0 (And.intro @lessAll_c (And.intro @isN_n (And.intro @isN_s (And.intro @isE_n (And.intro @isE_c (And.intro @any_0 (@any_c)))))))))))))
def Bm := And.intro @renC_mt (And.intro @rtsC_mt (And.intro @renO_m (And.intro @rtsO_m (And.intro @pvC_p' (And.intro @pvC_vw' (And.intro @range_0 (And.intro @range_1 (And.intro @range_2 (And.intro @range_3 (And.intro @range_4 (And.intro @range_5 (And.intro @range_6 (And.intro @range_7 (And.intro @range_8 (And.intro @range_9 (And.intro @noDup_0 (And.intro @noDup_c (And.intro @posIn_c (And.intro @renC_p (And.intro @renC_n (And.intro @renC_pt (And.intro @renC_pr (And.intro @renC_vw (And.intro @renC_cl (And.intro @renL_0 (And.intro @renL_c (And.intro @renT_1 (And.intro @renT_a (And.intro @renT_n (And.intro @renO_v (And.intro @renO_a (And.intro @rtsC_p (And.intro @rtsC_n (And.intro @rtsC_pt (And.intro @rtsC_pr (And.intro @rtsC_vw (And.intro @rtsC_cl (And.intro @rtsT_1 (And.intro @rtsT_a (And.intro @rtsT_n (And.intro @rtsO_v (And.intro @rtsO_a (And.intro @rtsO_n (And.intro @inO_0 (And.intro @inO_c (And.intro @inS_s (And.intro @inS_n (And.intro @takeO_e (And.intro @backO_0 (And.intro @backO_c (And.intro @bkS_s (And.intro @bkS_n (And.intro @seeO_e (And.intro @resAll_1 (And.intro @resAll_0 (And.intro @resAll_2 (And.intro @cvAs_a (And.intro @rtM_at (And.intro @rtH_M (And.intro @rtH_H (And.intro @rtH_P (And.intro @rtH_P2 (And.intro @rtH_u (And.intro @mvEnd_e (And.intro @mvN_t (And.intro @ap_all (And.intro @ap_all0 (And.intro @touch_m0 (And.intro @touch_m1 (And.intro @touch_m2 (And.intro @touch_m3 (And.intro @touch_m4 (And.intro @isAT_1 (And.intro @isAT_a (And.intro @isAT_n (And.intro @leave_e (And.intro @lvH_s (And.intro @lvL_e (And.intro @retQM_e (And.intro @clrU_eq (And.intro @clrV_eq (And.intro @so_clear (And.intro @callM_eq (And.intro @mvO_eq (And.intro @mvH_eq (And.intro @List.getD_cons_zero.{0} (And.intro @List.getD_cons_succ.{0} (And.intro @Option.isNone_some.{0} (And.intro @Option.isNone_none.{0} (And.intro @Option.some.injEq.{0} (@Prod.mk.injEq.{0, 0})))))))))))))))))))))))))))))))))))))))))))))))))))))))))))))))))))))))))))))))))))))))))))
end Go.Proofs.YtjhljcnjafbkfaaDoor.X
end
section
set_option linter.unusedVariables false
namespace Go.Proofs.YtjhljcnjafbkfaaDoor.X
open Go.RowKit Go.Deep
theorem Ret.callsI {C : Cx} (hP : ProgOk C.E C.H) (hX : ExtOk C.E C.ext) {f : FuncId} {xs rs : List Arg} (h : Ret C f xs rs) {I : Nat → Nat → Prop} {w : World} {vals : Array Value}
    (hG : ∀ k cs, C.E.G k = some cs → RepP I w (.pointer (some ⟨k, 0, none⟩)) (.ref cs)) (hI : ∀ b i, I b i → b < w.heap.size) (ha : RepAs I w vals.toList xs) :
    Calls C.E.P f vals w fun e w' => ∃ v I', e = .returned v ∧ Below w.heap.size w w' ∧ (∀ b i, b < w.heap.size → (I' b i ↔ I b i)) ∧ (∀ b i, I' b i → b < w'.heap.size) ∧ ResA I' w' v rs := by
  obtain ⟨n, h⟩ := h
  unfold pureCall at h
  split at h
  · rename_i rs' ob' rt' nx' hc
    obtain ⟨_, hcal⟩ := evF_ok hP hX n _ _ _ _ _ _ _ _ _ _ _ hc
    let g : Gh := ⟨I, fun _ => 0, fun _ => (.nilFunc, 0), fun _ => none⟩
    have hM : RelM C.E.G g w noOb noRt 1 (old w) := ⟨Nat.one_pos, hG, fun _ h => h, (fun o x hx => by cases hx), (fun o o' x y ho => by cases ho), (fun n _ _ h => by cases h), (fun n m b _ _ _ _ h => by cases h), hI⟩
    have ha1 : RelAs g w noOb noRt 1 vals.toList (xs.map atOf) := by
      refine ⟨by rw [ha.1]; simp, fun i x v hx hv => ?_⟩
      simp only [List.getElem?_map, Option.map_eq_some_iff] at hx
      obtain ⟨y, hy, rfl⟩ := hx
      exact RepA.rel (g := g) (ha.2 i y v hy hv)
    refine (hcal g w (old w) vals hM (fun o ho => by cases ho) ha1).mono fun e w' hq => ?_
    obtain ⟨v, g', rfl, q1, q2, q3, q4⟩ := hq
    have hno : ∀ o, ob' o = none := fun o => by
      cases ho : ob' o with
      | none => rfl
      | some x => exact absurd (q3 o (by simp [ho])) (Nat.not_lt_zero _)
    exact ⟨v, g'.I, rfl, q1.below.below, fun b i hb => ⟨q1.old b i hb, q1.I b i⟩, q2.bnd, results_rep q2 hno q4 h⟩
  · cases h
theorem Ret.calls {C : Cx} (hP : ProgOk C.E C.H) (hX : ExtOk C.E C.ext) {f : FuncId} {xs rs : List Arg} (h : Ret C f xs rs) {I : Nat → Nat → Prop} {w : World} {vals : Array Value}
    (hG : ∀ k cs, C.E.G k = some cs → RepP I w (.pointer (some ⟨k, 0, none⟩)) (.ref cs)) (hI : ∀ b i, I b i → b < w.heap.size) (ha : RepAs I w vals.toList xs) :
    Calls C.E.P f vals w fun e w' => ∃ v I', e = .returned v ∧ Below w.heap.size w w' ∧ ResA I' w' v rs :=
  (h.callsI hP hX hG hI ha).mono fun e w' ⟨v, I', h1, h2, _, _, h3⟩ => ⟨v, I', h1, h2, h3⟩
def okAll (P : Program) (H : FuncId → Hint) : Bool := (List.range P.funcs.size).all fun f => match P.funcs[f]? with
  | some fn => !(fn.name == "runtime.NumGoroutine") && (match fn.body with
    | some c => codeOk (H f).pairs c
    | none => true)
  | none => true
theorem progOk_of {E : Env} {H : FuncId → Hint} (hm : E.P.follows .mixedOrders = true) (h : okAll E.P H = true) : ProgOk E H := by
  have key : ∀ (f : Nat) (fn : Func), E.P.funcs[f]? = some fn → (!(fn.name == "runtime.NumGoroutine") && (match fn.body with
    | some c => codeOk (H f).pairs c
    | none => true)) = true := by
    intro f fn hf
    have hlt : f < E.P.funcs.size := (Array.getElem?_eq_some_iff.1 hf).1
    have := List.all_eq_true.1 h f (List.mem_range.2 hlt)
    simp only [hf] at this
    exact this
  refine ⟨hm, fun f fn c hf hc => ?_, fun f fn hf => ?_⟩
  · have := key f fn hf
    simp only [hc, Bool.and_eq_true] at this
    exact this.2
  · have := key f fn hf
    simp only [Bool.and_eq_true, Bool.not_eq_true'] at this
    exact this.1
def allI (w : World) : Nat → Nat → Prop := fun b _ => b < w.heap.size
theorem allI_lt {w : World} : ∀ b i, allI w b i → b < w.heap.size := fun _ _ h => h
def RepC (w : World) (cs : List Value) (ps : List PV) : Prop := cs.length = ps.length ∧ ∀ (j : Nat) (x : PV) (v : Value), ps[j]? = some x → cs[j]? = some v → RepP (allI w) w v x
structure OpensP (P : Program) {α : Type} (sz : Nat) (d : α → List PV) (T : TypeId) (wf : α → Prop) : Prop where
  out : ∀ {H : Type} {enc : TypeId × Value → H} {w : World} {base : Nat} {spare : Nat → Bool} {held : Bool} {fuel : Nat} {cs : List Value} {x : DataW H × List MemPlace},
    DataW.trod enc P w base spare held fuel T cs = some x → ∃ a : α, RepC w cs (d a) ∧ (d a).length = sz ∧ wf a
theorem repC_one {w : World} {v : Value} {x : PV} (h : RepP (allI w) w v x) : RepC w [v] [x] :=
  ⟨rfl, fun j y u hy hu => by cases j with
    | zero => cases hy; cases hu; exact h
    | succ j => cases hy⟩
theorem opensP_int {P : Program} {T : TypeId} {k : IntKind} (ht : P.underlying T = some (.int k)) : OpensP P 1 (fun n : Int => [pI k n]) T (fun n => (Lit.int k n).wf = true) := by
  refine ⟨?_⟩
  intro H enc w base spare held fuel cs x h
  cases fuel with
  | zero => simp [DataW.trod] at h
  | succ f =>
    unfold DataW.trod at h
    rw [ht] at h
    split at h <;> first | (rename_i e1; cases e1; done) | skip
    all_goals first
      | (rename_i k1 k2 n e1
         simp only [Option.some.injEq, TypeDesc.int.injEq] at e1
         subst e1
         split at h
         · rename_i hk
           obtain ⟨rfl, hw⟩ := hk
           exact ⟨n, repC_one (.sc rfl), rfl, hw⟩
         · cases h)
      | cases h
      | skip
structure OpensFsP (P : Program) {α : Type} (sz : Nat) (d : α → List PV) (fs : List Field) (off : Nat) (wf : α → Prop) : Prop where
  out : ∀ {H : Type} {enc : TypeId × Value → H} {w : World} {base : Nat} {spare : Nat → Bool} {held : Bool} {fuel : Nat} {cs : List Value} {xs : List (DataW H × List MemPlace)},
    cs.length = off + sz → fs.mapM (fun f => DataW.trod enc P w base spare held fuel f.type ((cs.drop f.offset).take (P.cellsOf f.type))) = some xs → ∃ a : α, RepC w (cs.drop off) (d a) ∧ (d a).length = sz ∧ wf a
theorem opensFsP_one {P : Program} {α : Type} {sz : Nat} {d : α → List PV} {f : Field} {off : Nat} {wf : α → Prop} (hoff : f.offset = off) (hc : P.cellsOf f.type = sz) (ho : OpensP P sz d f.type wf) : OpensFsP P sz d [f] off wf := by
  refine ⟨?_⟩
  intro H enc w base spare held fuel cs xs hl h
  obtain ⟨x, hx⟩ : ∃ x, DataW.trod enc P w base spare held fuel f.type ((cs.drop f.offset).take (P.cellsOf f.type)) = some x := by
    cases hq : DataW.trod enc P w base spare held fuel f.type ((cs.drop f.offset).take (P.cellsOf f.type)) with
    | some x => exact ⟨x, rfl⟩
    | none => simp [List.mapM_cons, hq] at h
  rw [hoff, hc, List.take_of_length_le (by simp; omega)] at hx
  exact ho.out hx
theorem RepC.append {w : World} {cs cs' : List Value} {ps ps' : List PV} (h : RepC w cs ps) (k : RepC w cs' ps') : RepC w (cs ++ cs') (ps ++ ps') := by
  refine ⟨by simp [h.1, k.1], fun j x v hx hv => ?_⟩
  rcases Nat.lt_or_ge j ps.length with q | q
  · rw [List.getElem?_append_left q] at hx
    rw [List.getElem?_append_left (by rw [h.1]; exact q)] at hv
    exact h.2 j x v hx hv
  · rw [List.getElem?_append_right q] at hx
    rw [List.getElem?_append_right (by rw [h.1]; exact q), h.1] at hv
    exact k.2 _ x v hx hv
theorem opensFsP_cons {P : Program} {α β : Type} {sz sz' : Nat} {d : α → List PV} {d' : β → List PV} {f : Field} {fs : List Field} {off : Nat} {wf : α → Prop} {wf' : β → Prop} (hoff : f.offset = off) (hc : P.cellsOf f.type = sz)
    (ho : OpensP P sz d f.type wf) (hr : OpensFsP P sz' d' fs (off + sz) wf') : OpensFsP P (sz + sz') (fun p : α × β => d p.1 ++ d' p.2) (f :: fs) off (fun p => wf p.1 ∧ wf' p.2) := by
  refine ⟨?_⟩
  intro H enc w base spare held fuel cs xs hl h
  rw [List.mapM_cons] at h
  obtain ⟨x, hx, h⟩ := Option.bind_eq_some_iff.1 h
  obtain ⟨ys, hys, h⟩ := Option.bind_eq_some_iff.1 h
  rw [hoff, hc] at hx
  obtain ⟨a, ha, hla, hwa⟩ := ho.out hx
  obtain ⟨b, hb, hlb, hwb⟩ := hr.out (by omega) hys
  refine ⟨(a, b), ?_, by simp [hla, hlb], hwa, hwb⟩
  have := ha.append hb
  rw [← List.drop_drop, List.take_append_drop] at this
  exact this
theorem arg_intP {I : Nat → Nat → Prop} {w : World} {k : IntKind} {n : Int} : RepA I w (.int k n) (aV [pI k n]) := RepP.sc (I := I) (w := w) rfl
theorem res_bool {I : Nat → Nat → Prop} {w : World} {v : Value} {b : Bool} (h : ResA I w v [aV [pB b]]) : v = .bool b := by
  have h : RepP I w v (.sc (.bool b)) := h
  cases h
  rfl
theorem RepAs.nil {I : Nat → Nat → Prop} {w : World} : RepAs I w [] [] := ⟨rfl, fun i x v hx => by simp at hx⟩
theorem RepAs.cons {I : Nat → Nat → Prop} {w : World} {v : Value} {vs : List Value} {x : Arg} {xs : List Arg} (h : RepA I w v x) (k : RepAs I w vs xs) : RepAs I w (v :: vs) (x :: xs) :=
  ⟨by simp [k.1], fun i y u hy hu => by cases i with
    | zero => cases hy; cases hu; exact h
    | succ i => exact k.2 i y u (by simpa using hy) (by simpa using hu)⟩
end Go.Proofs.YtjhljcnjafbkfaaDoor.X
end
section
set_option linter.unusedVariables false
namespace Go.Proofs.YtjhljcnjafbkfaaDoor.X
open Go.RowKit
def arrF (P : Program) (e i : Nat) : Field := { (default : Field) with type := e, offset := i * P.cellsOf e }
theorem mapM_of_map {α β γ : Type} {g : α → β} {f : β → Option γ} : ∀ l : List α, (l.map g).mapM f = l.mapM fun x => f (g x)
  | [] => rfl
  | x :: l => by simp [List.mapM_cons, mapM_of_map l]
theorem opensP_arr {P : Program} {α β : Type} {sz n : Nat} {d : α → List PV} {d' : β → List PV} {T e : TypeId} {wf : α → Prop} {g : α → β} {wf' : β → Prop} (ht : P.underlying T = some (.array n e)) (hc : P.cellsOf T = sz)
    (ho : OpensFsP P sz d ((List.range n).map (arrF P e)) 0 wf) (hg : ∀ a, d' (g a) = d a) (hwf : ∀ a, wf a → wf' (g a)) : OpensP P sz d' T wf' := by
  refine ⟨?_⟩
  intro H enc w base spare held fuel cs x h
  cases fuel with
  | zero => simp [DataW.trod] at h
  | succ fu =>
    unfold DataW.trod at h
    rw [ht] at h
    simp only at h
    split at h
    · rename_i hlen
      obtain ⟨xs, hxs, _⟩ := Option.map_eq_some_iff.1 h
      obtain ⟨a, ha, hl, hw⟩ := ho.out (xs := xs) (by rw [hlen, hc]; omega) (by rw [mapM_of_map]; exact hxs)
      refine ⟨g a, ?_, by rw [hg]; exact hl, hwf a hw⟩
      rw [hg]
      exact ha
    · cases h
theorem arg_aggP {P : Program} {α : Type} {sz : Nat} {d : α → List PV} {T : TypeId} {wf : α → Prop} (ha : (match P.underlying T with | some (.struct _) | some (.array _ _) => true | _ => false) = true) (ho : OpensP P sz d T wf)
    {H : Type} {enc : TypeId × Value → H} {w : World} {base b0 : Nat} {spare : Nat → Bool} {held : Bool} {v : Value} {dd : DataW H} {ps : List MemPlace} {r : Reach}
    (hval : Value.okWide P w r b0 T v) (h : DataW.Trod enc P w base spare held T v dd ps) : ∃ a : α, RepA (allI w) w v (aA (d a)) ∧ wf a := by
  obtain ⟨cs, rfl⟩ : ∃ cs, v = .agg cs := by
    unfold Value.okWide at hval
    split at hval
    · obtain ⟨cs, h1, _⟩ := hval; exact ⟨cs, h1⟩
    · obtain ⟨cs, h1, _⟩ := hval; exact ⟨cs, h1⟩
    · rename_i h1 h2
      split at ha
      · rename_i fs e; exact (h1 _ e).elim
      · rename_i n e q; exact (h2 _ _ q).elim
      · cases ha
  obtain ⟨fuel, hf⟩ := h
  obtain ⟨a, ha, hl, hw⟩ := ho.out hf
  refine ⟨a, ⟨cs, rfl, ?_, fun j y u hy hu => ha.2 j y u hy ?_⟩, hw⟩
  · have := ha.1
    simpa [Value.cells] using this
  · simpa [Value.cells] using hu
def strData {H : Type} (zs : List ByteArray) : DataW H := .agg (zs.map fun z => .lit (.string z.data.toList))
theorem cells_of_strs {H : Type} {enc : TypeId × Value → H} {P : Program} {w : World} {base : Nat} {sp : Nat → Bool} {held : Bool} {fuel : Nat} {t e : TypeId} {n : Nat} {cs : List Value} {zs : List ByteArray} {p : List MemPlace}
    (ht : P.underlying t = some (.array n e)) (he : P.underlying e = some .string) (hce : P.cellsOf e = 1) (hct : P.cellsOf t = n)
    (h : DataW.trod enc P w base sp held fuel t cs = some (strData zs, p)) : cs = zs.map fun z => Value.string z := by
  cases fuel with
  | zero => simp [DataW.trod] at h
  | succ fuel =>
    simp only [DataW.trod, ht, hce, hct, Nat.mul_one] at h
    split at h
    · rename_i hl
      obtain ⟨xs, hm, hx⟩ := Option.map_eq_some_iff.1 h
      have hxs : xs.map (·.1) = zs.map fun z => (DataW.lit (.string z.data.toList) : DataW H) := by
        have := congrArg Prod.fst hx
        simpa [strData] using this
      have hxl : xs.length = n := by simpa using Lib.mapM_length hm
      have hzl : zs.length = n := by
        have := congrArg List.length hxs
        simp at this
        omega
      apply List.ext_getElem?
      intro i
      by_cases hi : i < n
      · obtain ⟨b, hb, hf⟩ := Lib.mapM_at hm i i (by simp [hi])
        obtain ⟨z, hc, hbz, _⟩ := DataW.trod_string he hf
        have h1 : cs[i]? = some (.string z) := by
          have := congrArg (·[0]?) hc
          simpa [List.getElem?_take, List.getElem?_drop] using this
        have h2 : (xs.map (·.1))[i]? = some (DataW.lit (.string z.data.toList) : DataW H) := by simp [hb, hbz]
        rw [hxs] at h2
        simp only [List.getElem?_map, Option.map_eq_some_iff, DataW.lit.injEq, Lit.string.injEq] at h2
        obtain ⟨z', hz', hq⟩ := h2
        have : z' = z := by
          cases z; cases z'
          congr 1
          exact Array.ext' hq
        subst this
        simp [h1, hz']
      · rw [List.getElem?_eq_none (by omega), List.getElem?_eq_none (by simp; omega)]
    · cases h
theorem glob_ref {P : Program} {W : World} {name : String} {g : Nat} {vs : List Value} (hg : P.globalNamed name = some g) (h : W.var? P name = some vs.toArray) (hf : ∀ v ∈ vs, flatV v = true) :
    RepP (allI W) W (.pointer (some ⟨g, 0, none⟩)) (.ref (vs.map .sc)) := by
  have hb : ∃ t f, W.heap[g]? = some (.cells vs.toArray t f) := by
    unfold World.var? at h
    rw [hg] at h
    simp only [Option.bind_some] at h
    split at h
    · rename_i cs t f e; cases h; exact ⟨t, f, e⟩
    · cases h
  obtain ⟨t, f, hb⟩ := hb
  refine .ref (fun j => (vs[j]?).getD .nilFunc) (fun j x hx => ?_) (fun j x hx => ?_)
  · simp only [List.getElem?_map, Option.map_eq_some_iff] at hx
    obtain ⟨v, hv, rfl⟩ := hx
    refine ⟨(Array.getElem?_eq_some_iff.1 hb).1, ?_⟩
    simp [World.cell?, hb, hv]
  · simp only [List.getElem?_map, Option.map_eq_some_iff] at hx
    obtain ⟨v, hv, rfl⟩ := hx
    simp only [hv, Option.getD_some]
    exact .sc (hf v (List.mem_of_getElem? hv))
end Go.Proofs.YtjhljcnjafbkfaaDoor.X
end
