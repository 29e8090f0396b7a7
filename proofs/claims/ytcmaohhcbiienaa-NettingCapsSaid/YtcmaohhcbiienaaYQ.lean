import Derived.Test.YtcmaohhcbiienaaYN
/-! YQ: laws of calls that are given own variables, and hand out some. -/
set_option linter.unusedVariables false
set_option linter.unusedSimpArgs false
namespace Go.Proofs.Ytcmaohhcbiienaa.X
open Go.RowKit

section
variable {C : Cx} {F : Fr} {k : List It} {Q : Post} {id : Nat} {draw : Bool} {ops : Array Oper} {l : List Oper} {us : List Upd} {d : Option Nat} {ob ob' : ObF} {rt rt' : RtF} {nx nx' n m o q i p sh off lo : Nat} {x : PV} {cs : List CV} {c : CV} {f : Nat → Nat} {os tg : List Nat} {tm : Nat → AT} {r : AT} {rs : List AT} {t : TypeId} {u v : TypeId} {pos : String} {after : Array Edge} {g : Option (Nat × Bool)} {y : Operand} {s : St}

theorem range_0 : List.range 0 = [] := rfl
theorem range_1 : List.range 1 = [0] := rfl
theorem range_2 : List.range 2 = [0, 1] := rfl
theorem range_3 : List.range 3 = [0, 1, 2] := rfl
theorem range_4 : List.range 4 = [0, 1, 2, 3] := rfl
theorem range_5 : List.range 5 = [0, 1, 2, 3, 4] := rfl
theorem range_6 : List.range 6 = [0, 1, 2, 3, 4, 5] := rfl
theorem range_7 : List.range 7 = [0, 1, 2, 3, 4, 5, 6] := rfl
theorem range_8 : List.range 8 = [0, 1, 2, 3, 4, 5, 6, 7] := rfl
theorem range_9 : List.range 9 = [0, 1, 2, 3, 4, 5, 6, 7, 8] := rfl
theorem noDup_0 : noDup [] = true := rfl
theorem noDup_c {l : List Nat} : noDup (o :: l) = (!(l.contains o) && noDup l) := rfl
theorem posIn_c {l : List Nat} : posIn (q :: l) o = if o = q then 0 else posIn l o + 1 := rfl
theorem renC_p : renC f sh (.p none x) = .p none x := rfl
theorem renC_n : renC f sh (.p (some n) x) = .p (some (if n = 0 then 0 else n + sh)) x := rfl
theorem renC_pt : renC f sh (.pt o off) = .pt (f o) off := rfl
theorem renC_pr {r : Nat} : renC f sh (.pr o r off) = .pr (f o) r off := rfl
theorem renC_vw : renC f sh (.vw o lo n) = .vw (f o) lo n := rfl
theorem renC_cl {g : FuncId} : renC f sh (.cl g cs) = .cl g (renL f sh cs) := rfl
theorem renL_0 : renL f sh [] = [] := rfl
theorem renL_c : renL f sh (c :: cs) = renC f sh c :: renL f sh cs := rfl
theorem renT_1 : renT f sh (.one c) = .one (renC f sh c) := rfl
theorem renT_a : renT f sh (.agg cs) = .agg (renL f sh cs) := rfl
theorem renT_n : renT f sh .no = .no := rfl
theorem renO_v : renO f sh (.var cs) = .var (renL f sh cs) := rfl
theorem renO_a {fz : Bool} {z : Nat} {rows : List (List PV)} : renO f sh (.arr fz z rows) = .arr fz z rows := rfl
theorem rtsC_p : rtsC (.p none x) = [] := rfl
theorem rtsC_n : rtsC (.p (some n) x) = [n] := rfl
theorem rtsC_pt : rtsC (.pt o off) = [] := rfl
theorem rtsC_pr {r : Nat} : rtsC (.pr o r off) = [] := rfl
theorem rtsC_vw : rtsC (.vw o lo n) = [] := rfl
theorem rtsC_cl {g : FuncId} : rtsC (.cl g cs) = [] := rfl
theorem rtsT_1 : rtsT (.one c) = rtsC c := rfl
theorem rtsT_a : rtsT (.agg cs) = cs.flatMap rtsC := rfl
theorem rtsT_n : rtsT .no = [] := rfl
theorem rtsO_v : rtsO (some (.var cs)) = cs.flatMap rtsC := rfl
theorem rtsO_a {fz : Bool} {z : Nat} {rows : List (List PV)} : rtsO (some (.arr fz z rows)) = [] := rfl
theorem rtsO_n : rtsO none = [] := rfl
def inS (f : Nat → Nat) (i : Nat) (r : ObF) : Option Obj → ObF
  | some x => upd r i (some (renO f 0 x))
  | none => r
theorem inO_0 : inO ob f [] i = noOb := rfl
theorem inO_c : inO ob f (o :: os) i = inS f i (inO ob f os (i + 1)) (ob o) := by
  simp only [inO, inS]
  cases ob o <;> rfl
theorem inS_s {r : ObF} {x : Obj} : inS f i r (some x) = upd r i (some (renO f 0 x)) := rfl
theorem inS_n {r : ObF} : inS f i r none = r := rfl
theorem takeO_e : takeO ob os = inO ob (posIn os) os 0 := rfl
def bkS (f : Nat → Nat) (sh q : Nat) (r : List (Nat × Obj)) : Option Obj → List (Nat × Obj)
  | some x => (q, renO f sh x) :: r
  | none => r
theorem backO_0 : backO ob' f sh [] p = [] := rfl
theorem backO_c : backO ob' f sh (q :: tg) p = bkS f sh q (backO ob' f sh tg (p + 1)) (ob' p) := by
  simp only [backO, bkS]
  cases ob' p <;> rfl
theorem bkS_s {r : List (Nat × Obj)} {x : Obj} : bkS f sh q r (some x) = (q, renO f sh x) :: r := rfl
theorem bkS_n {r : List (Nat × Obj)} : bkS f sh q r none = r := rfl
theorem pvC_p' {w : Option Nat} : pvC ob (.p w x) = some x := rfl
theorem pvC_vw' : pvC ob (.vw o lo n) = snapV lo n (ob o) := by
  simp only [pvC, snapV]
  cases ob o with
  | none => rfl
  | some y => cases y <;> rfl
theorem seeO_e {xs : List AT} {vis : List Nat} : seeO ob xs vis = (reach ob 2 (addS (xs.flatMap refsT) vis)).filter fun o => (ob o).isSome := rfl
theorem resAll_1 : resAll [r] = some r := rfl
theorem resAll_0 : resAll [] = some (.tup []) := rfl
theorem resAll_2 {r' : AT} : resAll (r :: r' :: rs) = (cvAs (r :: r' :: rs)).map .tup := rfl
theorem cvAs_a : cvAs (.agg cs :: rs) = (cvAs rs).map ((true, cs) :: ·) := by
  simp only [cvAs, cvA]
  cases cvAs rs <;> rfl
/-- The rights behind a call. -/
def rtM (rt : RtF) (used : List Nat) (nx : Nat) (rt' : RtF) : RtF := fun n => if n < nx then rt n && !(used.contains n) else !(n == nx) && rt' (n - nx)
theorem rtM_at {used : List Nat} : rtM rt used nx rt' n = if n < nx then rt n && !(used.contains n) else !(n == nx) && rt' (n - nx) := rfl
theorem rtH_M {a : Nat} (h : a ≤ nx) : rtH (rtM rt [] nx rt') a m = rtH rt a m := by
  funext n
  unfold rtH rtM
  by_cases h1 : n < a
  · have : n < nx := by omega
    simp [h1, this]
  · simp [h1]
theorem rtH_H {a m' : Nat} : rtH (rtH rt a m) a m' = rtH rt a m' := by
  funext n
  unfold rtH
  by_cases h1 : n < a
  · by_cases h0 : n = 0
    · simp [h1, h0]
    · simp [h1, h0]
  · simp [h1]
theorem rtH_P {a : Nat} (ha : 0 < a) (h : a ≤ m) : rtH (rtP a) a m = rtP m := by
  funext n
  unfold rtH rtP
  by_cases h1 : n < a
  · have : n < m := by omega
    by_cases h0 : n = 0
    · simp [h0, ha]
    · simp [h1, h0, this]
  · by_cases h0 : n = 0
    · subst h0; omega
    · simp [h1, h0]
theorem rtH_P2 {a k : Nat} (ha : 0 < a) (h : a ≤ m) (hk : a ≤ k) : rtH (rtP k) a m = rtP m := by
  funext n
  unfold rtH rtP
  by_cases h1 : n < a
  · have h2 : n < m := by omega
    have h3 : n < k := by omega
    by_cases h0 : n = 0
    · simp [h0, ha]
    · simp [h1, h0, h2, h3]
  · by_cases h0 : n = 0
    · subst h0; omega
    · simp [h1, h0]
theorem rtH_u {a : Nat} {b : Bool} (h : a ≤ n) : rtH (upd rt n b) a m = rtH rt a m := by
  funext j
  unfold rtH
  by_cases h1 : j < a
  · rw [upd_ne _ _ (show j ≠ n by omega)]
  · simp [h1]
/-- What comes back, and what is handed out. -/
def mvN (base d : Nat) (rt : RtF) (used : List Nat) (nx : Nat) (tg : List Nat) (r : Option AT) (L : List (Nat × Obj)) (ob : ObF) (rt' : RtF) (nx' : Nat) (ok : Bool) : Option Upd :=
  if ok = true then r.map fun r => { val := r, rd := tg, all := some (L.foldl (fun f p => upd f p.1 (some p.2)) ob, rtM rt used nx rt', nx + nx') } else none
theorem mvEnd_e {base d : Nat} {used : List Nat} : mvEnd base d nx os ob rt used rs ob' rt' nx' =
    mvN base d rt used nx (os ++ [base + d, base + d + 4096, base + d + 8192, base + d + 12288]) (resAll (rs.map (renT (fun p => (os ++ [base + d, base + d + 4096, base + d + 8192, base + d + 12288]).getD p 0) nx)))
      (backO ob' (fun p => (os ++ [base + d, base + d + 4096, base + d + 8192, base + d + 12288]).getD p 0) nx (os ++ [base + d, base + d + 4096, base + d + 8192, base + d + 12288]) 0) ob rt' nx'
      ((ob (base + d)).isNone && ((ob (base + d + 4096)).isNone && ((ob (base + d + 8192)).isNone && (ob (base + d + 12288)).isNone))) := by
  have : ([base + d, base + d + 4096, base + d + 8192, base + d + 12288].all fun q => (ob q).isNone) = ((ob (base + d)).isNone && ((ob (base + d + 4096)).isNone && ((ob (base + d + 8192)).isNone && (ob (base + d + 12288)).isNone))) := by
    simp only [List.all_cons, List.all_nil, Bool.and_true]
  unfold mvEnd mvN
  simp only [this]
  rfl
theorem mvN_t {base d : Nat} {used tg : List Nat} {L : List (Nat × Obj)} : mvN base d rt used nx tg (some r) L ob rt' nx' true = some { val := r, rd := tg, all := some (L.foldl (fun f p => upd f p.1 (some p.2)) ob, rtM rt used nx rt', nx + nx') } := rfl
@[congr] theorem mvN_congr {base d : Nat} {used used' tg : List Nat} {nx2 nx3 : Nat} {r r' : Option AT} {L L' : List (Nat × Obj)} {ok ok' : Bool} (hu : used = used') (hr : r = r') (hL : L = L') (hk : ok = ok') (h2 : nx = nx2) (h3 : nx' = nx3) :
    mvN base d rt used nx tg r L ob rt' nx' ok = mvN base d rt used' nx2 tg r' L' ob rt' nx3 ok' := by rw [hu, hr, hL, hk, h2, h3]
theorem ap_all {d : Nat} {r : AT} {rd : List Nat} {ob0 : ObF} {rt0 : RtF} {nx0 : Nat} : apU (some d) { val := r, rd := rd, all := some (ob', rt', nx') } ⟨tm, ob0, rt0, nx0⟩ = ⟨upd tm d r, ob', rt', nx'⟩ := rfl
theorem ap_all0 {r : AT} {rd : List Nat} {ob0 : ObF} {rt0 : RtF} {nx0 : Nat} : apU none { val := r, rd := rd, all := some (ob', rt', nx') } ⟨tm, ob0, rt0, nx0⟩ = ⟨tm, ob', rt', nx'⟩ := rfl
theorem touch_range {base : Nat} {u : Upd} : touchOk base (List.range base) u = true := by
  unfold touchOk
  have h : ∀ q, (decide (base ≤ q) || (List.range base).contains q) = true := fun q => by
    simp
    omega
  simp only [Bool.and_eq_true, List.all_eq_true, Bool.or_eq_true]
  exact ⟨fun p _ => by simpa using h p.1, .inr fun q _ => by simpa using h q⟩
theorem touch_m0 {u : Upd} : touchOk 0 [] u = true := touch_range (base := 0)
theorem touch_m1 {u : Upd} : touchOk 1 [0] u = true := touch_range (base := 1)
theorem touch_m2 {u : Upd} : touchOk 2 [0, 1] u = true := touch_range (base := 2)
theorem touch_m3 {u : Upd} : touchOk 3 [0, 1, 2] u = true := touch_range (base := 3)
theorem touch_m4 {u : Upd} : touchOk 4 [0, 1, 2, 3] u = true := touch_range (base := 4)
theorem isAT_1 : isAT (.one c) = true := rfl
theorem isAT_a : isAT (.agg cs) = true := rfl
theorem isAT_n : isAT .no = false := rfl

/-! ### the end of such a function -/
def lvL (n base : Nat) (ok : Bool) (L : List Nat) (tm : Nat → AT) (ob : ObF) (rt : RtF) (nx : Nat) : Option (List AT × ObF × RtF × Nat) :=
  if noDup L = true ∧ L.length ≤ base + 4 ∧ ok = true then some ((List.range n).map fun i => renT (posIn L) 0 (tm i), takeO ob L, rt, nx) else none
def lvH (n base : Nat) (ok : Bool) (see : List Nat) : Option St → Option (List AT × ObF × RtF × Nat)
  | some ⟨tm, ob, rt, nx⟩ => lvL n base ok (List.range base ++ (see.filter fun o => decide (base ≤ o)).reverse) tm ob rt nx
  | none => none
theorem leave_e {base : Nat} : leave base nx ⟨tm, ob, rt, nx'⟩ rs = lvH rs.length base (rs.all isAT) (seeO ob (rs.map (coldT ob)) (List.range base)) (head base nx (List.range base) (List.range rs.length) ⟨initTm rs 0, ob, rt, nx'⟩) := by
  unfold leave
  simp only
  cases head base nx (List.range base) (List.range rs.length) ⟨initTm rs 0, ob, rt, nx'⟩ with
  | none => rfl
  | some s1 => rfl
theorem lvH_s {base : Nat} {ok : Bool} {see : List Nat} : lvH n base ok see (some ⟨tm, ob, rt, nx⟩) = lvL n base ok (List.range base ++ (see.filter fun o => decide (base ≤ o)).reverse) tm ob rt nx := rfl
@[congr] theorem lvH_congr {base n' : Nat} {ok ok' : Bool} {see see' : List Nat} {h h' : Option St} (h1 : n = n') (h2 : ok = ok') (h3 : see = see') (h4 : h = h') : lvH n base ok see h = lvH n' base ok' see' h' := by rw [h1, h2, h3, h4]
theorem lvL_e {base : Nat} {ok : Bool} {L : List Nat} : lvL n base ok L tm ob rt nx = if noDup L = true ∧ L.length ≤ base + 4 ∧ ok = true then some ((List.range n).map fun i => renT (posIn L) 0 (tm i), takeO ob L, rt, nx) else none := rfl
@[congr] theorem lvL_congr {base : Nat} {ok : Bool} {L L' : List Nat} (h : L = L') : lvL n base ok L tm ob rt nx = lvL n base ok L' tm ob rt nx := by rw [h]
theorem retQM_e {base : Nat} {rv : List ResultVar} {z : Out} {s : St} : RetQM C base nx rv rs ob' rt' nx' z s = (outRet z = true ∧ leave base nx s (rv.map (resAT1 C.E s)) = some (rs, ob', rt', nx')) := rfl
/-- 'clear'. -/
def clrV (o lo n : Nat) (ti : TI) (zr : Option (List PV)) : Option Obj → Option Upd
  | some (.arr false z' rows) => match zr with
    | some z => if ti.kd = 3 ∧ z' = ti.esz ∧ z.length = ti.esz ∧ lo + n ≤ rows.length then some { val := .tup [], ow := [(o, .arr false z' (splice rows lo (List.replicate n z)))], rd := [o] } else none
    | none => none
  | _ => none
def clrU (E : Env) (ti : Option TI) (a : AT) (ob : ObF) : Option Upd := match ti, a with
  | some ti, .one (.vw o lo n) => clrV o lo n ti ((E.T ti.e).bind fun te => pvL ob te.zero) (ob o)
  | _, _ => none
theorem clrU_eq {E : Env} {ti : TI} : clrU E (some ti) (.one (.vw o lo n)) ob = clrV o lo n ti ((E.T ti.e).bind fun te => pvL ob te.zero) (ob o) := rfl
theorem clrV_eq {ti : TI} {z' : Nat} {z : List PV} {rows : List (List PV)} : clrV o lo n ti (some z) (some (.arr false z' rows)) = if ti.kd = 3 ∧ z' = ti.esz ∧ z.length = ti.esz ∧ lo + n ≤ rows.length then some { val := .tup [], ow := [(o, .arr false z' (splice rows lo (List.replicate n z)))], rd := [o] } else none := rfl
theorem so_clear : StepO C F k Q id draw ops l s us ⟨d, .call { callee := .builtin .clear, args := [y].toArray, argTypes := [u].toArray }, t, pos, after, g⟩ =
    StepU C F k Q id draw ops l s us d (clrU C.E (C.E.T u) (evOpd C.E s.tm y) s.ob) :=
  stepO_of fun call => by
    have e : evOp C.E (C.gen F.f) call F.base (evOpd C.E s.tm) s.ob s.rt s.nx ⟨d, .call { callee := .builtin .clear, args := [y].toArray, argTypes := [u].toArray }, t, pos, after, g⟩ =
      (match C.E.T u, evOpd C.E s.tm y with
        | some ti, .one (.vw o lo n) => match s.ob o, C.E.T ti.e with
          | some (.arr false z' rows), some te => match pvL s.ob te.zero with
            | some z => if ti.kd = 3 ∧ z' = ti.esz ∧ z.length = ti.esz ∧ lo + n ≤ rows.length then
                some { val := .tup [], ow := [(o, .arr false z' (splice rows lo (List.replicate n z)))], rd := [o] }
              else none
            | none => none
          | _, _ => none
        | _, _ => none : Option Upd) := rfl
    rw [e]
    unfold clrU clrV
    split
    · rename_i ti o lo n h1 h2
      split
      · rename_i z' rows te h3 h4
        rw [h3, h4]
        rfl
      · rename_i h5
        split
        · rename_i z' rows h6
          cases h7 : C.E.T ti.e with
          | none => rfl
          | some te => exact absurd h7 (h5 _ _ _ h6)
        · rfl
    · rfl
end
end Go.Proofs.Ytcmaohhcbiienaa.X
