import Derived.Test.YtcmaohhcbiienaaYK
/-! YL: more operations; what is left behind; heads. -/
set_option linter.unusedVariables false
namespace Go.Proofs.Ytcmaohhcbiienaa.X
open Go.RowKit

section
variable {C : Cx} {F : Fr} {k : List It} {s : St} {Q : Post} {id : Nat} {draw : Bool} {ops : Array Oper} {l : List Oper} {us : List Upd} {d : Option Nat} {t u v : TypeId} {pos : String} {after : Array Edge} {g : Option (Nat × Bool)} {x y z : Operand}

/-! ### len, append, copy -/
def lnU (x : AT) (kd : Option Nat) : Option Upd := match x, kd with
  | .one (.p _ (.sl _ l)), some 3 => some { val := .one (.p none (.sc (.int .i64 l.length))) }
  | .one (.vw _ _ n), some 3 => some { val := .one (.p none (.sc (.int .i64 n))) }
  | _, _ => none
/-- A length, and the rows behind it. -/
def StepL (C : Cx) (F : Fr) (k : List It) (Q : Post) (id : Nat) (draw : Bool) (ops : Array Oper) (l : List Oper) (s : St) (us : List Upd) (d : Option Nat) (u : Option Upd) (o : Oper) : Prop :=
  match u with
  | some u => StepU C F k Q id draw ops l s us d (some u)
  | none => StepU C F k Q id draw ops l s us d (evGen C.E (evOpd C.E s.tm) o)
@[congr] theorem stepL_congr {o : Oper} {u v : Option Upd} (h : u = v) : StepL C F k Q id draw ops l s us d u o = StepL C F k Q id draw ops l s us d v o := by rw [h]
theorem stepL_some {o : Oper} {u : Upd} : StepL C F k Q id draw ops l s us d (some u) o = StepU C F k Q id draw ops l s us d (some u) := rfl
theorem so_len : StepO C F k Q id draw ops l s us ⟨d, .call { callee := .builtin .len, args := [x].toArray, argTypes := [u].toArray }, t, pos, after, g⟩ =
    StepL C F k Q id draw ops l s us d (lnU (evOpd C.E s.tm x) ((C.E.T u).map (·.kd))) ⟨d, .call { callee := .builtin .len, args := [x].toArray, argTypes := [u].toArray }, t, pos, after, g⟩ := by
  have e : ∀ call, evOp C.E (C.gen F.f) call F.base (evOpd C.E s.tm) s.ob s.rt s.nx ⟨d, .call { callee := .builtin .len, args := [x].toArray, argTypes := [u].toArray }, t, pos, after, g⟩ =
      (match lnU (evOpd C.E s.tm x) ((C.E.T u).map (·.kd)) with
      | some u => some u
      | none => evGen C.E (evOpd C.E s.tm) ⟨d, .call { callee := .builtin .len, args := [x].toArray, argTypes := [u].toArray }, t, pos, after, g⟩) := fun _ => rfl
  rw [stepO_of e]
  unfold StepL
  split <;> simp_all
theorem lnU_sl {w : Option Nat} {z : Nat} {l : List (List PV)} : lnU (.one (.p w (.sl z l))) (some 3) = some { val := .one (.p none (.sc (.int .i64 l.length))) } := rfl
theorem lnU_vw {o lo n : Nat} : lnU (.one (.vw o lo n)) (some 3) = some { val := .one (.p none (.sc (.int .i64 n))) } := rfl
theorem lnU_sc {w : Option Nat} {v : Value} {kd : Option Nat} : lnU (.one (.p w (.sc v))) kd = none := by cases kd <;> rfl

def apnV (E : Env) (ti : TI) (z : Nat) (q : Nat) (sn : List Nat) (y : Option PV) (oq : Option Obj) : Option Upd := match y, oq with
  | some (.sl z' l'), none => if z = ti.esz ∧ z' = ti.esz ∧ (E.T ti.e).isSome ∧ 0 < ti.esz ∧ l'.length ≤ 16777216 ∧ ti.eby ≤ 4096 then
      some { val := .one (.vw q 0 l'.length), ow := [(q, .arr false z l')], rd := q :: sn }
    else none
  | _, _ => none
def apnU (E : Env) (ti : Option TI) (tu : Bool) (a b : AT) (q : Nat) (ob : ObF) : Option Upd := match ti with
    | some ti => if ti.kd = 3 ∧ tu = true then match a, b with
      | .one (.p (some 0) (.sl z [])), .one cy => apnV E ti z q (seenC cy) (pvC ob cy) (ob q)
      | _, _ => none
      else none
    | none => none
theorem apnU_eq {E : Env} {ti : TI} {z q : Nat} {cy : CV} {ob : ObF} : apnU E (some ti) true (.one (.p (some 0) (.sl z []))) (.one cy) q ob = if ti.kd = 3 then apnV E ti z q (seenC cy) (pvC ob cy) (ob q) else none := by
  simp only [apnU, and_true]
theorem apnV_eq {E : Env} {ti : TI} {z z' q : Nat} {sn : List Nat} {l' : List (List PV)} : apnV E ti z q sn (some (.sl z' l')) none = if z = ti.esz ∧ z' = ti.esz ∧ (E.T ti.e).isSome ∧ 0 < ti.esz ∧ l'.length ≤ 16777216 ∧ ti.eby ≤ 4096 then
      some { val := .one (.vw q 0 l'.length), ow := [(q, .arr false z l')], rd := q :: sn }
    else none := rfl
def apdU (E : Env) (ti : Option TI) (tu : Bool) (a b : AT) (rt : RtF) (nx : Nat) : Option Upd := match ti with
    | some ti => if ti.kd = 3 ∧ tu = true then match a, b with
      | .one (.p (some n) (.sl z l)), .one (.p _ (.sl z' l')) =>
        if z = ti.esz ∧ z' = ti.esz ∧ (E.T ti.e).isSome ∧ 0 < ti.esz ∧ (n = 0 ∨ rt n = true) ∧ l.length + l'.length ≤ 16777216 ∧ ti.eby ≤ 4096 then
          some { val := .one (.p (some nx) (.sl z (l ++ l'))), rw := some n, nl := true }
        else none
      | _, _ => none
      else none
    | none => none
theorem so_append {d : Nat} : StepO C F k Q id draw ops l s us ⟨some d, .call { callee := .builtin .append, args := [x, y].toArray, argTypes := [u, v].toArray }, t, pos, after, g⟩ =
    StepU C F k Q id draw ops l s us (some d) (if C.gen F.f d = true then apnU C.E (C.E.T u) (decide (u = v)) (opV C.E s.tm u x) (opV C.E s.tm u y) (F.base + d) s.ob else apdU C.E (C.E.T u) (decide (u = v)) (opV C.E s.tm u x) (opV C.E s.tm u y) s.rt s.nx) :=
  stepO_of fun call => by
    have e : evOp C.E (C.gen F.f) call F.base (evOpd C.E s.tm) s.ob s.rt s.nx ⟨some d, .call { callee := .builtin .append, args := [x, y].toArray, argTypes := [u, v].toArray }, t, pos, after, g⟩ =
      (match C.E.T u with
      | some ti => if ti.kd = 3 ∧ u = v then
        if C.gen F.f d = true then match opT C.E (evOpd C.E s.tm) u x, opT C.E (evOpd C.E s.tm) u y, some d with
          | .one (.p (some 0) (.sl z [])), .one cy, some d => match pvC s.ob cy, s.ob (F.base + d) with
            | some (.sl z' l'), none => if z = ti.esz ∧ z' = ti.esz ∧ (C.E.T ti.e).isSome ∧ 0 < ti.esz ∧ l'.length ≤ 16777216 ∧ ti.eby ≤ 4096 then
                some { val := .one (.vw (F.base + d) 0 l'.length), ow := [(F.base + d, .arr false z l')], rd := (F.base + d) :: seenC cy }
              else none
            | _, _ => none
          | _, _, _ => none
        else match opT C.E (evOpd C.E s.tm) u x, opT C.E (evOpd C.E s.tm) u y, some d with
        | .one (.p (some n) (.sl z l)), .one (.p _ (.sl z' l')), some d =>
          if z = ti.esz ∧ z' = ti.esz ∧ (C.E.T ti.e).isSome ∧ 0 < ti.esz ∧ (n = 0 ∨ s.rt n = true) ∧ l.length + l'.length ≤ 16777216 ∧ ti.eby ≤ 4096 then
            some { val := .one (.p (some s.nx) (.sl z (l ++ l'))), rw := some n, nl := true }
          else none
        | _, _, _ => none
        else none
      | none => none : Option Upd) := rfl
    rw [e, opT_eq, opT_eq]
    unfold apdU apnU
    cases C.E.T u with
    | none => simp
    | some ti =>
      simp only
      by_cases h : ti.kd = 3 ∧ u = v
      · by_cases hg : C.gen F.f d = true
        · rw [if_pos h, if_pos hg, if_pos hg, if_pos ⟨h.1, decide_eq_true h.2⟩]
          unfold apnV
          split
          · rename_i z cy d' e1 e2 e3
            cases e3
            simp only [e1, e2]
          · rename_i h1
            split
            · rename_i z cy e1 e2
              exact absurd rfl (h1 _ _ _ e1 e2)
            · rfl
        rw [if_pos h, if_neg hg, if_neg hg, if_pos ⟨h.1, decide_eq_true h.2⟩]
        split
        · simp_all
        · rename_i h1
          split
          · rename_i w z l w' z' l' e1 e2
            exact absurd e2 (h1 _ _ _ _ _ _ _ e1 · rfl)
          · rfl
      · have hd : ¬ (ti.kd = 3 ∧ decide (u = v) = true) := fun q => h ⟨q.1, of_decide_eq_true q.2⟩
        by_cases hg : C.gen F.f d = true
        · rw [if_neg h, if_pos hg, if_neg hd]
        · rw [if_neg h, if_neg hg, if_neg hd]
theorem apdU_eq {E : Env} {ti : TI} {n z z' nx : Nat} {w : Option Nat} {l l' : List (List PV)} {rt : RtF} : apdU E (some ti) true (.one (.p (some n) (.sl z l))) (.one (.p w (.sl z' l'))) rt nx =
    if ti.kd = 3 then (if z = ti.esz ∧ z' = ti.esz ∧ (E.T ti.e).isSome ∧ 0 < ti.esz ∧ (n = 0 ∨ rt n = true) ∧ l.length + l'.length ≤ 16777216 ∧ ti.eby ≤ 4096 then
          some { val := .one (.p (some nx) (.sl z (l ++ l'))), rw := some n, nl := true }
        else none) else none := by simp [apdU]

/-! ### slices -/
def StepS (C : Cx) (F : Fr) (k : List It) (Q : Post) (id : Nat) (draw : Bool) (ops : Array Oper) (l : List Oper) (s : St) (us : List Upd) (d : Option Nat) (ti : Option TI) (x : AT) (lo hi mx : Option (Option Int)) (o : Oper) : Prop :=
  StepU C F k Q id draw ops l s us d (match ti, x, lo, hi, mx with
    | some ti, .one (.p _ (.sl z l)), some lo, some hi, some mx =>
      if ti.kd = 3 ∧ z = ti.esz ∧ 0 ≤ lo.getD 0 ∧ lo.getD 0 ≤ hi.getD l.length ∧ hi.getD l.length ≤ mx.getD (hi.getD l.length) ∧ mx.getD (hi.getD l.length) ≤ l.length ∧ (mx.isSome → hi.isSome) then
        some { val := .one (.p (if mx.isSome ∧ hi.getD l.length = mx.getD (hi.getD l.length) then some 0 else none) (.sl z ((l.take (hi.getD l.length).toNat).drop (lo.getD 0).toNat))) }
      else none
    | some ti, .one (.vw o lo n), some l, some hi, some none =>
      match s.ob o with
      | some (.arr _ z _) => if ti.kd = 3 ∧ z = ti.esz ∧ 0 ≤ l.getD 0 ∧ l.getD 0 ≤ hi.getD n ∧ hi.getD n ≤ n then some { val := .one (.vw o (lo + (l.getD 0).toNat) (hi.getD n - l.getD 0).toNat), rd := [o] } else none
      | _ => none
    | _, _, _, _, _ => evGen C.E (evOpd C.E s.tm) o)
theorem so_slice {lo hi mx : Option Operand} : StepO C F k Q id draw ops l s us ⟨d, .slice u x lo hi mx, t, pos, after, g⟩ =
    StepS C F k Q id draw ops l s us d (C.E.T u) (evOpd C.E s.tm x) (optIdx (evOpd C.E s.tm) lo) (optIdx (evOpd C.E s.tm) hi) (optIdx (evOpd C.E s.tm) mx) ⟨d, .slice u x lo hi mx, t, pos, after, g⟩ :=
  stepO_of fun call => rfl
theorem stepS_p {ti : TI} {w : Option Nat} {z : Nat} {ls : List (List PV)} {lo hi mx : Option Int} {o : Oper} : StepS C F k Q id draw ops l s us d (some ti) (.one (.p w (.sl z ls))) (some lo) (some hi) (some mx) o =
    StepU C F k Q id draw ops l s us d (if ti.kd = 3 ∧ z = ti.esz ∧ 0 ≤ lo.getD 0 ∧ lo.getD 0 ≤ hi.getD ls.length ∧ hi.getD ls.length ≤ mx.getD (hi.getD ls.length) ∧ mx.getD (hi.getD ls.length) ≤ ls.length ∧ (mx.isSome → hi.isSome) then
        some { val := .one (.p (if mx.isSome ∧ hi.getD ls.length = mx.getD (hi.getD ls.length) then some 0 else none) (.sl z ((ls.take (hi.getD ls.length).toNat).drop (lo.getD 0).toNat))) }
      else none) := rfl
theorem stepS_vw {ti : TI} {o lo n : Nat} {a hi : Option Int} {op : Oper} : StepS C F k Q id draw ops l s us d (some ti) (.one (.vw o lo n)) (some a) (some hi) (some none) op =
    StepU C F k Q id draw ops l s us d (match s.ob o with
      | some (.arr _ z _) => if ti.kd = 3 ∧ z = ti.esz ∧ 0 ≤ a.getD 0 ∧ a.getD 0 ≤ hi.getD n ∧ hi.getD n ≤ n then some { val := .one (.vw o (lo + (a.getD 0).toNat) (hi.getD n - a.getD 0).toNat), rd := [o] } else none
      | _ => none) := rfl
theorem optIdx_none {ρ : Operand → AT} : optIdx ρ none = some none := rfl
theorem optIdx_some {ρ : Operand → AT} : optIdx ρ (some x) = (idxOf (ρ x)).map some := rfl

def mkU (E : Env) (ti : Option TI) (z0 : Bool) (no c : Option Int) (o : Nat) (ob : ObF) (nx : Nat) : Option Upd := match ti, no, c with
    | some ti, some n, some c => match E.T ti.e with
      | some te => match pvL ob te.zero with
        | some z => if ti.kd = 3 ∧ 0 < ti.esz ∧ z.length = ti.esz ∧ 0 ≤ n ∧ n ≤ c ∧ c ≤ 16777216 ∧ ti.eby ≤ 4096 then
            (if z0 then some { val := .one (.p (some nx) (.sl ti.esz [])), rw := some 0, nl := true }
            else if n = c then match ob o with
              | none => some { val := .one (.vw o 0 n.toNat), ow := [(o, .arr false ti.esz (List.replicate n.toNat z))], rd := [o] }
              | some _ => none
            else none)
          else none
        | none => none
      | none => none
    | _, _, _ => none
theorem so_makeSlice {d : Nat} : StepO C F k Q id draw ops l s us ⟨some d, .makeSlice u x y, t, pos, after, g⟩ =
    StepU C F k Q id draw ops l s us (some d) (mkU C.E (C.E.T u) (isZero x) (idxOf (evOpd C.E s.tm x)) (idxOf (evOpd C.E s.tm y)) (F.base + d) s.ob s.nx) :=
  stepO_of fun call => by
    have e : evOp C.E (C.gen F.f) call F.base (evOpd C.E s.tm) s.ob s.rt s.nx ⟨some d, .makeSlice u x y, t, pos, after, g⟩ =
      (match C.E.T u, idxOf (evOpd C.E s.tm x), idxOf (evOpd C.E s.tm y), some d with
    | some ti, some n, some c, some d => match C.E.T ti.e with
      | some te => match pvL s.ob te.zero with
        | some z => if ti.kd = 3 ∧ 0 < ti.esz ∧ z.length = ti.esz ∧ 0 ≤ n ∧ n ≤ c ∧ c ≤ 16777216 ∧ ti.eby ≤ 4096 then
            (if isZero x then some { val := .one (.p (some s.nx) (.sl ti.esz [])), rw := some 0, nl := true }
            else if n = c then match s.ob (F.base + d) with
              | none => some { val := .one (.vw (F.base + d) 0 n.toNat), ow := [(F.base + d, .arr false ti.esz (List.replicate n.toNat z))], rd := [F.base + d] }
              | some _ => none
            else none)
          else none
        | none => none
      | none => none
    | _, _, _, _ => none : Option Upd) := rfl
    rw [e]
    unfold mkU
    cases C.E.T u with
    | none => rfl
    | some ti =>
      cases idxOf (evOpd C.E s.tm x) with
      | none => rfl
      | some n =>
        cases idxOf (evOpd C.E s.tm y) with
        | none => rfl
        | some c => rfl
theorem mkU_eq {E : Env} {ti : TI} {z0 : Bool} {n c : Int} {o nx : Nat} {ob : ObF} : mkU E (some ti) z0 (some n) (some c) o ob nx = match E.T ti.e with
      | some te => match pvL ob te.zero with
        | some z => if ti.kd = 3 ∧ 0 < ti.esz ∧ z.length = ti.esz ∧ 0 ≤ n ∧ n ≤ c ∧ c ≤ 16777216 ∧ ti.eby ≤ 4096 then
            (if z0 then some { val := .one (.p (some nx) (.sl ti.esz [])), rw := some 0, nl := true }
            else if n = c then match ob o with
              | none => some { val := .one (.vw o 0 n.toNat), ow := [(o, .arr false ti.esz (List.replicate n.toNat z))], rd := [o] }
              | some _ => none
            else none)
          else none
        | none => none
      | none => none := rfl
theorem pvL_nil {ob : ObF} : pvL ob [] = some [] := rfl
theorem pvL_p {ob : ObF} {w : Option Nat} {a : PV} {cs : List CV} : pvL ob (.p w a :: cs) = (pvL ob cs).map (a :: ·) := by
  simp only [pvL, pvC]
  cases pvL ob cs <;> rfl
def zeroL (ts : List TI) : List PV := []

/-! ### struct and slice literals -/
theorem so_build {parts : Array (Nat × Operand)} : StepO C F k Q id draw ops l s us ⟨d, .build u parts, t, pos, after, g⟩ =
    StepU C F k Q id draw ops l s us d (match C.E.T u with
    | some ti => if ti.kd = 1 then (fillS ti.fs C.E (evOpd C.E s.tm) ti.zero parts.toList).map fun cs => { val := .agg cs }
      else if ti.kd = 2 then (fillA ti C.E (evOpd C.E s.tm) ti.zero parts.toList).map fun cs => { val := .agg cs }
      else none
    | none => none) := stepO_of fun call => rfl
theorem fillS_nil {E : Env} {fs : List (Nat × Nat × Bool × TypeId)} {ρ : Operand → AT} {cs : List CV} : fillS fs E ρ cs [] = some cs := rfl
theorem fillS_cons {E : Env} {fs : List (Nat × Nat × Bool × TypeId)} {m : Nat → AT} {cs : List CV} {i : Nat} {r : List (Nat × Operand)} : fillS fs E (evOpd E m) cs ((i, x) :: r) = match fs[i]? with
    | some (off, sz, _, t) => match cellsOf (opV E m t x) with
      | some vs => if vs.length = sz ∧ off + sz ≤ cs.length then fillS fs E (evOpd E m) (splice cs off vs) r else none
      | none => none
    | none => none := by
  simp only [fillS, opT_eq]
  rfl
theorem so_buildSlice {n : Nat} {parts : Array (Nat × Operand)} : StepO C F k Q id draw ops l s us ⟨d, .buildSlice u n parts, t, pos, after, g⟩ =
    StepU C F k Q id draw ops l s us d (match C.E.T u with
    | some ti => if ti.kd = 3 ∧ 0 < ti.esz ∧ n ≤ 65536 ∧ ti.esz ≤ 256 then
        match C.E.T ti.e with
        | some te => match pvL s.ob te.zero with
          | some z => if z.length = ti.esz then
              (fillR ti C.E s.ob (evOpd C.E s.tm) (List.replicate n z) parts.toList).map fun rs =>
                { val := .one (.p (some 0) (.sl ti.esz rs)), ow := icy s.ob (parts.toList.flatMap fun p => seenT (evOpd C.E s.tm p.2)), rd := parts.toList.flatMap fun p => seenT (evOpd C.E s.tm p.2) }
            else none
          | none => none
        | none => none
      else none
    | none => none) := stepO_of fun call => rfl
theorem fillR_nil {E : Env} {ti : TI} {ob : ObF} {ρ : Operand → AT} {cs : List (List PV)} : fillR ti E ob ρ cs [] = some cs := rfl
theorem fillR_cons {E : Env} {ti : TI} {ob : ObF} {m : Nat → AT} {cs : List (List PV)} {i : Nat} {r : List (Nat × Operand)} : fillR ti E ob (evOpd E m) cs ((i, x) :: r) = match (cellsOf (opV E m ti.e x)).bind (pvL ob) with
    | some vs => if vs.length = ti.esz ∧ i < cs.length then fillR ti E ob (evOpd E m) (cs.set i vs) r else none
    | none => none := by
  simp only [fillR, opT_eq]
  rfl

/-! ### parts of results, function values -/
theorem so_extract {i : Nat} : StepO C F k Q id draw ops l s us ⟨d, .extract x i, t, pos, after, g⟩ = StepU C F k Q id draw ops l s us d (match evOpd C.E s.tm x with
    | .tup ts => (ts[i]?).map fun r => { val := atC r }
    | _ => none) := stepO_of fun call => rfl
theorem atC_one {c : CV} : atC (false, [c]) = .one c := rfl
theorem atC_agg {cs : List CV} : atC (true, cs) = .agg cs := rfl
theorem so_makeFunc {f : FuncId} {caps : Array Operand} : StepO C F k Q id draw ops l s us ⟨d, .makeFunc (.func f) #[] caps, t, pos, after, g⟩ = StepU C F k Q id draw ops l s us d (match cvAs (caps.toList.map (evOpd C.E s.tm)) with
      | some cs => if cs.all (fun c => !c.1) then
          match pvL noOb (cs.flatMap (·.2)) with
          | some ps => some { val := .one (.p none (.fn f ps)) }
          | none => some { val := .one (.cl f (cs.flatMap (·.2))) }
        else none
      | none => none) := stepO_of fun call => rfl
theorem so_nilCheck : StepO C F k Q id draw ops l s us ⟨d, .nilCheck x, t, pos, after, g⟩ = StepU C F k Q id draw ops l s us d (match evOpd C.E s.tm x with
    | .one (.pt c off) => some { val := .one (.pt c off) }
    | .one (.pr c r off) => some { val := .one (.pr c r off) }
    | .one (.p p (.ref cs)) => some { val := .one (.p p (.ref cs)) }
    | .one (.p p (.fn f cs)) => some { val := .one (.p p (.fn f cs)) }
    | .one (.cl f cs) => some { val := .one (.cl f cs) }
    | _ => evGen C.E (evOpd C.E s.tm) ⟨d, .nilCheck x, t, pos, after, g⟩) := stepO_of fun call => rfl

/-! ### what is left behind a deed -/
theorem ap_val {d : Nat} {v : AT} {rd : List Nat} {tm : Nat → AT} {ob : ObF} {rt : RtF} {nx : Nat} : apU (some d) { val := v, rd := rd } ⟨tm, ob, rt, nx⟩ = ⟨upd tm d v, ob, rt, nx⟩ := rfl
theorem ap_none {v : AT} {rd : List Nat} {st : St} : apU none { val := v, rd := rd } st = st := rfl
theorem ap_ow {d : Option Nat} {v : AT} {ow : List (Nat × Obj)} {rd : List Nat} {tm : Nat → AT} {ob : ObF} {rt : RtF} {nx : Nat} : apU d { val := v, ow := ow, rd := rd } ⟨tm, ob, rt, nx⟩ = ⟨(match d with
    | some d => upd tm d v
    | none => tm), ow.foldl (fun f p => upd f p.1 (some p.2)) ob, rt, nx⟩ := rfl
theorem ap_rw {d n : Nat} {v : AT} {tm : Nat → AT} {ob : ObF} {rt : RtF} {nx : Nat} : apU (some d) { val := v, rw := some n, nl := true } ⟨tm, ob, rt, nx⟩ = ⟨upd tm d v, ob, upd (upd rt n false) nx true, nx + 1⟩ := rfl
theorem ok_dst {n d : Nat} : (okDst n (some d) = true) = (d < n) := by simp [okDst]
theorem ok_none {n : Nat} : (okDst n none = true) = True := by simp [okDst]
theorem touch_v {v : AT} {rd : List Nat} {base : Nat} {vis : List Nat} : touchOk base vis { val := v, rd := rd } = true := rfl
theorem touch_r {v : AT} {n base : Nat} {vis : List Nat} : touchOk base vis { val := v, rw := some n, nl := true } = true := rfl
theorem touch_0 {u : Upd} {vis : List Nat} (h : u.all = none) : touchOk 0 vis u = true := by simp [touchOk, h]
theorem touch_o {v : AT} {ow : List (Nat × Obj)} {rd : List Nat} {vis : List Nat} : touchOk 0 vis { val := v, ow := ow, rd := rd } = true := touch_0 rfl
theorem guard_l {ls : List Oper} {m : Nat → AT} {j : Nat} {w : Bool} : evGuard ls.toArray m (some (j, w)) = match (ls[j]?).bind (·.dst) with
    | some t => match m t with
      | .one (.p _ (.sc (.bool b))) => some (b == w)
      | .tup _ => some false
      | _ => none
    | none => none := by
  unfold evGuard
  simp only [List.getElem?_toArray]
  rfl
end
end Go.Proofs.Ytcmaohhcbiienaa.X
