import Derived.Test.YtcmaohhcbiienaaYQ
/-! YR: laws of own maps. -/
set_option linter.unusedVariables false
set_option linter.unusedSimpArgs false
namespace Go.Proofs.Ytcmaohhcbiienaa.X
open Go.RowKit

section
variable {C : Cx} {F : Fr} {k : List It} {Q : Post} {id : Nat} {draw : Bool} {ops : Array Oper} {l : List Oper} {us : List Upd} {d : Option Nat} {ob : ObF} {rt : RtF} {nx nx0 n m o q sh : Nat} {w : Option Nat} {f : Nat → Nat} {os seen : List Nat} {t u : TypeId} {pos : String} {after : Array Edge} {g : Option (Nat × Bool)} {x y z : Operand} {s : St} {ok : Bool} {v v' : Value} {es : List MapEntry} {a : AT} {E : Env} {b : Obj}

theorem coldC_mt : coldC ob (.mt o) = .mt o := rfl
theorem okC_mt {d : Bool} : okC os d (.mt o) = os.contains o := rfl
theorem refsC_mt : refsC (.mt o) = [o] := rfl
theorem seenC_mt : seenC (.mt o) = [] := rfl
theorem relC_mt : relC rt nx0 q seen (.mt o) = (.mt o, seen) := rfl
theorem renC_mt : renC f sh (.mt o) = .mt (f o) := rfl
theorem rtsC_mt : rtsC (.mt o) = [] := rfl
theorem refsO_m : refsO (some (.mp es n)) = [] := rfl
theorem renO_m : renO f sh (.mp es n) = .mp es n := rfl
theorem rtsO_m : rtsO (some (.mp es n)) = [] := rfl

def mkM (o : Nat) : Option Obj → Option Upd
  | none => some { val := .one (.mt o), ow := [(o, .mp [] 0)], rd := [o] }
  | some _ => none
theorem so_makeMap {d : Nat} : StepO C F k Q id draw ops l s us ⟨some d, .makeMap u none, t, pos, after, g⟩ = StepU C F k Q id draw ops l s us (some d) (mkM (F.base + d) (s.ob (F.base + d))) :=
  stepO_of fun call => by
    show (match s.ob (F.base + d) with
      | none => some { val := .one (.mt (F.base + d)), ow := [(F.base + d, .mp [] 0)], rd := [F.base + d] }
      | some _ => none : Option Upd) = _
    unfold mkM
    cases s.ob (F.base + d) <;> rfl
theorem mkM_n : mkM o none = some { val := .one (.mt o), ow := [(o, .mp [] 0)], rd := [o] } := rfl

def lkW (m : Nat) : Option AT → Option Upd
  | some a => some { val := a, rd := [m] }
  | none => none
def lkV (E : Env) (u : TypeId) (ok : Bool) (m : Nat) (v : Value) : Option Obj → Option Upd
  | some (.mp es _) => lkW m (mapGet E u es v ok)
  | _ => none
def lkA (E : Env) (u : TypeId) (ok : Bool) (ob : ObF) (x a : AT) : Option Upd := match x, valOf a with
  | .one (.mt m), some v => lkV E u ok m v (ob m)
  | _, _ => none
theorem so_lookup : StepO C F k Q id draw ops l s us ⟨d, .lookup u x y ok, t, pos, after, g⟩ = StepU C F k Q id draw ops l s us d (lkA C.E u ok s.ob (evOpd C.E s.tm x) (evOpd C.E s.tm y)) :=
  stepO_of fun call => by
    show (match evOpd C.E s.tm x, valOf (evOpd C.E s.tm y) with
      | .one (.mt m), some k => match s.ob m with
        | some (.mp es _) => (mapGet C.E u es k ok).map fun a => { val := a, rd := [m] }
        | _ => none
      | _, _ => none : Option Upd) = _
    unfold lkA
    split
    · rename_i m k h1 h2
      simp only [lkV]
      split
      · simp only [lkW]
        cases mapGet C.E u _ k ok <;> rfl
      · rfl
    · rfl
theorem lkA_p : lkA E u ok ob (.one (.mt m)) (.one (.p w (.sc v))) = lkV E u ok m v (ob m) := rfl
theorem lkV_m : lkV E u ok m v (some (.mp es n)) = lkW m (mapGet E u es v ok) := rfl
theorem lkW_s : lkW m (some a) = some { val := a, rd := [m] } := rfl

def muW (m : Nat) : Option Obj → Option Upd
  | some q => some { val := .no, ow := [(m, q)], rd := [m] }
  | none => none
def muV (P : Program) (u : TypeId) (m : Nat) (v v' : Value) : Option Obj → Option Upd
  | some (.mp es c) => muW m (mapPut P u es c v v')
  | _ => none
def muA (P : Program) (u : TypeId) (ob : ObF) (x a b : AT) : Option Upd := match x, valOf a, valOf b with
  | .one (.mt m), some v, some v' => muV P u m v v' (ob m)
  | _, _, _ => none
theorem so_mapUpdate : StepO C F k Q id draw ops l s us ⟨d, .mapUpdate u x y z, t, pos, after, g⟩ = StepU C F k Q id draw ops l s us d (muA C.E.P u s.ob (evOpd C.E s.tm x) (evOpd C.E s.tm y) (evOpd C.E s.tm z)) :=
  stepO_of fun call => by
    show (match evOpd C.E s.tm x, valOf (evOpd C.E s.tm y), valOf (evOpd C.E s.tm z) with
      | .one (.mt m), some k, some v => match s.ob m with
        | some (.mp es c) => (mapPut C.E.P u es c k v).map fun q => { val := .no, ow := [(m, q)], rd := [m] }
        | _ => none
      | _, _, _ => none : Option Upd) = _
    unfold muA
    split
    · rename_i m k v h1 h2 h3
      simp only [muV]
      split
      · simp only [muW]
        cases mapPut C.E.P u _ _ k v <;> rfl
      · rfl
    · rfl
theorem muA_p {P : Program} {w' : Option Nat} : muA P u ob (.one (.mt m)) (.one (.p w (.sc v))) (.one (.p w' (.sc v'))) = muV P u m v v' (ob m) := rfl
theorem muV_m {P : Program} : muV P u m v v' (some (.mp es n)) = muW m (mapPut P u es n v v') := rfl
theorem muW_s : muW m (some b) = some { val := .no, ow := [(m, b)], rd := [m] } := rfl
end

/-! ### maps whose keys, and values, are whole numbers -/
/-- The entries, and how many there ever were. -/
abbrev MapE := List MapEntry × Nat
def mAt (j : IntKind) (m : MapE) (key : Int) : Option (Option (Nat × Value)) := Instr.findNow (.int j) (.int j key) m.1 0
def mGetI (j k : IntKind) (m : MapE) (key : Int) : Option Int := match mAt j m key with
  | some none => some 0
  | some (some (_, .int k' r)) => if k' = k then some r else none
  | _ => none
def mPutI (j k : IntKind) (m : MapE) (key val : Int) : Option MapE := match mAt j m key with
  | some none => some (m.1 ++ [⟨.int j key, .int k val, m.2⟩], m.2 + 1)
  | some (some (i, _)) => if Instr.sameBits 10000 (((m.1[i]?).map (·.key)).getD (.int j key)) (.int j key) = true then
      some (m.1.modify i (fun e => { e with key := .int j key, val := .int k val }), m.2) else none
  | none => none

theorem tryM_bind {α β : Type} {P : Program} {f : α → Sem β} : ∀ {s : Sem α} {a : α}, tryP P s = some a → tryP P (s >>= f) = tryP P (f a) := by
  intro s
  induction s with
  | pure b => intro a h; simp only [tryP, Option.some.injEq] at h; subst h; rfl
  | program k ih => intro a h; exact ih P h
  | _ => intro a h; simp [tryP] at h
theorem tryP_checkKey {P : Program} {kt : TypeId} {j : IntKind} {e : Bool} {key : Int} (h : P.underlying kt = some (.int j)) : tryP P (Instr.checkKey e 10000 kt (.int j key)) = some () := by
  unfold Instr.checkKey
  rw [tryM_bind (tryP_under h)]
  rfl
theorem tryP_findKey {P : Program} {kt : TypeId} {j : IntKind} {m : MapE} {key : Int} {r : Option (Nat × Value)} (h : P.underlying kt = some (.int j)) (hr : mAt j m key = some r) : tryP P (Instr.findKey kt (.int j key) m.1) = some r := by
  unfold Instr.findKey
  rw [tryM_bind (tryP_under h)]
  unfold mAt at hr
  rw [hr]
  rfl
theorem mapGet_i {E : Env} {u kt et : TypeId} {m : MapE} {j k : IntKind} {key r : Int} (h1 : E.P.underlying u = some (.map kt et)) (h2 : E.P.underlying kt = some (.int j)) (h3 : tryP E.P (zeroValue et) = some (.int k 0))
    (h : mGetI j k m key = some r) : mapGet E u m.1 (.int j key) false = some (.one (.p none (.sc (.int k r)))) := by
  unfold mGetI at h
  unfold mapGet
  simp only [h1, tryP_checkKey h2]
  split at h
  · rename_i hm
    cases h
    simp [tryP_findKey h2 hm, mapAt, h3, atOfV, cvA]
  · rename_i i k' r' hm
    split at h
    · rename_i hk
      subst hk
      cases h
      simp [tryP_findKey h2 hm, mapAt, atOfV, cvA]
    · cases h
  · cases h
theorem mapGet_i2 {E : Env} {u kt et : TypeId} {m : MapE} {j k : IntKind} {key r : Int} (h1 : E.P.underlying u = some (.map kt et)) (h2 : E.P.underlying kt = some (.int j)) (h3 : tryP E.P (zeroValue et) = some (.int k 0))
    {b : Bool} (h : (mGetI j k m key).bind (fun r => (mAt j m key).map fun p => (r, p.isSome)) = some (r, b)) : mapGet E u m.1 (.int j key) true = some (.tup [(false, [.p none (.sc (.int k r))]), (false, [.p none (.sc (.bool b))])]) := by
  simp only [Option.bind_eq_some_iff, Option.map_eq_some_iff] at h
  obtain ⟨r', h, p, hp, e⟩ := h
  cases e
  have := mapGet_i h1 h2 h3 h
  unfold mapGet at this ⊢
  simp only [h1, tryP_checkKey h2, tryP_findKey h2 hp] at this ⊢
  split at this
  · rename_i x hx
    simp only [Bool.false_eq_true, if_false, Option.some.injEq] at this
    rw [this] at hx
    simp only [cvA, Option.some.injEq] at hx
    subst hx
    simp [this, cvA]
  · cases this
theorem mapPut_i {P : Program} {u kt et : TypeId} {m r : MapE} {j k : IntKind} {key val : Int} (h1 : P.underlying u = some (.map kt et)) (h2 : P.underlying kt = some (.int j))
    (h : mPutI j k m key val = some r) : mapPut P u m.1 m.2 (.int j key) (.int k val) = some (.mp r.1 r.2) := by
  unfold mPutI at h
  unfold mapPut
  simp only [h1, tryP_checkKey h2]
  split at h
  · rename_i hm
    cases h
    simp [tryP_findKey h2 hm]
  · rename_i i x hm
    split at h
    · rename_i hk
      cases h
      simp [tryP_findKey h2 hm, hk]
    · cases h
  · cases h
end Go.Proofs.Ytcmaohhcbiienaa.X
