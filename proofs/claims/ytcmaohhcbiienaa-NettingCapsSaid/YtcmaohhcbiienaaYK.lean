import Derived.Test.YtcmaohhcbiienaaYJ
/-! YK: operations on variables, arrays, slices. -/
set_option linter.unusedVariables false
namespace Go.Proofs.Ytcmaohhcbiienaa.X
open Go.RowKit

section
variable {C : Cx} {F : Fr} {k : List It} {s : St} {Q : Post} {id : Nat} {draw : Bool} {ops : Array Oper} {l : List Oper} {us : List Upd} {d : Option Nat} {t u v : TypeId} {pos : String} {after : Array Edge} {g : Option (Nat × Bool)} {x y z : Operand}

def alU (ti : Option TI) (o : Nat) (was : Option Obj) : Option Upd := match ti, was with
  | some ti, none => some { val := .one (.pt o 0), ow := [(o, .var ti.zero)], rd := [o] }
  | _, _ => none
theorem so_alloc {d : Nat} : StepO C F k Q id draw ops l s us ⟨some d, .alloc u, t, pos, after, g⟩ = StepU C F k Q id draw ops l s us (some d) (alU (C.E.T u) (F.base + d) (s.ob (F.base + d))) :=
  stepO_of fun call => by
    show (match C.E.T u, some d with
      | some ti, some d => match s.ob (F.base + d) with
        | none => some { val := .one (.pt (F.base + d) 0), ow := [(F.base + d, .var ti.zero)], rd := [F.base + d] }
        | some _ => none
      | _, _ => none : Option Upd) = _
    unfold alU
    cases C.E.T u with
    | none => rfl
    | some ti =>
      simp only
      cases s.ob (F.base + d) <;> rfl
theorem alU_eq {ti : TI} {o : Nat} : alU (some ti) o none = some { val := .one (.pt o 0), ow := [(o, .var ti.zero)], rd := [o] } := rfl
def bxU (cs : Option (List CV)) (o : Nat) (was : Option Obj) : Option Upd := match cs, was with
  | some cs, none => some { val := .one (.pt o 0), ow := [(o, .var cs)], rd := [o] }
  | _, _ => none
theorem so_box {d : Nat} : StepO C F k Q id draw ops l s us ⟨some d, .box u x, t, pos, after, g⟩ = StepU C F k Q id draw ops l s us (some d) (bxU (cellsOf (opV C.E s.tm u x)) (F.base + d) (s.ob (F.base + d))) :=
  stepO_of fun call => by
    show (match cellsOf (opT C.E (evOpd C.E s.tm) u x), some d with
      | some cs, some d => match s.ob (F.base + d) with
        | none => some { val := .one (.pt (F.base + d) 0), ow := [(F.base + d, .var cs)], rd := [F.base + d] }
        | some _ => none
      | _, _ => none : Option Upd) = _
    rw [opT_eq]
    unfold bxU
    cases cellsOf (opV C.E s.tm u x) with
    | none => rfl
    | some cs =>
      simp only
      cases s.ob (F.base + d) <;> rfl
theorem bxU_eq {cs : List CV} {o : Nat} : bxU (some cs) o none = some { val := .one (.pt o 0), ow := [(o, .var cs)], rd := [o] } := rfl
theorem cells_one {c : CV} : cellsOf (.one c) = some [c] := rfl
theorem cells_agg {cs : List CV} : cellsOf (.agg cs) = some cs := rfl

/-- What an address leads to. -/
inductive Pl where
  | var (o : Nat) (cs : List CV) (off : Nat)
  | row (o : Nat) (row : List PV) (off : Nat)
  | ref (cs : List PV)
  | no
def plOf (ob : ObF) : AT → Pl
  | .one (.pt o off) => match ob o with
    | some (.var cs) => .var o cs off
    | _ => .no
  | .one (.pr o r off) => match ob o with
    | some (.arr _ _ rows) => match rows[r]? with
      | some row => .row o row off
      | none => .no
    | _ => .no
  | .one (.p _ (.ref cs)) => .ref cs
  | _ => .no
def plVar (o off : Nat) : Option Obj → Pl
  | some (.var cs) => .var o cs off
  | _ => .no
def plRow2 (o off : Nat) : Option (List PV) → Pl
  | some row => .row o row off
  | none => .no
def plRow (o r off : Nat) : Option Obj → Pl
  | some (.arr _ _ rows) => plRow2 o off rows[r]?
  | _ => .no
theorem pl_pt {ob : ObF} {o off : Nat} : plOf ob (.one (.pt o off)) = plVar o off (ob o) := by
  unfold plOf plVar
  rfl
theorem pl_pr {ob : ObF} {o r off : Nat} : plOf ob (.one (.pr o r off)) = plRow o r off (ob o) := by
  unfold plOf plRow
  simp only
  split
  · unfold plRow2; rfl
  · rfl
theorem pl_ref {ob : ObF} {w : Option Nat} {cs : List PV} : plOf ob (.one (.p w (.ref cs))) = .ref cs := rfl
theorem plVar_eq {o off : Nat} {cs : List CV} : plVar o off (some (.var cs)) = .var o cs off := rfl
theorem plRow_eq {o r off z : Nat} {fz : Bool} {rows : List (List PV)} : plRow o r off (some (.arr fz z rows)) = plRow2 o off rows[r]? := rfl
theorem plRow2_eq {o off : Nat} {row : List PV} : plRow2 o off (some row) = .row o row off := rfl

def ldU (ti : Option TI) (p : Pl) : Option Upd := match ti, p with
  | some ti, .var o cs off => (partOf cs off ti.sz ti.agg).map fun a => { val := a, rd := [o] }
  | some ti, .row o row off => (partOf (row.map (.p none)) off ti.sz ti.agg).map fun a => { val := a, rd := [o] }
  | some ti, .ref cs => (partOf (cs.map (.p none)) 0 ti.sz ti.agg).map fun a => { val := a }
  | _, _ => none
theorem so_load : StepO C F k Q id draw ops l s us ⟨d, .load u x, t, pos, after, g⟩ = StepU C F k Q id draw ops l s us d (ldU (C.E.T u) (plOf s.ob (evOpd C.E s.tm x))) :=
  stepO_of fun call => by
    show (match C.E.T u with
    | some ti => match evOpd C.E s.tm x with
      | .one (.pt c off) => match s.ob c with
        | some (.var cs) => (partOf cs off ti.sz ti.agg).map fun a => { val := a, rd := [c] }
        | _ => none
      | .one (.pr c r off) => match s.ob c with
        | some (.arr _ _ rows) => match rows[r]? with
          | some row => (partOf (row.map (.p none)) off ti.sz ti.agg).map fun a => { val := a, rd := [c] }
          | none => none
        | _ => none
      | .one (.p _ (.ref cs)) => (partOf (cs.map (.p none)) 0 ti.sz ti.agg).map fun a => { val := a }
      | _ => none
    | none => none) = (_ : Option Upd)
    cases C.E.T u with
    | none => rfl
    | some ti =>
      simp only
      split
      · rename_i c off h
        simp only [h, pl_pt]
        cases s.ob c with
        | none => rfl
        | some o => cases o <;> rfl
      · rename_i c r off h
        simp only [h, pl_pr]
        cases s.ob c with
        | none => rfl
        | some o =>
          cases o with
          | var cs => rfl
          | mp => rfl
          | arr fz z rows =>
            simp only [plRow_eq]
            cases rows[r]? <;> rfl
      · rename_i w cs h
        simp only [h, pl_ref]
        rfl
      · rename_i h1 h2 h3
        unfold plOf
        split
        · rename_i h; exact absurd h (h1 _ _)
        · rename_i h; exact absurd h (h2 _ _ _)
        · rename_i h; exact absurd h (h3 _ _)
        · rfl
theorem ldU_var {ti : TI} {o off : Nat} {cs : List CV} : ldU (some ti) (.var o cs off) = (partOf cs off ti.sz ti.agg).map fun a => { val := a, rd := [o] } := rfl
theorem ldU_row {ti : TI} {o off : Nat} {row : List PV} : ldU (some ti) (.row o row off) = (partOf (row.map (.p none)) off ti.sz ti.agg).map fun a => { val := a, rd := [o] } := rfl
theorem ldU_ref {ti : TI} {cs : List PV} : ldU (some ti) (.ref cs) = (partOf (cs.map (.p none)) 0 ti.sz ti.agg).map fun a => { val := a } := rfl
theorem part_one {cs : List CV} {off sz : Nat} : partOf cs off sz false = (cs[off]?).map .one := rfl
theorem part_agg {cs : List CV} {off sz : Nat} : partOf cs off sz true = if off + sz ≤ cs.length then some (.agg ((cs.drop off).take sz)) else none := rfl

def faU (ti : Option TI) (x : AT) (f : Nat) : Option Upd := match ti with
  | some ti => if ti.kd = 1 then match ti.fs[f]? with
      | some (off, sz, _, _) => if sz = 0 then none else (evPtr x off).map fun a => { val := a }
      | none => none
      else none
  | none => none
theorem so_fieldAddr {f : Nat} : StepO C F k Q id draw ops l s us ⟨d, .fieldAddr u x f, t, pos, after, g⟩ = StepU C F k Q id draw ops l s us d (faU (C.E.T u) (evOpd C.E s.tm x) f) :=
  stepO_of fun call => rfl
theorem faU_eq {ti : TI} {x : AT} {f : Nat} : faU (some ti) x f = if ti.kd = 1 then match ti.fs[f]? with
      | some (off, sz, _, _) => if sz = 0 then none else (evPtr x off).map fun a => { val := a }
      | none => none
      else none := rfl
theorem ptr_pt {o off e : Nat} : evPtr (.one (.pt o off)) e = some (.one (.pt o (off + e))) := rfl
theorem ptr_pr {o r off e : Nat} : evPtr (.one (.pr o r off)) e = some (.one (.pr o r (off + e))) := rfl
theorem ptr_ref {w : Option Nat} {cs : List PV} {e : Nat} : evPtr (.one (.p w (.ref cs))) e = some (.one (.p none (.ref (cs.drop e)))) := rfl
def fiU (ti : Option TI) (x : AT) (f : Nat) : Option Upd := match ti, x with
  | some ti, .agg cs => if ti.kd = 1 then match ti.fs[f]? with
      | some (off, sz, g, _) => (partOf cs off sz g).map fun a => { val := a }
      | none => none
      else none
  | _, _ => none
theorem so_field {f : Nat} : StepO C F k Q id draw ops l s us ⟨d, .field u x f, t, pos, after, g⟩ = StepU C F k Q id draw ops l s us d (fiU (C.E.T u) (evOpd C.E s.tm x) f) :=
  stepO_of fun call => rfl
theorem fiU_eq {ti : TI} {cs : List CV} {f : Nat} : fiU (some ti) (.agg cs) f = if ti.kd = 1 then match ti.fs[f]? with
      | some (off, sz, g, _) => (partOf cs off sz g).map fun a => { val := a }
      | none => none
      else none := rfl

/-- A place of a list. -/
def rd {α : Type} (l : List α) (n : Int) : Option α := if 0 ≤ n then l[n.toNat]? else none
theorem rd_map {α β : Type} {f : α → β} {l : List α} {n : Int} : rd (l.map f) n = (rd l n).map f := by
  unfold rd
  split
  · rw [List.getElem?_map]
  · rfl
def ixU (ti : Option TI) (x : AT) (n : Option Int) (ob : ObF) : Option Upd := match ti, n with
  | some ti, some n =>
      if ti.kd = 2 then (if 0 ≤ n ∧ n < ti.len then (evPtr x (n.toNat * ti.esz)).map fun a => { val := a } else none)
      else if ti.kd = 3 then match x with
        | .one (.p _ (.sl z l)) => if z = ti.esz then (rd l n).map fun r => { val := .one (.p none (.ref r)) } else none
        | .one (.vw o lo m) => match ob o with
          | some (.arr _ z _) => if z = ti.esz ∧ 0 ≤ n ∧ n.toNat < m then some { val := .one (.pr o (lo + n.toNat) 0), rd := [o] } else none
          | _ => none
        | _ => none
      else none
  | _, _ => none
theorem so_indexAddr : StepO C F k Q id draw ops l s us ⟨d, .indexAddr u x y, t, pos, after, g⟩ = StepU C F k Q id draw ops l s us d (ixU (C.E.T u) (evOpd C.E s.tm x) (idxOf (evOpd C.E s.tm y)) s.ob) :=
  stepO_of fun call => by
    show (match C.E.T u, idxOf (evOpd C.E s.tm y) with
    | some ti, some n =>
      if ti.kd = 2 then (if 0 ≤ n ∧ n < ti.len then (evPtr (evOpd C.E s.tm x) (n.toNat * ti.esz)).map fun a => { val := a } else none)
      else if ti.kd = 3 then match evOpd C.E s.tm x with
        | .one (.p _ (.sl z l)) => if z = ti.esz ∧ 0 ≤ n then match l[n.toNat]? with
          | some r => some { val := .one (.p none (.ref r)) }
          | none => none
          else none
        | .one (.vw o lo m) => match s.ob o with
          | some (.arr _ z _) => if z = ti.esz ∧ 0 ≤ n ∧ n.toNat < m then some { val := .one (.pr o (lo + n.toNat) 0), rd := [o] } else none
          | _ => none
        | _ => none
      else none
    | _, _ => none) = (_ : Option Upd)
    unfold ixU
    cases C.E.T u with
    | none => rfl
    | some ti =>
      cases idxOf (evOpd C.E s.tm y) with
      | none => rfl
      | some n =>
        simp only
        by_cases h2 : ti.kd = 2
        · rw [if_pos h2, if_pos h2]
        · rw [if_neg h2, if_neg h2]
          by_cases h3 : ti.kd = 3
          · rw [if_pos h3, if_pos h3]
            split
            · rename_i w z l h
              unfold rd
              by_cases e1 : z = ti.esz
              · by_cases e2 : 0 ≤ n
                · rw [if_pos ⟨e1, e2⟩, if_pos e1, if_pos e2]
                  cases l[n.toNat]? <;> rfl
                · rw [if_neg fun q => e2 q.2, if_pos e1, if_neg e2]
                  rfl
              · rw [if_neg fun q => e1 q.1, if_neg e1]
            · rfl
            · rfl
          · rw [if_neg h3, if_neg h3]
theorem idx_int {w : Option Nat} {kd : IntKind} {n : Int} : idxOf (.one (.p w (.sc (.int kd n)))) = some n := rfl
theorem ixU_eq {ti : TI} {x : AT} {n : Int} {ob : ObF} : ixU (some ti) x (some n) ob = if ti.kd = 2 then (if 0 ≤ n ∧ n < ti.len then (evPtr x (n.toNat * ti.esz)).map fun a => { val := a } else none)
      else if ti.kd = 3 then match x with
        | .one (.p _ (.sl z l)) => if z = ti.esz then (rd l n).map fun r => { val := .one (.p none (.ref r)) } else none
        | .one (.vw o lo m) => match ob o with
          | some (.arr _ z _) => if z = ti.esz ∧ 0 ≤ n ∧ n.toNat < m then some { val := .one (.pr o (lo + n.toNat) 0), rd := [o] } else none
          | _ => none
        | _ => none
      else none := rfl

/-- A store. -/
def stU (ti : Option TI) (x : AT) (vs : Option (List CV)) (ob : ObF) : Option Upd := match ti, x, vs with
    | some ti, .one (.pt c off), some vs => match ob c with
      | some (.var cs) => if vs.length = ti.sz ∧ off + vs.length ≤ cs.length then
          some { val := .no, ow := [(c, .var (splice cs off vs))], rd := [c] } else none
      | _ => none
    | some ti, .one (.pr c r off), some vs => match ob c, pvL ob vs with
      | some (.arr false z rows), some xs => match rows[r]? with
        | some row => if xs.length = ti.sz ∧ off + xs.length ≤ row.length ∧ c ∉ vs.flatMap seenC then
            some { val := .no, ow := icy ob (vs.flatMap seenC) ++ [(c, .arr false z (rows.set r (splice row off xs)))], rd := c :: vs.flatMap seenC } else none
        | none => none
      | _, _ => none
    | _, _, _ => none
theorem so_store : StepO C F k Q id draw ops l s us ⟨d, .store u x y, t, pos, after, g⟩ = StepU C F k Q id draw ops l s us d (stU (C.E.T u) (evOpd C.E s.tm x) (cellsOf (opV C.E s.tm u y)) s.ob) :=
  stepO_of fun call => by
    rw [← opT_eq]
    rfl
theorem stU_pt {ti : TI} {c off : Nat} {vs : List CV} {ob : ObF} : stU (some ti) (.one (.pt c off)) (some vs) ob = match ob c with
      | some (.var cs) => if vs.length = ti.sz ∧ off + vs.length ≤ cs.length then
          some { val := .no, ow := [(c, .var (splice cs off vs))], rd := [c] } else none
      | _ => none := rfl
theorem stU_pr {ti : TI} {c r off : Nat} {vs : List CV} {ob : ObF} : stU (some ti) (.one (.pr c r off)) (some vs) ob = match ob c, pvL ob vs with
      | some (.arr false z rows), some xs => match rows[r]? with
        | some row => if xs.length = ti.sz ∧ off + xs.length ≤ row.length ∧ c ∉ vs.flatMap seenC then
            some { val := .no, ow := icy ob (vs.flatMap seenC) ++ [(c, .arr false z (rows.set r (splice row off xs)))], rd := c :: vs.flatMap seenC } else none
        | none => none
      | _, _ => none := rfl
end
end Go.Proofs.Ytcmaohhcbiienaa.X
