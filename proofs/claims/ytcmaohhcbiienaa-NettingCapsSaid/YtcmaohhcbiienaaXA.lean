import Derived.Tactics
import Derived.Orders
import Derived.Below
import Derived.Laws.OwnMore
/-! THE EVALUATOR: what a function's text comes to, as a Lean function over values (lists, numbers), without memory. XA: the definitions.
A slice is the list of its rows of cells; what a function lays in memory for itself (its variables) is an object with a number (that of the temporary that got its address). What is not covered is 'none'. -/
set_option linter.unusedVariables false
namespace Go.Proofs.Ytcmaohhcbiienaa.X

/-- A value that no one will write any more: a value as it is; a slice: how many cells an element has, and the rows; the address of cells; a function value with what it has caught. -/
inductive PV where
  | sc (v : Value)
  | sl (z : Nat) (l : List (List PV))
  | ref (cs : List PV)
  | fn (f : FuncId) (caps : List PV)
  deriving Inhabited

/-- A cell of a variable: a value (with the name of the right to append to it, if there is one; 0: its room is full), or an address within an own variable. -/
inductive CV where
  | p (own : Option Nat) (x : PV)
  /-- an address within an own variable; within a row of an own array; an own array's rows from lo on, n of them -/
  | pt (o off : Nat)
  | pr (o r off : Nat)
  | vw (o lo n : Nat)
  /-- an own map -/
  | mt (o : Nat)
  /-- a function value that has caught own variables -/
  | cl (f : FuncId) (caps : List CV)
  deriving Inhabited

/-- An own variable: its cells; or an own array: the cells of a row, the rows (may it still be written?); or an own map: the entries, and how many there ever were. -/
inductive Obj where
  | var (cs : List CV)
  | arr (fz : Bool) (z : Nat) (rows : List (List PV))
  | mp (es : List MapEntry) (clock : Nat)
  deriving Inhabited

abbrev Arg := Bool × List PV

/-- What a temporary holds. -/
inductive AT where
  | no
  | one (c : CV)
  | agg (cs : List CV)
  | tup (ts : List (Bool × List CV))
  deriving Inhabited

/-- Without memory: what a row of the model says, if it asks nothing but the program. -/
def tryP {α : Type} (P : Program) : Sem α → Option α
  | .pure a => some a
  | .program k => tryP P (k P)
  | _ => none
theorem tryP_run {α : Type} {P : Program} {s : Sem α} {a : α} (h : tryP P s = some a) (w : World) : s.run P w = .ok a w := by
  induction s with
  | pure b => simp only [tryP, Option.some.injEq] at h; subst h; rfl
  | program k ih => exact ih P h
  | _ => simp [tryP] at h

def upd {α : Type} (f : Nat → α) (t : Nat) (x : α) : Nat → α := fun u => if u = t then x else f u
theorem upd_same {α : Type} (f : Nat → α) (t : Nat) (x : α) : upd f t x t = x := by simp [upd]
theorem upd_ne {α : Type} (f : Nat → α) {t u : Nat} (x : α) (h : u ≠ t) : upd f t x u = f u := by simp [upd, h]

abbrev ObF := Nat → Option Obj
abbrev RtF := Nat → Bool
def noOb : ObF := fun _ => none
/-- The state: the temporaries; the own variables; which rights to append are held; from which number on none was given yet. -/
structure St where
  tm : Nat → AT
  ob : ObF
  rt : RtF
  nx : Nat
  deriving Inhabited

/-- What is asked of a type: how many cells; is it a struct or an array; the cells of its zero value; of a struct's fields the offset, the cells, struct or array, the type; an array's length; of an array's, or a slice's, elements the type, the cells, struct or array, and the bytes. -/
structure TI where
  sz : Nat
  agg : Bool
  zero : List CV
  fs : List (Nat × Nat × Bool × TypeId)
  kd : Nat
  len : Nat
  e : TypeId
  esz : Nat
  eagg : Bool
  eby : Nat
  deriving Inhabited

def szT (P : Program) (t : TypeId) : Option Nat := (P.info? t).map (·.size)
def descAgg : TypeDesc → Bool
  | .struct _ | .array _ _ => true
  | _ => false
def aggT (P : Program) (t : TypeId) : Option Bool := (P.underlying t).map descAgg
/-- The cells of a zero value. -/
def zeroD (P : Program) : Nat → TypeId → Option (List CV)
  | 0, _ => none
  | d + 1, t => match P.underlying t with
    | some .bool => some [.p none (.sc (.bool false))]
    | some (.int k) => some [.p none (.sc (.int k 0))]
    | some .string => some [.p none (.sc (.string ByteArray.empty))]
    | some (.slice e) => (szT P e).map fun z => [.p (some 0) (.sl z [])]
    | some (.func _ _ _) => some [.p none (.sc .nilFunc)]
    | some (.pointer _) => some [.p none (.sc (.pointer none))]
    | some (.interface _) => some [.p none (.sc .nilIface)]
    | some (.map _ _) => some [.p none (.sc (.map none))]
    | some (.struct fs) => fs.toList.foldr (fun f acc => (zeroD P d f.type).bind fun a => acc.map fun b => a ++ b) (some [])
    | some (.array n e) => (zeroD P d e).map fun a => (List.replicate n a).flatten
    | _ => none
/-- Is this cell of the model's zero value that one? -/
def zeroFits : CV → Value → Bool
  | .p none (.sc (.bool a)), .bool b => a == b
  | .p none (.sc (.int k a)), .int j b => k == j && a == b
  | .p none (.sc (.string a)), .string b => a.data == b.data
  | .p (some 0) (.sl _ []), .slice none 0 0 => true
  | .p none (.sc .nilFunc), .nilFunc => true
  | .p none (.sc (.pointer none)), .pointer none => true
  | .p none (.sc .nilIface), .nilIface => true
  | .p none (.sc (.map none)), .map none => true
  | _, _ => false
def zeroAll : List CV → List Value → Bool
  | [], [] => true
  | c :: cs, v :: vs => zeroFits c v && zeroAll cs vs
  | _, _ => false
def zeroOk (z : List CV) : Option Value → Bool
  | some v => zeroAll z v.cells.toList
  | none => false
def tiOf (P : Program) (t : TypeId) : Option TI := match P.underlying t, P.info? t, zeroD P 12 t with
  | some d, some i, some z => if z.length == i.size && zeroOk z i.zero then match d with
    | .struct fs => (fs.toList.mapM fun f => (szT P f.type).bind fun s => (aggT P f.type).map fun a => (f.offset, s, a, f.type)).map fun l => ⟨i.size, true, z, l, 1, 0, 0, 0, false, 0⟩
    | .array n e => (P.info? e).bind fun j => (aggT P e).map fun a => ⟨i.size, true, z, [], 2, n, e, j.size, a, j.bytes⟩
    | .slice e => (P.info? e).bind fun j => (aggT P e).map fun a => ⟨i.size, false, z, [], 3, 0, e, j.size, a, j.bytes⟩
    | .string => some ⟨i.size, false, z, [], 4, 0, 0, 0, false, 0⟩
    | _ => some ⟨i.size, false, z, [], 0, 0, 0, 0, false, 0⟩
    else none
  | _, _, _ => none

structure Env where
  P : Program
  G : Nat → Option (List PV)
def Env.T (E : Env) (t : TypeId) : Option TI := tiOf E.P t

mutual
def refsC : CV → List Nat
  | .pt o _ => [o]
  | .pr o _ _ => [o]
  | .vw o _ _ => [o]
  | .mt o => [o]
  | .cl _ cs => refsL cs
  | _ => []
def refsL : List CV → List Nat
  | [] => []
  | c :: cs => refsC c ++ refsL cs
end
def refsT : AT → List Nat
  | .one c => refsC c
  | .agg cs => refsL cs
  | _ => []
def addS (a b : List Nat) : List Nat := a.foldl (fun acc t => if acc.contains t then acc else t :: acc) b
/-- The own variables that the kept temporaries speak of, and what those speak of. -/
def reach (ob : ObF) : Nat → List Nat → List Nat
  | 0, l => l
  | n + 1, l => reach ob n (addS (l.flatMap fun o => match ob o with | some (.var cs) => refsL cs | _ => []) l)
/-! ### operands -/
def isNilSl : Operand → Bool
  | .const (.slice none 0 0) => true
  | _ => false
def constV : Value → AT
  | .slice none 0 0 => .one (.p (some 0) (.sl 0 []))
  | .agg _ => .no
  | .tuple _ => .no
  | v => .one (.p none (.sc v))
def evOpd (E : Env) (m : Nat → AT) : Operand → AT
  | .tmp t => m t
  | .const v => constV v
  | .global g => match E.G g with
    | some cs => .one (.p none (.ref cs))
    | none => .one (.p none (.sc (.pointer (some ⟨g, 0, none⟩))))
  | .func f => .one (.p none (.fn f []))
/-- An operand of a type: a nil slice gets its elements' size. -/
def opT (E : Env) (ρ : Operand → AT) (t : TypeId) (x : Operand) : AT :=
  if isNilSl x then .one (.p (some 0) (.sl ((E.T t).map (·.esz)).get! [])) else ρ x
def cellsOf : AT → Option (List CV)
  | .one c => some [c]
  | .agg cs => some cs
  | _ => none
def unOf (agg : Bool) (cs : List CV) : AT := if agg then .agg cs else match cs with
  | [c] => .one c
  | _ => .no
def pvC (ob : ObF) : CV → Option PV
  | .p _ x => some x
  | .vw o lo n => match ob o with
    | some (.arr _ z rows) => some (.sl z ((rows.drop lo).take n))
    | _ => none
  | _ => none
def pvL (ob : ObF) : List CV → Option (List PV)
  | [] => some []
  | c :: cs => match pvC ob c, pvL ob cs with
    | some x, some xs => some (x :: xs)
    | _, _ => none
def argOf (ob : ObF) : AT → Option Arg
  | .one c => (pvC ob c).map fun x => (false, [x])
  | .agg cs => (pvL ob cs).map fun xs => (true, xs)
  | _ => none
def argsOf (ob : ObF) : List AT → Option (List Arg)
  | [] => some []
  | a :: r => match argOf ob a, argsOf ob r with
    | some x, some xs => some (x :: xs)
    | _, _ => none
/-- The own arrays that are seen. -/
def seenC : CV → List Nat
  | .vw o _ _ => [o]
  | _ => []
def seenT : AT → List Nat
  | .one c => seenC c
  | .agg cs => cs.flatMap seenC
  | _ => []
/-- They are written no more. -/
def icy (ob : ObF) (os : List Nat) : List (Nat × Obj) := os.filterMap fun o => match ob o with
  | some (.arr _ z rows) => some (o, .arr true z rows)
  | _ => none
def flatP : PV → Bool
  | .sc _ => true
  | _ => false
def flatArg (a : Arg) : Bool := a.2.all flatP
def atOf : Arg → AT
  | (false, [x]) => .one (.p none x)
  | (true, xs) => .agg (xs.map (.p none))
  | _ => .no
def cvOf : Arg → Bool × List CV := fun a => (a.1, a.2.map (.p none))
def atC : Bool × List CV → AT
  | (false, [x]) => .one x
  | (true, xs) => .agg xs
  | _ => .no
def cvA : AT → Option (Bool × List CV)
  | .one c => some (false, [c])
  | .agg cs => some (true, cs)
  | _ => none
def cvAs : List AT → Option (List (Bool × List CV))
  | [] => some []
  | a :: r => match cvA a, cvAs r with
    | some x, some xs => some (x :: xs)
    | _, _ => none
def resAT : List Arg → AT
  | [r] => atOf r
  | rs => .tup (rs.map cvOf)
/-- The model's own value of what holds no address. -/
def scC : CV → Option Value
  | .p _ (.sc v) => some v
  | _ => none
def scL : List CV → Option (List Value)
  | [] => some []
  | c :: cs => match scC c, scL cs with
    | some x, some xs => some (x :: xs)
    | _, _ => none
def valOf : AT → Option Value
  | .one c => scC c
  | .agg cs => (scL cs).map fun vs => .agg vs.toArray
  | _ => none
def flatV : Value → Bool
  | .agg _ | .tuple _ => false
  | _ => true
def atOfV : Value → Option AT
  | .agg cs => if cs.toList.all flatV then some (.agg (cs.toList.map fun v => .p none (.sc v))) else none
  | .tuple _ => none
  | v => some (.one (.p none (.sc v)))

def splice {α : Type} (l : List α) (off : Nat) (cs : List α) : List α := l.take off ++ cs ++ l.drop (off + cs.length)
def partOf (cs : List CV) (off sz : Nat) (agg : Bool) : Option AT :=
  if agg then (if off + sz ≤ cs.length then some (.agg ((cs.drop off).take sz)) else none)
  else (cs[off]?).map .one

/-- What an operation does: the value of its temporary; the own variables written; the rights written; the own variables read. -/
structure Upd where
  val : AT
  ow : List (Nat × Obj) := []
  rd : List Nat := []
  /-- the right that is used up, and whether a new one is given -/
  rw : Option Nat := none
  nl : Bool := false
  /-- all own variables, and rights, anew -/
  all : Option (ObF × RtF × Nat) := none
  deriving Inhabited

def idxOf : AT → Option Int
  | .one (.p _ (.sc (.int _ n))) => some n
  | _ => none
def optIdx (ρ : Operand → AT) : Option Operand → Option (Option Int)
  | none => some none
  | some x => (idxOf (ρ x)).map some

def isZero : Operand → Bool
  | .const (.int _ 0) => true
  | _ => false
def evPtr (x : AT) (d : Nat) : Option AT := match x with
  | .one (.pt o off) => some (.one (.pt o (off + d)))
  | .one (.pr o r off) => some (.one (.pr o r (off + d)))
  | .one (.p _ (.ref cs)) => some (.one (.p none (.ref (cs.drop d))))
  | _ => none

def fillS (fs : List (Nat × Nat × Bool × TypeId)) (E : Env) (ρ : Operand → AT) : List CV → List (Nat × Operand) → Option (List CV)
  | cs, [] => some cs
  | cs, (i, x) :: r => match fs[i]? with
    | some (off, sz, _, t) => match cellsOf (opT E ρ t x) with
      | some vs => if vs.length = sz ∧ off + sz ≤ cs.length then fillS fs E ρ (splice cs off vs) r else none
      | none => none
    | none => none
def fillA (ti : TI) (E : Env) (ρ : Operand → AT) : List CV → List (Nat × Operand) → Option (List CV)
  | cs, [] => some cs
  | cs, (i, x) :: r => match cellsOf (opT E ρ ti.e x) with
    | some vs => if vs.length = ti.esz ∧ i * ti.esz + ti.esz ≤ cs.length then fillA ti E ρ (splice cs (i * ti.esz) vs) r else none
    | none => none
def fillR (ti : TI) (E : Env) (ob : ObF) (ρ : Operand → AT) : List (List PV) → List (Nat × Operand) → Option (List (List PV))
  | cs, [] => some cs
  | cs, (i, x) :: r => match (cellsOf (opT E ρ ti.e x)).bind (pvL ob) with
    | some vs => if vs.length = ti.esz ∧ i < cs.length then fillR ti E ob ρ (cs.set i vs) r else none
    | none => none

/-- A call: how many own variables of the caller's it is given (they bear the numbers below that); may it hand out own variables; the function, the arguments, the own variables and the rights: the results, and these again. -/
abbrev CallF := Nat → Bool → FuncId → List AT → ObF → RtF → Nat → Option (List AT × ObF × RtF × Nat)
def noRt : RtF := fun _ => false
/-- A call of a function that writes nothing of ours. -/
def pureCall (call : CallF) (f : FuncId) (xs : List Arg) : Option (List Arg) := match call 0 false f (xs.map atOf) noOb noRt 1 with
  | some (rs, ob, _, _) => argsOf ob rs
  | none => none
def resAll : List AT → Option AT
  | [r] => some r
  | rs => (cvAs rs).map .tup
def capArgs (xs : List PV) : List Arg := xs.map fun x => (false, [x])

/-! ### what own variables hold, shown to a call that writes nothing of ours and hands back plain values -/
mutual
def snapC (ob : ObF) : CV → Option PV
  | .p _ x => some x
  | .vw o lo n => pvC ob (.vw o lo n)
  | .pt o off => match ob o with
    | some (.var cs) => (pvL ob cs).map fun xs => .ref (xs.drop off)
    | _ => none
  | .pr o r off => match ob o with
    | some (.arr _ _ rows) => (rows[r]?).map fun row => .ref (row.drop off)
    | _ => none
  | .mt _ => none
  | .cl f cs => (snapL ob cs).map (.fn f)
def snapL (ob : ObF) : List CV → Option (List PV)
  | [] => some []
  | c :: cs => match snapC ob c, snapL ob cs with
    | some x, some xs => some (x :: xs)
    | _, _ => none
end
mutual
/-- The own variables that are looked at so. -/
def looksC (ob : ObF) : CV → List Nat
  | .p _ _ => []
  | .vw o _ _ => [o]
  | .pt o _ => o :: (match ob o with | some (.var cs) => cs.flatMap seenC | _ => [])
  | .pr o _ _ => [o]
  | .mt _ => []
  | .cl _ cs => looksL ob cs
def looksL (ob : ObF) : List CV → List Nat
  | [] => []
  | c :: cs => looksC ob c ++ looksL ob cs
end
def snapOf (ob : ObF) : AT → Option Arg
  | .one c => (snapC ob c).map fun x => (false, [x])
  | .agg cs => (snapL ob cs).map fun xs => (true, xs)
  | _ => none
def snapArgs (ob : ObF) : List AT → Option (List Arg)
  | [] => some []
  | a :: r => match snapOf ob a, snapArgs ob r with
    | some x, some xs => some (x :: xs)
    | _, _ => none
def looksT (ob : ObF) : AT → List Nat
  | .one c => looksC ob c
  | .agg cs => looksL ob cs
  | _ => []
def flatCall (call : CallF) (g : FuncId) (xs : List Arg) (looks : List Nat) : Option Upd :=
  (pureCall call g xs).bind fun rs => if rs.all flatArg then some { val := resAT rs, rd := looks } else none

/-! ### calls that are given own variables, and may hand out some -/
/-- An own array that is written no more is what it is. -/
def coldC (ob : ObF) : CV → CV
  | .vw o lo n => match ob o with
    | some (.arr true z rows) => .p none (.sl z ((rows.drop lo).take n))
    | _ => .vw o lo n
  | c => c
def coldT (ob : ObF) : AT → AT
  | .one c => .one (coldC ob c)
  | .agg cs => .agg (cs.map (coldC ob))
  | x => x
mutual
def renC (f : Nat → Nat) (sh : Nat) : CV → CV
  | .p (some n) x => .p (some (if n = 0 then 0 else n + sh)) x
  | .p none x => .p none x
  | .pt o off => .pt (f o) off
  | .pr o r off => .pr (f o) r off
  | .vw o lo n => .vw (f o) lo n
  | .mt o => .mt (f o)
  | .cl g cs => .cl g (renL f sh cs)
def renL (f : Nat → Nat) (sh : Nat) : List CV → List CV
  | [] => []
  | c :: cs => renC f sh c :: renL f sh cs
end
def renO (f : Nat → Nat) (sh : Nat) : Obj → Obj
  | .var cs => .var (renL f sh cs)
  | .arr fz z rows => .arr fz z rows
  | .mp es k => .mp es k
def renT (f : Nat → Nat) (sh : Nat) : AT → AT
  | .one c => .one (renC f sh c)
  | .agg cs => .agg (renL f sh cs)
  | .tup ts => .tup (ts.map fun t => (t.1, renL f sh t.2))
  | .no => .no
def posIn : List Nat → Nat → Nat
  | [], _ => 0
  | x :: l, o => if o = x then 0 else posIn l o + 1
def noDup : List Nat → Bool
  | [] => true
  | x :: l => !(l.contains x) && noDup l
def rtsC : CV → List Nat
  | .p (some n) _ => [n]
  | _ => []
def rtsT : AT → List Nat
  | .one c => rtsC c
  | .agg cs => cs.flatMap rtsC
  | _ => []
def rtsO : Option Obj → List Nat
  | some (.var cs) => cs.flatMap rtsC
  | _ => []
/-- These own variables alone, numbered from i on. -/
def inO (ob : ObF) (f : Nat → Nat) : List Nat → Nat → ObF
  | [], _ => noOb
  | o :: os, i => match ob o with
    | some x => upd (inO ob f os (i + 1)) i (some (renO f 0 x))
    | none => inO ob f os (i + 1)
def takeO (ob : ObF) (L : List Nat) : ObF := inO ob (posIn L) L 0
/-- What comes back: the numbers that they bear here, from p on there. -/
def backO (ob' : ObF) (f : Nat → Nat) (sh : Nat) : List Nat → Nat → List (Nat × Obj)
  | [], _ => []
  | q :: qs, p => match ob' p with
    | some x => (q, renO f sh x) :: backO ob' f sh qs (p + 1)
    | none => backO ob' f sh qs (p + 1)
def seeO (ob : ObF) (xs : List AT) (vis : List Nat) : List Nat := (reach ob 2 (addS (xs.flatMap refsT) vis)).filter fun o => (ob o).isSome

/-! ### the head of a loop: only what is kept, the rights named anew -/
def relC (rt : RtF) (nx0 : Nat) (k : Nat) (seen : List Nat) : CV → CV × List Nat
  | .p (some 0) x => (.p (some k) x, seen)
  | .p (some n) x => if n < nx0 then (.p (some n) x, seen) else if rt n = true ∧ n ∉ seen then (.p (some k) x, n :: seen) else (.p none x, seen)
  | c => (c, seen)
def relL (rt : RtF) (nx0 : Nat) : Nat → List Nat → List CV → List CV × List Nat
  | _, seen, [] => ([], seen)
  | k, seen, c :: cs =>
    let a := relC rt nx0 k seen c
    let b := relL rt nx0 (k + 1) a.2 cs
    (a.1 :: b.1, b.2)
mutual
def okC (os : List Nat) (d : Bool) : CV → Bool
  | .p w _ => !(d && w.isSome)
  | .pt o _ => os.contains o
  | .pr o _ _ => os.contains o
  | .vw o _ _ => os.contains o
  | .mt o => os.contains o
  | .cl _ cs => okL os true cs
def okL (os : List Nat) (d : Bool) : List CV → Bool
  | [] => true
  | c :: cs => okC os d c && okL os d cs
end
def relT (rt : RtF) (nx0 : Nat) (k : Nat) (seen : List Nat) : AT → AT × Nat × List Nat
  | .one c => let a := relC rt nx0 k seen c; (.one a.1, k + 1, a.2)
  | .agg cs => let a := relL rt nx0 k seen cs; (.agg a.1, k + cs.length, a.2)
  | x => (x, k, seen)
def okT (os : List Nat) : AT → Bool
  | .one c => okC os false c
  | .agg cs => okL os false cs
  | .no => true
  | .tup _ => false
def headT (rt : RtF) (nx0 : Nat) (os : List Nat) (tm : Nat → AT) : Nat → List Nat → List Nat → (Nat → AT) × Nat × List Nat
  | k, seen, [] => (fun _ => .no, k, seen)
  | k, seen, t :: ts =>
    let a := relT rt nx0 k seen (if okT os (tm t) then tm t else .no)
    let b := headT rt nx0 os tm a.2.1 a.2.2 ts
    (upd b.1 t a.1, b.2)
def headO (rt : RtF) (nx0 : Nat) (os : List Nat) (ob : ObF) (rest : ObF) : Nat → List Nat → List Nat → Option (ObF × Nat)
  | k, _, [] => some (rest, k)
  | k, seen, o :: r => match ob o with
    | none => headO rt nx0 os ob rest k seen r
    | some (.var cs) => if okL os false cs then
        let a := relL rt nx0 k seen cs
        match headO rt nx0 os ob rest (k + cs.length) a.2 r with
        | some (f, m) => some (upd f o (some (.var a.1)), m)
        | none => none
      else none
    | some (.arr z n rows) => match headO rt nx0 os ob rest k seen r with
      | some (f, m) => some (upd f o (some (.arr z n rows)), m)
      | none => none
    | some (.mp es c) => match headO rt nx0 os ob rest k seen r with
      | some (f, m) => some (upd f o (some (.mp es c)), m)
      | none => none
/-- Rights, named anew from nx0 on. -/
def rtH (rt : RtF) (nx0 m : Nat) : RtF := fun n => if n < nx0 then (if n = 0 then false else rt n) else decide (n < m)
/-- Rights from 1 on. -/
def rtP (m : Nat) : RtF := fun n => if n = 0 then false else decide (n < m)
theorem rtH_one (rt : RtF) (m : Nat) : rtH rt 1 m = rtP m := by
  funext n
  unfold rtH rtP
  by_cases h : n = 0
  · subst h; rfl
  · rw [if_neg (by omega), if_neg h]
/-- What is not the call's own. -/
def obH (base : Nat) (ob : ObF) : ObF := fun o => if o < base then ob o else none
theorem obH_zero (ob : ObF) : obH 0 ob = noOb := rfl
def head0 (base nx0 : Nat) (vis : List Nat) (h : List Nat) (s : St) : Option St :=
  let all := (reach s.ob 2 (addS (h.flatMap fun t => refsT (s.tm t)) vis)).filter fun o => (s.ob o).isSome
  let live := all.filter fun o => decide (base ≤ o) || vis.contains o
  let a := headT s.rt nx0 all s.tm nx0 [] h
  match headO s.rt nx0 all s.ob noOb a.2.1 a.2.2 live with
  | some (f, m) => some { tm := a.1, ob := f, rt := rtH s.rt nx0 m, nx := m }
  | none => none
def coldS (s : St) : St := { s with tm := fun t => coldT s.ob (s.tm t) }
def head (base nx0 : Nat) (vis : List Nat) (h : List Nat) (s : St) : Option St := head0 base nx0 vis h (coldS s)

def initTm : List AT → Nat → Nat → AT
  | [], _ => fun _ => .no
  | a :: r, k => upd (initTm r (k + 1)) k a

def mvEnd (base d nx : Nat) (os : List Nat) (ob : ObF) (rt : RtF) (used : List Nat) (rs : List AT) (ob' : ObF) (rt' : RtF) (nx' : Nat) : Option Upd :=
  let news := [base + d, base + d + 4096, base + d + 8192, base + d + 12288]
  let tg := os ++ news
  if news.all fun q => (ob q).isNone then
    (resAll (rs.map (renT (fun p => tg.getD p 0) nx))).map fun r =>
      { val := r, rd := tg, all := some ((backO ob' (fun p => tg.getD p 0) nx tg 0).foldl (fun f p => upd f p.1 (some p.2)) ob,
          fun n => if n < nx then rt n && !(used.contains n) else !(n == nx) && rt' (n - nx), nx + nx') }
  else none
def mvCall (call : CallF) (base d : Nat) (g : FuncId) (xs : List AT) (ob : ObF) (rt : RtF) (nx : Nat) : Option Upd :=
  match head 0 1 [] (List.range xs.length) ⟨initTm xs 0, ob, rt, nx⟩ with
  | some s =>
    let os := (seeO ob (xs.map (coldT ob)) []).reverse
    if noDup os = true then match call os.length true g ((List.range xs.length).map fun i => renT (posIn os) 0 (s.tm i)) (takeO s.ob os) s.rt s.nx with
      | some (rs, ob', rt', nx') => mvEnd base d nx os ob rt (xs.flatMap rtsT ++ os.flatMap fun o => rtsO (ob o)) rs ob' rt' nx'
      | none => none
    else none
  | none => none

def evCall (E : Env) (gen : Nat → Bool) (call : CallF) (base : Nat) (ρ : Operand → AT) (ob : ObF) (rt : RtF) (nx : Nat) (dst : Option Nat) (c : Call) : Option Upd :=
  match c.callee, c.args.toList, c.argTypes.toList with
  | .builtin .len, [x], [t] => match ρ x, (E.T t).map (·.kd) with
    | .one (.p _ (.sl _ l)), some 3 => some { val := .one (.p none (.sc (.int .i64 l.length))) }
    | .one (.vw _ _ n), some 3 => some { val := .one (.p none (.sc (.int .i64 n))) }
    | _, _ => none
  | .builtin .copy, [x, y], [t, u] => match E.T t with
    | some ti => if ti.kd = 3 ∧ t = u then match ρ x, opT E ρ t y with
      | .one (.vw o lo n), .one cy => match ob o, pvC ob cy with
        | some (.arr false z' rows), some (.sl z l) => if z = ti.esz ∧ z' = ti.esz ∧ lo + n ≤ rows.length then
            some { val := .one (.p none (.sc (.int .i64 (min l.length n : Nat)))), ow := [(o, .arr false z' (splice rows lo (l.take (min l.length n))))], rd := o :: seenC cy }
          else none
        | _, _ => none
      | _, _ => none
      else none
    | none => none
  | .builtin .clear, [x], [t] => match E.T t, ρ x with
    | some ti, .one (.vw o lo n) => match ob o, E.T ti.e with
      | some (.arr false z' rows), some te => match pvL ob te.zero with
        | some z => if ti.kd = 3 ∧ z' = ti.esz ∧ z.length = ti.esz ∧ lo + n ≤ rows.length then
            some { val := .tup [], ow := [(o, .arr false z' (splice rows lo (List.replicate n z)))], rd := [o] }
          else none
        | none => none
      | _, _ => none
    | _, _ => none
  | .builtin .append, [s, x], [t, u] => match E.T t with
    | some ti => if ti.kd = 3 ∧ t = u then
      if gen (dst.getD 4095) then match opT E ρ t s, opT E ρ t x, dst with
        | .one (.p (some 0) (.sl z [])), .one cy, some d => match pvC ob cy, ob (base + d) with
          | some (.sl z' l'), none => if z = ti.esz ∧ z' = ti.esz ∧ (E.T ti.e).isSome ∧ 0 < ti.esz ∧ l'.length ≤ 16777216 ∧ ti.eby ≤ 4096 then
              some { val := .one (.vw (base + d) 0 l'.length), ow := [(base + d, .arr false z l')], rd := (base + d) :: seenC cy }
            else none
          | _, _ => none
        | _, _, _ => none
      else match opT E ρ t s, opT E ρ t x, dst with
      | .one (.p (some n) (.sl z l)), .one (.p _ (.sl z' l')), some d =>
        if z = ti.esz ∧ z' = ti.esz ∧ (E.T ti.e).isSome ∧ 0 < ti.esz ∧ (n = 0 ∨ rt n = true) ∧ l.length + l'.length ≤ 16777216 ∧ ti.eby ≤ 4096 then
          some { val := .one (.p (some nx) (.sl z (l ++ l'))), rw := some n, nl := true }
        else none
      | _, _, _ => none
      else none
    | none => none
  | .value f, args, ts => if args.length = ts.length then match ρ f with
    | .one (.p _ (.fn g caps)) =>
      let as := (args.zip ts).map fun p => opT E ρ p.2 p.1
      if gen (dst.getD 4095) then mvCall call base (dst.getD 4095) g (as ++ caps.map fun x => .one (.p none x)) ob rt nx
      else match argsOf ob as with
      | some xs => (pureCall call g (xs ++ capArgs caps)).map fun rs =>
          let seen := as.flatMap seenT
          { val := resAT rs, ow := if rs.all flatArg then [] else icy ob seen, rd := seen }
      | none => match snapArgs ob (as ++ caps.map fun x => .one (.p none x)) with
        | some xs => flatCall call g xs (as.flatMap (looksT ob))
        | none => none
    | .one (.cl g caps) =>
      let as := (args.zip ts).map fun p => opT E ρ p.2 p.1
      if gen (dst.getD 4095) then mvCall call base (dst.getD 4095) g (as ++ caps.map .one) ob rt nx
      else match snapArgs ob (as ++ caps.map .one) with
        | some xs => flatCall call g xs (as.flatMap (looksT ob) ++ looksL ob caps)
        | none => none
    | _ => none
    else none
  | _, _, _ => none

def isNilS : Operand → Bool
  | .const (.slice none 0 0) => true
  | _ => false
/-- A slice that has rows. -/
def filled : AT → Bool
  | .one (.p _ (.sl _ l)) => decide (0 < l.length)
  | .one (.vw _ _ n) => decide (0 < n)
  | _ => false
/-- A slice that has rows is not nil. -/
def nilB (P : Program) (op : BinOp) (t : TypeId) (y : Operand) (a : AT) : Option Upd := match tiOf P t with
  | some ti => if ti.kd = 3 ∧ isNilS y = true ∧ filled a = true then (match op with
    | .eql => some { val := .one (.p none (.sc (.bool false))) }
    | .neq => some { val := .one (.p none (.sc (.bool true))) }
    | _ => none) else none
  | none => none
def nilGen (E : Env) (ρ : Operand → AT) (o : Oper) : Option Upd := match o.op with
  | .binOp op t x y _ => nilB E.P op t y (ρ x)
  | _ => none
def evGen (E : Env) (ρ : Operand → AT) (o : Oper) : Option Upd :=
  if o.op.operands.toList.all fun x => (valOf (ρ x)).isSome then
    match tryP E.P (execOp (fun x => (valOf (ρ x)).getD undef) o) with
    | some (.value v) => (atOfV v).map fun a => { val := a }
    | _ => none
  else nilGen E ρ o

/-! ### structs, compared -/
def eqFs (P : Program) (f : TypeId → AT → AT → Option Bool) (cs ds : List CV) : List Field → Option Bool
  | [] => some true
  | g :: fs => if g.name = "_" then eqFs P f cs ds fs else match P.info? g.type, P.underlying g.type with
    | some i, some d => match partOf cs g.offset i.size (descAgg d), partOf ds g.offset i.size (descAgg d) with
      | some a, some b => (f g.type a b).bind fun r => (eqFs P f cs ds fs).map fun q => r && q
      | _, _ => none
    | _, _ => none
def eqA (P : Program) : Nat → TypeId → AT → AT → Option Bool
  | 0, _, _, _ => none
  | n + 1, t, a, b => match P.underlying t with
    | some .bool => match a, b with
      | .one (.p _ (.sc (.bool x))), .one (.p _ (.sc (.bool y))) => some (x == y)
      | _, _ => none
    | some (.int _) => match a, b with
      | .one (.p _ (.sc (.int k x))), .one (.p _ (.sc (.int k' y))) => if k = k' then some (x == y) else none
      | _, _ => none
    | some .string => match a, b with
      | .one (.p _ (.sc (.string x))), .one (.p _ (.sc (.string y))) => some (x.toList == y.toList)
      | _, _ => none
    | some (.struct fs) => match a, b with
      | .agg cs, .agg ds => if P.stoodInHeld t = false then eqFs P (eqA P n) cs ds fs.toList else none
      | _, _ => none
    | _ => none
def aggB (P : Program) (op : BinOp) (t : TypeId) (a b : AT) : Option Upd := match a, b with
  | .agg cs, .agg ds => if P.eqGuardType P.depth t = false then (match op with
    | .eql => (eqA P 12 t (.agg cs) (.agg ds)).map fun r => { val := .one (.p none (.sc (.bool r))) }
    | .neq => (eqA P 12 t (.agg cs) (.agg ds)).map fun r => { val := .one (.p none (.sc (.bool (!r)))) }
    | _ => none) else none
  | _, _ => none

/-- An assignment: the right to append may be let go. -/
def asg (drop : Bool) (a : AT) : AT := if drop then (match a with
  | .one (.p _ x) => .one (.p none x)
  | a => a) else a
/-! ### own maps, of values that hold no address -/
def mapAt (E : Env) (et : TypeId) : Option (Nat × Value) → AT
  | some (_, v) => (atOfV v).getD .no
  | none => ((tryP E.P (zeroValue et)).bind atOfV).getD .no
def mapGet (E : Env) (t : TypeId) (es : List MapEntry) (k : Value) (ok : Bool) : Option AT := match E.P.underlying t with
  | some (.map kt et) => match tryP E.P (Instr.checkKey es.isEmpty 10000 kt k), tryP E.P (Instr.findKey kt k es) with
    | some _, some r => match cvA (mapAt E et r) with
      | some x => some (if ok then .tup [x, (false, [.p none (.sc (.bool r.isSome))])] else mapAt E et r)
      | none => none
    | _, _ => none
  | _ => none
def mapPut (P : Program) (t : TypeId) (es : List MapEntry) (c : Nat) (k v : Value) : Option Obj := match P.underlying t with
  | some (.map kt _) => match tryP P (Instr.checkKey false 10000 kt k), tryP P (Instr.findKey kt k es) with
    | some _, some (some (i, _)) => if Instr.sameBits 10000 (((es[i]?).map (·.key)).getD k) k = true then
        some (.mp (es.modify i fun e => { e with key := k, val := v }) c) else none
    | some _, some none => some (.mp (es ++ [{ key := k, val := v, born := c }]) (c + 1))
    | _, _ => none
  | _ => none

def evOp (E : Env) (gen : Nat → Bool) (call : CallF) (base : Nat) (ρ : Operand → AT) (ob : ObF) (rt : RtF) (nx : Nat) (o : Oper) : Option Upd :=
  match o.op with
  | .move x => some { val := opT E ρ o.type x }
  | .assign x => some { val := asg (gen (o.dst.getD 4095)) (opT E ρ o.type x) }
  | .pick c a b => match ρ c with
    | .one (.p _ (.sc (.bool t))) => some { val := if t then opT E ρ o.type a else opT E ρ o.type b }
    | _ => none
  | .alloc t => match E.T t, o.dst with
    | some ti, some d => match ob (base + d) with
      | none => some { val := .one (.pt (base + d) 0), ow := [(base + d, .var ti.zero)], rd := [base + d] }
      | some _ => none
    | _, _ => none
  | .box t x => match cellsOf (opT E ρ t x), o.dst with
    | some cs, some d => match ob (base + d) with
      | none => some { val := .one (.pt (base + d) 0), ow := [(base + d, .var cs)], rd := [base + d] }
      | some _ => none
    | _, _ => none
  | .build t parts => match E.T t with
    | some ti => if ti.kd = 1 then (fillS ti.fs E ρ ti.zero parts.toList).map fun cs => { val := .agg cs }
      else if ti.kd = 2 then (fillA ti E ρ ti.zero parts.toList).map fun cs => { val := .agg cs }
      else none
    | none => none
  | .buildSlice t n parts => match E.T t with
    | some ti => if ti.kd = 3 ∧ 0 < ti.esz ∧ n ≤ 65536 ∧ ti.esz ≤ 256 then
        match E.T ti.e with
        | some te => match pvL ob te.zero with
          | some z => if z.length = ti.esz then
              (fillR ti E ob ρ (List.replicate n z) parts.toList).map fun rs =>
                let seen := parts.toList.flatMap fun p => seenT (ρ p.2)
                { val := .one (.p (some 0) (.sl ti.esz rs)), ow := icy ob seen, rd := seen }
            else none
          | none => none
        | none => none
      else none
    | none => none
  | .load t x => match E.T t with
    | some ti => match ρ x with
      | .one (.pt c off) => match ob c with
        | some (.var cs) => (partOf cs off ti.sz ti.agg).map fun a => { val := a, rd := [c] }
        | _ => none
      | .one (.pr c r off) => match ob c with
        | some (.arr _ _ rows) => match rows[r]? with
          | some row => (partOf (row.map (.p none)) off ti.sz ti.agg).map fun a => { val := a, rd := [c] }
          | none => none
        | _ => none
      | .one (.p _ (.ref cs)) => (partOf (cs.map (.p none)) 0 ti.sz ti.agg).map fun a => { val := a }
      | _ => none
    | none => none
  | .store t x y => match E.T t, ρ x, cellsOf (opT E ρ t y) with
    | some ti, .one (.pt c off), some vs => match ob c with
      | some (.var cs) => if vs.length = ti.sz ∧ off + vs.length ≤ cs.length then
          some { val := .no, ow := [(c, .var (splice cs off vs))], rd := [c] } else none
      | _ => none
    | some ti, .one (.pr c r off), some vs => match ob c, pvL ob vs with
      | some (.arr false z rows), some xs => match rows[r]? with
        | some row => if xs.length = ti.sz ∧ off + xs.length ≤ row.length ∧ c ∉ vs.flatMap seenC then
            let seen := vs.flatMap seenC
            some { val := .no, ow := icy ob seen ++ [(c, .arr false z (rows.set r (splice row off xs)))], rd := c :: seen } else none
        | none => none
      | _, _ => none
    | _, _, _ => none
  | .fieldAddr t x f => match E.T t with
    | some ti => if ti.kd = 1 then match ti.fs[f]? with
      | some (off, sz, _, _) => if sz = 0 then none else (evPtr (ρ x) off).map fun a => { val := a }
      | none => none
      else none
    | none => none
  | .field t x f => match E.T t, ρ x with
    | some ti, .agg cs => if ti.kd = 1 then match ti.fs[f]? with
      | some (off, sz, g, _) => (partOf cs off sz g).map fun a => { val := a }
      | none => none
      else none
    | _, _ => none
  | .indexAddr t x i => match E.T t, idxOf (ρ i) with
    | some ti, some n =>
      if ti.kd = 2 then (if 0 ≤ n ∧ n < ti.len then (evPtr (ρ x) (n.toNat * ti.esz)).map fun a => { val := a } else none)
      else if ti.kd = 3 then match ρ x with
        | .one (.p _ (.sl z l)) => if z = ti.esz ∧ 0 ≤ n then match l[n.toNat]? with
          | some r => some { val := .one (.p none (.ref r)) }
          | none => none
          else none
        | .one (.vw o lo m) => match ob o with
          | some (.arr _ z _) => if z = ti.esz ∧ 0 ≤ n ∧ n.toNat < m then some { val := .one (.pr o (lo + n.toNat) 0), rd := [o] } else none
          | _ => none
        | _ => none
      else none
    | _, _ => none
  | .index t x i => match E.T t, ρ x, idxOf (ρ i) with
    | some ti, .agg cs, some n => if ti.kd = 2 ∧ 0 ≤ n ∧ n < ti.len then (partOf cs (n.toNat * ti.esz) ti.esz ti.eagg).map fun a => { val := a } else none
    | _, _, _ => evGen E ρ o
  | .slice t x lo hi mx => match E.T t, ρ x, optIdx ρ lo, optIdx ρ hi, optIdx ρ mx with
    | some ti, .one (.p _ (.sl z l)), some lo, some hi, some mx =>
      let h := hi.getD l.length
      let b := lo.getD 0
      let m := mx.getD h
      if ti.kd = 3 ∧ z = ti.esz ∧ 0 ≤ b ∧ b ≤ h ∧ h ≤ m ∧ m ≤ l.length ∧ (mx.isSome → hi.isSome) then
        some { val := .one (.p (if mx.isSome ∧ h = m then some 0 else none) (.sl z ((l.take h.toNat).drop b.toNat))) }
      else none
    | some ti, .one (.vw o lo n), some l, some hi, some none =>
      let h := hi.getD n
      let b := l.getD 0
      match ob o with
      | some (.arr _ z _) => if ti.kd = 3 ∧ z = ti.esz ∧ 0 ≤ b ∧ b ≤ h ∧ h ≤ n then some { val := .one (.vw o (lo + b.toNat) (h - b).toNat), rd := [o] } else none
      | _ => none
    | _, _, _, _, _ => evGen E ρ o
  | .makeSlice t no c => match E.T t, idxOf (ρ no), idxOf (ρ c), o.dst with
    | some ti, some n, some c, some d => match E.T ti.e with
      | some te => match pvL ob te.zero with
        | some z => if ti.kd = 3 ∧ 0 < ti.esz ∧ z.length = ti.esz ∧ 0 ≤ n ∧ n ≤ c ∧ c ≤ 16777216 ∧ ti.eby ≤ 4096 then
            (if isZero no then some { val := .one (.p (some nx) (.sl ti.esz [])), rw := some 0, nl := true }
            else if n = c then match ob (base + d) with
              | none => some { val := .one (.vw (base + d) 0 n.toNat), ow := [(base + d, .arr false ti.esz (List.replicate n.toNat z))], rd := [base + d] }
              | some _ => none
            else none)
          else none
        | none => none
      | none => none
    | _, _, _, _ => none
  | .makeMap _ r => match r, o.dst with
    | none, some d => match ob (base + d) with
      | none => some { val := .one (.mt (base + d)), ow := [(base + d, .mp [] 0)], rd := [base + d] }
      | some _ => none
    | _, _ => none
  | .lookup t x i ok => match ρ x, valOf (ρ i) with
    | .one (.mt m), some k => match ob m with
      | some (.mp es _) => (mapGet E t es k ok).map fun a => { val := a, rd := [m] }
      | _ => none
    | _, _ => none
  | .mapUpdate t x i y => match ρ x, valOf (ρ i), valOf (ρ y) with
    | .one (.mt m), some k, some v => match ob m with
      | some (.mp es c) => (mapPut E.P t es c k v).map fun q => { val := .no, ow := [(m, q)], rd := [m] }
      | _ => none
    | _, _, _ => none
  | .nilCheck x => match ρ x with
    | .one (.pt c off) => some { val := .one (.pt c off) }
    | .one (.pr c r off) => some { val := .one (.pr c r off) }
    | .one (.p p (.ref cs)) => some { val := .one (.p p (.ref cs)) }
    | .one (.p p (.fn f cs)) => some { val := .one (.p p (.fn f cs)) }
    | .one (.cl f cs) => some { val := .one (.cl f cs) }
    | _ => evGen E ρ o
  | .extract x i => match ρ x with
    | .tup ts => (ts[i]?).map fun r => { val := atC r }
    | _ => none
  | .makeFunc (.func f) first caps => if first.size = 0 then match cvAs (caps.toList.map ρ) with
      | some cs => if cs.all (fun c => !c.1) then
          let xs := cs.flatMap (·.2)
          match pvL noOb xs with
          | some ps => some { val := .one (.p none (.fn f ps)) }
          | none => some { val := .one (.cl f xs) }
        else none
      | none => none
    else none
  | .call c => match c.callee with
    | .builtin .len => match evCall E gen call base ρ ob rt nx o.dst c with
      | some u => some u
      | none => evGen E ρ o
    | .builtin .append | .builtin .copy | .value _ => evCall E gen call base ρ ob rt nx o.dst c
    | .builtin b => if b = .clear then evCall E gen call base ρ ob rt nx o.dst c else evGen E ρ o
    | _ => none
  | .binOp op t x y _ => match aggB E.P op t (ρ x) (ρ y) with
    | some u => some u
    | none => evGen E ρ o
  | .unOp _ _ _ | .convert _ _ _ | .makeInterface _ _ | .typeAssert _ _ _ _ => evGen E ρ o
  | _ => none

def apU (dst : Option Nat) (u : Upd) (s : St) : St :=
  { tm := match dst with
      | some d => upd s.tm d u.val
      | none => s.tm
    ob := match u.all with
      | some a => a.1
      | none => u.ow.foldl (fun f p => upd f p.1 (some p.2)) s.ob
    rt := match u.all with
      | some a => a.2.1
      | none => match u.rw, u.nl with
        | some n, true => upd (upd s.rt n false) s.nx true
        | _, _ => s.rt
    nx := match u.all with
      | some a => a.2.2
      | none => if u.nl then s.nx + 1 else s.nx }

def evGuard (ops : Array Oper) (m : Nat → AT) : Option (Nat × Bool) → Option Bool
  | none => some true
  | some (j, want) => match (ops[j]?).bind (·.dst) with
    | some t => match m t with
      | .one (.p _ (.sc (.bool b))) => some (b == want)
      | .tup _ => some false
      | _ => none
    | none => none
def okDst (nt : Nat) : Option Nat → Bool
  | some d => decide (d < nt)
  | none => true
/-- What one row of a region does. -/
def evRow (E : Env) (gen : Nat → Bool) (call : CallF) (base nt : Nat) (ops : Array Oper) (s : St) (o : Oper) : Option Upd :=
  if okDst nt o.dst then
    match evGuard ops s.tm o.guard with
    | some true => evOp E gen call base (evOpd E s.tm) s.ob s.rt s.nx o
    | some false => some { val := .tup [] }
    | none => none
  else none
/-- The rows, in the order of the text: the state behind them, and what each one did. -/
def evRows (E : Env) (gen : Nat → Bool) (call : CallF) (base nt : Nat) (ops : Array Oper) : List Oper → St → Option (St × List Upd)
  | [], s => some (s, [])
  | o :: r, s => match evRow E gen call base nt ops s o with
    | some u => match evRows E gen call base nt ops r (apU o.dst u s) with
      | some (s', us) => some (s', u :: us)
      | none => none
    | none => none
/-- Two deeds that do not meet. -/
def Upd.quiet (a : Upd) : Bool := a.ow.isEmpty && a.rd.isEmpty && !a.nl && a.all.isNone
def Upd.apart (a b : Upd) : Bool :=
  if a.all.isSome || b.all.isSome then (a.quiet || b.quiet) else
  (a.ow.all fun p => !(b.rd.contains p.1) && !(b.ow.any fun q => q.1 == p.1)) && (b.ow.all fun p => !(a.rd.contains p.1)) && !(a.nl && b.nl)
def apartAll (us : List Upd) (l : List (Nat × Nat)) : Bool := l.all fun p => match us[p.1]?, us[p.2]? with
  | some a, some b => a.apart b
  | _, _ => false
inductive Out where
  | fall
  | exit (id : Nat)
  | ret
  deriving Inhabited

/-- What is said of a function's text beside it: of a drawn region the pairs of rows without order (none: not drawn); of a loop (by the number of its first region) the temporaries that it keeps (an own variable bears the number of its temporary). -/
structure Hint where
  pairs : Nat → Option (List (Nat × Nat))
  keep : Nat → List Nat
  /-- where ways meet (by the number of the region that follows): what is kept -/
  join : Nat → Option (List Nat)
  deriving Inhabited

def firstR : Code → Nat
  | .region id _ _ => id
  | .seq a _ => firstR a
  | .block _ b => firstR b
  | .loop b => firstR b
  | .cond _ a _ => firstR a
  | .scope b => firstR b
  | _ => 0

/-- What stays the same in a call: the program, the calls within it, the number from which on its variables are named, how many temporaries, from which on its rights, whose variables it was shown, what is said beside the text. -/
structure Fx where
  E : Env
  gen : Nat → Bool
  call : CallF
  base : Nat
  nt : Nat
  nx0 : Nat
  vis : List Nat
  H : Hint

/-- A deed turns none but the variables that were shown, and those of the call itself. -/
def touchOk (base : Nat) (vis : List Nat) (u : Upd) : Bool :=
  (u.ow.all fun p => decide (base ≤ p.1) || vis.contains p.1) && (u.all.isNone || u.rd.all fun o => decide (base ≤ o) || vis.contains o)

def joinKey : Code → Option Nat
  | .region id _ _ => some id
  | .seq a _ => joinKey a
  | .cond (.tmp t) _ _ => some (1000000 + t)
  | _ => none
/-- Where ways meet, only what is kept. -/
def atJoin (X : Fx) (b : Code) (s : St) : Option St := match joinKey b with
  | some j => match X.H.join j with
    | some l => head X.base X.nx0 X.vis l s
    | none => some s
  | none => some s
def evCodeA (X : Fx) (again : Code → St → Option (Out × St)) : Code → St → Option (Out × St)
  | .skip, s => some (.fall, s)
  | .label _, s => some (.fall, s)
  | .region id ops draw, s => match evRows X.E X.gen X.call X.base X.nt ops ops.toList s with
    | some (s', us) => if us.all (touchOk X.base X.vis) then
        if draw then match X.H.pairs id with
        | some l => if apartAll us l then some (.fall, s') else none
        | none => none
        else some (.fall, s')
      else none
    | none => none
  | .seq a b, s => match evCodeA X again a s with
    | some (.fall, s') => match atJoin X b s' with
      | some s' => evCodeA X again b s'
      | none => none
    | r => r
  | .cond c a b, s => match evOpd X.E s.tm c with
    | .one (.p _ (.sc (.bool t))) => if t then evCodeA X again a s else evCodeA X again b s
    | _ => none
  | .block id b, s => match evCodeA X again b s with
    | some (.exit i, s') => if i = id then some (.fall, s') else some (.exit i, s')
    | r => r
  | .loop b, s => match head X.base X.nx0 X.vis (X.H.keep (firstR b)) s with
    | some s => match evCodeA X again b s with
      | some (.fall, s') => again (.loop b) s'
      | r => r
    | none => none
  | .exit id, s => some (.exit id, s)
  | .ret, s => some (.ret, s)
  | _, _ => none
def evCode (X : Fx) : Nat → Code → St → Option (Out × St)
  | 0 => fun _ _ => none
  | n + 1 => evCodeA X (evCode X n)

def resTmp : ResultVar → Nat
  | .tmp t => t
  | .cell t _ => t
def resAT1 (E : Env) (s : St) : ResultVar → AT
  | .tmp t => s.tm t
  | .cell a t => match s.tm a, E.T t with
    | .one (.pt o off), some ti => match s.ob o with
      | some (.var cs) => (partOf cs off ti.sz ti.agg).getD .no
      | _ => .no
    | _, _ => .no
/-- What a call hands back must not speak of the variables that end with it: their rows, seen as they are. -/
def backC (base : Nat) (ob : ObF) : CV → Option CV
  | .p w x => some (.p w x)
  | .vw o lo n => if o < base then some (.vw o lo n) else (pvC ob (.vw o lo n)).map (.p none)
  | .pt o k => if o < base then some (.pt o k) else none
  | .pr o r k => if o < base then some (.pr o r k) else none
  | .mt o => if o < base then some (.mt o) else none
  | .cl f cs => if (refsL cs).all (· < base) then some (.cl f cs) else none
def backL (base : Nat) (ob : ObF) : List CV → Option (List CV)
  | [] => some []
  | c :: cs => match backC base ob c, backL base ob cs with
    | some x, some xs => some (x :: xs)
    | _, _ => none
def backT (base : Nat) (ob : ObF) : AT → Option AT
  | .one c => (backC base ob c).map .one
  | .agg cs => (backL base ob cs).map .agg
  | _ => none
def backAll (base : Nat) (ob : ObF) : List AT → Option (List AT)
  | [] => some []
  | c :: cs => match backT base ob c, backAll base ob cs with
    | some x, some xs => some (x :: xs)
    | _, _ => none
/-- What the caller sees speaks of none of the variables that end. -/
def cleanO (base : Nat) (ob : ObF) (o : Nat) : Bool := match ob o with
  | some (.var cs) => (refsL cs).all (· < base)
  | _ => true
def isAT : AT → Bool
  | .no => false
  | _ => true
/-- What is handed back, and out. -/
def leave (base nx : Nat) (s : St) (rs : List AT) : Option (List AT × ObF × RtF × Nat) :=
  match head base nx (List.range base) (List.range rs.length) ⟨initTm rs 0, s.ob, s.rt, s.nx⟩ with
  | some s1 =>
    let L := List.range base ++ ((seeO s.ob (rs.map (coldT s.ob)) (List.range base)).filter fun o => decide (base ≤ o)).reverse
    if noDup L = true ∧ L.length ≤ base + 4 ∧ rs.all isAT = true then some ((List.range rs.length).map fun i => renT (posIn L) 0 (s1.tm i), takeO s1.ob L, s1.rt, s1.nx) else none
  | none => none
def evFn (E : Env) (gen : FuncId → Nat → Bool) (H : FuncId → Hint) (call : CallF) (n base : Nat) (mv : Bool) (f : FuncId) (fn : Func) (args : List AT) (ob : ObF) (rt : RtF) (nx : Nat) : Option (List AT × ObF × RtF × Nat) :=
  match fn.body with
  | some c => if args.length ≤ fn.ntmps ∧ fn.ntmps ≤ 4095 then
      match evCode ⟨E, gen f, call, base, fn.ntmps, nx, List.range base, H f⟩ n c ⟨initTm args 0, ob, rt, nx⟩ with
      | some (.fall, s) | some (.ret, s) => if mv then leave base nx s (fn.results.toList.map (resAT1 E s))
        else if (List.range base).all (cleanO base s.ob) then (backAll base s.ob (fn.results.toList.map (resAT1 E s))).map fun rs => (rs, obH base s.ob, s.rt, s.nx) else none
      | _ => none
    else none
  | _ => none
/-- A function's text, with so many rounds and calls within calls at most; 'ext' tells of functions that are known otherwise. -/
def evF (E : Env) (gen : FuncId → Nat → Bool) (H : FuncId → Hint) (ext : FuncId → Option (List Arg → Option (List Arg))) : Nat → CallF
  | 0 => fun _ _ _ _ _ _ _ => none
  | n + 1 => fun base mv f args ob rt nx => match ext f with
    | some g => match argsOf noOb args with
      | some xs => (g xs).map fun rs => (rs.map atOf, ob, rt, nx)
      | none => none
    | none => match E.P.funcs[f]? with
      | some fn => evFn E gen H (evF E gen H ext n) n base mv f fn args ob rt nx
      | none => none

/-! ### hints, computed -/
def tmpsOf (xs : List Operand) : List Nat := xs.filterMap fun | .tmp t => some t | _ => none
def lvRow (ops : Array Oper) (o : Oper) (l : List Nat) : List Nat :=
  let l1 := match o.dst, o.guard with
    | some d, none => l.filter (· != d)
    | _, _ => l
  let l2 := match o.guard with
    | some (j, _) => match (ops[j]?).bind (·.dst) with
      | some t => addS [t] l1
      | none => l1
    | none => l1
  addS (tmpsOf o.op.operands.toList) l2
def lvCode (res : List Nat) : Nat → Code → List (Nat × List Nat) → List Nat → List Nat
  | 0, _, _, l => l
  | n + 1, c, ex, l => match c with
    | .region _ ops _ => ops.toList.foldr (lvRow ops) l
    | .seq a b => lvCode res n a ex (lvCode res n b ex l)
    | .cond c a b => addS (tmpsOf [c]) (addS (lvCode res n a ex l) (lvCode res n b ex l))
    | .block id b => lvCode res n b ((id, l) :: ex) l
    | .loop b => (List.range 6).foldl (fun acc _ => addS (lvCode res n b ex acc) acc) []
    | .exit id => ((ex.find? fun p => p.1 == id).map (·.2)).getD []
    | .ret => res
    | _ => l
/-- The loops of a text, each by the number of its first region, with what lives at its head. -/
def loopsOf (res : List Nat) : Nat → Code → List (Nat × List Nat) → List Nat → List (Nat × List Nat)
  | 0, _, _, _ => []
  | n + 1, c, ex, l => match c with
    | .seq a b => loopsOf res n a ex (lvCode res n b ex l) ++ loopsOf res n b ex l
    | .cond _ a b => loopsOf res n a ex l ++ loopsOf res n b ex l
    | .block id b => loopsOf res n b ((id, l) :: ex) l
    | .loop b =>
      let h := lvCode res (n + 1) (.loop b) ex l
      (firstR b, h.mergeSort) :: loopsOf res n b ex h
    | _ => []
def unord (ops : Array Oper) : List (Nat × Nat) :=
  let b := Region.before ops
  (List.range ops.size).flatMap fun j => (List.range j).filterMap fun i => if (b.getD j 0).testBit i || (b.getD i 0).testBit j then none else some (i, j)
def drawnOf : Code → List (Nat × List (Nat × Nat))
  | .region id ops true => [(id, unord ops)]
  | .seq a b | .cond _ a b => drawnOf a ++ drawnOf b
  | .block _ b | .loop b | .scope b => drawnOf b
  | _ => []
def hintOf (fn : Func) : Hint := match fn.body, fn.results.toList.map resTmp with
  | some c, r =>
    let ls := loopsOf r 200 c [] r
    let ds := drawnOf c
    { pairs := fun i => (ds.find? fun p => p.1 == i).map (·.2), keep := fun i => ((ls.find? fun p => p.1 == i).map (·.2)).getD [], join := fun _ => none }
  | none, _ => { pairs := fun _ => none, keep := fun _ => [], join := fun _ => none }
end Go.Proofs.Ytcmaohhcbiienaa.X
