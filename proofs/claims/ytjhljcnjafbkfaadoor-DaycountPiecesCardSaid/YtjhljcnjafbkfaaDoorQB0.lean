import Derived.Tactics
import Derived.Orders
import Derived.Below
import Derived.Laws.OwnMore
import Derived.Lib.LazyBuf
import Derived.Great.BuildSlice
set_option linter.unusedSimpArgs false
set_option linter.unusedVariables false
section
set_option linter.unusedVariables false
namespace Go.Proofs.YtjhljcnjafbkfaaDoor.X
inductive PV where
  | sc (v : Value)
  | sl (z : Nat) (l : List (List PV))
  | ref (cs : List PV)
  | fn (f : FuncId) (caps : List PV)
  deriving Inhabited
inductive CV where
  | p (own : Option Nat) (x : PV)
  /-- an address within an own variable; within a row of an own array; an own array's rows from lo on, n of them -/
  | pt (o off : Nat)
  | pr (o r off : Nat)
  | vw (o lo n : Nat)
  /-- an own map -/
  | mt (o : Nat)
  /-- a function value that has caught own variables -/
  | cl (f : FuncId) (caps : List CV)
  deriving Inhabited
inductive Obj where
  | var (cs : List CV)
  | arr (fz : Bool) (z : Nat) (rows : List (List PV))
  | mp (es : List MapEntry) (clock : Nat)
  deriving Inhabited
abbrev Arg := Bool × List PV
inductive AT where
  | no
  | one (c : CV)
  | agg (cs : List CV)
  | tup (ts : List (Bool × List CV))
  deriving Inhabited
def tryP {α : Type} (P : Program) : Sem α → Option α
  | .pure a => some a
  | .program k => tryP P (k P)
  | _ => none
theorem tryP_run {α : Type} {P : Program} {s : Sem α} {a : α} (h : tryP P s = some a) (w : World) : s.run P w = .ok a w := by
  induction s with
  | pure b => simp only [tryP, Option.some.injEq] at h; subst h; rfl
  | program k ih => exact ih P h
  | _ => simp [tryP] at h
def upd {α : Type} (f : Nat → α) (t : Nat) (x : α) : Nat → α := fun u => if u = t then x else f u
theorem upd_same {α : Type} (f : Nat → α) (t : Nat) (x : α) : upd f t x t = x := by simp [upd]
theorem upd_ne {α : Type} (f : Nat → α) {t u : Nat} (x : α) (h : u ≠ t) : upd f t x u = f u := by simp [upd, h]
abbrev ObF := Nat → Option Obj
abbrev RtF := Nat → Bool
def noOb : ObF := fun _ => none
structure St where
  tm : Nat → AT
  ob : ObF
  rt : RtF
  nx : Nat
  deriving Inhabited
structure TI where
  sz : Nat
  agg : Bool
  zero : List CV
  fs : List (Nat × Nat × Bool × TypeId)
  kd : Nat
  len : Nat
  e : TypeId
  esz : Nat
  eagg : Bool
  eby : Nat
  deriving Inhabited
def szT (P : Program) (t : TypeId) : Option Nat := (P.info? t).map (·.size)
def descAgg : TypeDesc → Bool
  | .struct _ | .array _ _ => true
  | _ => false
def aggT (P : Program) (t : TypeId) : Option Bool := (P.underlying t).map descAgg
def zeroD (P : Program) : Nat → TypeId → Option (List CV)
  | 0, _ => none
  | d + 1, t => match P.underlying t with
    | some .bool => some [.p none (.sc (.bool false))]
    | some (.int k) => some [.p none (.sc (.int k 0))]
    | some .string => some [.p none (.sc (.string ByteArray.empty))]
    | some (.slice e) => (szT P e).map fun z => [.p (some 0) (.sl z [])]
    | some (.func _ _ _) => some [.p none (.sc .nilFunc)]
    | some (.pointer _) => some [.p none (.sc (.pointer none))]
    | some (.interface _) => some [.p none (.sc .nilIface)]
    | some (.map _ _) => some [.p none (.sc (.map none))]
    | some (.struct fs) => fs.toList.foldr (fun f acc => (zeroD P d f.type).bind fun a => acc.map fun b => a ++ b) (some [])
    | some (.array n e) => (zeroD P d e).map fun a => (List.replicate n a).flatten
    | _ => none
def zeroFits : CV → Value → Bool
  | .p none (.sc (.bool a)), .bool b => a == b
  | .p none (.sc (.int k a)), .int j b => k == j && a == b
  | .p none (.sc (.string a)), .string b => a.data == b.data
  | .p (some 0) (.sl _ []), .slice none 0 0 => true
  | .p none (.sc .nilFunc), .nilFunc => true
  | .p none (.sc (.pointer none)), .pointer none => true
  | .p none (.sc .nilIface), .nilIface => true
  | .p none (.sc (.map none)), .map none => true
  | _, _ => false
def zeroAll : List CV → List Value → Bool
  | [], [] => true
  | c :: cs, v :: vs => zeroFits c v && zeroAll cs vs
  | _, _ => false
def zeroOk (z : List CV) : Option Value → Bool
  | some v => zeroAll z v.cells.toList
  | none => false
def tiOf (P : Program) (t : TypeId) : Option TI := match P.underlying t, P.info? t, zeroD P 12 t with
  | some d, some i, some z => if z.length == i.size && zeroOk z i.zero then match d with
    | .struct fs => (fs.toList.mapM fun f => (szT P f.type).bind fun s => (aggT P f.type).map fun a => (f.offset, s, a, f.type)).map fun l => ⟨i.size, true, z, l, 1, 0, 0, 0, false, 0⟩
    | .array n e => (P.info? e).bind fun j => (aggT P e).map fun a => ⟨i.size, true, z, [], 2, n, e, j.size, a, j.bytes⟩
    | .slice e => (P.info? e).bind fun j => (aggT P e).map fun a => ⟨i.size, false, z, [], 3, 0, e, j.size, a, j.bytes⟩
    | .string => some ⟨i.size, false, z, [], 4, 0, 0, 0, false, 0⟩
    | _ => some ⟨i.size, false, z, [], 0, 0, 0, 0, false, 0⟩
    else none
  | _, _, _ => none
structure Env where
  P : Program
  G : Nat → Option (List PV)
def Env.T (E : Env) (t : TypeId) : Option TI := tiOf E.P t
mutual
def refsC : CV → List Nat
  | .pt o _ => [o]
  | .pr o _ _ => [o]
  | .vw o _ _ => [o]
  | .mt o => [o]
  | .cl _ cs => refsL cs
  | _ => []
def refsL : List CV → List Nat
  | [] => []
  | c :: cs => refsC c ++ refsL cs
end
def refsT : AT → List Nat
  | .one c => refsC c
  | .agg cs => refsL cs
  | _ => []
def addS (a b : List Nat) : List Nat := a.foldl (fun acc t => if acc.contains t then acc else t :: acc) b
def reach (ob : ObF) : Nat → List Nat → List Nat
  | 0, l => l
  | n + 1, l => reach ob n (addS (l.flatMap fun o => match ob o with | some (.var cs) => refsL cs | _ => []) l)
def isNilSl : Operand → Bool
  | .const (.slice none 0 0) => true
  | _ => false
def constV : Value → AT
  | .slice none 0 0 => .one (.p (some 0) (.sl 0 []))
  | .agg _ => .no
  | .tuple _ => .no
  | v => .one (.p none (.sc v))
def evOpd (E : Env) (m : Nat → AT) : Operand → AT
  | .tmp t => m t
  | .const v => constV v
  | .global g => match E.G g with
    | some cs => .one (.p none (.ref cs))
    | none => .one (.p none (.sc (.pointer (some ⟨g, 0, none⟩))))
  | .func f => .one (.p none (.fn f []))
def opT (E : Env) (ρ : Operand → AT) (t : TypeId) (x : Operand) : AT :=
  if isNilSl x then .one (.p (some 0) (.sl ((E.T t).map (·.esz)).get! [])) else ρ x
def cellsOf : AT → Option (List CV)
  | .one c => some [c]
  | .agg cs => some cs
  | _ => none
def pvC (ob : ObF) : CV → Option PV
  | .p _ x => some x
  | .vw o lo n => match ob o with
    | some (.arr _ z rows) => some (.sl z ((rows.drop lo).take n))
    | _ => none
  | _ => none
def pvL (ob : ObF) : List CV → Option (List PV)
  | [] => some []
  | c :: cs => match pvC ob c, pvL ob cs with
    | some x, some xs => some (x :: xs)
    | _, _ => none
def argOf (ob : ObF) : AT → Option Arg
  | .one c => (pvC ob c).map fun x => (false, [x])
  | .agg cs => (pvL ob cs).map fun xs => (true, xs)
  | _ => none
def argsOf (ob : ObF) : List AT → Option (List Arg)
  | [] => some []
  | a :: r => match argOf ob a, argsOf ob r with
    | some x, some xs => some (x :: xs)
    | _, _ => none
def seenC : CV → List Nat
  | .vw o _ _ => [o]
  | _ => []
def seenT : AT → List Nat
  | .one c => seenC c
  | .agg cs => cs.flatMap seenC
  | _ => []
def icy (ob : ObF) (os : List Nat) : List (Nat × Obj) := os.filterMap fun o => match ob o with
  | some (.arr _ z rows) => some (o, .arr true z rows)
  | _ => none
def flatP : PV → Bool
  | .sc _ => true
  | _ => false
def flatArg (a : Arg) : Bool := a.2.all flatP
def atOf : Arg → AT
  | (false, [x]) => .one (.p none x)
  | (true, xs) => .agg (xs.map (.p none))
  | _ => .no
def cvOf : Arg → Bool × List CV := fun a => (a.1, a.2.map (.p none))
def atC : Bool × List CV → AT
  | (false, [x]) => .one x
  | (true, xs) => .agg xs
  | _ => .no
def cvA : AT → Option (Bool × List CV)
  | .one c => some (false, [c])
  | .agg cs => some (true, cs)
  | _ => none
def cvAs : List AT → Option (List (Bool × List CV))
  | [] => some []
  | a :: r => match cvA a, cvAs r with
    | some x, some xs => some (x :: xs)
    | _, _ => none
def resAT : List Arg → AT
  | [r] => atOf r
  | rs => .tup (rs.map cvOf)
def scC : CV → Option Value
  | .p _ (.sc v) => some v
  | _ => none
def scL : List CV → Option (List Value)
  | [] => some []
  | c :: cs => match scC c, scL cs with
    | some x, some xs => some (x :: xs)
    | _, _ => none
def valOf : AT → Option Value
  | .one c => scC c
  | .agg cs => (scL cs).map fun vs => .agg vs.toArray
  | _ => none
def flatV : Value → Bool
  | .agg _ | .tuple _ => false
  | _ => true
def atOfV : Value → Option AT
  | .agg cs => if cs.toList.all flatV then some (.agg (cs.toList.map fun v => .p none (.sc v))) else none
  | .tuple _ => none
  | v => some (.one (.p none (.sc v)))
def splice {α : Type} (l : List α) (off : Nat) (cs : List α) : List α := l.take off ++ cs ++ l.drop (off + cs.length)
def partOf (cs : List CV) (off sz : Nat) (agg : Bool) : Option AT :=
  if agg then (if off + sz ≤ cs.length then some (.agg ((cs.drop off).take sz)) else none)
  else (cs[off]?).map .one
structure Upd where
  val : AT
  ow : List (Nat × Obj) := []
  rd : List Nat := []
  /-- the right that is used up, and whether a new one is given -/
  rw : Option Nat := none
  nl : Bool := false
  /-- all own variables, and rights, anew -/
  all : Option (ObF × RtF × Nat) := none
  deriving Inhabited
def idxOf : AT → Option Int
  | .one (.p _ (.sc (.int _ n))) => some n
  | _ => none
def optIdx (ρ : Operand → AT) : Option Operand → Option (Option Int)
  | none => some none
  | some x => (idxOf (ρ x)).map some
def isZero : Operand → Bool
  | .const (.int _ 0) => true
  | _ => false
def evPtr (x : AT) (d : Nat) : Option AT := match x with
  | .one (.pt o off) => some (.one (.pt o (off + d)))
  | .one (.pr o r off) => some (.one (.pr o r (off + d)))
  | .one (.p _ (.ref cs)) => some (.one (.p none (.ref (cs.drop d))))
  | _ => none
def fillS (fs : List (Nat × Nat × Bool × TypeId)) (E : Env) (ρ : Operand → AT) : List CV → List (Nat × Operand) → Option (List CV)
  | cs, [] => some cs
  | cs, (i, x) :: r => match fs[i]? with
    | some (off, sz, _, t) => match cellsOf (opT E ρ t x) with
      | some vs => if vs.length = sz ∧ off + sz ≤ cs.length then fillS fs E ρ (splice cs off vs) r else none
      | none => none
    | none => none
def fillA (ti : TI) (E : Env) (ρ : Operand → AT) : List CV → List (Nat × Operand) → Option (List CV)
  | cs, [] => some cs
  | cs, (i, x) :: r => match cellsOf (opT E ρ ti.e x) with
    | some vs => if vs.length = ti.esz ∧ i * ti.esz + ti.esz ≤ cs.length then fillA ti E ρ (splice cs (i * ti.esz) vs) r else none
    | none => none
def fillR (ti : TI) (E : Env) (ob : ObF) (ρ : Operand → AT) : List (List PV) → List (Nat × Operand) → Option (List (List PV))
  | cs, [] => some cs
  | cs, (i, x) :: r => match (cellsOf (opT E ρ ti.e x)).bind (pvL ob) with
    | some vs => if vs.length = ti.esz ∧ i < cs.length then fillR ti E ob ρ (cs.set i vs) r else none
    | none => none
abbrev CallF := Nat → Bool → FuncId → List AT → ObF → RtF → Nat → Option (List AT × ObF × RtF × Nat)
def noRt : RtF := fun _ => false
def pureCall (call : CallF) (f : FuncId) (xs : List Arg) : Option (List Arg) := match call 0 false f (xs.map atOf) noOb noRt 1 with
  | some (rs, ob, _, _) => argsOf ob rs
  | none => none
def resAll : List AT → Option AT
  | [r] => some r
  | rs => (cvAs rs).map .tup
def capArgs (xs : List PV) : List Arg := xs.map fun x => (false, [x])
mutual
def snapC (ob : ObF) : CV → Option PV
  | .p _ x => some x
  | .vw o lo n => pvC ob (.vw o lo n)
  | .pt o off => match ob o with
    | some (.var cs) => (pvL ob cs).map fun xs => .ref (xs.drop off)
    | _ => none
  | .pr o r off => match ob o with
    | some (.arr _ _ rows) => (rows[r]?).map fun row => .ref (row.drop off)
    | _ => none
  | .mt _ => none
  | .cl f cs => (snapL ob cs).map (.fn f)
def snapL (ob : ObF) : List CV → Option (List PV)
  | [] => some []
  | c :: cs => match snapC ob c, snapL ob cs with
    | some x, some xs => some (x :: xs)
    | _, _ => none
end
mutual
def looksC (ob : ObF) : CV → List Nat
  | .p _ _ => []
  | .vw o _ _ => [o]
  | .pt o _ => o :: (match ob o with | some (.var cs) => cs.flatMap seenC | _ => [])
  | .pr o _ _ => [o]
  | .mt _ => []
  | .cl _ cs => looksL ob cs
def looksL (ob : ObF) : List CV → List Nat
  | [] => []
  | c :: cs => looksC ob c ++ looksL ob cs
end
def snapOf (ob : ObF) : AT → Option Arg
  | .one c => (snapC ob c).map fun x => (false, [x])
  | .agg cs => (snapL ob cs).map fun xs => (true, xs)
  | _ => none
def snapArgs (ob : ObF) : List AT → Option (List Arg)
  | [] => some []
  | a :: r => match snapOf ob a, snapArgs ob r with
    | some x, some xs => some (x :: xs)
    | _, _ => none
def looksT (ob : ObF) : AT → List Nat
  | .one c => looksC ob c
  | .agg cs => looksL ob cs
  | _ => []
def flatCall (call : CallF) (g : FuncId) (xs : List Arg) (looks : List Nat) : Option Upd :=
  (pureCall call g xs).bind fun rs => if rs.all flatArg then some { val := resAT rs, rd := looks } else none
def coldC (ob : ObF) : CV → CV
  | .vw o lo n => match ob o with
    | some (.arr true z rows) => .p none (.sl z ((rows.drop lo).take n))
    | _ => .vw o lo n
  | c => c
def coldT (ob : ObF) : AT → AT
  | .one c => .one (coldC ob c)
  | .agg cs => .agg (cs.map (coldC ob))
  | x => x
mutual
def renC (f : Nat → Nat) (sh : Nat) : CV → CV
  | .p (some n) x => .p (some (if n = 0 then 0 else n + sh)) x
  | .p none x => .p none x
  | .pt o off => .pt (f o) off
  | .pr o r off => .pr (f o) r off
  | .vw o lo n => .vw (f o) lo n
  | .mt o => .mt (f o)
  | .cl g cs => .cl g (renL f sh cs)
def renL (f : Nat → Nat) (sh : Nat) : List CV → List CV
  | [] => []
  | c :: cs => renC f sh c :: renL f sh cs
end
def renO (f : Nat → Nat) (sh : Nat) : Obj → Obj
  | .var cs => .var (renL f sh cs)
  | .arr fz z rows => .arr fz z rows
  | .mp es k => .mp es k
def renT (f : Nat → Nat) (sh : Nat) : AT → AT
  | .one c => .one (renC f sh c)
  | .agg cs => .agg (renL f sh cs)
  | .tup ts => .tup (ts.map fun t => (t.1, renL f sh t.2))
  | .no => .no
def posIn : List Nat → Nat → Nat
  | [], _ => 0
  | x :: l, o => if o = x then 0 else posIn l o + 1
def noDup : List Nat → Bool
  | [] => true
  | x :: l => !(l.contains x) && noDup l
def rtsC : CV → List Nat
  | .p (some n) _ => [n]
  | _ => []
def rtsT : AT → List Nat
  | .one c => rtsC c
  | .agg cs => cs.flatMap rtsC
  | _ => []
def rtsO : Option Obj → List Nat
  | some (.var cs) => cs.flatMap rtsC
  | _ => []
def inO (ob : ObF) (f : Nat → Nat) : List Nat → Nat → ObF
  | [], _ => noOb
  | o :: os, i => match ob o with
    | some x => upd (inO ob f os (i + 1)) i (some (renO f 0 x))
    | none => inO ob f os (i + 1)
def takeO (ob : ObF) (L : List Nat) : ObF := inO ob (posIn L) L 0
def backO (ob' : ObF) (f : Nat → Nat) (sh : Nat) : List Nat → Nat → List (Nat × Obj)
  | [], _ => []
  | q :: qs, p => match ob' p with
    | some x => (q, renO f sh x) :: backO ob' f sh qs (p + 1)
    | none => backO ob' f sh qs (p + 1)
def seeO (ob : ObF) (xs : List AT) (vis : List Nat) : List Nat := (reach ob 2 (addS (xs.flatMap refsT) vis)).filter fun o => (ob o).isSome
def relC (rt : RtF) (nx0 : Nat) (k : Nat) (seen : List Nat) : CV → CV × List Nat
  | .p (some 0) x => (.p (some k) x, seen)
  | .p (some n) x => if n < nx0 then (.p (some n) x, seen) else if rt n = true ∧ n ∉ seen then (.p (some k) x, n :: seen) else (.p none x, seen)
  | c => (c, seen)
def relL (rt : RtF) (nx0 : Nat) : Nat → List Nat → List CV → List CV × List Nat
  | _, seen, [] => ([], seen)
  | k, seen, c :: cs =>
    let a := relC rt nx0 k seen c
    let b := relL rt nx0 (k + 1) a.2 cs
    (a.1 :: b.1, b.2)
mutual
def okC (os : List Nat) (d : Bool) : CV → Bool
  | .p w _ => !(d && w.isSome)
  | .pt o _ => os.contains o
  | .pr o _ _ => os.contains o
  | .vw o _ _ => os.contains o
  | .mt o => os.contains o
  | .cl _ cs => okL os true cs
def okL (os : List Nat) (d : Bool) : List CV → Bool
  | [] => true
  | c :: cs => okC os d c && okL os d cs
end
def relT (rt : RtF) (nx0 : Nat) (k : Nat) (seen : List Nat) : AT → AT × Nat × List Nat
  | .one c => let a := relC rt nx0 k seen c; (.one a.1, k + 1, a.2)
  | .agg cs => let a := relL rt nx0 k seen cs; (.agg a.1, k + cs.length, a.2)
  | x => (x, k, seen)
def okT (os : List Nat) : AT → Bool
  | .one c => okC os false c
  | .agg cs => okL os false cs
  | .no => true
  | .tup _ => false
def headT (rt : RtF) (nx0 : Nat) (os : List Nat) (tm : Nat → AT) : Nat → List Nat → List Nat → (Nat → AT) × Nat × List Nat
  | k, seen, [] => (fun _ => .no, k, seen)
  | k, seen, t :: ts =>
    let a := relT rt nx0 k seen (if okT os (tm t) then tm t else .no)
    let b := headT rt nx0 os tm a.2.1 a.2.2 ts
    (upd b.1 t a.1, b.2)
def headO (rt : RtF) (nx0 : Nat) (os : List Nat) (ob : ObF) (rest : ObF) : Nat → List Nat → List Nat → Option (ObF × Nat)
  | k, _, [] => some (rest, k)
  | k, seen, o :: r => match ob o with
    | none => headO rt nx0 os ob rest k seen r
    | some (.var cs) => if okL os false cs then
        let a := relL rt nx0 k seen cs
        match headO rt nx0 os ob rest (k + cs.length) a.2 r with
        | some (f, m) => some (upd f o (some (.var a.1)), m)
        | none => none
      else none
    | some (.arr z n rows) => match headO rt nx0 os ob rest k seen r with
      | some (f, m) => some (upd f o (some (.arr z n rows)), m)
      | none => none
    | some (.mp es c) => match headO rt nx0 os ob rest k seen r with
      | some (f, m) => some (upd f o (some (.mp es c)), m)
      | none => none
def rtH (rt : RtF) (nx0 m : Nat) : RtF := fun n => if n < nx0 then (if n = 0 then false else rt n) else decide (n < m)
def rtP (m : Nat) : RtF := fun n => if n = 0 then false else decide (n < m)
theorem rtH_one (rt : RtF) (m : Nat) : rtH rt 1 m = rtP m := by
  funext n
  unfold rtH rtP
  by_cases h : n = 0
  · subst h; rfl
  · rw [if_neg (by omega), if_neg h]
def obH (base : Nat) (ob : ObF) : ObF := fun o => if o < base then ob o else none
theorem obH_zero (ob : ObF) : obH 0 ob = noOb := rfl
def head0 (base nx0 : Nat) (vis : List Nat) (h : List Nat) (s : St) : Option St :=
  let all := (reach s.ob 2 (addS (h.flatMap fun t => refsT (s.tm t)) vis)).filter fun o => (s.ob o).isSome
  let live := all.filter fun o => decide (base ≤ o) || vis.contains o
  let a := headT s.rt nx0 all s.tm nx0 [] h
  match headO s.rt nx0 all s.ob noOb a.2.1 a.2.2 live with
  | some (f, m) => some { tm := a.1, ob := f, rt := rtH s.rt nx0 m, nx := m }
  | none => none
def coldS (s : St) : St := { s with tm := fun t => coldT s.ob (s.tm t) }
def head (base nx0 : Nat) (vis : List Nat) (h : List Nat) (s : St) : Option St := head0 base nx0 vis h (coldS s)
def initTm : List AT → Nat → Nat → AT
  | [], _ => fun _ => .no
  | a :: r, k => upd (initTm r (k + 1)) k a
def mvEnd (base d nx : Nat) (os : List Nat) (ob : ObF) (rt : RtF) (used : List Nat) (rs : List AT) (ob' : ObF) (rt' : RtF) (nx' : Nat) : Option Upd :=
  let news := [base + d, base + d + 4096, base + d + 8192, base + d + 12288]
  let tg := os ++ news
  if news.all fun q => (ob q).isNone then
    (resAll (rs.map (renT (fun p => tg.getD p 0) nx))).map fun r =>
      { val := r, rd := tg, all := some ((backO ob' (fun p => tg.getD p 0) nx tg 0).foldl (fun f p => upd f p.1 (some p.2)) ob,
          fun n => if n < nx then rt n && !(used.contains n) else !(n == nx) && rt' (n - nx), nx + nx') }
  else none
def mvCall (call : CallF) (base d : Nat) (g : FuncId) (xs : List AT) (ob : ObF) (rt : RtF) (nx : Nat) : Option Upd :=
  match head 0 1 [] (List.range xs.length) ⟨initTm xs 0, ob, rt, nx⟩ with
  | some s =>
    let os := (seeO ob (xs.map (coldT ob)) []).reverse
    if noDup os = true then match call os.length true g ((List.range xs.length).map fun i => renT (posIn os) 0 (s.tm i)) (takeO s.ob os) s.rt s.nx with
      | some (rs, ob', rt', nx') => mvEnd base d nx os ob rt (xs.flatMap rtsT ++ os.flatMap fun o => rtsO (ob o)) rs ob' rt' nx'
      | none => none
    else none
  | none => none
def evCall (E : Env) (gen : Nat → Bool) (call : CallF) (base : Nat) (ρ : Operand → AT) (ob : ObF) (rt : RtF) (nx : Nat) (dst : Option Nat) (c : Call) : Option Upd :=
  match c.callee, c.args.toList, c.argTypes.toList with
  | .builtin .len, [x], [t] => match ρ x, (E.T t).map (·.kd) with
    | .one (.p _ (.sl _ l)), some 3 => some { val := .one (.p none (.sc (.int .i64 l.length))) }
    | .one (.vw _ _ n), some 3 => some { val := .one (.p none (.sc (.int .i64 n))) }
    | _, _ => none
  | .builtin .copy, [x, y], [t, u] => match E.T t with
    | some ti => if ti.kd = 3 ∧ t = u then match ρ x, opT E ρ t y with
      | .one (.vw o lo n), .one cy => match ob o, pvC ob cy with
        | some (.arr false z' rows), some (.sl z l) => if z = ti.esz ∧ z' = ti.esz ∧ lo + n ≤ rows.length then
            some { val := .one (.p none (.sc (.int .i64 (min l.length n : Nat)))), ow := [(o, .arr false z' (splice rows lo (l.take (min l.length n))))], rd := o :: seenC cy }
          else none
        | _, _ => none
      | _, _ => none
      else none
    | none => none
  | .builtin .clear, [x], [t] => match E.T t, ρ x with
    | some ti, .one (.vw o lo n) => match ob o, E.T ti.e with
      | some (.arr false z' rows), some te => match pvL ob te.zero with
        | some z => if ti.kd = 3 ∧ z' = ti.esz ∧ z.length = ti.esz ∧ lo + n ≤ rows.length then
            some { val := .tup [], ow := [(o, .arr false z' (splice rows lo (List.replicate n z)))], rd := [o] }
          else none
        | none => none
      | _, _ => none
    | _, _ => none
  | .builtin .append, [s, x], [t, u] => match E.T t with
    | some ti => if ti.kd = 3 ∧ t = u then
      if gen (dst.getD 4095) then match opT E ρ t s, opT E ρ t x, dst with
        | .one (.p (some 0) (.sl z [])), .one cy, some d => match pvC ob cy, ob (base + d) with
          | some (.sl z' l'), none => if z = ti.esz ∧ z' = ti.esz ∧ (E.T ti.e).isSome ∧ 0 < ti.esz ∧ l'.length ≤ 16777216 ∧ ti.eby ≤ 4096 then
              some { val := .one (.vw (base + d) 0 l'.length), ow := [(base + d, .arr false z l')], rd := (base + d) :: seenC cy }
            else none
          | _, _ => none
        | _, _, _ => none
      else match opT E ρ t s, opT E ρ t x, dst with
      | .one (.p (some n) (.sl z l)), .one (.p _ (.sl z' l')), some d =>
        if z = ti.esz ∧ z' = ti.esz ∧ (E.T ti.e).isSome ∧ 0 < ti.esz ∧ (n = 0 ∨ rt n = true) ∧ l.length + l'.length ≤ 16777216 ∧ ti.eby ≤ 4096 then
          some { val := .one (.p (some nx) (.sl z (l ++ l'))), rw := some n, nl := true }
        else none
      | _, _, _ => none
      else none
    | none => none
  | .value f, args, ts => if args.length = ts.length then match ρ f with
    | .one (.p _ (.fn g caps)) =>
      let as := (args.zip ts).map fun p => opT E ρ p.2 p.1
      if gen (dst.getD 4095) then mvCall call base (dst.getD 4095) g (as ++ caps.map fun x => .one (.p none x)) ob rt nx
      else match argsOf ob as with
      | some xs => (pureCall call g (xs ++ capArgs caps)).map fun rs =>
          let seen := as.flatMap seenT
          { val := resAT rs, ow := if rs.all flatArg then [] else icy ob seen, rd := seen }
      | none => match snapArgs ob (as ++ caps.map fun x => .one (.p none x)) with
        | some xs => flatCall call g xs (as.flatMap (looksT ob))
        | none => none
    | .one (.cl g caps) =>
      let as := (args.zip ts).map fun p => opT E ρ p.2 p.1
      if gen (dst.getD 4095) then mvCall call base (dst.getD 4095) g (as ++ caps.map .one) ob rt nx
      else match snapArgs ob (as ++ caps.map .one) with
        | some xs => flatCall call g xs (as.flatMap (looksT ob) ++ looksL ob caps)
        | none => none
    | _ => none
    else none
  | _, _, _ => none
def isNilS : Operand → Bool
  | .const (.slice none 0 0) => true
  | _ => false
def filled : AT → Bool
  | .one (.p _ (.sl _ l)) => decide (0 < l.length)
  | .one (.vw _ _ n) => decide (0 < n)
  | _ => false
def nilB (P : Program) (op : BinOp) (t : TypeId) (y : Operand) (a : AT) : Option Upd := match tiOf P t with
  | some ti => if ti.kd = 3 ∧ isNilS y = true ∧ filled a = true then (match op with
    | .eql => some { val := .one (.p none (.sc (.bool false))) }
    | .neq => some { val := .one (.p none (.sc (.bool true))) }
    | _ => none) else none
  | none => none
def nilGen (E : Env) (ρ : Operand → AT) (o : Oper) : Option Upd := match o.op with
  | .binOp op t x y _ => nilB E.P op t y (ρ x)
  | _ => none
def evGen (E : Env) (ρ : Operand → AT) (o : Oper) : Option Upd :=
  if o.op.operands.toList.all fun x => (valOf (ρ x)).isSome then
    match tryP E.P (execOp (fun x => (valOf (ρ x)).getD undef) o) with
    | some (.value v) => (atOfV v).map fun a => { val := a }
    | _ => none
  else nilGen E ρ o
def eqFs (P : Program) (f : TypeId → AT → AT → Option Bool) (cs ds : List CV) : List Field → Option Bool
  | [] => some true
  | g :: fs => if g.name = "_" then eqFs P f cs ds fs else match P.info? g.type, P.underlying g.type with
    | some i, some d => match partOf cs g.offset i.size (descAgg d), partOf ds g.offset i.size (descAgg d) with
      | some a, some b => (f g.type a b).bind fun r => (eqFs P f cs ds fs).map fun q => r && q
      | _, _ => none
    | _, _ => none
def eqA (P : Program) : Nat → TypeId → AT → AT → Option Bool
  | 0, _, _, _ => none
  | n + 1, t, a, b => match P.underlying t with
    | some .bool => match a, b with
      | .one (.p _ (.sc (.bool x))), .one (.p _ (.sc (.bool y))) => some (x == y)
      | _, _ => none
    | some (.int _) => match a, b with
      | .one (.p _ (.sc (.int k x))), .one (.p _ (.sc (.int k' y))) => if k = k' then some (x == y) else none
      | _, _ => none
    | some .string => match a, b with
      | .one (.p _ (.sc (.string x))), .one (.p _ (.sc (.string y))) => some (x.toList == y.toList)
      | _, _ => none
    | some (.struct fs) => match a, b with
      | .agg cs, .agg ds => if P.stoodInHeld t = false then eqFs P (eqA P n) cs ds fs.toList else none
      | _, _ => none
    | _ => none
def ptrU (P : Program) (op : BinOp) (t : TypeId) (r : Bool) : Option Upd := match P.underlying t with
  | some (.pointer e) => if (P.info? e).isSome then (match op with
    | .eql => some { val := .one (.p none (.sc (.bool r))) }
    | .neq => some { val := .one (.p none (.sc (.bool (!r)))) }
    | _ => none) else none
  | _ => none
def aggB (P : Program) (op : BinOp) (t : TypeId) (a b : AT) : Option Upd := match a, b with
  | .agg cs, .agg ds => if P.eqGuardType P.depth t = false then (match op with
    | .eql => (eqA P 12 t (.agg cs) (.agg ds)).map fun r => { val := .one (.p none (.sc (.bool r))) }
    | .neq => (eqA P 12 t (.agg cs) (.agg ds)).map fun r => { val := .one (.p none (.sc (.bool (!r)))) }
    | _ => none) else none
  | .one (.pt o k), .one (.pt o' k') => if o = o' ∧ k = k' then ptrU P op t true else none
  | .one (.pt _ _), .one (.p _ (.sc (.pointer none))) => ptrU P op t false
  | _, _ => none
def asg (drop : Bool) (a : AT) : AT := if drop then (match a with
  | .one (.p _ x) => .one (.p none x)
  | a => a) else a
def mapAt (E : Env) (et : TypeId) : Option (Nat × Value) → AT
  | some (_, v) => (atOfV v).getD .no
  | none => ((tryP E.P (zeroValue et)).bind atOfV).getD .no
def mapGet (E : Env) (t : TypeId) (es : List MapEntry) (k : Value) (ok : Bool) : Option AT := match E.P.underlying t with
  | some (.map kt et) => match tryP E.P (Instr.checkKey es.isEmpty 10000 kt k), tryP E.P (Instr.findKey kt k es) with
    | some _, some r => match cvA (mapAt E et r) with
      | some x => some (if ok then .tup [x, (false, [.p none (.sc (.bool r.isSome))])] else mapAt E et r)
      | none => none
    | _, _ => none
  | _ => none
def mapPut (P : Program) (t : TypeId) (es : List MapEntry) (c : Nat) (k v : Value) : Option Obj := match P.underlying t with
  | some (.map kt _) => match tryP P (Instr.checkKey false 10000 kt k), tryP P (Instr.findKey kt k es) with
    | some _, some (some (i, _)) => if Instr.sameBits 10000 (((es[i]?).map (·.key)).getD k) k = true then
        some (.mp (es.modify i fun e => { e with key := k, val := v }) c) else none
    | some _, some none => some (.mp (es ++ [{ key := k, val := v, born := c }]) (c + 1))
    | _, _ => none
  | _ => none
def evOp (E : Env) (gen : Nat → Bool) (call : CallF) (base : Nat) (ρ : Operand → AT) (ob : ObF) (rt : RtF) (nx : Nat) (o : Oper) : Option Upd :=
  match o.op with
  | .move x => some { val := opT E ρ o.type x }
  | .assign x => some { val := asg (gen (o.dst.getD 4095)) (opT E ρ o.type x) }
  | .pick c a b => match ρ c with
    | .one (.p _ (.sc (.bool t))) => some { val := if t then opT E ρ o.type a else opT E ρ o.type b }
    | _ => none
  | .alloc t => match E.T t, o.dst with
    | some ti, some d => match ob (base + d) with
      | none => some { val := .one (.pt (base + d) 0), ow := [(base + d, .var ti.zero)], rd := [base + d] }
      | some _ => none
    | _, _ => none
  | .box t x => match cellsOf (opT E ρ t x), o.dst with
    | some cs, some d => match ob (base + d) with
      | none => some { val := .one (.pt (base + d) 0), ow := [(base + d, .var cs)], rd := [base + d] }
      | some _ => none
    | _, _ => none
  | .build t parts => match E.T t with
    | some ti => if ti.kd = 1 then (fillS ti.fs E ρ ti.zero parts.toList).map fun cs => { val := .agg cs }
      else if ti.kd = 2 then (fillA ti E ρ ti.zero parts.toList).map fun cs => { val := .agg cs }
      else none
    | none => none
  | .buildSlice t n parts => match E.T t with
    | some ti => if ti.kd = 3 ∧ 0 < ti.esz ∧ n ≤ 65536 ∧ ti.esz ≤ 256 then
        match E.T ti.e with
        | some te => match pvL ob te.zero with
          | some z => if z.length = ti.esz then
              (fillR ti E ob ρ (List.replicate n z) parts.toList).map fun rs =>
                let seen := parts.toList.flatMap fun p => seenT (ρ p.2)
                { val := .one (.p (some 0) (.sl ti.esz rs)), ow := icy ob seen, rd := seen }
            else none
          | none => none
        | none => none
      else none
    | none => none
  | .load t x => match E.T t with
    | some ti => match ρ x with
      | .one (.pt c off) => match ob c with
        | some (.var cs) => (partOf cs off ti.sz ti.agg).map fun a => { val := a, rd := [c] }
        | _ => none
      | .one (.pr c r off) => match ob c with
        | some (.arr _ _ rows) => match rows[r]? with
          | some row => (partOf (row.map (.p none)) off ti.sz ti.agg).map fun a => { val := a, rd := [c] }
          | none => none
        | _ => none
      | .one (.p _ (.ref cs)) => (partOf (cs.map (.p none)) 0 ti.sz ti.agg).map fun a => { val := a }
      | _ => none
    | none => none
  | .store t x y => match E.T t, ρ x, cellsOf (opT E ρ t y) with
    | some ti, .one (.pt c off), some vs => match ob c with
      | some (.var cs) => if vs.length = ti.sz ∧ off + vs.length ≤ cs.length then
          some { val := .no, ow := [(c, .var (splice cs off vs))], rd := [c] } else none
      | _ => none
    | some ti, .one (.pr c r off), some vs => match ob c, pvL ob vs with
      | some (.arr false z rows), some xs => match rows[r]? with
        | some row => if xs.length = ti.sz ∧ off + xs.length ≤ row.length ∧ c ∉ vs.flatMap seenC then
            let seen := vs.flatMap seenC
            some { val := .no, ow := icy ob seen ++ [(c, .arr false z (rows.set r (splice row off xs)))], rd := c :: seen } else none
        | none => none
      | _, _ => none
    | _, _, _ => none
  | .fieldAddr t x f => match E.T t with
    | some ti => if ti.kd = 1 then match ti.fs[f]? with
      | some (off, sz, _, _) => if sz = 0 then none else (evPtr (ρ x) off).map fun a => { val := a }
      | none => none
      else none
    | none => none
  | .field t x f => match E.T t, ρ x with
    | some ti, .agg cs => if ti.kd = 1 then match ti.fs[f]? with
      | some (off, sz, g, _) => (partOf cs off sz g).map fun a => { val := a }
      | none => none
      else none
    | _, _ => none
  | .indexAddr t x i => match E.T t, idxOf (ρ i) with
    | some ti, some n =>
      if ti.kd = 2 then (if 0 ≤ n ∧ n < ti.len then (evPtr (ρ x) (n.toNat * ti.esz)).map fun a => { val := a } else none)
      else if ti.kd = 3 then match ρ x with
        | .one (.p _ (.sl z l)) => if z = ti.esz ∧ 0 ≤ n then match l[n.toNat]? with
          | some r => some { val := .one (.p none (.ref r)) }
          | none => none
          else none
        | .one (.vw o lo m) => match ob o with
          | some (.arr _ z _) => if z = ti.esz ∧ 0 ≤ n ∧ n.toNat < m then some { val := .one (.pr o (lo + n.toNat) 0), rd := [o] } else none
          | _ => none
        | _ => none
      else none
    | _, _ => none
  | .index t x i => match E.T t, ρ x, idxOf (ρ i) with
    | some ti, .agg cs, some n => if ti.kd = 2 ∧ 0 ≤ n ∧ n < ti.len then (partOf cs (n.toNat * ti.esz) ti.esz ti.eagg).map fun a => { val := a } else none
    | _, _, _ => evGen E ρ o
  | .slice t x lo hi mx => match E.T t, ρ x, optIdx ρ lo, optIdx ρ hi, optIdx ρ mx with
    | some ti, .one (.p _ (.sl z l)), some lo, some hi, some mx =>
      let h := hi.getD l.length
      let b := lo.getD 0
      let m := mx.getD h
      if ti.kd = 3 ∧ z = ti.esz ∧ 0 ≤ b ∧ b ≤ h ∧ h ≤ m ∧ m ≤ l.length ∧ (mx.isSome → hi.isSome) then
        some { val := .one (.p (if mx.isSome ∧ h = m then some 0 else none) (.sl z ((l.take h.toNat).drop b.toNat))) }
      else none
    | some ti, .one (.vw o lo n), some l, some hi, some none =>
      let h := hi.getD n
      let b := l.getD 0
      match ob o with
      | some (.arr _ z _) => if ti.kd = 3 ∧ z = ti.esz ∧ 0 ≤ b ∧ b ≤ h ∧ h ≤ n then some { val := .one (.vw o (lo + b.toNat) (h - b).toNat), rd := [o] } else none
      | _ => none
    | some ti, .one (.p _ (.ref cs)), some none, some none, some none =>
      if ti.kd = 2 ∧ ti.esz = 1 ∧ cs.length = ti.len ∧ ti.len ≤ 65536 then some { val := .one (.p none (.sl 1 (cs.map fun c => [c]))) } else none
    | _, _, _, _, _ => evGen E ρ o
  | .makeSlice t no c => match E.T t, idxOf (ρ no), idxOf (ρ c), o.dst with
    | some ti, some n, some c, some d => match E.T ti.e with
      | some te => match pvL ob te.zero with
        | some z => if ti.kd = 3 ∧ 0 < ti.esz ∧ z.length = ti.esz ∧ 0 ≤ n ∧ n ≤ c ∧ c ≤ 16777216 ∧ ti.eby ≤ 4096 then
            (if isZero no then some { val := .one (.p (some nx) (.sl ti.esz [])), rw := some 0, nl := true }
            else if n = c then match ob (base + d) with
              | none => some { val := .one (.vw (base + d) 0 n.toNat), ow := [(base + d, .arr false ti.esz (List.replicate n.toNat z))], rd := [base + d] }
              | some _ => none
            else none)
          else none
        | none => none
      | none => none
    | _, _, _, _ => none
  | .makeMap _ r => match r, o.dst with
    | none, some d => match ob (base + d) with
      | none => some { val := .one (.mt (base + d)), ow := [(base + d, .mp [] 0)], rd := [base + d] }
      | some _ => none
    | _, _ => none
  | .lookup t x i ok => match ρ x, valOf (ρ i) with
    | .one (.mt m), some k => match ob m with
      | some (.mp es _) => (mapGet E t es k ok).map fun a => { val := a, rd := [m] }
      | _ => none
    | _, _ => none
  | .mapUpdate t x i y => match ρ x, valOf (ρ i), valOf (ρ y) with
    | .one (.mt m), some k, some v => match ob m with
      | some (.mp es c) => (mapPut E.P t es c k v).map fun q => { val := .no, ow := [(m, q)], rd := [m] }
      | _ => none
    | _, _, _ => none
  | .nilCheck x => match ρ x with
    | .one (.pt c off) => some { val := .one (.pt c off) }
    | .one (.pr c r off) => some { val := .one (.pr c r off) }
    | .one (.p p (.ref cs)) => some { val := .one (.p p (.ref cs)) }
    | .one (.p p (.fn f cs)) => some { val := .one (.p p (.fn f cs)) }
    | .one (.cl f cs) => some { val := .one (.cl f cs) }
    | _ => evGen E ρ o
  | .extract x i => match ρ x with
    | .tup ts => (ts[i]?).map fun r => { val := atC r }
    | _ => none
  | .makeFunc (.func f) first caps => if first.size = 0 then match cvAs (caps.toList.map ρ) with
      | some cs => if cs.all (fun c => !c.1) then
          let xs := cs.flatMap (·.2)
          match pvL noOb xs with
          | some ps => some { val := .one (.p none (.fn f ps)) }
          | none => some { val := .one (.cl f xs) }
        else none
      | none => none
    else none
  | .call c => match c.callee with
    | .builtin .len => match evCall E gen call base ρ ob rt nx o.dst c with
      | some u => some u
      | none => evGen E ρ o
    | .builtin .append | .builtin .copy | .value _ => evCall E gen call base ρ ob rt nx o.dst c
    | .builtin b => if b = .clear then evCall E gen call base ρ ob rt nx o.dst c else evGen E ρ o
    | _ => none
  | .binOp op t x y _ => match aggB E.P op t (ρ x) (ρ y) with
    | some u => some u
    | none => evGen E ρ o
  | .unOp _ _ _ | .convert _ _ _ | .makeInterface _ _ | .typeAssert _ _ _ _ => evGen E ρ o
  | _ => none
def apU (dst : Option Nat) (u : Upd) (s : St) : St :=
  { tm := match dst with
      | some d => upd s.tm d u.val
      | none => s.tm
    ob := match u.all with
      | some a => a.1
      | none => u.ow.foldl (fun f p => upd f p.1 (some p.2)) s.ob
    rt := match u.all with
      | some a => a.2.1
      | none => match u.rw, u.nl with
        | some n, true => upd (upd s.rt n false) s.nx true
        | _, _ => s.rt
    nx := match u.all with
      | some a => a.2.2
      | none => if u.nl then s.nx + 1 else s.nx }
def evGuard (ops : Array Oper) (m : Nat → AT) : Option (Nat × Bool) → Option Bool
  | none => some true
  | some (j, want) => match (ops[j]?).bind (·.dst) with
    | some t => match m t with
      | .one (.p _ (.sc (.bool b))) => some (b == want)
      | .tup _ => some false
      | _ => none
    | none => none
def okDst (nt : Nat) : Option Nat → Bool
  | some d => decide (d < nt)
  | none => true
def evRow (E : Env) (gen : Nat → Bool) (call : CallF) (base nt : Nat) (ops : Array Oper) (s : St) (o : Oper) : Option Upd :=
  if okDst nt o.dst then
    match evGuard ops s.tm o.guard with
    | some true => evOp E gen call base (evOpd E s.tm) s.ob s.rt s.nx o
    | some false => some { val := .tup [] }
    | none => none
  else none
def evRows (E : Env) (gen : Nat → Bool) (call : CallF) (base nt : Nat) (ops : Array Oper) : List Oper → St → Option (St × List Upd)
  | [], s => some (s, [])
  | o :: r, s => match evRow E gen call base nt ops s o with
    | some u => match evRows E gen call base nt ops r (apU o.dst u s) with
      | some (s', us) => some (s', u :: us)
      | none => none
    | none => none
def Upd.quiet (a : Upd) : Bool := a.ow.isEmpty && a.rd.isEmpty && !a.nl && a.all.isNone
def Upd.apart (a b : Upd) : Bool :=
  if a.all.isSome || b.all.isSome then (a.quiet || b.quiet) else
  (a.ow.all fun p => !(b.rd.contains p.1) && !(b.ow.any fun q => q.1 == p.1)) && (b.ow.all fun p => !(a.rd.contains p.1)) && !(a.nl && b.nl)
def apartAll (us : List Upd) (l : List (Nat × Nat)) : Bool := l.all fun p => match us[p.1]?, us[p.2]? with
  | some a, some b => a.apart b
  | _, _ => false
inductive Out where
  | fall
  | exit (id : Nat)
  | ret
  deriving Inhabited
structure Hint where
  pairs : Nat → Option (List (Nat × Nat))
  keep : Nat → List Nat
  /-- where ways meet (by the number of the region that follows): what is kept -/
  join : Nat → Option (List Nat)
  deriving Inhabited
def firstR : Code → Nat
  | .region id _ _ => id
  | .seq a _ => firstR a
  | .block _ b => firstR b
  | .loop b => firstR b
  | .cond _ a _ => firstR a
  | .scope b => firstR b
  | _ => 0
structure Fx where
  E : Env
  gen : Nat → Bool
  call : CallF
  base : Nat
  nt : Nat
  nx0 : Nat
  vis : List Nat
  H : Hint
def touchOk (base : Nat) (vis : List Nat) (u : Upd) : Bool :=
  (u.ow.all fun p => decide (base ≤ p.1) || vis.contains p.1) && (u.all.isNone || u.rd.all fun o => decide (base ≤ o) || vis.contains o)
def joinKey : Code → Option Nat
  | .region id _ _ => some id
  | .seq a _ => joinKey a
  | .cond (.tmp t) _ _ => some (1000000 + t)
  | _ => none
def atJoin (X : Fx) (b : Code) (s : St) : Option St := match joinKey b with
  | some j => match X.H.join j with
    | some l => head X.base X.nx0 X.vis l s
    | none => some s
  | none => some s
def evCodeA (X : Fx) (again : Code → St → Option (Out × St)) : Code → St → Option (Out × St)
  | .skip, s => some (.fall, s)
  | .label _, s => some (.fall, s)
  | .region id ops draw, s => match evRows X.E X.gen X.call X.base X.nt ops ops.toList s with
    | some (s', us) => if us.all (touchOk X.base X.vis) then
        if draw then match X.H.pairs id with
        | some l => if apartAll us l then some (.fall, s') else none
        | none => none
        else some (.fall, s')
      else none
    | none => none
  | .seq a b, s => match evCodeA X again a s with
    | some (.fall, s') => match atJoin X b s' with
      | some s' => evCodeA X again b s'
      | none => none
    | r => r
  | .cond c a b, s => match evOpd X.E s.tm c with
    | .one (.p _ (.sc (.bool t))) => if t then evCodeA X again a s else evCodeA X again b s
    | _ => none
  | .block id b, s => match evCodeA X again b s with
    | some (.exit i, s') => if i = id then some (.fall, s') else some (.exit i, s')
    | r => r
  | .loop b, s => match head X.base X.nx0 X.vis (X.H.keep (firstR b)) s with
    | some s => match evCodeA X again b s with
      | some (.fall, s') => again (.loop b) s'
      | r => r
    | none => none
  | .scope b, s => evCodeA X again b s
  | .exit id, s => some (.exit id, s)
  | .ret, s => some (.ret, s)
  | _, _ => none
def evCode (X : Fx) : Nat → Code → St → Option (Out × St)
  | 0 => fun _ _ => none
  | n + 1 => evCodeA X (evCode X n)
def resAT1 (E : Env) (s : St) : ResultVar → AT
  | .tmp t => s.tm t
  | .cell a t => match s.tm a, E.T t with
    | .one (.pt o off), some ti => match s.ob o with
      | some (.var cs) => (partOf cs off ti.sz ti.agg).getD .no
      | _ => .no
    | _, _ => .no
def backC (base : Nat) (ob : ObF) : CV → Option CV
  | .p w x => some (.p w x)
  | .vw o lo n => if o < base then some (.vw o lo n) else (pvC ob (.vw o lo n)).map (.p none)
  | .pt o k => if o < base then some (.pt o k) else none
  | .pr o r k => if o < base then some (.pr o r k) else none
  | .mt o => if o < base then some (.mt o) else none
  | .cl f cs => if (refsL cs).all (· < base) then some (.cl f cs) else none
def backL (base : Nat) (ob : ObF) : List CV → Option (List CV)
  | [] => some []
  | c :: cs => match backC base ob c, backL base ob cs with
    | some x, some xs => some (x :: xs)
    | _, _ => none
def backT (base : Nat) (ob : ObF) : AT → Option AT
  | .one c => (backC base ob c).map .one
  | .agg cs => (backL base ob cs).map .agg
  | _ => none
def backAll (base : Nat) (ob : ObF) : List AT → Option (List AT)
  | [] => some []
  | c :: cs => match backT base ob c, backAll base ob cs with
    | some x, some xs => some (x :: xs)
    | _, _ => none
def cleanO (base : Nat) (ob : ObF) (o : Nat) : Bool := match ob o with
  | some (.var cs) => (refsL cs).all (· < base)
  | _ => true
def isAT : AT → Bool
  | .no => false
  | _ => true
def leave (base nx : Nat) (s : St) (rs : List AT) : Option (List AT × ObF × RtF × Nat) :=
  match head base nx (List.range base) (List.range rs.length) ⟨initTm rs 0, s.ob, s.rt, s.nx⟩ with
  | some s1 =>
    let L := List.range base ++ ((seeO s.ob (rs.map (coldT s.ob)) (List.range base)).filter fun o => decide (base ≤ o)).reverse
    if noDup L = true ∧ L.length ≤ base + 4 ∧ rs.all isAT = true then some ((List.range rs.length).map fun i => renT (posIn L) 0 (s1.tm i), takeO s1.ob L, s1.rt, s1.nx) else none
  | none => none
def evFn (E : Env) (gen : FuncId → Nat → Bool) (H : FuncId → Hint) (call : CallF) (n base : Nat) (mv : Bool) (f : FuncId) (fn : Func) (args : List AT) (ob : ObF) (rt : RtF) (nx : Nat) : Option (List AT × ObF × RtF × Nat) :=
  match fn.body with
  | some c => if args.length ≤ fn.ntmps ∧ fn.ntmps ≤ 4095 then
      match evCode ⟨E, gen f, call, base, fn.ntmps, nx, List.range base, H f⟩ n c ⟨initTm args 0, ob, rt, nx⟩ with
      | some (.fall, s) | some (.ret, s) => if mv then leave base nx s (fn.results.toList.map (resAT1 E s))
        else if (List.range base).all (cleanO base s.ob) then (backAll base s.ob (fn.results.toList.map (resAT1 E s))).map fun rs => (rs, obH base s.ob, s.rt, s.nx) else none
      | _ => none
    else none
  | _ => none
def evF (E : Env) (gen : FuncId → Nat → Bool) (H : FuncId → Hint) (ext : FuncId → Option (List Arg → Option (List Arg))) : Nat → CallF
  | 0 => fun _ _ _ _ _ _ _ => none
  | n + 1 => fun base mv f args ob rt nx => match ext f with
    | some g => match argsOf noOb args with
      | some xs => (g xs).map fun rs => (rs.map atOf, ob, rt, nx)
      | none => none
    | none => match E.P.funcs[f]? with
      | some fn => evFn E gen H (evF E gen H ext n) n base mv f fn args ob rt nx
      | none => none
end Go.Proofs.YtjhljcnjafbkfaaDoor.X
end
section
set_option linter.unusedVariables false
namespace Go.Proofs.YtjhljcnjafbkfaaDoor.X
open Go.RowKit
inductive RepP (I : Nat → Nat → Prop) (w : World) : Value → PV → Prop
  | sc {v : Value} (h : flatV v = true) : RepP I w v (.sc v)
  | sl {A : Option Addr} {cap z : Nat} {l : List (List PV)} (f : Nat → Nat → Value) (hcap : l.length ≤ cap) (hmax : cap ≤ maxLen)
      (hnil : A = none → cap = 0) (hs : ∀ a, A = some a → a.spot = none) (hz : ∀ (i : Nat) (r : List PV), l[i]? = some r → r.length = z)
      (hI : ∀ a, A = some a → ∀ (i : Nat) (r : List PV) (j : Nat) (x : PV), l[i]? = some r → r[j]? = some x → I a.block (a.off + (i * z + j)) ∧ w.cell? ⟨a.block, a.off + (i * z + j), none⟩ = some (f i j))
      (hR : ∀ (i : Nat) (r : List PV) (j : Nat) (x : PV), l[i]? = some r → r[j]? = some x → RepP I w (f i j) x) : RepP I w (.slice A l.length cap) (.sl z l)
  | ref {b off : Nat} {cs : List PV} (f : Nat → Value)
      (hI : ∀ (j : Nat) (x : PV), cs[j]? = some x → I b (off + j) ∧ w.cell? ⟨b, off + j, none⟩ = some (f j))
      (hR : ∀ (j : Nat) (x : PV), cs[j]? = some x → RepP I w (f j) x) : RepP I w (.pointer (some ⟨b, off, none⟩)) (.ref cs)
  | fn {f : FuncId} {caps : Array Value} {cs : List PV} (hl : caps.size = cs.length)
      (hR : ∀ (j : Nat) (x : PV) (v : Value), cs[j]? = some x → caps[j]? = some v → RepP I w v x) : RepP I w (.func (.func f) #[] caps) (.fn f cs)
theorem RepP.mono {I I' : Nat → Nat → Prop} {w w' : World} (hI : ∀ b i, I b i → I' b i) (hc : ∀ b i, I b i → w'.cell? ⟨b, i, none⟩ = w.cell? ⟨b, i, none⟩)
    {v : Value} {x : PV} (h : RepP I w v x) : RepP I' w' v x := by
  induction h with
  | sc h => exact .sc h
  | sl f h1 h2 h3 h4 h5 h6 _ ih =>
    refine .sl f h1 h2 h3 h4 h5 (fun a ha i r j x hr hx => ?_) ih
    obtain ⟨p, q⟩ := h6 a ha i r j x hr hx
    exact ⟨hI _ _ p, (hc _ _ p).trans q⟩
  | ref f h1 _ ih => exact .ref f (fun j x hx => ⟨hI _ _ (h1 j x hx).1, (hc _ _ (h1 j x hx).1).trans (h1 j x hx).2⟩) ih
  | fn hl _ ih => exact .fn hl ih
theorem RepP.flat {I : Nat → Nat → Prop} {w : World} {v : Value} {x : PV} (h : RepP I w v x) : flatV v = true := by
  cases h <;> first | assumption | rfl
abbrev Blk := Nat → Prop
structure Keep (B : Blk) (w w' : World) : Prop where
  os : w'.os = w.os
  tape : w'.tape = w.tape
  output : w'.output = w.output
  size : w.heap.size ≤ w'.heap.size
  block : ∀ k, B k → w'.heap[k]? = w.heap[k]?
theorem Keep.refl (B : Blk) (w : World) : Keep B w w := ⟨rfl, rfl, rfl, Nat.le_refl _, fun _ _ => rfl⟩
theorem Keep.trans {B : Blk} {a b c : World} (h : Keep B a b) (k : Keep B b c) : Keep B a c :=
  ⟨k.os.trans h.os, k.tape.trans h.tape, k.output.trans h.output, Nat.le_trans h.size k.size, fun i hi => (k.block i hi).trans (h.block i hi)⟩
theorem Keep.mono {B B' : Blk} {w w' : World} (h : Keep B w w') (hB : ∀ b, B' b → B b) : Keep B' w w' := ⟨h.os, h.tape, h.output, h.size, fun k hk => h.block k (hB k hk)⟩
theorem Keep.drew {B : Blk} {a w : World} (h : Keep B a w) : Keep B a w.drew := ⟨h.os, h.tape, h.output, h.size, h.block⟩
theorem Keep.alloc {B : Blk} {a w : World} (h : Keep B a w) (hB : ∀ b, B b → b < w.heap.size) (o : Go.Obj) : Keep B a (w.alloc o) :=
  h.trans ⟨rfl, rfl, rfl, by simp, fun k hk => Below.heap_alloc _ _ _ (hB k hk)⟩
theorem Keep.setCell {B : Blk} {a w : World} (h : Keep B a w) {p : Addr} (hp : ¬ B p.block) (u : Value) : Keep B a (w.setCell p u) :=
  h.trans ⟨rfl, rfl, rfl, by simp [World.setCell], fun k hk => Below.heap_setCell _ _ _ _ (fun e => hp (e ▸ hk))⟩
def old (w : World) : Blk := fun b => b < w.heap.size
theorem Keep.below {w w' : World} (h : Keep (old w) w w') : Below w.heap.size w w' := ⟨h.os, h.tape, h.output, h.size, h.block⟩
theorem Keep.of {w w' : World} (h : Below w.heap.size w w') : Keep (old w) w w' := ⟨h.os, h.tape, h.output, h.size, h.block⟩
def Obj.solid : Obj → Prop
  | .arr _ _ [] => False
  | _ => True
theorem Obj.solid_arr {fz : Bool} {z : Nat} {rows : List (List PV)} {r : Nat} {x : List PV} (h : rows[r]? = some x) : (Obj.arr fz z rows).solid := by
  cases rows with
  | nil => simp at h
  | cons => trivial
theorem Obj.solid_ne {fz : Bool} {z : Nat} {rows : List (List PV)} (h : rows ≠ []) : (Obj.arr fz z rows).solid := by
  cases rows with
  | nil => exact absurd rfl h
  | cons => trivial
structure Gh where
  I : Nat → Nat → Prop
  φ : Nat → Nat
  γ : Nat → Value × Nat
  β : Nat → Option Nat
def Obj.like : Obj → Obj → Prop
  | .var cs, .var cs' => cs'.length = cs.length
  | .arr _ z rows, .arr _ z' rows' => z' = z ∧ rows'.length = rows.length
  | .mp _ _, .mp _ _ => True
  | _, _ => False
theorem Obj.like.refl (o : Obj) : o.like o := by cases o <;> simp [Obj.like]
theorem Obj.like.solid {a b : Obj} (h : a.like b) : a.solid ↔ b.solid := by
  cases a <;> cases b <;> simp [Obj.like] at h
  case mp.mp => exact Iff.rfl
  · exact Iff.rfl
  · rename_i _ _ r1 _ _ r2
    cases r1 <;> cases r2 <;> simp_all [Obj.solid]
theorem Obj.like.trans {a b c : Obj} (h : a.like b) (k : b.like c) : a.like c := by
  cases a <;> cases b <;> cases c <;> simp_all [Obj.like]
inductive RelC (g : Gh) (w : World) (ob : ObF) (rt : RtF) (nx : Nat) : Value → CV → Prop
  | p {v : Value} {x : PV} (h : RepP g.I w v x) : RelC g w ob rt nx v (.p none x)
  | p0 {A : Option Addr} {n z : Nat} {l : List (List PV)} (h : RepP g.I w (.slice A n n) (.sl z l)) : RelC g w ob rt nx (.slice A n n) (.p (some 0) (.sl z l))
  | pn {n z : Nat} {v : Value} {l : List (List PV)} (h0 : n ≠ 0) (h1 : n < nx) (h : RepP g.I w v (.sl z l)) (hg : rt n = true → g.γ n = (v, z)) :
      RelC g w ob rt nx v (.p (some n) (.sl z l))
  | pt {o off : Nat} {cs : List CV} (h : ob o = some (.var cs)) : RelC g w ob rt nx (.pointer (some ⟨g.φ o, off, none⟩)) (.pt o off)
  | mt {o : Nat} {es : List MapEntry} {k : Nat} (h : ob o = some (.mp es k)) : RelC g w ob rt nx (.map (some (g.φ o))) (.mt o)
  | pr {o r off : Nat} {fz : Bool} {z : Nat} {rows : List (List PV)} (h : ob o = some (.arr fz z rows)) :
      RelC g w ob rt nx (.pointer (some ⟨g.φ o, r * z + off, none⟩)) (.pr o r off)
  | vw {o lo n cap : Nat} {A : Option Addr} {fz : Bool} {z : Nat} {rows : List (List PV)} (h : ob o = some (.arr fz z rows)) (hl : lo + n ≤ rows.length)
      (hcap : n ≤ cap) (hmax : cap ≤ maxLen) (hnil : A = none → cap = 0) (hs : ∀ a, A = some a → a.spot = none) (hA : n ≠ 0 → A = some ⟨g.φ o, lo * z, none⟩) :
      RelC g w ob rt nx (.slice A n cap) (.vw o lo n)
  | cl {f : FuncId} {caps : Array Value} {cs : List CV} (hl : caps.size = cs.length)
      (hR : ∀ (j : Nat) (x : CV) (v : Value), cs[j]? = some x → caps[j]? = some v → RelC g w ob rt nx v x) : RelC g w ob rt nx (.func (.func f) #[] caps) (.cl f cs)
theorem RelC.flat {g : Gh} {w : World} {ob : ObF} {rt : RtF} {nx : Nat} {v : Value} {c : CV} (h : RelC g w ob rt nx v c) : flatV v = true := by
  cases h <;> first | exact RepP.flat (by assumption) | rfl
def RelL (g : Gh) (w : World) (ob : ObF) (rt : RtF) (nx : Nat) (vs : Array Value) (cs : List CV) : Prop :=
  vs.size = cs.length ∧ ∀ (j : Nat) (x : CV) (v : Value), cs[j]? = some x → vs[j]? = some v → RelC g w ob rt nx v x
inductive RelA1 (g : Gh) (w : World) (ob : ObF) (rt : RtF) (nx : Nat) : Value → AT → Prop
  | no {v : Value} : RelA1 g w ob rt nx v .no
  | one {v : Value} {c : CV} (h : RelC g w ob rt nx v c) : RelA1 g w ob rt nx v (.one c)
  | agg {vs : Array Value} {cs : List CV} (h : RelL g w ob rt nx vs cs) : RelA1 g w ob rt nx (.agg vs) (.agg cs)
inductive RelA (g : Gh) (w : World) (ob : ObF) (rt : RtF) (nx : Nat) : Value → AT → Prop
  | of {v : Value} {x : AT} (h : RelA1 g w ob rt nx v x) : RelA g w ob rt nx v x
  | tup {vs : Array Value} {ts : List (Bool × List CV)} (hl : vs.size = ts.length) (h : ∀ (j : Nat) (t : Bool × List CV) (v : Value), ts[j]? = some t → vs[j]? = some v → RelA1 g w ob rt nx v (atC t)) :
      RelA g w ob rt nx (.tuple vs) (.tup ts)
inductive OwnR (g : Gh) (w : World) (ob : ObF) (B : Blk) (n : Nat) : Prop
  | full (A : Option Addr) (k : Nat) (z : Nat) (h : g.γ n = (.slice A k k, z)) (hb : g.β n = none)
  | own (b len cap z : Nat) (e : TypeId) (cur : Array Value) (h : g.γ n = (.slice (some ⟨b, 0, none⟩) len cap, z)) (hb : g.β n = some b) (hB : ¬ B b)
      (hh : w.heap[b]? = some (.cells cur e (0, 0))) (h1 : len ≤ cap) (h2 : cap ≤ maxLen) (h3 : cur.size = cap * z) (hI : ∀ i, len * z ≤ i → ¬ g.I b i)
      (hφ : ∀ o x, ob o = some x → x.solid → g.φ o ≠ b)
inductive RelObj (g : Gh) (w : World) (ob : ObF) (rt : RtF) (nx : Nat) (b : Nat) : Obj → Prop
  | var {cs : List CV} (e : TypeId) (vs : Array Value) (hh : w.heap[b]? = some (.cells vs e (0, 0))) (h : RelL g w ob rt nx vs cs) (hI : ∀ i, ¬ g.I b i) :
      RelObj g w ob rt nx b (.var cs)
  | arr {fz : Bool} {z : Nat} {rows : List (List PV)} (e : TypeId) (vs : Array Value) (hh : w.heap[b]? = some (.cells vs e (0, 0))) (hl : rows.length * z ≤ vs.size)
      (hm : rows.length ≤ maxLen) (hz : ∀ (i : Nat) (r : List PV), rows[i]? = some r → r.length = z)
      (h : ∀ (i : Nat) (r : List PV) (j : Nat) (x : PV) (v : Value), rows[i]? = some r → r[j]? = some x → vs[i * z + j]? = some v → RepP g.I w v x)
      (hI : fz = false → ∀ i, ¬ g.I b i) (hJ : fz = true → ∀ i, i < rows.length * z → g.I b i) : RelObj g w ob rt nx b (.arr fz z rows)
  | nil {fz : Bool} {z : Nat} : RelObj g w ob rt nx b (.arr fz z [])
  | mp {es : List MapEntry} {k : Nat} (hh : w.heap[b]? = some (.map es.toArray k)) (hI : ∀ i, ¬ g.I b i) : RelObj g w ob rt nx b (.mp es k)
structure RelM (G : Nat → Option (List PV)) (g : Gh) (w : World) (ob : ObF) (rt : RtF) (nx : Nat) (B : Blk) : Prop where
  pos : 0 < nx
  glob : ∀ k cs, G k = some cs → RepP g.I w (.pointer (some ⟨k, 0, none⟩)) (.ref cs)
  size : ∀ b, B b → b < w.heap.size
  obj : ∀ o x, ob o = some x → RelObj g w ob rt nx (g.φ o) x ∧ (x.solid → ¬ B (g.φ o))
  inj : ∀ o o' x y, ob o = some x → ob o' = some y → x.solid → y.solid → g.φ o = g.φ o' → o = o'
  own : ∀ n, n ≠ 0 → n < nx → rt n = true → OwnR g w ob B n
  apart : ∀ n m b, n ≠ 0 → m ≠ 0 → n < nx → m < nx → rt n = true → rt m = true → g.β n = some b → g.β m = some b → n = m
  bnd : ∀ b i, g.I b i → b < w.heap.size
structure Ext (B : Blk) (base : Nat) (g : Gh) (w : World) (ob : ObF) (rt : RtF) (nx : Nat) (g' : Gh) (w' : World) (ob' : ObF) (rt' : RtF) (nx' : Nat) : Prop where
  below : Keep B w w'
  I : ∀ b i, g.I b i → g'.I b i
  old : ∀ b i, B b → g'.I b i → g.I b i
  cell : ∀ b i, g.I b i → w'.cell? ⟨b, i, none⟩ = w.cell? ⟨b, i, none⟩
  like : ∀ o x, o < base → ob o = some x → ∃ y, ob' o = some y ∧ x.like y
  φ : ∀ o, o < base → (ob o).isSome → g'.φ o = g.φ o
  rt : ∀ n, n < nx → rt' n = true → rt n = true ∧ g'.γ n = g.γ n
  nx : nx ≤ nx'
theorem Ext.refl (B : Blk) (base : Nat) (g : Gh) (w : World) (ob : ObF) (rt : RtF) (nx : Nat) : Ext B base g w ob rt nx g w ob rt nx :=
  ⟨Keep.refl B w, fun _ _ h => h, fun _ _ _ h => h, fun _ _ _ => rfl, fun o x _ h => ⟨x, h, .refl x⟩, fun _ _ _ => rfl, fun _ _ h => ⟨h, rfl⟩, Nat.le_refl _⟩
theorem Ext.trans {B : Blk} {base : Nat} {g g' g'' : Gh} {w w' w'' : World} {ob ob' ob'' : ObF} {rt rt' rt'' : RtF} {nx nx' nx'' : Nat}
    (h : Ext B base g w ob rt nx g' w' ob' rt' nx') (k : Ext B base g' w' ob' rt' nx' g'' w'' ob'' rt'' nx'') : Ext B base g w ob rt nx g'' w'' ob'' rt'' nx'' where
  below := h.below.trans k.below
  I b i hi := k.I _ _ (h.I _ _ hi)
  old b i hb hi := h.old _ _ hb (k.old _ _ hb hi)
  cell b i hi := (k.cell _ _ (h.I _ _ hi)).trans (h.cell _ _ hi)
  like o x ho hx := by
    obtain ⟨y, hy, l⟩ := h.like o x ho hx
    obtain ⟨z, hz, m⟩ := k.like o y ho hy
    exact ⟨z, hz, l.trans m⟩
  φ o ho hx := by
    obtain ⟨x, hx'⟩ := Option.isSome_iff_exists.1 hx
    obtain ⟨y, hy, _⟩ := h.like o x ho hx'
    exact (k.φ o ho (by simp [hy])).trans (h.φ o ho hx)
  rt n hn ht := by
    obtain ⟨a, b⟩ := k.rt n (Nat.lt_of_lt_of_le hn h.nx) ht
    obtain ⟨c, d⟩ := h.rt n hn a
    exact ⟨c, b.trans d⟩
  nx := Nat.le_trans h.nx k.nx
theorem Ext.mono {B : Blk} {base base' : Nat} {g g' : Gh} {w w' : World} {ob ob' : ObF} {rt rt' : RtF} {nx nx' : Nat}
    (h : Ext B base g w ob rt nx g' w' ob' rt' nx') (hb : base' ≤ base) : Ext B base' g w ob rt nx g' w' ob' rt' nx' :=
  ⟨h.below, h.I, h.old, h.cell, fun o x ho => h.like o x (Nat.lt_of_lt_of_le ho hb), fun o ho => h.φ o (Nat.lt_of_lt_of_le ho hb), h.rt, h.nx⟩
section
variable {B : Blk} {base : Nat} {g g' : Gh} {w w' : World} {ob ob' : ObF} {rt rt' : RtF} {nx nx' : Nat}
theorem RepP.ext (h : Ext B base g w ob rt nx g' w' ob' rt' nx') {v : Value} {x : PV} (k : RepP g.I w v x) : RepP g'.I w' v x := k.mono h.I h.cell
theorem RelC.ext (h : Ext B base g w ob rt nx g' w' ob' rt' nx') (hb : ∀ o, (ob o).isSome → o < base) {v : Value} {c : CV} (k : RelC g w ob rt nx v c) :
    RelC g' w' ob' rt' nx' v c := by
  induction k with
  | p k => exact .p (k.ext h)
  | p0 k => exact .p0 (k.ext h)
  | pn h0 h1 k hg =>
    refine .pn h0 (Nat.lt_of_lt_of_le h1 h.nx) (k.ext h) fun ht => ?_
    obtain ⟨a, b⟩ := h.rt _ h1 ht
    exact b.trans (hg a)
  | pt k =>
    have hs := Option.isSome_of_eq_some k
    obtain ⟨y, hy, l⟩ := h.like _ _ (hb _ hs) k
    rw [← h.φ _ (hb _ hs) hs]
    cases y with
    | var cs' => exact .pt hy
    | arr => exact l.elim
    | mp => exact l.elim
  | mt k =>
    have hs := Option.isSome_of_eq_some k
    obtain ⟨y, hy, l⟩ := h.like _ _ (hb _ hs) k
    rw [← h.φ _ (hb _ hs) hs]
    cases y with
    | var cs' => exact l.elim
    | arr => exact l.elim
    | mp => exact .mt hy
  | pr k =>
    have hs := Option.isSome_of_eq_some k
    obtain ⟨y, hy, l⟩ := h.like _ _ (hb _ hs) k
    rw [← h.φ _ (hb _ hs) hs]
    cases y with
    | var cs' => exact l.elim
    | mp => exact l.elim
    | arr fz z rows => obtain ⟨rfl, _⟩ := l; exact .pr hy
  | vw k h1 h2 h3 h4 h5 h6 =>
    have hs := Option.isSome_of_eq_some k
    obtain ⟨y, hy, l⟩ := h.like _ _ (hb _ hs) k
    cases y with
    | var cs' => exact l.elim
    | mp => exact l.elim
    | arr fz z rows =>
      obtain ⟨rfl, hl⟩ := l
      exact .vw hy (by omega) h2 h3 h4 h5 fun hn => by rw [h.φ _ (hb _ hs) hs]; exact h6 hn
  | cl hl _ ih => exact .cl hl ih
theorem RelL.ext (h : Ext B base g w ob rt nx g' w' ob' rt' nx') (hb : ∀ o, (ob o).isSome → o < base) {vs : Array Value} {cs : List CV} (k : RelL g w ob rt nx vs cs) :
    RelL g' w' ob' rt' nx' vs cs := ⟨k.1, fun j x v hx hv => (k.2 j x v hx hv).ext h hb⟩
theorem RelA1.ext (h : Ext B base g w ob rt nx g' w' ob' rt' nx') (hb : ∀ o, (ob o).isSome → o < base) {v : Value} {x : AT} (k : RelA1 g w ob rt nx v x) :
    RelA1 g' w' ob' rt' nx' v x := by
  cases k with
  | no => exact .no
  | one k => exact .one (k.ext h hb)
  | agg k => exact .agg (k.ext h hb)
theorem RelA.ext (h : Ext B base g w ob rt nx g' w' ob' rt' nx') (hb : ∀ o, (ob o).isSome → o < base) {v : Value} {x : AT} (k : RelA g w ob rt nx v x) :
    RelA g' w' ob' rt' nx' v x := by
  cases k with
  | of k => exact .of (k.ext h hb)
  | tup hl k => exact .tup hl fun j t v ht hv => (k j t v ht hv).ext h hb
end
end Go.Proofs.YtjhljcnjafbkfaaDoor.X
end
section
set_option linter.unusedVariables false
namespace Go.Proofs.YtjhljcnjafbkfaaDoor.X
open Go.RowKit
section
variable {G : Nat → Option (List PV)} {B : Blk} {base : Nat} {g g' : Gh} {w w' : World} {ob ob' : ObF} {rt rt' : RtF} {nx nx' : Nat}
theorem RelObj.ext (h : Ext B base g w ob rt nx g' w' ob' rt' nx') (hb : ∀ o, (ob o).isSome → o < base) {b : Nat} {x : Obj} (k : RelObj g w ob rt nx b x)
    (hh : x.solid → w'.heap[b]? = w.heap[b]?) (hI : x.solid → ∀ i, g'.I b i → g.I b i) : RelObj g' w' ob' rt' nx' b x := by
  cases k with
  | nil => exact .nil
  | var e vs h1 h2 h3 => exact .var e vs ((hh trivial).trans h1) (h2.ext h hb) fun i hi => h3 i (hI trivial i hi)
  | mp h1 h2 => exact .mp ((hh trivial).trans h1) fun i hi => h2 i (hI trivial i hi)
  | @arr fz z rows e vs h1 h2 h3 h4 h5 h6 h7 =>
    by_cases hr : rows = []
    · subst hr; exact .nil
    replace hh := hh (Obj.solid_ne hr)
    replace hI := hI (Obj.solid_ne hr)
    exact .arr e vs (hh.trans h1) h2 h3 h4 (fun i r j x v hr hx hv => (h5 i r j x v hr hx hv).ext h) (fun hf i hi => h6 hf i (hI i hi)) fun hf i hi => h.I _ _ (h7 hf i hi)
theorem OwnR.ext {n : Nat} (k : OwnR g w ob B n) (hγ : g'.γ n = g.γ n) (hβ : g'.β n = g.β n)
    (hh : ∀ b, g.β n = some b → w'.heap[b]? = w.heap[b]? ∧ (∀ i, g'.I b i → g.I b i) ∧ ∀ o x, ob' o = some x → x.solid → g'.φ o ≠ b) : OwnR g' w' ob' B n := by
  cases k with
  | full A k z h hb => exact .full A k z (hγ.trans h) (hβ.trans hb)
  | own b len cap z e cur h hb hB h1 h2 h3 h4 h5 h6 =>
    obtain ⟨q1, q2, q3⟩ := hh b hb
    exact .own b len cap z e cur (hγ.trans h) (hβ.trans hb) hB (q1.trans h1) h2 h3 h4 (fun i hi hI => h5 i hi (q2 i hI)) q3
theorem OwnR.lt {n b : Nat} (k : OwnR g w ob B n) (hb : g.β n = some b) : b < w.heap.size ∧ ¬ B b := by
  cases k with
  | full A k z h h' => rw [h'] at hb; cases hb
  | own b' len cap z e cur h hb' hB h1 =>
    rw [hb'] at hb
    cases hb
    exact ⟨(Array.getElem?_eq_some_iff.1 h1).1, hB⟩
theorem RelObj.lt {b : Nat} {x : Obj} (k : RelObj g w ob rt nx b x) (hs : x.solid) : b < w.heap.size := by
  cases k with
  | nil => exact hs.elim
  | var e vs h => exact (Array.getElem?_eq_some_iff.1 h).1
  | mp h => exact (Array.getElem?_eq_some_iff.1 h).1
  | arr e vs h => exact (Array.getElem?_eq_some_iff.1 h).1
theorem heap_new (w : World) (o : Go.Obj) : (w.alloc o).heap[w.heap.size]? = some o := heap_alloc_new w o
theorem heap_old (w : World) (o : Go.Obj) {b : Nat} (h : b < w.heap.size) : (w.alloc o).heap[b]? = w.heap[b]? := heap_alloc_old w o b h
theorem Ext.block (h : RelM G g w ob rt nx B) (o : Go.Obj) (J : Nat → Prop) :
    Ext B base g w ob rt nx { g with I := fun b i => g.I b i ∨ (b = w.heap.size ∧ J i) } (w.alloc o) ob rt nx where
  below := (Keep.refl B w).alloc h.size o
  I _ _ hi := .inl hi
  old b i hb hi := by
    rcases hi with hi | ⟨rfl, _⟩
    · exact hi
    · exact absurd (h.size _ hb) (Nat.lt_irrefl _)
  cell b i hi := World.cell?_alloc_lt _ _ _ (h.bnd b i hi)
  like _ x _ hx := ⟨x, hx, .refl x⟩
  φ _ _ _ := rfl
  rt _ _ ht := ⟨ht, rfl⟩
  nx := Nat.le_refl _
theorem RelM.block (h : RelM G g w ob rt nx B) (hb : ∀ o, (ob o).isSome → o < base) (o : Go.Obj) (J : Nat → Prop) :
    RelM G { g with I := fun b i => g.I b i ∨ (b = w.heap.size ∧ J i) } (w.alloc o) ob rt nx B where
  pos := h.pos
  glob k cs hk := (h.glob k cs hk).ext (Ext.block (base := base) h o J)
  size b hb := by simp; exact Nat.lt_succ_of_lt (h.size b hb)
  obj p x hx := by
    obtain ⟨q, r⟩ := h.obj p x hx
    refine ⟨q.ext (Ext.block (base := base) h o J) hb (fun hs => heap_old _ _ (q.lt hs)) fun hs i hi => ?_, r⟩
    rcases hi with hi | ⟨e, _⟩
    · exact hi
    · exact absurd (q.lt hs) (by have := e; omega)
  inj := h.inj
  own n h0 h1 h2 := by
    have k := h.own n h0 h1 h2
    refine k.ext rfl rfl fun b hb => ⟨heap_old _ _ (k.lt hb).1, fun i hi => ?_, fun p y hp hs => ?_⟩
    · rcases hi with hi | ⟨e, _⟩
      · exact hi
      · exact absurd (k.lt hb).1 (by have := e; omega)
    · cases k with
      | full A k z h hb' => rw [hb'] at hb; cases hb
      | own b' len cap z e cur h hb' hB h1 h2 h3 h4 h5 h6 =>
        rw [hb'] at hb
        cases hb
        exact h6 p y hp hs
  apart := h.apart
  bnd b i hi := by
    rcases hi with hi | ⟨rfl, _⟩
    · have := h.bnd b i hi
      simp
      omega
    · simp
theorem Ext.var (h : RelM G g w ob rt nx B) {o : Nat} (ho : ob o = none) (c : Go.Obj) (x : Obj) :
    Ext B base g w ob rt nx { g with φ := upd g.φ o w.heap.size } (w.alloc c) (upd ob o (some x)) rt nx where
  below := (Keep.refl B w).alloc h.size c
  I _ _ hi := hi
  old _ _ _ hi := hi
  cell b i hi := World.cell?_alloc_lt _ _ _ (h.bnd b i hi)
  like p y _ hy := by
    have hne : p ≠ o := fun e => by subst e; rw [ho] at hy; cases hy
    exact ⟨y, by rw [upd_ne _ _ hne]; exact hy, .refl y⟩
  φ p _ hp := by
    have hne : p ≠ o := fun e => by subst e; rw [ho] at hp; cases hp
    exact upd_ne _ _ hne
  rt _ _ ht := ⟨ht, rfl⟩
  nx := Nat.le_refl _
theorem RelM.var (h : RelM G g w ob rt nx B) (hb : ∀ o, (ob o).isSome → o < base) {o : Nat} (ho : ob o = none) (c : Go.Obj) (x : Obj)
    (hx : RelObj { g with φ := upd g.φ o w.heap.size } (w.alloc c) (upd ob o (some x)) rt nx w.heap.size x) :
    RelM G { g with φ := upd g.φ o w.heap.size } (w.alloc c) (upd ob o (some x)) rt nx B where
  pos := h.pos
  glob k cs hk := (h.glob k cs hk).ext (Ext.var (base := base) h ho c x)
  size b hb := by simp; exact Nat.lt_succ_of_lt (h.size b hb)
  obj p y hy := by
    by_cases hne : p = o
    · subst hne
      rw [upd_same] at hy
      cases hy
      simp only [upd_same]
      exact ⟨hx, fun _ hB => absurd (h.size _ hB) (Nat.lt_irrefl _)⟩
    · rw [upd_ne _ _ hne] at hy
      obtain ⟨q, r⟩ := h.obj p y hy
      simp only [upd_ne _ _ hne]
      exact ⟨q.ext (Ext.var (base := base) h ho c x) hb (fun hs => heap_old _ _ (q.lt hs)) fun _ i hi => hi, r⟩
  inj p q xp xq hp hq sp sq e := by
    have key : ∀ p y, p ≠ o → upd ob o (some x) p = some y → y.solid → g.φ p < w.heap.size := by
      intro p y hne hp hs
      rw [upd_ne _ _ hne] at hp
      exact (h.obj p y hp).1.lt hs
    by_cases h1 : p = o <;> by_cases h2 : q = o
    · rw [h1, h2]
    · simp only [h1, upd_same, upd_ne _ _ h2] at e
      have := key q xq h2 hq sq
      omega
    · simp only [h2, upd_same, upd_ne _ _ h1] at e
      have := key p xp h1 hp sp
      omega
    · simp only [upd_ne _ _ h1, upd_ne _ _ h2] at e hp hq
      exact h.inj p q xp xq hp hq sp sq e
  own n h0 h1 h2 := by
    have k := h.own n h0 h1 h2
    refine k.ext rfl rfl fun b hb => ⟨heap_old _ _ (k.lt hb).1, fun i hi => hi, fun p y hp hs => ?_⟩
    have hlt := (k.lt hb).1
    by_cases hne : p = o
    · simp only [hne, upd_same]
      omega
    · simp only [upd_ne _ _ hne] at hp ⊢
      cases k with
      | full A k z h hb' => rw [hb'] at hb; cases hb
      | own b' len cap z e cur h hb' hB h1 h2 h3 h4 h5 h6 =>
        rw [hb'] at hb
        cases hb
        exact h6 p y hp hs
  apart := h.apart
  bnd b i hi := by
    have := h.bnd b i hi
    simp
    omega
structure PutB (b : Nat) (w w' : World) : Prop where
  os : w'.os = w.os
  tape : w'.tape = w.tape
  output : w'.output = w.output
  size : w'.heap.size = w.heap.size
  other : ∀ k, k ≠ b → w'.heap[k]? = w.heap[k]?
theorem Ext.put (h : RelM G g w ob rt nx B) {o : Nat} {x y : Obj} (ho : ob o = some x) (hl : x.like y) (hsx : x.solid) (hw : PutB (g.φ o) w w') (hI : ∀ i, ¬ g.I (g.φ o) i) :
    Ext B base g w ob rt nx g w' (upd ob o (some y)) rt nx where
  below := ⟨hw.os, hw.tape, hw.output, Nat.le_of_eq hw.size.symm, fun k hk => hw.other k fun e => (h.obj o x ho).2 hsx (e ▸ hk)⟩
  I _ _ hi := hi
  old _ _ _ hi := hi
  cell b i hi := World.cell?_of_block (w := w) (a := ⟨b, i, none⟩) (hw.other b fun e => hI i (e ▸ hi))
  like p z _ hz := by
    by_cases hne : p = o
    · subst hne
      rw [ho] at hz
      cases hz
      exact ⟨y, upd_same _ _ _, hl⟩
    · exact ⟨z, by rw [upd_ne _ _ hne]; exact hz, .refl z⟩
  φ _ _ _ := rfl
  rt _ _ ht := ⟨ht, rfl⟩
  nx := Nat.le_refl _
theorem RelM.put (h : RelM G g w ob rt nx B) (hb : ∀ o, (ob o).isSome → o < base) {o : Nat} {x y : Obj} (ho : ob o = some x) (hl : x.like y) (hsx : x.solid) (hw : PutB (g.φ o) w w')
    (hI : ∀ i, ¬ g.I (g.φ o) i) (hy : RelObj g w' (upd ob o (some y)) rt nx (g.φ o) y) :
    RelM G g w' (upd ob o (some y)) rt nx B where
  pos := h.pos
  glob k cs hk := (h.glob k cs hk).ext (Ext.put (base := base) h ho hl hsx hw hI)
  size b hb := by rw [hw.size]; exact h.size b hb
  obj p z hz := by
    by_cases hne : p = o
    · subst hne
      rw [upd_same] at hz
      cases hz
      exact ⟨hy, fun _ => (h.obj p x ho).2 hsx⟩
    · rw [upd_ne _ _ hne] at hz
      obtain ⟨q, r⟩ := h.obj p z hz
      refine ⟨q.ext (Ext.put (base := base) h ho hl hsx hw hI) hb (fun hs => hw.other _ fun e => hne ?_) fun _ i hi => hi, r⟩
      exact h.inj p o z x hz ho hs hsx e
  inj p q xp xq hp hq sp sq e := by
    have key : ∀ p z, upd ob o (some y) p = some z → z.solid → ∃ z', ob p = some z' ∧ z'.solid := by
      intro p z hp hs
      by_cases hne : p = o
      · exact ⟨x, hne ▸ ho, hsx⟩
      · exact ⟨z, by rwa [upd_ne _ _ hne] at hp, hs⟩
    obtain ⟨a, ha, sa⟩ := key p xp hp sp
    obtain ⟨c, hc, sc⟩ := key q xq hq sq
    exact h.inj p q a c ha hc sa sc e
  own n h0 h1 h2 := by
    have k := h.own n h0 h1 h2
    have hne : ∀ b, g.β n = some b → ∀ p z, ob p = some z → z.solid → g.φ p ≠ b := by
      intro b hb p z' hp hs
      cases k with
      | full A k z h hb' => rw [hb'] at hb; cases hb
      | own b' len cap z e cur h hb' hB h1 h2 h3 h4 h5 h6 =>
        rw [hb'] at hb
        cases hb
        exact h6 p z' hp hs
    refine k.ext rfl rfl fun b hb => ⟨hw.other _ fun e => hne b hb o x ho hsx e.symm, fun i hi => hi, fun p z hp hs => ?_⟩
    by_cases hpo : p = o
    · exact hne b hb p x (hpo ▸ ho) hsx
    · exact hne b hb p z (by rwa [upd_ne _ _ hpo] at hp) hs
  apart := h.apart
  bnd b i hi := by rw [hw.size]; exact h.bnd b i hi
theorem PutB.row (w : World) (b : Nat) (vs : Array Value) : PutB b w (w.setRow b vs) := ⟨rfl, rfl, rfl, by simp, fun k hk => setRow_other w _ k _ hk⟩
theorem Ext.store (h : RelM G g w ob rt nx B) {o : Nat} {x y : Obj} (ho : ob o = some x) (hl : x.like y) (hsx : x.solid) (vs : Array Value) (hI : ∀ i, ¬ g.I (g.φ o) i) :
    Ext B base g w ob rt nx g (w.setRow (g.φ o) vs) (upd ob o (some y)) rt nx := Ext.put h ho hl hsx (PutB.row w _ vs) hI
theorem RelM.store (h : RelM G g w ob rt nx B) (hb : ∀ o, (ob o).isSome → o < base) {o : Nat} {x y : Obj} (ho : ob o = some x) (hl : x.like y) (hsx : x.solid) (vs : Array Value)
    (hI : ∀ i, ¬ g.I (g.φ o) i) (hy : RelObj g (w.setRow (g.φ o) vs) (upd ob o (some y)) rt nx (g.φ o) y) :
    RelM G g (w.setRow (g.φ o) vs) (upd ob o (some y)) rt nx B := RelM.put h hb ho hl hsx (PutB.row w _ vs) hI hy
end
end Go.Proofs.YtjhljcnjafbkfaaDoor.X
end
section
set_option linter.unusedVariables false
namespace Go.Proofs.YtjhljcnjafbkfaaDoor.X
open Go.RowKit
theorem at_lt {z i j n : Nat} (hi : i < n) (hj : j < z) : i * z + j < n * z := by
  have h : (i + 1) * z ≤ n * z := Nat.mul_le_mul_right _ hi
  rw [Nat.succ_mul] at h
  omega
section
variable {G : Nat → Option (List PV)} {B : Blk} {base : Nat} {g g' : Gh} {w w' : World} {ob ob' : ObF} {rt rt' : RtF} {nx nx' : Nat}
def ice (g : Gh) (o n : Nat) : Gh := { g with I := fun b i => g.I b i ∨ (b = g.φ o ∧ i < n) }
theorem solid_lt {fz : Bool} {z i : Nat} {rows : List (List PV)} (h : i < rows.length * z) : (Obj.arr fz z rows).solid := by
  cases rows with
  | nil => simp at h
  | cons => trivial
theorem Ext.ice (h : RelM G g w ob rt nx B) {o : Nat} {fz : Bool} {z : Nat} {rows : List (List PV)} (ho : ob o = some (.arr fz z rows)) :
    Ext B base g w ob rt nx (ice g o (rows.length * z)) w (upd ob o (some (.arr true z rows))) rt nx where
  below := Keep.refl B w
  I _ _ hi := .inl hi
  old b i hb hi := by
    rcases hi with hi | ⟨rfl, hi⟩
    · exact hi
    · exact absurd hb ((h.obj o _ ho).2 (solid_lt hi))
  cell _ _ _ := rfl
  like p y _ hy := by
    by_cases hne : p = o
    · subst hne
      rw [ho] at hy
      cases hy
      exact ⟨_, upd_same _ _ _, by simp [Obj.like]⟩
    · exact ⟨y, by rw [upd_ne _ _ hne]; exact hy, .refl y⟩
  φ _ _ _ := rfl
  rt _ _ ht := ⟨ht, rfl⟩
  nx := Nat.le_refl _
theorem RelM.ice (h : RelM G g w ob rt nx B) (hb : ∀ o, (ob o).isSome → o < base) {o : Nat} {fz : Bool} {z : Nat} {rows : List (List PV)} (ho : ob o = some (.arr fz z rows)) :
    RelM G (ice g o (rows.length * z)) w (upd ob o (some (.arr true z rows))) rt nx B where
  pos := h.pos
  glob k cs hk := (h.glob k cs hk).ext (Ext.ice (base := base) h ho)
  size := h.size
  obj p y hy := by
    by_cases hne : p = o
    · subst hne
      rw [upd_same] at hy
      cases hy
      obtain ⟨q, r⟩ := h.obj p _ ho
      refine ⟨?_, fun hs => r (by cases rows with | nil => exact hs.elim | cons => trivial)⟩
      cases q with
      | nil => exact .nil
      | arr e vs h1 h2 h3 h4 h5 h6 h7 =>
        exact .arr e vs h1 h2 h3 h4 (fun i r j x v hr hx hv => (h5 i r j x v hr hx hv).ext (Ext.ice (base := base) h ho)) (fun hf => by cases hf)
          fun _ i hi => .inr ⟨rfl, hi⟩
    · rw [upd_ne _ _ hne] at hy
      obtain ⟨q, r⟩ := h.obj p y hy
      refine ⟨q.ext (Ext.ice (base := base) h ho) hb (fun _ => rfl) fun hs i hi => ?_, r⟩
      rcases hi with hi | ⟨e, hi⟩
      · exact hi
      · exact absurd (h.inj p o _ _ hy ho hs (solid_lt hi) e) hne
  inj p q xp xq hp hq sp sq e := by
    have key : ∀ p z', upd ob o (some (Obj.arr true z rows)) p = some z' → z'.solid → ∃ z'', ob p = some z'' ∧ z''.solid := by
      intro p z' hp hs
      by_cases hne : p = o
      · subst hne
        rw [upd_same] at hp
        cases hp
        exact ⟨_, ho, by cases rows with | nil => exact hs.elim | cons => trivial⟩
      · exact ⟨z', by rwa [upd_ne _ _ hne] at hp, hs⟩
    obtain ⟨a, ha, sa⟩ := key p xp hp sp
    obtain ⟨c, hc, sc⟩ := key q xq hq sq
    exact h.inj p q a c ha hc sa sc e
  own n h0 h1 h2 := by
    have k := h.own n h0 h1 h2
    have hne : ∀ b, g.β n = some b → ∀ p z, ob p = some z → z.solid → g.φ p ≠ b := by
      intro b hb p z' hp hs
      cases k with
      | full A k z h hb' => rw [hb'] at hb; cases hb
      | own b' len cap z e cur h hb' hB h1 h2 h3 h4 h5 h6 =>
        rw [hb'] at hb
        cases hb
        exact h6 p z' hp hs
    refine k.ext rfl rfl fun b hb => ⟨rfl, fun i hi => ?_, fun p z' hp hs => ?_⟩
    · rcases hi with hi | ⟨e, hi⟩
      · exact hi
      · exact absurd e.symm (hne b hb o _ ho (solid_lt hi))
    · by_cases hpo : p = o
      · subst hpo
        rw [upd_same] at hp
        cases hp
        exact hne b hb p _ ho (by cases rows with | nil => exact hs.elim | cons => trivial)
      · exact hne b hb p z' (by rwa [upd_ne _ _ hpo] at hp) hs
  apart := h.apart
  bnd b i hi := by
    rcases hi with hi | ⟨rfl, hi⟩
    · exact h.bnd b i hi
    · exact (h.obj o _ ho).1.lt (solid_lt hi)
def putAll (ob : ObF) (l : List (Nat × Obj)) : ObF := l.foldl (fun f p => upd f p.1 (some p.2)) ob
theorem icy_upd {o : Nat} {fz : Bool} {z : Nat} {rows : List (List PV)} (ho : ob o = some (.arr fz z rows)) (os : List Nat) :
    icy (upd ob o (some (.arr true z rows))) os = icy ob os := by
  unfold icy
  congr 1
  funext p
  by_cases hne : p = o
  · subst hne
    simp [upd_same, ho]
  · simp [upd_ne _ _ hne]
theorem icy_all (os : List Nat) : ∀ {ob : ObF} {g : Gh}, RelM G g w ob rt nx B → (∀ o, (ob o).isSome → o < base) →
    ∃ g', Ext B base g w ob rt nx g' w (putAll ob (icy ob os)) rt nx ∧ RelM G g' w (putAll ob (icy ob os)) rt nx B ∧ g'.φ = g.φ ∧
      (∀ o, (putAll ob (icy ob os) o).isSome → o < base) ∧
      ∀ o ∈ os, ∀ fz z rows, ob o = some (.arr fz z rows) → ∀ i, i < rows.length * z → g'.I (g.φ o) i := by
  induction os with
  | nil => exact fun h hb => ⟨_, Ext.refl .., h, rfl, hb, fun o ho => by cases ho⟩
  | cons o os ih =>
    intro ob g h hb
    cases ho : ob o with
    | none =>
      obtain ⟨g', h1, h2, h3, h4, h5⟩ := ih h hb
      have e : icy ob (o :: os) = icy ob os := by simp [icy, ho]
      rw [e]
      refine ⟨g', h1, h2, h3, h4, fun p hp fz z rows hp' => ?_⟩
      rcases List.mem_cons.1 hp with rfl | hp
      · rw [ho] at hp'; cases hp'
      · exact h5 p hp fz z rows hp'
    | some x =>
      cases x with
      | mp es k =>
        obtain ⟨g', h1, h2, h3, h4, h5⟩ := ih h hb
        have e : icy ob (o :: os) = icy ob os := by simp [icy, ho]
        rw [e]
        refine ⟨g', h1, h2, h3, h4, fun p hp fz z rows hp' => ?_⟩
        rcases List.mem_cons.1 hp with rfl | hp
        · rw [ho] at hp'; cases hp'
        · exact h5 p hp fz z rows hp'
      | var cs =>
        obtain ⟨g', h1, h2, h3, h4, h5⟩ := ih h hb
        have e : icy ob (o :: os) = icy ob os := by simp [icy, ho]
        rw [e]
        refine ⟨g', h1, h2, h3, h4, fun p hp fz z rows hp' => ?_⟩
        rcases List.mem_cons.1 hp with rfl | hp
        · rw [ho] at hp'; cases hp'
        · exact h5 p hp fz z rows hp'
      | arr fz z rows =>
        have hb' : ∀ p, (upd ob o (some (Obj.arr true z rows)) p).isSome → p < base := by
          intro p hp
          by_cases hne : p = o
          · exact hne ▸ hb o (by simp [ho])
          · rw [upd_ne _ _ hne] at hp
            exact hb p hp
        obtain ⟨g', h1, h2, h3, h4, h5⟩ := ih (h.ice hb ho) hb'
        have e : putAll ob (icy ob (o :: os)) = putAll (upd ob o (some (Obj.arr true z rows))) (icy (upd ob o (some (Obj.arr true z rows))) os) := by
          rw [icy_upd ho]
          simp [icy, ho, putAll]
        rw [e]
        refine ⟨g', (Ext.ice h ho).trans h1, h2, h3, h4, fun p hp fz' z' rows' hp' i hi => ?_⟩
        rcases List.mem_cons.1 hp with rfl | hp
        · rw [ho] at hp'
          cases hp'
          exact h1.I _ _ (.inr ⟨rfl, hi⟩)
        · by_cases hpo : p = o
          · subst hpo
            rw [ho] at hp'
            cases hp'
            exact h1.I _ _ (.inr ⟨rfl, hi⟩)
          · exact h5 p hp fz' z' rows' (by rw [upd_ne _ _ hpo]; exact hp') i hi
theorem RelC.seen (h : RelM G g w ob rt nx B) {v : Value} {c : CV} {x : PV} (k : RelC g w ob rt nx v c) (hp : pvC ob c = some x) {I : Nat → Nat → Prop} (hI : ∀ b i, g.I b i → I b i)
    (hs : ∀ o ∈ seenC c, ∀ fz z rows, ob o = some (.arr fz z rows) → ∀ i, i < rows.length * z → I (g.φ o) i) : RepP I w v x := by
  cases k with
  | p k => cases hp; exact k.mono hI fun _ _ _ => rfl
  | p0 k => cases hp; exact k.mono hI fun _ _ _ => rfl
  | pn _ _ k => cases hp; exact k.mono hI fun _ _ _ => rfl
  | pt => cases hp
  | pr => cases hp
  | mt => cases hp
  | cl => cases hp
  | @vw o lo n cap A fz z rows ho hl hcap hmax hnil hsp hA =>
    simp only [pvC, ho, Option.some.injEq] at hp
    subst hp
    obtain ⟨q, _⟩ := h.obj o _ ho
    have hs := hs o (by simp [seenC]) _ _ _ ho
    cases q with
    | nil =>
      obtain rfl : n = 0 := by simp at hl; omega
      have := RepP.sl (I := I) (w := w) (A := A) (cap := cap) (z := z) (l := []) (fun _ _ => undef) hcap hmax hnil hsp (fun i r h => by simp at h) (fun a _ i r j x h => by simp at h) (fun i r j x h => by simp at h)
      simpa using this
    | arr e vs h1 h2 h3 h4 h5 h6 h7 =>
      have hlen : ((rows.drop lo).take n).length = n := by simp; omega
      have hrow : ∀ (i : Nat) (r : List PV), ((rows.drop lo).take n)[i]? = some r → i < n ∧ rows[lo + i]? = some r := by
        intro i r hr
        rw [List.getElem?_take] at hr
        split at hr
        · rw [List.getElem?_drop] at hr
          exact ⟨by assumption, hr⟩
        · cases hr
      have := RepP.sl (I := I) (w := w) (A := A) (cap := cap) (z := z) (l := (rows.drop lo).take n) (fun i j => (vs[(lo + i) * z + j]?).getD undef)
        (by omega) hmax hnil hsp (fun i r hr => h4 _ r (hrow i r hr).2)
        (fun a ha i r j x hr hx => by
          obtain ⟨hi, hr'⟩ := hrow i r hr
          have hj : j < z := by rw [← h4 _ _ hr']; exact (List.getElem?_eq_some_iff.1 hx).1
          have hlt : (lo + i) * z + j < rows.length * z := at_lt (List.getElem?_eq_some_iff.1 hr').1 hj
          have hA' := hA (by omega)
          rw [ha] at hA'
          cases hA'
          have e1 : lo * z + (i * z + j) = (lo + i) * z + j := by rw [Nat.add_mul]; omega
          simp only [e1]
          refine ⟨hs _ hlt, ?_⟩
          rw [cell_of_row w _ _ vs e (0, 0) h1, Array.getElem?_eq_getElem (Nat.lt_of_lt_of_le hlt h2)]
          rfl)
        (fun i r j x hr hx => by
          obtain ⟨hi, hr'⟩ := hrow i r hr
          have hj : j < z := by rw [← h4 _ _ hr']; exact (List.getElem?_eq_some_iff.1 hx).1
          have hlt : (lo + i) * z + j < rows.length * z := at_lt (List.getElem?_eq_some_iff.1 hr').1 hj
          refine RepP.mono hI (fun _ _ _ => rfl) (h5 (lo + i) r j x _ hr' hx ?_)
          rw [Array.getElem?_eq_getElem (Nat.lt_of_lt_of_le hlt h2)]
          rfl)
      rw [hlen] at this
      exact this
end
end Go.Proofs.YtjhljcnjafbkfaaDoor.X
end
section
set_option linter.unusedVariables false
namespace Go.Proofs.YtjhljcnjafbkfaaDoor.X
open Go.RowKit
theorem flat_one {v : Value} (h : flatV v = true) : v.oneCell' = true := by cases v <;> first | rfl | simp [flatV] at h
theorem RepP.cells {I : Nat → Nat → Prop} {w : World} {a : Addr} {n cap z : Nat} {l : List (List PV)} (h : RepP I w (.slice (some a) n cap) (.sl z l)) :
    n = l.length ∧ a.spot = none ∧ ∃ cs : List Value, cs.length = l.length * z ∧ (∀ (j : Nat) (v : Value), cs[j]? = some v → I a.block (a.off + j) ∧ w.cell? (a.add j) = some v) ∧ (∀ v ∈ cs, v.oneCell' = true) ∧
      ∀ (i : Nat) (r : List PV) (j : Nat) (x : PV), l[i]? = some r → r[j]? = some x → ∃ v, cs[i * z + j]? = some v ∧ RepP I w v x := by
  cases h with
  | sl f h1 h2 h3 h4 h5 h6 h7 =>
    refine ⟨rfl, h4 a rfl, (List.range (l.length * z)).map (fun k => f (k / z) (k % z)), by simp, ?_, ?_, ?_⟩
    · intro j v hv
      simp only [List.getElem?_map, Option.map_eq_some_iff] at hv
      obtain ⟨k, hk, rfl⟩ := hv
      obtain ⟨hlt, he⟩ := List.getElem?_eq_some_iff.1 hk
      simp only [List.length_range] at hlt
      simp only [List.getElem_range] at he
      subst he
      have hz : 0 < z := Nat.pos_of_ne_zero fun h => by subst h; simp at hlt
      have hi : j / z < l.length := (Nat.div_lt_iff_lt_mul hz).2 hlt
      have hr : l[j / z]? = some l[j / z] := List.getElem?_eq_getElem hi
      have hm : j % z < l[j / z].length := by rw [h5 _ _ hr]; exact Nat.mod_lt _ hz
      have hx : l[j / z][j % z]? = some l[j / z][j % z] := List.getElem?_eq_getElem hm
      have e : j / z * z + j % z = j := by rw [Nat.mul_comm]; exact Nat.div_add_mod j z
      have := h6 a rfl _ _ _ _ hr hx
      rw [e] at this
      refine ⟨this.1, ?_⟩
      have ha : a.add j = ⟨a.block, a.off + j, none⟩ := by
        have hs := h4 a rfl
        obtain ⟨b, o, s⟩ := a
        subst hs
        exact Addr.add_lit b o j
      rw [ha]
      exact this.2
    · intro v hv
      obtain ⟨k, hk, rfl⟩ := List.mem_map.1 hv
      have hlt : k < l.length * z := List.mem_range.1 hk
      have hz : 0 < z := Nat.pos_of_ne_zero fun h => by subst h; simp at hlt
      have hi : k / z < l.length := (Nat.div_lt_iff_lt_mul hz).2 hlt
      have hr : l[k / z]? = some l[k / z] := List.getElem?_eq_getElem hi
      have hm : k % z < l[k / z].length := by rw [h5 _ _ hr]; exact Nat.mod_lt _ hz
      exact flat_one (h7 _ _ _ _ hr (List.getElem?_eq_getElem hm)).flat
    · intro i r j x hr hx
      have hi := (List.getElem?_eq_some_iff.1 hr).1
      have hj : j < z := by rw [← h5 _ _ hr]; exact (List.getElem?_eq_some_iff.1 hx).1
      have hz : 0 < z := by omega
      refine ⟨f i j, ?_, h7 i r j x hr hx⟩
      rw [List.getElem?_map, List.getElem?_range (at_lt hi hj)]
      have h1 : (i * z + j) / z = i := by rw [Nat.mul_comm, Nat.mul_add_div hz, Nat.div_eq_of_lt hj, Nat.add_zero]
      have h2 : (i * z + j) % z = j := by rw [Nat.mul_comm, Nat.mul_add_mod, Nat.mod_eq_of_lt hj]
      simp [h1, h2]
theorem RepP.z {I : Nat → Nat → Prop} {w : World} {v : Value} {z : Nat} {l : List (List PV)} (h : RepP I w v (.sl z l)) : ∀ (i : Nat) (r : List PV), l[i]? = some r → r.length = z := by
  cases h with
  | sl f h1 h2 h3 h4 h5 => exact h5
theorem RepP.ofCells {I : Nat → Nat → Prop} {w : World} {b o cap z : Nat} {l : List (List PV)} (cs : List Value) (hc : cs.length = l.length * z)
    (h : ∀ (j : Nat) (v : Value), cs[j]? = some v → I b (o + j) ∧ w.cell? ⟨b, o + j, none⟩ = some v) (hcap : l.length ≤ cap) (hmax : cap ≤ maxLen)
    (hz : ∀ (i : Nat) (r : List PV), l[i]? = some r → r.length = z)
    (hR : ∀ (i : Nat) (r : List PV) (j : Nat) (x : PV), l[i]? = some r → r[j]? = some x → ∃ v, cs[i * z + j]? = some v ∧ RepP I w v x) :
    RepP I w (.slice (some ⟨b, o, none⟩) l.length cap) (.sl z l) := by
  refine .sl (fun i j => (cs[i * z + j]?).getD undef) hcap hmax (by simp) (fun a ha => by cases ha; rfl) hz (fun a ha i r j x hr hx => ?_) fun i r j x hr hx => ?_
  · cases ha
    obtain ⟨v, hv, _⟩ := hR i r j x hr hx
    obtain ⟨p, q⟩ := h _ v hv
    exact ⟨p, by rw [q, hv]; rfl⟩
  · obtain ⟨v, hv, q⟩ := hR i r j x hr hx
    rw [hv]
    exact q
theorem rows_append {I : Nat → Nat → Prop} {w : World} {z : Nat} {l l' : List (List PV)} {cs cs' : List Value} (hc : cs.length = l.length * z)
    (h : ∀ (i : Nat) (r : List PV) (j : Nat) (x : PV), l[i]? = some r → r[j]? = some x → ∃ v, cs[i * z + j]? = some v ∧ RepP I w v x)
    (h' : ∀ (i : Nat) (r : List PV) (j : Nat) (x : PV), l'[i]? = some r → r[j]? = some x → ∃ v, cs'[i * z + j]? = some v ∧ RepP I w v x)
    (hz : ∀ (i : Nat) (r : List PV), l[i]? = some r → r.length = z) :
    ∀ (i : Nat) (r : List PV) (j : Nat) (x : PV), (l ++ l')[i]? = some r → r[j]? = some x → ∃ v, (cs ++ cs')[i * z + j]? = some v ∧ RepP I w v x := by
  intro i r j x hr hx
  rw [List.getElem?_append] at hr
  split at hr
  · obtain ⟨v, hv, q⟩ := h i r j x hr hx
    refine ⟨v, ?_, q⟩
    rw [List.getElem?_append_left (List.getElem?_eq_some_iff.1 hv).1]
    exact hv
  · rename_i hge
    obtain ⟨v, hv, q⟩ := h' _ r j x hr hx
    refine ⟨v, ?_, q⟩
    have e : i * z + j = l.length * z + ((i - l.length) * z + j) := by
      have : i = l.length + (i - l.length) := by omega
      conv => lhs; rw [this]
      rw [Nat.add_mul]
      omega
    rw [e, ← hc, List.getElem?_append_right (by omega), Nat.add_sub_cancel_left]
    exact hv
theorem len_append {z : Nat} {l l' : List (List PV)} (hz : ∀ (i : Nat) (r : List PV), l[i]? = some r → r.length = z) (hz' : ∀ (i : Nat) (r : List PV), l'[i]? = some r → r.length = z) :
    ∀ (i : Nat) (r : List PV), (l ++ l')[i]? = some r → r.length = z := by
  intro i r hr
  rw [List.getElem?_append] at hr
  split at hr
  · exact hz _ _ hr
  · exact hz' _ _ hr
section
variable {P : Program} {w : World}
theorem append_room (t ty e e' : TypeId) (i : TypeInfo) (ht : P.underlying t = some (.slice e)) (hi : P.info? e = some i)
    (g sLen sCap : Nat) (cur : Array Value) (hg : w.heap[g]? = some (.cells cur e' (0, 0)))
    (a : Addr) (m c : Nat) (news : List Value) (hl : news.length = m * i.size) (hnews : ∀ j u, news[j]? = some u → w.cell? (a.add j) = some u) (h1 : ∀ u ∈ news, u.oneCell' = true)
    (hroom : sLen + m ≤ sCap) (hfit : sLen * i.size + news.length ≤ cur.size) :
    (Builtin.append_ #[t, t] ty #[.slice (some ⟨g, 0, none⟩) sLen sCap, .slice (some a) m c]).run P w =
      .ok (.slice (some ⟨g, 0, none⟩) (sLen + m) sCap) (w.setRow g (cur.toList.take (sLen * i.size) ++ news ++ cur.toList.drop (sLen * i.size + news.length)).toArray) := by
  have hf := run_firstCells_some (P := P) w i.size m a m c news hl hnews
  have hst := run_storeCells_at P g (sLen * i.size) e' news 0 cur w hg (by simpa using hfit) h1
  simp only [Nat.add_zero] at hst
  simp [Builtin.append_, run_underlying ht, sizeOf, typeInfo, hi, Builtin.lenOf, hroom, hf, Addr.add_lit, hst]
theorem append_none (t ty e : TypeId) (i : TypeInfo) (ht : P.underlying t = some (.slice e)) (hi : P.info? e = some i)
    (A : Option Addr) (n cap : Nat) (hn : n ≤ cap) (A' : Option Addr) (c : Nat) :
    (Builtin.append_ #[t, t] ty #[.slice A n cap, .slice A' 0 c]).run P w = .ok (.slice A n cap) w := by
  cases A <;> cases A' <;> simp [Builtin.append_, run_underlying ht, sizeOf, typeInfo, hi, Builtin.lenOf, hn, Builtin.firstCells, loadCells, loadCellsFrom, storeCells]
end
end Go.Proofs.YtjhljcnjafbkfaaDoor.X
end
section
set_option linter.unusedVariables false
namespace Go.Proofs.YtjhljcnjafbkfaaDoor.X
open Go.RowKit
section
variable {G : Nat → Option (List PV)} {B : Blk} {base : Nat} {g g' : Gh} {w w' : World} {ob ob' : ObF} {rt rt' : RtF} {nx nx' : Nat}
def given (g : Gh) (I' : Nat → Nat → Prop) (nx : Nat) (v' : Value) (z : Nat) (bo : Option Nat) : Gh := { I := I', φ := g.φ, γ := upd g.γ nx (v', z), β := upd g.β nx bo }
theorem rt_old {n m : Nat} (hm : m < nx) (ht : upd (upd rt n false) nx true m = true) : m ≠ n ∧ rt m = true := by
  rw [upd_ne _ _ (by omega)] at ht
  by_cases e : m = n
  · subst e
    rw [upd_same] at ht
    cases ht
  · rw [upd_ne _ _ e] at ht
    exact ⟨e, ht⟩
theorem RelM.right (h : RelM G g w ob rt nx B) (hb : ∀ o, (ob o).isSome → o < base) (n : Nat) (I' : Nat → Nat → Prop) (w' : World) (v' : Value) (z : Nat) (bo : Option Nat)
    (h1 : Keep B w w') (h2 : ∀ b i, g.I b i → I' b i) (h3 : ∀ b i, B b → I' b i → g.I b i) (h4 : ∀ b i, g.I b i → w'.cell? ⟨b, i, none⟩ = w.cell? ⟨b, i, none⟩)
    (h5 : ∀ b, b < w.heap.size → bo ≠ some b → w'.heap[b]? = w.heap[b]? ∧ ∀ i, I' b i → g.I b i)
    (h6 : ∀ b, bo = some b → (∀ o x, ob o = some x → x.solid → g.φ o ≠ b) ∧ ∀ m, m ≠ 0 → m < nx → rt m = true → m ≠ n → g.β m ≠ some b)
    (h7 : OwnR (given g I' nx v' z bo) w' ob B nx) (h8 : ∀ b i, I' b i → b < w'.heap.size) :
    Ext B base g w ob rt nx (given g I' nx v' z bo) w' ob (upd (upd rt n false) nx true) (nx + 1) ∧ RelM G (given g I' nx v' z bo) w' ob (upd (upd rt n false) nx true) (nx + 1) B := by
  have hE : Ext B base g w ob rt nx (given g I' nx v' z bo) w' ob (upd (upd rt n false) nx true) (nx + 1) :=
    ⟨h1, h2, h3, h4, fun o x _ hx => ⟨x, hx, .refl x⟩, fun _ _ _ => rfl, fun m hm ht => ⟨(rt_old hm ht).2, upd_ne _ _ (by omega)⟩, Nat.le_succ _⟩
  refine ⟨hE, { pos := Nat.succ_pos _, glob := fun k cs hk => (h.glob k cs hk).ext hE, size := fun b hb => Nat.lt_of_lt_of_le (h.size b hb) h1.size, obj := ?_, inj := h.inj, own := ?_, apart := ?_, bnd := h8 }⟩
  · intro o x hx
    obtain ⟨q, r⟩ := h.obj o x hx
    have hne : x.solid → bo ≠ some (g.φ o) := fun hs e => (h6 _ e).1 o x hx hs rfl
    exact ⟨q.ext hE hb (fun hs => (h5 _ (q.lt hs) (hne hs)).1) (fun hs => (h5 _ (q.lt hs) (hne hs)).2), r⟩
  · intro m m0 hm ht
    by_cases e : m = nx
    · exact e ▸ h7
    · obtain ⟨hmn, hmt⟩ := rt_old (by omega) ht
      have k := h.own m m0 (by omega) hmt
      refine k.ext (upd_ne _ _ e) (upd_ne _ _ e) fun b hβ => ?_
      have hne : bo ≠ some b := fun e' => (h6 b e').2 m m0 (by omega) hmt hmn hβ
      obtain ⟨a, c⟩ := h5 b (k.lt hβ).1 hne
      refine ⟨a, c, ?_⟩
      cases k with
      | full A k z h hb' => rw [hb'] at hβ; cases hβ
      | own b' len cap z e cur h hb' hB q1 q2 q3 q4 q5 q6 =>
        rw [hb'] at hβ
        cases hβ
        exact q6
  · intro p q b p0 q0 hp hq tp tq bp bq
    have old : ∀ p, p ≠ nx → p < nx + 1 → upd (upd rt n false) nx true p = true → p < nx ∧ p ≠ n ∧ rt p = true := by
      intro p hpn hp tp
      have hlt : p < nx := by omega
      exact ⟨hlt, rt_old hlt tp⟩
    by_cases e1 : p = nx <;> by_cases e2 : q = nx
    · rw [e1, e2]
    · obtain ⟨hlt, hne, ht⟩ := old q e2 hq tq
      simp only [given, e1, upd_same, upd_ne _ _ e2] at bp bq
      exact absurd bq ((h6 b bp).2 q q0 hlt ht hne)
    · obtain ⟨hlt, hne, ht⟩ := old p e1 hp tp
      simp only [given, e2, upd_same, upd_ne _ _ e1] at bp bq
      exact absurd bp ((h6 b bq).2 p p0 hlt ht hne)
    · obtain ⟨hlt, hne, ht⟩ := old p e1 hp tp
      obtain ⟨hlt', hne', ht'⟩ := old q e2 hq tq
      simp only [given, upd_ne _ _ e1, upd_ne _ _ e2] at bp bq
      exact h.apart p q b p0 q0 hlt hlt' ht ht' bp bq
theorem RelC.slice {n z : Nat} {v : Value} {l : List (List PV)} (k : RelC g w ob rt nx v (.p (some n) (.sl z l))) :
    RepP g.I w v (.sl z l) ∧ (n = 0 → ∃ A k, v = .slice A k k) ∧ (n ≠ 0 → n < nx ∧ (rt n = true → g.γ n = (v, z))) := by
  cases k with
  | p0 k => exact ⟨k, fun _ => ⟨_, _, rfl⟩, fun h => absurd rfl h⟩
  | pn h0 h1 k hg => exact ⟨k, fun h => absurd h h0, fun _ => ⟨h1, hg⟩⟩
theorem append_step {P : Program} (t ty e : TypeId) (i : TypeInfo) (zz : Value) (ht : P.underlying t = some (.slice e)) (hi : P.info? e = some i) (hzv : i.zero = some zz)
    {z : Nat} (hsz : i.size = z) (h0 : 0 < z) (hzz : zz.cells.size = z) (hby : i.bytes ≤ 4096)
    (h : RelM G g w ob rt nx B) (hb : ∀ o, (ob o).isSome → o < base) {n : Nat} {v u : Value} {l l' : List (List PV)}
    (k : RelC g w ob rt nx v (.p (some n) (.sl z l))) (hn : n = 0 ∨ rt n = true) (k' : RepP g.I w u (.sl z l')) (hlen : l.length + l'.length ≤ 16777216) :
    ∃ v' w' g', (Builtin.append_ #[t, t] ty #[v, u]).run P w = .ok v' w' ∧
      Ext B base g w ob rt nx g' w' ob (upd (upd rt n false) nx true) (nx + 1) ∧ RelM G g' w' ob (upd (upd rt n false) nx true) (nx + 1) B ∧
      RelC g' w' ob (upd (upd rt n false) nx true) (nx + 1) v' (.p (some nx) (.sl z (l ++ l'))) := by
  obtain ⟨kr, kf, kn⟩ := k.slice
  have hnx := h.pos
  -- the two slices
  obtain ⟨A, cap, rfl, hcap, hmax, hnil⟩ : ∃ A cap, v = .slice A l.length cap ∧ l.length ≤ cap ∧ cap ≤ maxLen ∧ (A = none → cap = 0) := by
    cases kr with
    | sl f h1 h2 h3 => exact ⟨_, _, rfl, h1, h2, h3⟩
  obtain ⟨A', cap', rfl, hcap', hnil'⟩ : ∃ A cap, u = .slice A l'.length cap ∧ l'.length ≤ cap ∧ (A = none → cap = 0) := by
    cases k' with
    | sl f h1 h2 h3 => exact ⟨_, _, rfl, h1, h3⟩
  have hown : n ≠ 0 → n < nx ∧ rt n = true ∧ g.γ n = (.slice A l.length cap, z) ∧ OwnR g w ob B n := by
    intro hne
    obtain ⟨a, b⟩ := kn hne
    have ht := hn.resolve_left hne
    exact ⟨a, ht, b ht, h.own n hne a ht⟩
  have hnew : ∀ v' : Value, upd (upd rt n false) nx true nx = true → (given g g.I nx v' z none).γ nx = (v', z) := fun v' _ => upd_same _ _ _
  by_cases hm : l'.length = 0
  · -- nothing is appended
    have hl' : l' = [] := List.eq_nil_of_length_eq_zero hm
    subst hl'
    refine ⟨_, w, given g g.I nx (.slice A l.length cap) z (if n = 0 then none else g.β n), append_none t ty e i ht hi A _ cap hcap A' cap', ?_⟩
    obtain ⟨hE, hM⟩ := h.right hb n g.I w (.slice A l.length cap) z (if n = 0 then none else g.β n) (Keep.refl B w) (fun _ _ q => q) (fun _ _ _ q => q) (fun _ _ _ => rfl)
      (fun _ _ _ => ⟨rfl, fun _ q => q⟩) (fun b hbo => by
        by_cases hne : n = 0
        · simp [hne] at hbo
        · simp only [hne, if_false] at hbo
          obtain ⟨a, c, d, k⟩ := hown hne
          refine ⟨?_, fun m m0 hm ht hmn hβ => hmn (h.apart m n b m0 hne hm a ht c hβ hbo)⟩
          cases k with
          | full A k z h hb' => rw [hb'] at hbo; cases hbo
          | own b' len cap z e cur h hb' hB q1 q2 q3 q4 q5 q6 =>
            rw [hb'] at hbo
            cases hbo
            exact q6)
      (by
        by_cases hne : n = 0
        · obtain ⟨A2, k2, e2⟩ := kf hne
          cases e2
          exact .full A l.length z (upd_same _ _ _) (by simp [given, hne, upd_same])
        · obtain ⟨a, c, d, k⟩ := hown hne
          cases k with
          | full A2 k2 z2 h2 hb' =>
            rw [d] at h2
            cases h2
            exact .full _ _ z (upd_same _ _ _) (by simp [given, hne, upd_same, hb'])
          | own b' len2 cap2 z2 e2 cur h2 hb' hB q1 q2 q3 q4 q5 q6 =>
            rw [d] at h2
            cases h2
            exact .own b' _ _ z e2 cur (upd_same _ _ _) (by simp [given, hne, upd_same, hb']) hB q1 q2 q3 q4 q5 q6)
      h.bnd
    refine ⟨hE, hM, ?_⟩
    rw [List.append_nil]
    exact .pn (by omega) (by omega) (kr.ext hE) fun _ => upd_same _ _ _
  · have hm0 : 0 < l'.length := Nat.pos_of_ne_zero hm
    obtain ⟨a', rfl⟩ : ∃ a, A' = some a := by
      cases A' with
      | none => have := hnil' rfl; omega
      | some a => exact ⟨a, rfl⟩
    obtain ⟨_, _, news, hnl, hnc, hn1, hnr⟩ := k'.cells
    by_cases hroom : l.length + l'.length ≤ cap
    · -- into the room that is there
      have hne : n ≠ 0 := by
        intro e0
        obtain ⟨A2, k2, e2⟩ := kf e0
        cases e2
        omega
      obtain ⟨ha, hc, hd, ho⟩ := hown hne
      cases ho with
      | full A2 k2 z2 h2 hb' =>
        rw [hd] at h2
        cases h2
        omega
      | own b len2 cap2 z2 e2 cur h2 hb' hB q1 q2 q3 q4 q5 q6 =>
        rw [hd] at h2
        cases h2
        have hnews : ∀ j u, news[j]? = some u → w.cell? (a'.add j) = some u := fun j u hu => (hnc j u hu).2
        have hfit : l.length * i.size + news.length ≤ cur.size := by
          rw [hsz, hnl, q4, ← Nat.add_mul]
          exact Nat.mul_le_mul_right _ hroom
        have hr := append_room (P := P) (w := w) t ty e e2 i ht hi b l.length cap cur q1 a' l'.length cap' news (by rw [hnl, hsz]) hnews hn1 hroom hfit
        rw [hsz] at hr hfit
        obtain ⟨_, _, olds, hol, hoc, ho1, hor⟩ := kr.cells
        have hbs : b < w.heap.size := (Array.getElem?_eq_some_iff.1 q1).1
        have hcl : cur.toList.length = cur.size := Array.length_toList
        have hrow := setRow_heap w b cur (cur.toList.take (l.length * z) ++ news ++ cur.toList.drop (l.length * z + news.length)).toArray e2 (0, 0) q1
        have hcellOld : ∀ c i, c ≠ b → (w.setRow b (cur.toList.take (l.length * z) ++ news ++ cur.toList.drop (l.length * z + news.length)).toArray).cell? ⟨c, i, none⟩ = w.cell? ⟨c, i, none⟩ :=
          fun c i hcb => World.cell?_of_block (w := w) (a := ⟨c, i, none⟩) (setRow_other w b c _ hcb)
        have hcellB : ∀ i, i < l.length * z → (w.setRow b (cur.toList.take (l.length * z) ++ news ++ cur.toList.drop (l.length * z + news.length)).toArray).cell? ⟨b, i, none⟩ = w.cell? ⟨b, i, none⟩ := by
          intro i hi
          rw [cell_of_row _ b i _ e2 (0, 0) hrow, cell_of_row w b i cur e2 (0, 0) q1, List.getElem?_toArray, List.append_assoc,
            List.getElem?_append_left (by rw [List.length_take, hcl]; omega), List.getElem?_take, if_pos hi, Array.getElem?_toList]
        have hcellN : ∀ j, j < news.length → (w.setRow b (cur.toList.take (l.length * z) ++ news ++ cur.toList.drop (l.length * z + news.length)).toArray).cell? ⟨b, l.length * z + j, none⟩ = news[j]? := by
          intro j hj
          have hlt : (cur.toList.take (l.length * z)).length = l.length * z := by rw [List.length_take, hcl]; omega
          rw [cell_of_row _ b _ _ e2 (0, 0) hrow, List.getElem?_toArray, List.append_assoc, List.getElem?_append_right (by omega), hlt, Nat.add_sub_cancel_left, List.getElem?_append_left hj]
        obtain ⟨hE, hM⟩ := h.right hb n (fun c j => g.I c j ∨ (c = b ∧ j < (l.length + l'.length) * z)) _ (.slice (some ⟨b, 0, none⟩) (l.length + l'.length) cap) z (some b)
          (⟨rfl, rfl, rfl, by simp, fun c hc => setRow_other w b c _ (fun e => hB (e ▸ hc))⟩ : Keep B w (w.setRow b (cur.toList.take (l.length * z) ++ news ++ cur.toList.drop (l.length * z + news.length)).toArray))
          (fun _ _ q => .inl q)
          (fun c j hcB q => by
            rcases q with q | ⟨rfl, _⟩
            · exact q
            · exact absurd hcB hB)
          (fun c j q => by
            by_cases hcb : c = b
            · subst hcb
              exact hcellB j (Nat.lt_of_not_le fun hle => q5 j hle q)
            · exact hcellOld c j hcb)
          (fun c hcs hne' => ⟨setRow_other w b c _ (fun e' => hne' (by rw [e'])), fun j q => by
            rcases q with q | ⟨rfl, _⟩
            · exact q
            · exact absurd rfl hne'⟩)
          (fun c hc' => by
            cases hc'
            exact ⟨q6, fun m m0 hm' ht' hmn hβ => hmn (h.apart m n b m0 hne hm' ha ht' hc hβ hb')⟩)
          (.own b _ cap z e2 _ (upd_same _ _ _) (upd_same _ _ _) hB hrow hroom q3
            (by simp only [List.size_toArray, List.length_append, List.length_take, List.length_drop, hcl]; omega)
            (fun j hj q => by
              rcases q with q | ⟨_, q⟩
              · refine q5 j ?_ q
                rw [Nat.add_mul] at hj
                omega
              · omega)
            q6)
          (fun c j q => by
            rcases q with q | ⟨rfl, _⟩
            · simpa using h.bnd c j q
            · simpa using hbs)
        refine ⟨_, _, _, hr, hE, hM, .pn (by omega) (by omega) ?_ fun _ => upd_same _ _ _⟩
        have := RepP.ofCells (I := (given g (fun c j => g.I c j ∨ (c = b ∧ j < (l.length + l'.length) * z)) nx (.slice (some ⟨b, 0, none⟩) (l.length + l'.length) cap) z (some b)).I)
          (w := w.setRow b (cur.toList.take (l.length * z) ++ news ++ cur.toList.drop (l.length * z + news.length)).toArray) (b := b) (o := 0) (cap := cap) (z := z) (l := l ++ l') (olds ++ news)
          (by rw [List.length_append, hol, hnl, List.length_append, Nat.add_mul])
          (fun j v hv => by
            have hlt : j < (olds ++ news).length := (List.getElem?_eq_some_iff.1 hv).1
            rw [List.length_append, hol, hnl, ← Nat.add_mul] at hlt
            simp only [Nat.zero_add]
            refine ⟨.inr ⟨rfl, hlt⟩, ?_⟩
            rw [List.getElem?_append] at hv
            split at hv
            · rename_i hjo
              rw [hcellB j (by omega)]
              have := (hoc j v hv).2
              rwa [Addr.add_lit, Nat.zero_add] at this
            · rename_i hjo
              have := hcellN (j - olds.length) (List.getElem?_eq_some_iff.1 hv).1
              rw [hv, hol, Nat.add_sub_cancel' (by omega)] at this
              exact this)
          (by rw [List.length_append]; exact hroom) q3 (len_append kr.z k'.z)
          (rows_append hol (fun i r j x hr hx => by
            obtain ⟨v, hv, q⟩ := hor i r j x hr hx
            exact ⟨v, hv, q.ext hE⟩) (fun i r j x hr hx => by
            obtain ⟨v, hv, q⟩ := hnr i r j x hr hx
            exact ⟨v, hv, q.ext hE⟩) kr.z)
        rw [List.length_append] at this
        exact this
    · -- a new block
      have hneed : l.length + l'.length ≤ maxLen := by simp only [maxLen]; omega
      have hnews : ∀ j u, news[j]? = some u → w.cell? (a'.add j) = some u := fun j u hu => (hnc j u hu).2
      have hbytes : (l.length + l'.length) * i.bytes ≤ 140737488355328 := Nat.le_trans (Nat.mul_le_mul hlen hby) (by decide)
      obtain ⟨olds, hol, ho1, hor, hr⟩ : ∃ olds : List Value, olds.length = l.length * z ∧ True ∧
          (∀ (i : Nat) (r : List PV) (j : Nat) (x : PV), l[i]? = some r → r[j]? = some x → ∃ v, olds[i * z + j]? = some v ∧ RepP g.I w v x) ∧
          (Builtin.append_ #[t, t] ty #[.slice A l.length cap, .slice (some a') l'.length cap']).run P w =
            .ok (.slice (some ⟨w.heap.size, 0, none⟩) (l.length + l'.length) (grownCap w (l.length + l'.length) cap e))
              (w.drew.alloc (.cells (olds.toArray ++ news.toArray ++ Builtin.zeroCells zz.cells (grownCap w (l.length + l'.length) cap e - (l.length + l'.length))) e)) := by
        cases A with
        | none =>
          have hc0 := hnil rfl
          have hl0 : l.length = 0 := by omega
          have hl : l = [] := List.eq_nil_of_length_eq_zero hl0
          subst hl
          subst hc0
          refine ⟨[], by simp, trivial, fun i r j x hr => by simp at hr, ?_⟩
          have := run_append_nil (P := P) w t ty e i zz ht hi hzv a' l'.length cap' news (by rw [hnl, hsz]) hnews hm0 (by simp only [maxLen] at hneed; simp at hneed; omega) (by simp at hbytes; omega)
          simpa using this
        | some a =>
          obtain ⟨_, _, olds, hol, hoc, ho1, hor⟩ := kr.cells
          exact ⟨olds, hol, trivial, hor, run_append_grow (P := P) w t ty e i zz ht hi hzv a l.length cap olds (by rw [hol, hsz]) (fun j u hu => (hoc j u hu).2) a' l'.length cap' news (by rw [hnl, hsz]) hnews
            (by omega) (by simp only [maxLen] at hneed; omega) (growslice_fits (by omega) hbytes)⟩
      have hge := grownCap_ge w (l.length + l'.length) cap e
      have hle := grownCap_le_maxLen w (l.length + l'.length) cap e hneed
      have hcell : ∀ j, (w.drew.alloc (.cells (olds.toArray ++ news.toArray ++ Builtin.zeroCells zz.cells (grownCap w (l.length + l'.length) cap e - (l.length + l'.length))) e)).cell? ⟨w.heap.size, j, none⟩ =
          (olds.toArray ++ news.toArray ++ Builtin.zeroCells zz.cells (grownCap w (l.length + l'.length) cap e - (l.length + l'.length)))[j]? :=
        fun j => World.cell?_alloc_new w.drew _ e j
      have hheap : (w.drew.alloc (.cells (olds.toArray ++ news.toArray ++ Builtin.zeroCells zz.cells (grownCap w (l.length + l'.length) cap e - (l.length + l'.length))) e)).heap[w.heap.size]? =
          some (.cells (olds.toArray ++ news.toArray ++ Builtin.zeroCells zz.cells (grownCap w (l.length + l'.length) cap e - (l.length + l'.length))) e) := heap_alloc_new w.drew _
      obtain ⟨hE, hM⟩ := h.right hb n (fun c j => g.I c j ∨ (c = w.heap.size ∧ j < (l.length + l'.length) * z)) _
        (.slice (some ⟨w.heap.size, 0, none⟩) (l.length + l'.length) (grownCap w (l.length + l'.length) cap e)) z (some w.heap.size)
        ((Keep.refl B w).drew.alloc h.size (.cells (olds.toArray ++ news.toArray ++ Builtin.zeroCells zz.cells (grownCap w (l.length + l'.length) cap e - (l.length + l'.length))) e))
        (fun _ _ q => .inl q)
        (fun c j hcB q => by
          rcases q with q | ⟨rfl, _⟩
          · exact q
          · exact absurd (h.size _ hcB) (Nat.lt_irrefl _))
        (fun c j q => World.cell?_alloc_lt w.drew _ _ (h.bnd c j q))
        (fun c hcs hne' => ⟨heap_alloc_old w.drew _ c hcs, fun j q => by
          rcases q with q | ⟨rfl, _⟩
          · exact q
          · exact absurd rfl hne'⟩)
        (fun c hc' => by
          cases hc'
          refine ⟨fun o x hx hs => ?_, fun m m0 hm' ht' hmn hβ => absurd ((h.own m m0 hm' ht').lt hβ).1 (Nat.lt_irrefl _)⟩
          have := (h.obj o x hx).1.lt hs
          omega)
        (.own w.heap.size _ _ z e _ (upd_same _ _ _) (upd_same _ _ _) (fun hB => absurd (h.size _ hB) (Nat.lt_irrefl _)) hheap hge hle
          (by
            simp only [Array.size_append, List.size_toArray, size_zeroCells, hzz, hol, hnl, ← Nat.add_mul]
            congr 1
            omega)
          (fun j hj q => by
            rcases q with q | ⟨_, q⟩
            · exact absurd (h.bnd _ j q) (Nat.lt_irrefl _)
            · omega)
          (fun o x hx hs => by
            have := (h.obj o x hx).1.lt hs
            show g.φ o ≠ _
            omega))
        (fun c j q => by
          rcases q with q | ⟨rfl, _⟩
          · have := h.bnd c j q
            simp
            omega
          · simp)
      refine ⟨_, _, _, hr, hE, hM, .pn (by omega) (by omega) ?_ fun _ => upd_same _ _ _⟩
      have := RepP.ofCells (I := (given g (fun c j => g.I c j ∨ (c = w.heap.size ∧ j < (l.length + l'.length) * z)) nx (.slice (some ⟨w.heap.size, 0, none⟩) (l.length + l'.length) (grownCap w (l.length + l'.length) cap e)) z (some w.heap.size)).I)
        (w := w.drew.alloc (.cells (olds.toArray ++ news.toArray ++ Builtin.zeroCells zz.cells (grownCap w (l.length + l'.length) cap e - (l.length + l'.length))) e)) (b := w.heap.size) (o := 0)
        (cap := grownCap w (l.length + l'.length) cap e) (z := z) (l := l ++ l') (olds ++ news)
        (by rw [List.length_append, hol, hnl, List.length_append, Nat.add_mul])
        (fun j v hv => by
          have hlt : j < (olds ++ news).length := (List.getElem?_eq_some_iff.1 hv).1
          simp only [Nat.zero_add]
          refine ⟨.inr ⟨rfl, ?_⟩, ?_⟩
          · rwa [List.length_append, hol, hnl, ← Nat.add_mul] at hlt
          · rw [hcell, Array.getElem?_append_left (by simpa using hlt)]
            simpa using hv)
        (by rw [List.length_append]; exact hge) hle (len_append kr.z k'.z)
        (rows_append hol (fun i r j x hr hx => by
          obtain ⟨v, hv, q⟩ := hor i r j x hr hx
          exact ⟨v, hv, q.ext hE⟩) (fun i r j x hr hx => by
          obtain ⟨v, hv, q⟩ := hnr i r j x hr hx
          exact ⟨v, hv, q.ext hE⟩) kr.z)
      rw [List.length_append] at this
      exact this
end
end Go.Proofs.YtjhljcnjafbkfaaDoor.X
end
section
set_option linter.unusedVariables false
namespace Go.Proofs.YtjhljcnjafbkfaaDoor.X
open Go.RowKit
theorem mapM_at {α β : Type} {f : α → Option β} : ∀ {l : List α} {r : List β}, l.mapM f = some r → ∀ (i : Nat) (y : β), r[i]? = some y → ∃ x, l[i]? = some x ∧ f x = some y := by
  intro l
  induction l with
  | nil =>
    intro r h i y hy
    simp at h
    subst h
    simp at hy
  | cons a l ih =>
    intro r h i y hy
    simp only [List.mapM_cons, Option.pure_def, Option.bind_eq_bind, Option.bind_eq_some_iff, Option.some.injEq] at h
    obtain ⟨b, hb, bs, hbs, rfl⟩ := h
    cases i with
    | zero => simp at hy; subst hy; exact ⟨a, rfl, hb⟩
    | succ i => simp at hy; simpa using ih hbs i y hy
theorem mapM_map {α β γ : Type} {f : α → Option β} {g : α → Option γ} {h : β → γ} (hfg : ∀ x y, f x = some y → g x = some (h y)) : ∀ {l : List α} {r : List β}, l.mapM f = some r → l.mapM g = some (r.map h) := by
  intro l
  induction l with
  | nil =>
    intro r hr
    simp at hr
    subst hr
    simp
  | cons a l ih =>
    intro r hr
    simp only [List.mapM_cons, Option.pure_def, Option.bind_eq_bind, Option.bind_eq_some_iff, Option.some.injEq] at hr
    obtain ⟨b, hb, bs, hbs, rfl⟩ := hr
    simp [List.mapM_cons, hfg a b hb, ih hbs]
structure TiOk (P : Program) (t : TypeId) (ti : TI) : Prop where
  base : ∃ d i v, P.underlying t = some d ∧ P.info? t = some i ∧ i.size = ti.sz ∧ i.zero = some v ∧ zeroAll ti.zero v.cells.toList = true ∧ ti.zero.length = ti.sz ∧ descAgg d = ti.agg
  str : ti.kd = 1 → ∃ fs, P.underlying t = some (.struct fs) ∧ ∀ (i : Nat) y, ti.fs[i]? = some y → ∃ f : Field, fs[i]? = some f ∧ f.offset = y.1 ∧ szT P f.type = some y.2.1 ∧ aggT P f.type = some y.2.2.1 ∧ f.type = y.2.2.2
  places : ti.kd = 1 → ∀ fs, P.underlying t = some (.struct fs) → fs.toList.mapM (fun f => (P.info? f.type).map fun i => (f.offset, i.size)) = some (ti.fs.map fun y => (y.1, y.2.1))
  arr : ti.kd = 2 → P.underlying t = some (.array ti.len ti.e) ∧ ∃ j, P.info? ti.e = some j ∧ j.size = ti.esz ∧ j.bytes = ti.eby ∧ aggT P ti.e = some ti.eagg
  sli : ti.kd = 3 → P.underlying t = some (.slice ti.e) ∧ ∃ j, P.info? ti.e = some j ∧ j.size = ti.esz ∧ j.bytes = ti.eby ∧ aggT P ti.e = some ti.eagg
theorem tiOk {P : Program} {t : TypeId} {ti : TI} (h : tiOf P t = some ti) : TiOk P t ti := by
  unfold tiOf at h
  cases hd : P.underlying t with
  | none => simp [hd] at h
  | some d =>
    cases hi : P.info? t with
    | none => simp [hd, hi] at h
    | some i =>
      cases hz : zeroD P 12 t with
      | none => simp [hd, hi, hz] at h
      | some z =>
        simp only [hd, hi, hz] at h
        by_cases hc : (z.length == i.size && zeroOk z i.zero) = true
        · rw [if_pos hc] at h
          simp only [Bool.and_eq_true, beq_iff_eq] at hc
          obtain ⟨hc1, hc2⟩ := hc
          obtain ⟨v, hv, hva⟩ : ∃ v, i.zero = some v ∧ zeroAll z v.cells.toList = true := by
            cases hv : i.zero with
            | none => rw [hv] at hc2; cases hc2
            | some v => rw [hv] at hc2; exact ⟨v, rfl, hc2⟩
          cases d with
          | struct fs =>
            simp only [Option.map_eq_some_iff] at h
            obtain ⟨l, hl, rfl⟩ := h
            refine ⟨⟨_, i, v, hd, hi, rfl, hv, hva, hc1, rfl⟩, fun _ => ⟨fs, hd, fun k y hy => ?_⟩, fun _ fs' hd'' => ?_, (fun h => by cases h), (fun h => by cases h)⟩
            · obtain ⟨f, hf, hfy⟩ := mapM_at hl k y hy
              simp only [Option.bind_eq_some_iff, Option.map_eq_some_iff] at hfy
              obtain ⟨s, hs, a, ha, rfl⟩ := hfy
              exact ⟨f, by simpa using hf, rfl, hs, ha, rfl⟩
            · rw [hd] at hd''
              cases hd''
              refine mapM_map (fun f y hfy => ?_) hl
              simp only [Option.bind_eq_some_iff, Option.map_eq_some_iff] at hfy
              obtain ⟨s, hs, a, ha, rfl⟩ := hfy
              simp only [szT, Option.map_eq_some_iff] at hs
              obtain ⟨j, hj, rfl⟩ := hs
              simp [hj]
          | array n e =>
            simp only [Option.bind_eq_some_iff, Option.map_eq_some_iff] at h
            obtain ⟨j, hj, a, ha, rfl⟩ := h
            exact ⟨⟨_, i, v, hd, hi, rfl, hv, hva, hc1, rfl⟩, (fun h => by cases h), (fun h => by cases h), fun _ => ⟨hd, j, hj, rfl, rfl, ha⟩, fun h => by cases h⟩
          | slice e =>
            simp only [Option.bind_eq_some_iff, Option.map_eq_some_iff] at h
            obtain ⟨j, hj, a, ha, rfl⟩ := h
            exact ⟨⟨_, i, v, hd, hi, rfl, hv, hva, hc1, rfl⟩, (fun h => by cases h), (fun h => by cases h), (fun h => by cases h), fun _ => ⟨hd, j, hj, rfl, rfl, ha⟩⟩
          | _ =>
            cases h
            exact ⟨⟨_, i, v, hd, hi, rfl, hv, hva, hc1, rfl⟩, (fun h => by cases h), (fun h => by cases h), (fun h => by cases h), fun h => by cases h⟩
        · rw [if_neg hc] at h
          cases h
section
variable {E : Env} {B : Blk} {lim : Nat} {g g' : Gh} {w w' : World} {ob ob' : ObF} {rt rt' : RtF} {nx nx' : Nat}
theorem zero_fits {c : CV} {v : Value} (h : zeroFits c v = true) : RelC g w ob rt nx v c := by
  unfold zeroFits at h
  split at h
  all_goals first | (cases h; done) | skip
  · simp at h; subst h; exact .p (.sc rfl)
  · simp at h; obtain ⟨rfl, rfl⟩ := h; exact .p (.sc rfl)
  · rename_i a b
    have : a = b := by
      cases a; cases b
      simp at h
      simp [h]
    subst this
    exact .p (.sc rfl)
  · rename_i z
    exact .p0 (.sl (l := []) (A := none) (cap := 0) (fun _ _ => undef) (Nat.le_refl _) (Nat.zero_le _) (fun _ => rfl) (fun a h => by cases h) (fun i r h => by simp at h) (fun a h => by cases h) fun i r j x h => by simp at h)
  · exact .p (.sc rfl)
  · exact .p (.sc rfl)
  · exact .p (.sc rfl)
  · exact .p (.sc rfl)
theorem zero_all : ∀ {cs : List CV} {vs : List Value}, zeroAll cs vs = true → RelL g w ob rt nx vs.toArray cs
  | [], [], _ => ⟨rfl, fun j x v h => by simp at h⟩
  | c :: cs, v :: vs, h => by
    simp only [zeroAll, Bool.and_eq_true] at h
    obtain ⟨h1, h2⟩ := zero_all h.2
    refine ⟨by simpa using h1, fun j x u hx hu => ?_⟩
    cases j with
    | zero => simp at hx hu; subst hx; subst hu; exact zero_fits h.1
    | succ j => exact h2 j x u (by simpa using hx) (by simpa using hu)
  | [], _ :: _, h => by simp [zeroAll] at h
  | _ :: _, [], h => by simp [zeroAll] at h
structure Cur (E : Env) (B : Blk) (lim : Nat) (s : St) (g : Gh) (a : Act) (w : World) : Prop where
  mem : RelM E.G g w s.ob s.rt s.nx B
  lab : ∀ o, (s.ob o).isSome → o < lim
  tm : ∀ t, RelA g w s.ob s.rt s.nx (a.eval (.tmp t)) (s.tm t)
theorem nil_rep (z : Nat) : RelC g w ob rt nx (.slice none 0 0) (.p (some 0) (.sl z [])) :=
  .p0 (.sl (l := []) (A := none) (cap := 0) (fun _ _ => undef) (Nat.le_refl _) (Nat.zero_le _) (fun _ => rfl) (fun a h => by cases h) (fun i r h => by simp at h) (fun a h => by cases h) fun i r j x h => by simp at h)
theorem const_rep (v : Value) : RelA g w ob rt nx v (constV v) := by
  unfold constV
  split
  · exact .of (.one (nil_rep 0))
  · exact .of .no
  · exact .of .no
  · rename_i h1 h2 h3
    refine .of (.one (.p (.sc ?_)))
    cases v <;> first | rfl | exact absurd rfl (h2 _) | exact absurd rfl (h3 _)
theorem Cur.opd {s : St} {a : Act} (c : Cur E B lim s g a w) (x : Operand) : RelA g w s.ob s.rt s.nx (a.eval x) (evOpd E s.tm x) := by
  cases x with
  | tmp t => exact c.tm t
  | const v => exact const_rep v
  | global k =>
    simp only [evOpd, Act.eval]
    split
    · rename_i cs hk
      exact .of (.one (.p (c.mem.glob k cs hk)))
    · exact .of (.one (.p (.sc rfl)))
  | func f => exact .of (.one (.p (.fn rfl fun j x v h => by simp at h)))
theorem Cur.opT {s : St} {a : Act} (c : Cur E B lim s g a w) (t : TypeId) (x : Operand) : RelA g w s.ob s.rt s.nx (a.eval x) (opT E (evOpd E s.tm) t x) := by
  unfold X.opT
  split
  · rename_i h
    unfold isNilSl at h
    split at h
    · exact .of (.one (nil_rep _))
    · cases h
  · exact c.opd x
theorem scC_eq {v v' : Value} {c : CV} (h : RelC g w ob rt nx v c) (hc : scC c = some v') : v = v' := by
  cases h with
  | p h => cases h <;> simp [scC] at hc; exact hc
  | _ => simp [scC] at hc
theorem scL_eq : ∀ {cs : List CV} {vs' vs : List Value}, vs.length = cs.length → (∀ (j : Nat) x v, cs[j]? = some x → vs[j]? = some v → RelC g w ob rt nx v x) → scL cs = some vs' → vs = vs'
  | [], vs', vs, hl, _, hs => by
    simp [scL] at hs
    subst hs
    exact List.eq_nil_of_length_eq_zero hl
  | c :: cs, vs', [], hl, _, hs => by simp at hl
  | c :: cs, vs', v :: vs, hl, h, hs => by
    simp only [scL] at hs
    split at hs
    · rename_i x xs hx hxs
      cases hs
      have e1 := scC_eq (h 0 c v rfl rfl) hx
      have e2 := scL_eq (vs := vs) (by simpa using hl) (fun j y u hy hu => h (j + 1) y u (by simpa using hy) (by simpa using hu)) hxs
      rw [e1, e2]
    · cases hs
theorem valOf_eq {v v' : Value} {x : AT} (h : RelA g w ob rt nx v x) (hx : valOf x = some v') : v = v' := by
  cases h with
  | tup => simp [valOf] at hx
  | of h =>
    cases h with
    | no => simp [valOf] at hx
    | one h => exact scC_eq h hx
    | agg h =>
      simp only [valOf, Option.map_eq_some_iff] at hx
      obtain ⟨vs', hs, rfl⟩ := hx
      have := scL_eq (by rw [Array.length_toList]; exact h.1) (fun j x v hx hv => h.2 j x v hx (by simpa using hv)) hs
      rw [← this]
theorem atOfV_rep {v : Value} {x : AT} (h : atOfV v = some x) : RelA g w ob rt nx v x := by
  unfold atOfV at h
  split at h
  · rename_i cs
    split at h
    · rename_i hf
      cases h
      refine .of (.agg ⟨by simp, fun j x u hx hu => ?_⟩)
      simp only [List.getElem?_map, Option.map_eq_some_iff, Array.getElem?_toList] at hx
      obtain ⟨y, hy, rfl⟩ := hx
      rw [hu] at hy
      cases hy
      exact .p (.sc (List.all_eq_true.1 hf _ (Array.mem_toList_iff.2 (Array.mem_of_getElem? hu))))
    · cases h
  · cases h
  · rename_i h1 h2
    cases h
    refine .of (.one (.p (.sc ?_)))
    cases v <;> first | rfl | exact absurd rfl (h1 _) | exact absurd rfl (h2 _)
structure After (E : Env) (B : Blk) (lim : Nat) (s : St) (g : Gh) (w : World) (u : Upd) (v : Value) (g' : Gh) (w' : World) : Prop where
  ext : Ext B lim g w s.ob s.rt s.nx g' w' (apU none u s).ob (apU none u s).rt (apU none u s).nx
  mem : RelM E.G g' w' (apU none u s).ob (apU none u s).rt (apU none u s).nx B
  lab : ∀ o, ((apU none u s).ob o).isSome → o < lim
  val : RelA g' w' (apU none u s).ob (apU none u s).rt (apU none u s).nx v u.val
def OpOk (E : Env) (B : Blk) (lim : Nat) (s : St) (g : Gh) (a : Act) (w : World) (o : Oper) (u : Upd) : Prop :=
  ∀ (K : Act → World → Prop) (Q : Exit → Act → World → Prop), (∀ v g' w', After E B lim s g w u v g' w' → K (a.put o.dst v) w') → o.wp E.P a w K Q
theorem OpOk.value {s : St} {a : Act} {o : Oper} {u : Upd} {v : Value} (h : (execOp a.eval o).run E.P w = .ok (.value v) w') (k : After E B lim s g w u v g' w') : OpOk E B lim s g a w o u := by
  intro K Q hK
  unfold Oper.wp
  rw [h]
  exact hK v g' w' k
theorem OpOk.skip {s : St} {a : Act} {o : Oper} {u : Upd} (h : (execOp a.eval o).run E.P w = .ok .skip w') (k : After E B lim s g w u undef g' w') : OpOk E B lim s g a w o u := by
  intro K Q hK
  unfold Oper.wp
  rw [h]
  exact hK undef g' w' k
theorem Cur.quiet {s : St} {a : Act} (c : Cur E B lim s g a w) {v : Value} {x : AT} {rd : List Nat} (k : RelA g w s.ob s.rt s.nx v x) :
    After E B lim s g w { val := x, rd := rd } v g w := ⟨Ext.refl .., c.mem, c.lab, k⟩
theorem Cur.pure {s : St} {a : Act} (c : Cur E B lim s g a w) {o : Oper} {v : Value} {x : AT} {rd : List Nat} (h : (execOp a.eval o).run E.P w = .ok (.value v) w)
    (k : RelA g w s.ob s.rt s.nx v x) : OpOk E B lim s g a w o { val := x, rd := rd } := .value h (c.quiet k)
theorem filled_some {v : Value} {x : AT} (h : RelA g w ob rt nx v x) (hf : filled x = true) : ∃ A n cp, v = .slice (some A) n cp := by
  have rep : ∀ {z : Nat} {l : List (List PV)} {v : Value}, RepP g.I w v (.sl z l) → 0 < l.length → ∃ A n cp, v = .slice (some A) n cp := by
    intro z l v k hl
    cases k with
    | sl f h1 h2 h3 h4 h5 h6 h7 =>
      rename_i A cap
      cases A with
      | none => have := h3 rfl; omega
      | some A => exact ⟨A, _, _, rfl⟩
  cases h with
  | of h => cases h with
    | one h => cases h with
      | p k => cases k with
        | sl f h1 h2 h3 h4 h5 h6 h7 => exact rep (.sl f h1 h2 h3 h4 h5 h6 h7) (of_decide_eq_true hf)
        | _ => cases hf
      | p0 k => exact rep k (of_decide_eq_true hf)
      | pn _ _ k => exact rep k (of_decide_eq_true hf)
      | vw h hl hcap hmax hnil hs hA =>
        have := hA (Nat.ne_of_gt (of_decide_eq_true hf))
        subst this
        exact ⟨_, _, _, rfl⟩
      | _ => cases hf
    | _ => cases hf
  | tup => cases hf
theorem nil_eval {a : Act} {y : Operand} (h : isNilS y = true) : a.eval y = .slice none 0 0 := by
  unfold isNilS at h
  split at h
  · rfl
  · cases h
theorem Cur.gen {s : St} {a : Act} (c : Cur E B lim s g a w) {o : Oper} {u : Upd} (hs : ∀ cs b, o.op ≠ .select cs b) (h : evGen E (evOpd E s.tm) o = some u) : OpOk E B lim s g a w o u := by
  unfold evGen at h
  split at h
  · rename_i hall
    split at h
    · rename_i v hv
      simp only [Option.map_eq_some_iff] at h
      obtain ⟨x, hx, rfl⟩ := h
      refine c.pure ?_ (atOfV_rep hx)
      rw [execOp_congr o hs (ρ := a.eval) (ρ' := fun x => (valOf (evOpd E s.tm x)).getD undef) fun x hx => ?_]
      · exact tryP_run hv w
      · have := List.all_eq_true.1 hall x (by simpa using hx)
        obtain ⟨v', hv'⟩ := Option.isSome_iff_exists.1 this
        rw [valOf_eq (c.opd x) hv', hv']
        rfl
    · cases h
  · unfold nilGen at h
    split at h
    · rename_i op t x y u ho
      unfold nilB at h
      split at h
      · rename_i ti hT
        split at h
        · rename_i hc
          obtain ⟨hk, hn, hf⟩ := hc
          obtain ⟨hd, _⟩ := (tiOk hT).sli hk
          obtain ⟨A, n, cp, hv⟩ := filled_some (c.opd x) hf
          have hy := nil_eval (a := a) hn
          split at h
          · cases h
            refine c.pure (v := .bool false) ?_ (.of (.one (.p (.sc rfl))))
            have := run_eql_slice_nil (P := E.P) w t ti.e (some A) n cp hd
            simp [execOp, ho, hv, hy, eqGuard, this]
          · cases h
            refine c.pure (v := .bool true) ?_ (.of (.one (.p (.sc rfl))))
            have := run_neq_slice_nil (P := E.P) w t ti.e (some A) n cp hd
            simp [execOp, ho, hv, hy, eqGuard, this]
          · cases h
        · cases h
      · cases h
    · cases h
end
end Go.Proofs.YtjhljcnjafbkfaaDoor.X
end
section
set_option linter.unusedVariables false
namespace Go.Proofs.YtjhljcnjafbkfaaDoor.X
open Go.RowKit
section
variable {E : Env} {B : Blk} {lim : Nat} {g g' : Gh} {w w' : World} {ob ob' : ObF} {rt rt' : RtF} {nx nx' : Nat}
theorem run_sizeOf {P : Program} {t : TypeId} {i : TypeInfo} (h : P.info? t = some i) (w : World) : (sizeOf t).run P w = .ok i.size w := by simp [sizeOf, typeInfo, h]
theorem run_zeroValue {P : Program} {t : TypeId} {i : TypeInfo} {v : Value} (h : P.info? t = some i) (hz : i.zero = some v) (w : World) : (zeroValue t).run P w = .ok v w := by
  simp [zeroValue, typeInfo, h, hz]
theorem run_isAgg {P : Program} {t : TypeId} {d : TypeDesc} (h : P.underlying t = some d) (w : World) : (isAgg t).run P w = .ok (descAgg d) w := by
  simp [isAgg, run_underlying h]
  cases d <;> rfl
theorem flat_cells {v : Value} (h : flatV v = true) : v.cells = #[v] := by cases v <;> first | rfl | simp [flatV] at h
theorem cells_rep {v : Value} {x : AT} {cs : List CV} (h : RelA g w ob rt nx v x) (hc : cellsOf x = some cs) : RelL g w ob rt nx v.cells cs := by
  cases h with
  | tup => simp [cellsOf] at hc
  | of h =>
    cases h with
    | no => simp [cellsOf] at hc
    | one h =>
      simp [cellsOf] at hc
      subst hc
      rw [flat_cells h.flat]
      refine ⟨rfl, fun j x v hx hv => ?_⟩
      cases j with
      | zero => simp at hx hv; subst hx; subst hv; exact h
      | succ j => simp at hx
    | agg h => simp [cellsOf] at hc; subst hc; exact h
theorem RelL.flat {vs : Array Value} {cs : List CV} (h : RelL g w ob rt nx vs cs) : ∀ v ∈ vs.toList, v.oneCell' = true := by
  intro v hv
  obtain ⟨j, hj, e⟩ := List.mem_iff_getElem.1 hv
  have hj' : j < cs.length := by rw [← h.1, ← Array.length_toList]; exact hj
  exact flat_one (h.2 j cs[j] v (List.getElem?_eq_getElem hj') (by rw [← Array.getElem?_toList, List.getElem?_eq_getElem hj, e])).flat
theorem part_rep {vs : Array Value} {cs : List CV} {off sz : Nat} {agg : Bool} {x : AT} (h : RelL g w ob rt nx vs cs) (hp : partOf cs off sz agg = some x) :
    (agg = true → off + sz ≤ vs.size ∧ RelA g w ob rt nx (.agg (vs.extract off (off + sz))) x) ∧
    (agg = false → ∃ v, vs[off]? = some v ∧ RelA g w ob rt nx v x) := by
  unfold partOf at hp
  cases agg with
  | true =>
    simp only [if_true] at hp
    split at hp
    · rename_i hle
      cases hp
      refine ⟨fun _ => ⟨by rw [h.1]; exact hle, .of (.agg ⟨?_, fun j x v hx hv => ?_⟩)⟩, fun h => by cases h⟩
      · simp [h.1]
        omega
      · rw [List.getElem?_take] at hx
        split at hx
        · rw [List.getElem?_drop] at hx
          rw [Array.getElem?_extract] at hv
          split at hv
          · exact h.2 _ _ _ hx hv
          · cases hv
        · cases hx
    · cases hp
  | false =>
    simp only [Bool.false_eq_true, if_false, Option.map_eq_some_iff] at hp
    obtain ⟨c, hc, rfl⟩ := hp
    refine ⟨(fun h => by cases h), fun _ => ?_⟩
    have hlt : off < vs.size := by rw [h.1]; exact (List.getElem?_eq_some_iff.1 hc).1
    exact ⟨vs[off], Array.getElem?_eq_getElem hlt, .of (.one (h.2 off c _ hc (Array.getElem?_eq_getElem hlt)))⟩
theorem load_part {t : TypeId} {ti : TI} (hT : E.T t = some ti) {vs : Array Value} {cs : List CV} {b o off : Nat} {x : AT} (h : RelL g w ob rt nx vs cs)
    (hcell : ∀ j, j < vs.size → w.cell? ⟨b, o + j, none⟩ = vs[j]?) (hp : partOf cs off ti.sz ti.agg = some x) :
    ∃ v, (loadVar t ⟨b, o + off, none⟩).run E.P w = .ok v w ∧ RelA g w ob rt nx v x := by
  obtain ⟨d, i, zv, hd, hi, hsz, hzv, hza, hzl, hag⟩ := (tiOk hT).base
  obtain ⟨h1, h2⟩ := part_rep h hp
  cases ha : ti.agg with
  | true =>
    obtain ⟨hle, hr⟩ := h1 ha
    refine ⟨_, ?_, hr⟩
    have hlen : (vs.extract off (off + ti.sz)).toList.length = i.size := by simp; omega
    have hl := run_loadCells_list (P := E.P) w ⟨b, o + off, none⟩ (vs.extract off (off + ti.sz)).toList (fun j v hv => by
      rw [Array.getElem?_toList, Array.getElem?_extract] at hv
      split at hv
      · rename_i hj
        rw [Addr.add_lit, Nat.add_assoc, hcell _ (by omega)]
        exact hv
      · cases hv)
    rw [hlen, Array.toArray_toList] at hl
    simp [loadVar, run_isAgg hd, hag, ha, run_sizeOf hi, hl]
  | false =>
    obtain ⟨v, hv, hr⟩ := h2 ha
    refine ⟨v, ?_, hr⟩
    have hlt : off < vs.size := (Array.getElem?_eq_some_iff.1 hv).1
    have hc := hcell off hlt
    rw [hv] at hc
    simp [loadVar, run_isAgg hd, hag, ha, hc]
theorem row_cells {b : Nat} {e : TypeId} {vs : Array Value} (hh : w.heap[b]? = some (.cells vs e (0, 0))) (j : Nat) : w.cell? ⟨b, j, none⟩ = vs[j]? := cell_of_row w b j vs e (0, 0) hh
theorem arr_row {b : Nat} {fz : Bool} {z : Nat} {rows : List (List PV)} (h : RelObj g w ob rt nx b (.arr fz z rows)) {r : Nat} {row : List PV} (hr : rows[r]? = some row) :
    ∃ vs : Array Value, RelL g w ob rt nx vs (row.map (.p none)) ∧ ∀ j, j < vs.size → w.cell? ⟨b, r * z + j, none⟩ = vs[j]? := by
  cases h with
  | nil => simp at hr
  | arr e vs h1 h2 h3 h4 h5 h6 h7 =>
    have hrl := h4 r row hr
    have hrn := (List.getElem?_eq_some_iff.1 hr).1
    have hle : r * z + z ≤ rows.length * z := by
      have := Nat.mul_le_mul_right z hrn
      rwa [Nat.succ_mul] at this
    refine ⟨vs.extract (r * z) (r * z + z), ⟨by simp [hrl]; omega, fun j x v hx hv => ?_⟩, fun j hj => ?_⟩
    · simp only [List.getElem?_map, Option.map_eq_some_iff] at hx
      obtain ⟨y, hy, rfl⟩ := hx
      rw [Array.getElem?_extract] at hv
      split at hv
      · exact .p (h5 r row j y v hr hy hv)
      · cases hv
    · simp only [Array.size_extract] at hj
      rw [row_cells h1, Array.getElem?_extract, if_pos (by omega)]
theorem ref_row {b o : Nat} {cs : List PV} (h : RepP g.I w (.pointer (some ⟨b, o, none⟩)) (.ref cs)) :
    ∃ vs : Array Value, RelL g w ob rt nx vs (cs.map (.p none)) ∧ ∀ j, j < vs.size → w.cell? ⟨b, o + j, none⟩ = vs[j]? := by
  cases h with
  | ref f h1 h2 =>
    refine ⟨((List.range cs.length).map f).toArray, ⟨by simp, fun j x v hx hv => ?_⟩, fun j hj => ?_⟩
    · simp only [List.getElem?_map, Option.map_eq_some_iff] at hx
      obtain ⟨y, hy, rfl⟩ := hx
      have hlt := (List.getElem?_eq_some_iff.1 hy).1
      simp only [List.getElem?_toArray, List.getElem?_map, List.getElem?_range hlt, Option.map_some, Option.some.injEq] at hv
      subst hv
      exact .p (h2 j y hy)
    · simp only [List.size_toArray, List.length_map, List.length_range] at hj
      rw [(h1 j cs[j] (List.getElem?_eq_getElem hj)).2]
      simp [hj]
theorem ref_addr {v : Value} {cs : List PV} (h : RepP g.I w v (.ref cs)) : ∃ b o, v = .pointer (some ⟨b, o, none⟩) := by cases h; exact ⟨_, _, rfl⟩
theorem Cur.move {s : St} {a : Act} (c : Cur E B lim s g a w) {o : Oper} {x : Operand} (ho : o.op = .move x ∨ o.op = .assign x) :
    OpOk E B lim s g a w o { val := X.opT E (evOpd E s.tm) o.type x } := by
  refine c.pure ?_ (c.opT o.type x)
  rcases ho with ho | ho <;> simp [execOp, ho]
theorem asg_rel {v : Value} {x : AT} {b : Bool} (h : RelA g w ob rt nx v x) : RelA g w ob rt nx v (asg b x) := by
  unfold asg
  split
  · split
    · cases h with
      | of h => cases h with
        | one h => cases h with
          | p h => exact .of (.one (.p h))
          | p0 h => exact .of (.one (.p h))
          | pn _ _ h => exact .of (.one (.p h))
    · exact h
  · exact h
theorem Cur.assign {s : St} {a : Act} (c : Cur E B lim s g a w) {o : Oper} {x : Operand} {b : Bool} (ho : o.op = .assign x) :
    OpOk E B lim s g a w o { val := asg b (X.opT E (evOpd E s.tm) o.type x) } := by
  refine c.pure ?_ (asg_rel (c.opT o.type x))
  simp [execOp, ho]
theorem Cur.pick {s : St} {a : Act} (c : Cur E B lim s g a w) {o : Oper} {x y z : Operand} (ho : o.op = .pick x y z) {p : Option Nat} {t : Bool}
    (hx : evOpd E s.tm x = .one (.p p (.sc (.bool t)))) :
    OpOk E B lim s g a w o { val := if t then X.opT E (evOpd E s.tm) o.type y else X.opT E (evOpd E s.tm) o.type z } := by
  have hv := valOf_eq (c.opd x) (v' := .bool t) (by rw [hx]; rfl)
  cases t with
  | true => exact c.pure (by simp [execOp, ho, hv, asBool]) (c.opT o.type y)
  | false => exact c.pure (by simp [execOp, ho, hv, asBool]) (c.opT o.type z)
theorem Cur.load {s : St} {a : Act} (c : Cur E B lim s g a w) {o : Oper} {t : TypeId} {x : Operand} (ho : o.op = .load t x) {ti : TI} (hT : E.T t = some ti) {u : Upd}
    (h : (match evOpd E s.tm x with
      | .one (.pt c off) => match s.ob c with
        | some (.var cs) => (partOf cs off ti.sz ti.agg).map fun a => ({ val := a, rd := [c] } : Upd)
        | _ => none
      | .one (.pr c r off) => match s.ob c with
        | some (.arr _ _ rows) => match rows[r]? with
          | some row => (partOf (row.map (.p none)) off ti.sz ti.agg).map fun a => { val := a, rd := [c] }
          | none => none
        | _ => none
      | .one (.p _ (.ref cs)) => (partOf (cs.map (.p none)) 0 ti.sz ti.agg).map fun a => { val := a }
      | _ => none) = some u) : OpOk E B lim s g a w o u := by
  have hx := c.opd x
  have fin : ∀ {b off : Nat} {v : Value} {y : AT} {rd : List Nat}, a.eval x = .pointer (some ⟨b, off, none⟩) → (loadVar t ⟨b, off, none⟩).run E.P w = .ok v w → RelA g w s.ob s.rt s.nx v y →
      OpOk E B lim s g a w o { val := y, rd := rd } := by
    intro b off v y rd he hl hy
    exact c.pure (by simp [execOp, ho, he, Instr.loadAt, Instr.sureAddr, hl]) hy
  split at h
  · rename_i p off hp
    rw [hp] at hx
    generalize hev : a.eval x = ev at hx
    cases hx with
    | of hx =>
      cases hx with
      | one hx =>
        cases hx with
        | pt hcs =>
          rename_i cs'
          rw [hcs] at h
          simp only [Option.map_eq_some_iff] at h
          obtain ⟨y, hy, rfl⟩ := h
          obtain ⟨q, _⟩ := c.mem.obj p _ hcs
          cases q with
          | var e vs h1 h2 h3 =>
            obtain ⟨v, hv, hr⟩ := load_part hT (b := g.φ p) (o := 0) h2 (fun j _ => by rw [Nat.zero_add]; exact row_cells h1 j) hy
            rw [Nat.zero_add] at hv
            exact fin hev hv hr
  · rename_i p r off hp
    rw [hp] at hx
    generalize hev : a.eval x = ev at hx
    cases hx with
    | of hx =>
      cases hx with
      | one hx =>
        cases hx with
        | pr hcs =>
          rename_i fz z rows
          rw [hcs] at h
          simp only at h
          split at h
          · rename_i row hrow
            simp only [Option.map_eq_some_iff] at h
            obtain ⟨y, hy, rfl⟩ := h
            obtain ⟨vs, h2, h3⟩ := arr_row (c.mem.obj p _ hcs).1 hrow
            obtain ⟨v, hv, hr⟩ := load_part hT (b := g.φ p) (o := r * z) h2 h3 hy
            exact fin hev hv hr
          · cases h
  · rename_i p cs hp
    rw [hp] at hx
    generalize hev : a.eval x = ev at hx
    simp only [Option.map_eq_some_iff] at h
    obtain ⟨y, hy, rfl⟩ := h
    have hrep : RepP g.I w ev (.ref cs) := by
      cases hx with
      | of hx =>
        cases hx with
        | one hx =>
          cases hx with
          | p hx => exact hx
    obtain ⟨b, off, rfl⟩ := ref_addr hrep
    obtain ⟨vs, h2, h3⟩ := ref_row (ob := s.ob) (rt := s.rt) (nx := s.nx) hrep
    obtain ⟨v, hv, hr⟩ := load_part hT (b := b) (o := off) (off := 0) h2 h3 hy
    exact fin hev hv hr
  · cases h
end
end Go.Proofs.YtjhljcnjafbkfaaDoor.X
end
section
set_option linter.unusedVariables false
namespace Go.Proofs.YtjhljcnjafbkfaaDoor.X
open Go.RowKit
theorem splice_at {α : Type} {l cs : List α} {off : Nat} (h : off + cs.length ≤ l.length) (k : Nat) :
    (splice l off cs)[k]? = if k < off then l[k]? else if k < off + cs.length then cs[k - off]? else l[k]? := by
  unfold splice
  have h1 : (l.take off).length = off := by rw [List.length_take]; omega
  rw [List.append_assoc]
  by_cases hk : k < off
  · rw [if_pos hk, List.getElem?_append_left (by omega), List.getElem?_take, if_pos hk]
  · rw [if_neg hk, List.getElem?_append_right (by omega), h1]
    by_cases hk2 : k < off + cs.length
    · rw [if_pos hk2, List.getElem?_append_left (by omega)]
    · rw [if_neg hk2, List.getElem?_append_right (by omega), List.getElem?_drop]
      congr 1
      omega
theorem splice_length {α : Type} {l cs : List α} {off : Nat} (h : off + cs.length ≤ l.length) : (splice l off cs).length = l.length := by
  unfold splice
  simp
  omega
section
variable {E : Env} {B : Blk} {lim : Nat} {g g' : Gh} {w w' : World} {ob ob' : ObF} {rt rt' : RtF} {nx nx' : Nat}
theorem RelL.splice {vs us : Array Value} {cs xs : List CV} {off : Nat} (h : RelL g w ob rt nx vs cs) (k : RelL g w ob rt nx us xs) (hle : off + xs.length ≤ cs.length) :
    RelL g w ob rt nx (X.splice vs.toList off us.toList).toArray (X.splice cs off xs) := by
  have hu : us.toList.length = xs.length := by rw [Array.length_toList]; exact k.1
  have hv : vs.toList.length = cs.length := by rw [Array.length_toList]; exact h.1
  refine ⟨?_, fun j x v hx hv' => ?_⟩
  · rw [List.size_toArray, splice_length (by omega), splice_length hle, hv]
  · rw [List.getElem?_toArray, splice_at (by omega), hu] at hv'
    rw [splice_at hle] at hx
    split at hx
    · rename_i h1
      rw [if_pos h1] at hv'
      exact h.2 j x v hx (by simpa using hv')
    · rename_i h1
      rw [if_neg h1] at hv'
      split at hx
      · rename_i h2
        rw [if_pos h2] at hv'
        exact k.2 _ x v hx (by simpa using hv')
      · rename_i h2
        rw [if_neg h2] at hv'
        exact h.2 j x v hx (by simpa using hv')
theorem Cur.storeVar {s : St} {a : Act} (c : Cur E B lim s g a w) {o : Oper} {t : TypeId} {x y : Operand} (ho : o.op = .store t x y) {ti : TI} (hT : E.T t = some ti)
    {p off : Nat} {vs cs : List CV} (hx : evOpd E s.tm x = .one (.pt p off)) (hy : cellsOf (X.opT E (evOpd E s.tm) t y) = some vs) (hp : s.ob p = some (.var cs))
    (hl : vs.length = ti.sz) (hle : off + vs.length ≤ cs.length) :
    OpOk E B lim s g a w o { val := .no, ow := [(p, .var (X.splice cs off vs))], rd := [p] } := by
  obtain ⟨d, i, zv, hd, hi, hsz, hzv, hza, hzl, hag⟩ := (tiOk hT).base
  have hr := cells_rep (c.opT t y) hy
  have hxr := c.opd x
  rw [hx] at hxr
  generalize hev : a.eval x = ev at hxr
  cases hxr with
  | of hxr =>
    cases hxr with
    | one hxr =>
      cases hxr with
      | pt hcs =>
        obtain ⟨q, hB⟩ := c.mem.obj p _ hp
        cases q with
        | var e cur h1 h2 h3 =>
          have hst := run_storeCells_at E.P (g.φ p) off e (a.eval y).cells.toList 0 cur w h1 (by rw [Array.length_toList, hr.1, h2.1]; omega) hr.flat
          simp only [Nat.add_zero] at hst
          have hlike : Obj.like (.var cs) (.var (X.splice cs off vs)) := splice_length hle
          have hE : Ext B lim g w s.ob s.rt s.nx g (w.setRow (g.φ p) (X.splice cur.toList off (a.eval y).cells.toList).toArray) (upd s.ob p (some (.var (X.splice cs off vs)))) s.rt s.nx :=
            Ext.store c.mem hp hlike trivial _ h3
          have hM := RelM.store c.mem c.lab hp hlike trivial (X.splice cur.toList off (a.eval y).cells.toList).toArray h3
            (.var e _ (setRow_heap w (g.φ p) cur _ e (0, 0) h1) ((h2.splice hr hle).ext hE c.lab) h3)
          refine .skip (g' := g) (w' := w.setRow (g.φ p) (X.splice cur.toList off (a.eval y).cells.toList).toArray) ?_ ⟨hE, hM, ?_, .of .no⟩
          · have e1 : (a.eval y).cells.size = i.size := by rw [hr.1, hl, hsz]
            simp only [execOp, ho, hev, Instr.storeAt, Instr.sureAddr, Go.storeVar, Sem.run_bind, Sem.run_pure, Result.andThen_ok, run_sizeOf hi, e1, ne_eq, not_true_eq_false, if_false, hst]
            rfl
          · intro q hq
            by_cases hqp : q = p
            · exact hqp ▸ c.lab p (by simp [hp])
            · exact c.lab q (by simpa [apU, upd_ne _ _ hqp] using hq)
theorem putAll_other {l : List (Nat × Obj)} {p : Nat} (h : ∀ q ∈ l, q.1 ≠ p) : putAll ob l p = ob p := by
  induction l generalizing ob with
  | nil => rfl
  | cons a l ih =>
    show putAll (upd ob a.1 (some a.2)) l p = _
    rw [ih fun q hq => h q (List.mem_cons_of_mem _ hq), upd_ne _ _ (h a (List.mem_cons_self ..)).symm]
theorem icy_mem {os : List Nat} : ∀ q ∈ icy ob os, q.1 ∈ os := by
  intro q hq
  unfold icy at hq
  obtain ⟨o, ho, h⟩ := List.mem_filterMap.1 hq
  split at h
  · cases h; exact ho
  · cases h
theorem RelL.seen {G : Nat → Option (List PV)} (h : RelM G g w ob rt nx B) {I : Nat → Nat → Prop} (hI : ∀ b i, g.I b i → I b i) : ∀ {cs : List CV} {vs : List Value} {xs : List PV}, vs.length = cs.length →
    (∀ (j : Nat) (x : CV) (v : Value), cs[j]? = some x → vs[j]? = some v → RelC g w ob rt nx v x) → pvL ob cs = some xs →
    (∀ o ∈ cs.flatMap seenC, ∀ fz z rows, ob o = some (.arr fz z rows) → ∀ i, i < rows.length * z → I (g.φ o) i) →
    xs.length = cs.length ∧ ∀ (j : Nat) (x : PV) (v : Value), xs[j]? = some x → vs[j]? = some v → RepP I w v x
  | [], vs, xs, hl, _, hp, _ => by
    simp [pvL] at hp
    subst hp
    exact ⟨rfl, fun j x v hx => by simp at hx⟩
  | c :: cs, [], xs, hl, _, _, _ => by simp at hl
  | c :: cs, v :: vs, xs, hl, hr, hp, hs => by
    simp only [pvL] at hp
    split at hp
    · rename_i y ys hy hys
      cases hp
      obtain ⟨h1, h2⟩ := RelL.seen h hI (cs := cs) (vs := vs) (xs := ys) (by simpa using hl) (fun j x u hx hu => hr (j + 1) x u (by simpa using hx) (by simpa using hu)) hys
        fun o ho => hs o (by simp only [List.flatMap_cons, List.mem_append]; exact .inr ho)
      refine ⟨by simpa using h1, fun j x u hx hu => ?_⟩
      cases j with
      | zero =>
        simp at hx hu
        subst hx
        subst hu
        exact (hr 0 c v rfl rfl).seen h hy hI fun o ho => hs o (by simp only [List.flatMap_cons, List.mem_append]; exact .inl ho)
      | succ j => exact h2 j x u (by simpa using hx) (by simpa using hu)
    · cases hp
theorem Cur.newVar {s : St} {a : Act} (c : Cur E B lim s g a w) {o : Oper} {q : Nat} {cs : List CV} {vs : Array Value} {e : TypeId} {rd : List Nat} (hq : s.ob q = none) (hql : q < lim)
    (hv : RelL g w s.ob s.rt s.nx vs cs) (h : (execOp a.eval o).run E.P w = .ok (.value (.pointer (some ⟨w.heap.size, 0, none⟩))) (w.alloc (.cells vs e))) :
    OpOk E B lim s g a w o { val := .one (.pt q 0), ow := [(q, .var cs)], rd := rd } := by
  have hE : Ext B lim g w s.ob s.rt s.nx { g with φ := upd g.φ q w.heap.size } (w.alloc (.cells vs e)) (upd s.ob q (some (.var cs))) s.rt s.nx := Ext.var c.mem hq _ _
  have hM := RelM.var c.mem c.lab hq (.cells vs e) (.var cs) (.var e vs (heap_new w _) (hv.ext hE c.lab) fun i hi => absurd (c.mem.bnd _ i hi) (Nat.lt_irrefl _))
  refine .value (g' := { g with φ := upd g.φ q w.heap.size }) h ⟨hE, hM, fun p hp => ?_, ?_⟩
  · by_cases hpq : p = q
    · exact hpq ▸ hql
    · exact c.lab p (by simpa [apU, upd_ne _ _ hpq] using hp)
  · have := RelC.pt (g := { g with φ := upd g.φ q w.heap.size }) (w := w.alloc (.cells vs e)) (ob := upd s.ob q (some (.var cs))) (rt := s.rt) (nx := s.nx) (o := q) (off := 0) (upd_same _ _ _)
    simp only [upd_same] at this
    exact .of (.one this)
theorem Cur.alloc {s : St} {a : Act} (c : Cur E B lim s g a w) {o : Oper} {t : TypeId} (ho : o.op = .alloc t) {ti : TI} (hT : E.T t = some ti) {q : Nat} {rd : List Nat} (hq : s.ob q = none) (hql : q < lim) :
    OpOk E B lim s g a w o { val := .one (.pt q 0), ow := [(q, .var ti.zero)], rd := rd } := by
  obtain ⟨d, i, zv, hd, hi, hsz, hzv, hza, hzl, hag⟩ := (tiOk hT).base
  have hr : RelL g w s.ob s.rt s.nx zv.cells ti.zero := by simpa using zero_all hza
  refine c.newVar (e := t) hq hql hr ?_
  simp [execOp, ho, Instr.alloc, run_zeroValue hi hzv, Go.newVar, Go.newRow]
theorem Cur.box {s : St} {a : Act} (c : Cur E B lim s g a w) {o : Oper} {t : TypeId} {x : Operand} (ho : o.op = .box t x) {cs : List CV} (hx : cellsOf (X.opT E (evOpd E s.tm) t x) = some cs) {q : Nat} {rd : List Nat}
    (hq : s.ob q = none) (hql : q < lim) : OpOk E B lim s g a w o { val := .one (.pt q 0), ow := [(q, .var cs)], rd := rd } := by
  refine c.newVar (e := t) hq hql (cells_rep (c.opT t x) hx) ?_
  simp [execOp, ho, Instr.box, Go.newVar, Go.newRow]
end
end Go.Proofs.YtjhljcnjafbkfaaDoor.X
end
section
set_option linter.unusedVariables false
namespace Go.Proofs.YtjhljcnjafbkfaaDoor.X
open Go.RowKit
section
variable {E : Env} {B : Blk} {lim : Nat} {g g' : Gh} {w w' : World} {ob ob' : ObF} {rt rt' : RtF} {nx nx' : Nat}
theorem one_rep {v : Value} {c : CV} (h : RelA g w ob rt nx v (.one c)) : RelC g w ob rt nx v c := by
  cases h with
  | of h => cases h with
    | one h => exact h
theorem agg_rep {v : Value} {cs : List CV} (h : RelA g w ob rt nx v (.agg cs)) : ∃ vs, v = .agg vs ∧ RelL g w ob rt nx vs cs := by
  cases h with
  | of h => cases h with
    | agg h => exact ⟨_, rfl, h⟩
theorem idx_rep {v : Value} {x : AT} {n : Int} (h : RelA g w ob rt nx v x) (hx : idxOf x = some n) : ∃ k, v = .int k n := by
  unfold idxOf at hx
  split at hx
  · rename_i p k m
    cases hx
    have := one_rep h
    cases this with
    | p h => cases h; exact ⟨k, rfl⟩
  · cases hx
theorem sl_rep {v : Value} {p : Option Nat} {z : Nat} {l : List (List PV)} (h : RelC g w ob rt nx v (.p p (.sl z l))) : RepP g.I w v (.sl z l) := by
  cases h <;> assumption
theorem ptr_rep {v : Value} {x y : AT} {d : Nat} (h : RelA g w ob rt nx v x) (hp : evPtr x d = some y) : ∃ b o, v = .pointer (some ⟨b, o, none⟩) ∧ RelA g w ob rt nx (.pointer (some ⟨b, o + d, none⟩)) y := by
  unfold evPtr at hp
  split at hp
  · cases hp
    have := one_rep h
    cases this with
    | pt ho => exact ⟨_, _, rfl, .of (.one (.pt ho))⟩
  · cases hp
    have := one_rep h
    cases this with
    | pr ho =>
      refine ⟨_, _, rfl, .of (.one ?_)⟩
      rw [Nat.add_assoc]
      exact .pr ho
  · cases hp
    have := one_rep h
    cases this with
    | p h =>
      cases h with
      | ref f h1 h2 =>
        refine ⟨_, _, rfl, .of (.one (.p (.ref (fun j => f (d + j)) (fun j x hx => ?_) fun j x hx => ?_)))⟩
        · rw [List.getElem?_drop] at hx
          have := h1 _ x hx
          rw [Nat.add_assoc]
          exact this
        · rw [List.getElem?_drop] at hx
          exact h2 _ x hx
  · cases hp
theorem Cur.fieldAddr {s : St} {a : Act} (c : Cur E B lim s g a w) {o : Oper} {t : TypeId} {x : Operand} {f : Nat} (ho : o.op = .fieldAddr t x f) {ti : TI} (hT : E.T t = some ti) (hk : ti.kd = 1)
    {y : Nat × Nat × Bool × TypeId} (hf : ti.fs[f]? = some y) (hz : y.2.1 ≠ 0) {q : AT} (hq : evPtr (evOpd E s.tm x) y.1 = some q) : OpOk E B lim s g a w o { val := q } := by
  obtain ⟨b, off, hv, hr⟩ := ptr_rep (c.opd x) hq
  obtain ⟨fs, hd, hfs⟩ := (tiOk hT).str hk
  obtain ⟨fd, hfd, e1, e2, e3, e4⟩ := hfs f y hf
  simp only [szT, Option.map_eq_some_iff] at e2
  obtain ⟨i, hi, hiz⟩ := e2
  refine c.pure ?_ hr
  simp [execOp, ho, hv, Instr.fieldAt, run_underlying hd, hfd, Instr.sureAddr, fieldPlace, run_sizeOf hi, hiz, hz, e1, Addr.add_lit]
theorem run_part {P : Program} {t : TypeId} {d : TypeDesc} {i : TypeInfo} (hd : P.underlying t = some d) (hi : P.info? t = some i) {vs : Array Value} {cs : List CV} {off : Nat} {x : AT}
    (h : RelL g w ob rt nx vs cs) (hp : partOf cs off i.size (descAgg d) = some x) : ∃ v, (part t vs off).run P w = .ok v w ∧ RelA g w ob rt nx v x := by
  obtain ⟨h1, h2⟩ := part_rep h hp
  cases ha : descAgg d with
  | true =>
    obtain ⟨hle, hr⟩ := h1 ha
    exact ⟨_, by simp [part, run_isAgg hd, ha, run_sizeOf hi], hr⟩
  | false =>
    obtain ⟨v, hv, hr⟩ := h2 ha
    exact ⟨v, by simp [part, run_isAgg hd, ha, hv], hr⟩
theorem aggT_some {P : Program} {t : TypeId} {b : Bool} (h : aggT P t = some b) : ∃ d, P.underlying t = some d ∧ descAgg d = b := by
  simpa [aggT, Option.map_eq_some_iff] using h
theorem Cur.field {s : St} {a : Act} (c : Cur E B lim s g a w) {o : Oper} {t : TypeId} {x : Operand} {f : Nat} (ho : o.op = .field t x f) {ti : TI} (hT : E.T t = some ti) (hk : ti.kd = 1)
    {y : Nat × Nat × Bool × TypeId} (hf : ti.fs[f]? = some y) {cs : List CV} (hx : evOpd E s.tm x = .agg cs) {q : AT} (hq : partOf cs y.1 y.2.1 y.2.2.1 = some q) : OpOk E B lim s g a w o { val := q } := by
  have hr := c.opd x
  rw [hx] at hr
  obtain ⟨vs, hv, hl⟩ := agg_rep hr
  obtain ⟨fs, hd, hfs⟩ := (tiOk hT).str hk
  obtain ⟨fd, hfd, e1, e2, e3, e4⟩ := hfs f y hf
  simp only [szT, Option.map_eq_some_iff] at e2
  obtain ⟨i, hi, hiz⟩ := e2
  obtain ⟨d, hd', ha⟩ := aggT_some e3
  rw [← hiz, ← ha] at hq
  obtain ⟨v, hp, hvr⟩ := run_part hd' hi hl hq
  refine c.pure ?_ hvr
  simp [execOp, ho, hv, Instr.field, run_underlying hd, hfd, asAgg, e1, hp]
theorem Cur.extract {s : St} {a : Act} (c : Cur E B lim s g a w) {o : Oper} {x : Operand} {i : Nat} (ho : o.op = .extract x i) {ts : List (Bool × List CV)} (hx : evOpd E s.tm x = .tup ts)
    {r : Bool × List CV} (hr : ts[i]? = some r) : OpOk E B lim s g a w o { val := atC r } := by
  have h := c.opd x
  rw [hx] at h
  generalize hev : a.eval x = ev at h
  cases h with
  | of h => cases h
  | tup hl h =>
    rename_i vs
    have hlt : i < vs.size := by rw [hl]; exact (List.getElem?_eq_some_iff.1 hr).1
    have hv : vs[i]? = some vs[i] := Array.getElem?_eq_getElem hlt
    refine c.pure ?_ (.of (h i r vs[i] hr hv))
    simp [execOp, ho, hev, Instr.extract, hv]
theorem Cur.nilCheck {s : St} {a : Act} (c : Cur E B lim s g a w) {o : Oper} {x : Operand} (ho : o.op = .nilCheck x) {q : CV} (hx : evOpd E s.tm x = .one q)
    (hq : (∃ o k, q = .pt o k) ∨ (∃ o r k, q = .pr o r k) ∨ (∃ p cs, q = .p p (.ref cs)) ∨ (∃ p f cs, q = .p p (.fn f cs)) ∨ ∃ f cs, q = .cl f cs) : OpOk E B lim s g a w o { val := .one q } := by
  have h := c.opd x
  rw [hx] at h
  refine c.pure ?_ h
  have h := one_rep h
  generalize hev : a.eval x = ev at h
  rcases hq with ⟨p, k, rfl⟩ | ⟨p, r, k, rfl⟩ | ⟨p, cs, rfl⟩ | ⟨p, f, cs, rfl⟩ | ⟨f, cs, rfl⟩
  · cases h; simp [execOp, ho, hev]
  · cases h; simp [execOp, ho, hev]
  · cases h with
    | p h => cases h; simp [execOp, ho, hev]
  · cases h with
    | p h => cases h; simp [execOp, ho, hev]
  · cases h; simp [execOp, ho, hev]
theorem Cur.indexArr {s : St} {a : Act} (c : Cur E B lim s g a w) {o : Oper} {t : TypeId} {x i : Operand} (ho : o.op = .indexAddr t x i) {ti : TI} (hT : E.T t = some ti) (hk : ti.kd = 2)
    {n : Int} (hi : idxOf (evOpd E s.tm i) = some n) (h0 : 0 ≤ n) (h1 : n < ti.len) {q : AT} (hq : evPtr (evOpd E s.tm x) (n.toNat * ti.esz) = some q) : OpOk E B lim s g a w o { val := q } := by
  obtain ⟨b, off, hv, hr⟩ := ptr_rep (c.opd x) hq
  obtain ⟨k, hn⟩ := idx_rep (c.opd i) hi
  obtain ⟨hd, j, hj, hjz, _, _⟩ := (tiOk hT).arr hk
  refine c.pure ?_ hr
  simp [execOp, ho, hv, hn, Instr.indexAt, asIntOf, run_underlying hd, Instr.sureAddr, h0, h1, run_sizeOf hj, hjz, Addr.add_lit]
theorem Cur.indexSl {s : St} {a : Act} (c : Cur E B lim s g a w) {o : Oper} {t : TypeId} {x i : Operand} (ho : o.op = .indexAddr t x i) {ti : TI} (hT : E.T t = some ti) (hk : ti.kd = 3)
    {n : Int} (hi : idxOf (evOpd E s.tm i) = some n) (h0 : 0 ≤ n) {p : Option Nat} {l : List (List PV)} (hx : evOpd E s.tm x = .one (.p p (.sl ti.esz l))) {r : List PV} (hr : l[n.toNat]? = some r) :
    OpOk E B lim s g a w o { val := .one (.p none (.ref r)) } := by
  have h := c.opd x
  rw [hx] at h
  have h := sl_rep (one_rep h)
  obtain ⟨k, hn⟩ := idx_rep (c.opd i) hi
  obtain ⟨hd, j, hj, hjz, _, _⟩ := (tiOk hT).sli hk
  generalize hev : a.eval x = ev at h
  cases h with
  | sl f h1 h2 h3 h4 h5 h6 h7 =>
    rename_i A cap
    have hlt := (List.getElem?_eq_some_iff.1 hr).1
    cases A with
    | none => have := h3 rfl; omega
    | some ad =>
      have hs := h4 ad rfl
      obtain ⟨b, off, sp⟩ := ad
      subst hs
      have hn' : n < (l.length : Int) := by omega
      refine c.pure (v := .pointer (some ⟨b, off + n.toNat * ti.esz, none⟩)) ?_ (.of (.one (.p (.ref (fun j => f n.toNat j) (fun j x hx => ?_) fun j x hx => h7 _ r j x hr hx))))
      · simp [execOp, ho, hev, hn, Instr.indexAt, asIntOf, run_underlying hd, h0, hn', run_sizeOf hj, hjz, Addr.add_lit]
      · have := h6 _ rfl _ r j x hr hx
        rw [Nat.add_assoc]
        exact this
theorem Cur.indexVw {s : St} {a : Act} (c : Cur E B lim s g a w) {o : Oper} {t : TypeId} {x i : Operand} (ho : o.op = .indexAddr t x i) {ti : TI} (hT : E.T t = some ti) (hk : ti.kd = 3)
    {n : Int} (hi : idxOf (evOpd E s.tm i) = some n) (h0 : 0 ≤ n) {q lo m : Nat} (hx : evOpd E s.tm x = .one (.vw q lo m)) (hm : n.toNat < m) {fz : Bool} {rows : List (List PV)}
    (hq : s.ob q = some (.arr fz ti.esz rows)) : OpOk E B lim s g a w o { val := .one (.pr q (lo + n.toNat) 0), rd := [q] } := by
  have h := c.opd x
  rw [hx] at h
  have h := one_rep h
  obtain ⟨k, hn⟩ := idx_rep (c.opd i) hi
  obtain ⟨hd, j, hj, hjz, _, _⟩ := (tiOk hT).sli hk
  generalize hev : a.eval x = ev at h
  cases h with
  | vw hq' h1 h2 h3 h4 h5 h6 =>
    rw [hq] at hq'
    cases hq'
    have hA := h6 (by omega)
    subst hA
    have hn' : n < (m : Int) := by omega
    refine c.pure (v := .pointer (some ⟨g.φ q, lo * ti.esz + n.toNat * ti.esz, none⟩)) ?_ (.of (.one ?_))
    · simp [execOp, ho, hev, hn, Instr.indexAt, asIntOf, run_underlying hd, h0, hn', run_sizeOf hj, hjz, Addr.add_lit]
    · rw [← Nat.add_mul]
      have := RelC.pr (g := g) (w := w) (rt := s.rt) (nx := s.nx) (r := lo + n.toNat) (off := 0) hq
      rw [Nat.add_zero] at this
      exact this
theorem Cur.indexAgg {s : St} {a : Act} (c : Cur E B lim s g a w) {o : Oper} {t : TypeId} {x i : Operand} (ho : o.op = .index t x i) {ti : TI} (hT : E.T t = some ti) (hk : ti.kd = 2)
    {n : Int} (hi : idxOf (evOpd E s.tm i) = some n) (h0 : 0 ≤ n) (h1 : n < ti.len) {cs : List CV} (hx : evOpd E s.tm x = .agg cs) {q : AT} (hq : partOf cs (n.toNat * ti.esz) ti.esz ti.eagg = some q) :
    OpOk E B lim s g a w o { val := q } := by
  have hr := c.opd x
  rw [hx] at hr
  obtain ⟨vs, hv, hl⟩ := agg_rep hr
  obtain ⟨k, hn⟩ := idx_rep (c.opd i) hi
  obtain ⟨hd, j, hj, hjz, _, he⟩ := (tiOk hT).arr hk
  obtain ⟨d, hd', ha⟩ := aggT_some he
  have hq' := hq
  rw [← hjz, ← ha] at hq
  obtain ⟨v, hp, hvr⟩ := run_part hd' hj hl hq
  refine c.pure ?_ hvr
  simp [execOp, ho, hv, hn, Instr.index, asIntOf, run_underlying hd, h0, h1, run_sizeOf hj, hp]
end
end Go.Proofs.YtjhljcnjafbkfaaDoor.X
end
section
set_option linter.unusedVariables false
namespace Go.Proofs.YtjhljcnjafbkfaaDoor.X
open Go.RowKit
section
variable {E : Env} {B : Blk} {lim : Nat} {g g' : Gh} {w w' : World} {ob ob' : ObF} {rt rt' : RtF} {nx nx' : Nat}
theorem Cur.lenSl {s : St} {a : Act} (c : Cur E B lim s g a w) {o : Oper} {t : TypeId} {x : Operand} (ho : o.op = .call { callee := .builtin .len, args := #[x], argTypes := #[t] }) {ti : TI} (hT : E.T t = some ti) (hk : ti.kd = 3)
    {p : Option Nat} {z : Nat} {l : List (List PV)} (hx : evOpd E s.tm x = .one (.p p (.sl z l))) : OpOk E B lim s g a w o { val := .one (.p none (.sc (.int .i64 l.length))) } := by
  have h := c.opd x
  rw [hx] at h
  have h := sl_rep (one_rep h)
  obtain ⟨hd, _⟩ := (tiOk hT).sli hk
  generalize hev : a.eval x = ev at h
  cases h with
  | sl f h1 h2 h3 h4 h5 h6 h7 =>
    exact c.pure (by simp [execOp, ho, hev, resolve, invoke, builtin, Builtin.len_, run_underlying hd, goInt]) (.of (.one (.p (.sc rfl))))
theorem Cur.lenVw {s : St} {a : Act} (c : Cur E B lim s g a w) {o : Oper} {t : TypeId} {x : Operand} (ho : o.op = .call { callee := .builtin .len, args := #[x], argTypes := #[t] }) {ti : TI} (hT : E.T t = some ti) (hk : ti.kd = 3)
    {q lo n : Nat} (hx : evOpd E s.tm x = .one (.vw q lo n)) : OpOk E B lim s g a w o { val := .one (.p none (.sc (.int .i64 n))) } := by
  have h := c.opd x
  rw [hx] at h
  have h := one_rep h
  obtain ⟨hd, _⟩ := (tiOk hT).sli hk
  generalize hev : a.eval x = ev at h
  cases h with
  | vw hq' h1 h2 h3 h4 h5 h6 =>
    exact c.pure (by simp [execOp, ho, hev, resolve, invoke, builtin, Builtin.len_, run_underlying hd, goInt]) (.of (.one (.p (.sc rfl))))
theorem Cur.append {s : St} {a : Act} (c : Cur E B lim s g a w) {o : Oper} {t : TypeId} {x y : Operand} (ho : o.op = .call { callee := .builtin .append, args := #[x, y], argTypes := #[t, t] }) {ti te : TI}
    (hT : E.T t = some ti) (hk : ti.kd = 3) (hTe : E.T ti.e = some te) {n : Nat} {l l' : List (List PV)} {p : Option Nat} (hx : X.opT E (evOpd E s.tm) t x = .one (.p (some n) (.sl ti.esz l)))
    (hy : X.opT E (evOpd E s.tm) t y = .one (.p p (.sl ti.esz l'))) (h0 : 0 < ti.esz) (hn : n = 0 ∨ s.rt n = true) (hlen : l.length + l'.length ≤ 16777216) (hby : ti.eby ≤ 4096) :
    OpOk E B lim s g a w o { val := .one (.p (some s.nx) (.sl ti.esz (l ++ l'))), rw := some n, nl := true } := by
  have h1 := c.opT t x
  rw [hx] at h1
  have h2 := c.opT t y
  rw [hy] at h2
  obtain ⟨hd, j, hj, hjz, hjb, _⟩ := (tiOk hT).sli hk
  obtain ⟨d, i, zv, hd', hi, hsz, hzv, hza, hzl, _⟩ := (tiOk hTe).base
  rw [hj] at hi
  cases hi
  have hzz : zv.cells.size = ti.esz := by
    have := (zero_all (g := g) (w := w) (ob := s.ob) (rt := s.rt) (nx := s.nx) hza).1
    simp at this
    omega
  obtain ⟨v', w', g', hr, hE, hM, hC⟩ := append_step (P := E.P) (base := lim) t o.type ti.e j zv hd hj hzv hjz h0 hzz (by omega) c.mem c.lab (one_rep h1) hn (sl_rep (one_rep h2)) hlen
  refine .value (g' := g') (w' := w') (v := v') ?_ ⟨hE, hM, c.lab, .of (.one hC)⟩
  simp only [execOp, ho, resolve, invoke, builtin, Sem.run_bind, Sem.run_pure, Result.andThen_ok, List.map_toArray, List.map_cons, List.map_nil, hr]
theorem rows_piece {l : List (List PV)} {lo hi : Nat} {i : Nat} {r : List PV} (h : ((l.take hi).drop lo)[i]? = some r) : lo + i < hi ∧ l[lo + i]? = some r := by
  rw [List.getElem?_drop, List.getElem?_take] at h
  split at h
  · exact ⟨by assumption, h⟩
  · cases h
theorem piece_rep {I : Nat → Nat → Prop} {A : Option Addr} {n cap z : Nat} {l : List (List PV)} (h : RepP I w (.slice A n cap) (.sl z l)) {lo hi m : Nat} (h1 : lo ≤ hi) (h2 : hi ≤ l.length) (h3 : hi ≤ m) (h4 : m ≤ cap) :
    RepP I w (.slice (if m = lo then A else A.map (·.add (lo * z))) (hi - lo) (m - lo)) (.sl z ((l.take hi).drop lo)) := by
  cases h with
  | sl f q1 q2 q3 q4 q5 q6 q7 =>
    have hlen : ((l.take hi).drop lo).length = hi - lo := by simp; omega
    have hadd : ∀ a, A = some a → ∃ b o, a = ⟨b, o, none⟩ ∧ a.add (lo * z) = ⟨b, o + lo * z, none⟩ := by
      intro a ha
      obtain ⟨b, o, sp⟩ := a
      have := q4 _ ha
      simp only at this
      subst this
      exact ⟨b, o, rfl, Addr.add_lit b o _⟩
    have := RepP.sl (I := I) (w := w) (A := if m = lo then A else A.map (·.add (lo * z))) (cap := m - lo) (z := z) (l := (l.take hi).drop lo) (fun i j => f (lo + i) j) (by omega) (by omega)
      (fun hn => by
        split at hn
        · omega
        · simp only [Option.map_eq_none_iff] at hn
          have := q3 hn
          omega)
      (fun a ha => by
        split at ha
        · exact q4 a ha
        · simp only [Option.map_eq_some_iff] at ha
          obtain ⟨a', ha', rfl⟩ := ha
          obtain ⟨b, o, rfl, e⟩ := hadd a' ha'
          rw [e])
      (fun i r hr => q5 _ r (rows_piece hr).2)
      (fun a ha i r j x hr hx => by
        obtain ⟨hlt, hr'⟩ := rows_piece hr
        rw [if_neg (by omega)] at ha
        simp only [Option.map_eq_some_iff] at ha
        obtain ⟨a', ha', rfl⟩ := ha
        obtain ⟨b, o, rfl, e⟩ := hadd a' ha'
        rw [e]
        have := q6 _ ha' _ r j x hr' hx
        have e2 : o + lo * z + (i * z + j) = o + ((lo + i) * z + j) := by rw [Nat.add_mul]; omega
        simp only [e2]
        exact this)
      (fun i r j x hr hx => q7 _ r j x (rows_piece hr).2 hx)
    rw [hlen] at this
    exact this
theorem opt_idx {s : St} {a : Act} (c : Cur E B lim s g a w) {x : Option Operand} {n : Option Int} (h : optIdx (evOpd E s.tm) x = some n) :
    (x.map a.eval = none ∧ n = none) ∨ ∃ k m, x.map a.eval = some (.int k m) ∧ n = some m := by
  cases x with
  | none => simp [optIdx] at h; exact .inl ⟨rfl, h.symm⟩
  | some x =>
    simp only [optIdx, Option.map_eq_some_iff] at h
    obtain ⟨m, hm, rfl⟩ := h
    obtain ⟨k, hk⟩ := idx_rep (c.opd x) hm
    exact .inr ⟨k, m, by simp [hk], rfl⟩
theorem run_bounds {P : Program} {b : Bool} {len cap : Nat} {lo hi mx : Option Value} {lo' hi' mx' : Option Int} (h1 : (lo = none ∧ lo' = none) ∨ ∃ k m, lo = some (.int k m) ∧ lo' = some m)
    (h2 : (hi = none ∧ hi' = none) ∨ ∃ k m, hi = some (.int k m) ∧ hi' = some m) (h3 : (mx = none ∧ mx' = none) ∨ ∃ k m, mx = some (.int k m) ∧ mx' = some m)
    (q1 : 0 ≤ lo'.getD 0) (q2 : lo'.getD 0 ≤ hi'.getD len) (q3 : hi'.getD len ≤ mx'.getD cap) (q4 : mx'.getD cap ≤ cap) (q5 : mx'.isSome → hi'.isSome) :
    (Instr.sliceBounds b len cap lo hi mx).run P w = .ok ((lo'.getD 0).toNat, (hi'.getD len).toNat, (mx'.getD cap).toNat) w := by
  rcases h1 with ⟨rfl, rfl⟩ | ⟨k1, m1, rfl, rfl⟩ <;> rcases h2 with ⟨rfl, rfl⟩ | ⟨k2, m2, rfl, rfl⟩ <;> rcases h3 with ⟨rfl, rfl⟩ | ⟨k3, m3, rfl, rfl⟩ <;>
    simp only [Option.getD_some, Option.getD_none, Option.isSome_some, Option.isSome_none] at q1 q2 q3 q4 q5 <;>
    (try simp at q5) <;>
    simp [Instr.sliceBounds, Instr.sliceBound, asIntOf] <;> (try rw [if_pos (by omega)]) <;> (try simp) <;> (try rw [if_pos (by omega)]) <;> (try simp) <;> (try rw [if_pos (by omega)]) <;> (try simp) <;> (try omega)
end
end Go.Proofs.YtjhljcnjafbkfaaDoor.X
end
section
set_option linter.unusedVariables false
namespace Go.Proofs.YtjhljcnjafbkfaaDoor.X
open Go.RowKit
section
variable {E : Env} {B : Blk} {lim : Nat} {g g' : Gh} {w w' : World} {ob ob' : ObF} {rt rt' : RtF} {nx nx' : Nat}
theorem Cur.sliceSl {s : St} {a : Act} (c : Cur E B lim s g a w) {o : Oper} {t : TypeId} {x : Operand} {lo hi mx : Option Operand} (ho : o.op = .slice t x lo hi mx) {ti : TI} (hT : E.T t = some ti) (hk : ti.kd = 3)
    {p : Option Nat} {l : List (List PV)} (hx : evOpd E s.tm x = .one (.p p (.sl ti.esz l))) {lo' hi' mx' : Option Int} (h1 : optIdx (evOpd E s.tm) lo = some lo') (h2 : optIdx (evOpd E s.tm) hi = some hi') (h3 : optIdx (evOpd E s.tm) mx = some mx')
    (q1 : 0 ≤ lo'.getD 0) (q2 : lo'.getD 0 ≤ hi'.getD l.length) (q3 : hi'.getD l.length ≤ mx'.getD (hi'.getD l.length)) (q4 : mx'.getD (hi'.getD l.length) ≤ l.length) (q5 : mx'.isSome → hi'.isSome) :
    OpOk E B lim s g a w o { val := .one (.p (if mx'.isSome ∧ hi'.getD l.length = mx'.getD (hi'.getD l.length) then some 0 else none) (.sl ti.esz ((l.take (hi'.getD l.length).toNat).drop (lo'.getD 0).toNat))) } := by
  have h := c.opd x
  rw [hx] at h
  have h := sl_rep (one_rep h)
  obtain ⟨hd, j, hj, hjz, _, _⟩ := (tiOk hT).sli hk
  obtain ⟨A, cap, hv, hcap⟩ : ∃ A cap, a.eval x = .slice A l.length cap ∧ l.length ≤ cap := by
    generalize a.eval x = ev at h
    cases h with
    | sl f h1 => exact ⟨_, _, rfl, h1⟩
  rw [hv] at h
  have q6 : mx'.getD cap ≤ (cap : Int) := by
    cases mx' with
    | none => exact Int.le_refl _
    | some m => simp at q4 ⊢; omega
  have q7 : hi'.getD l.length ≤ mx'.getD cap := by
    cases mx' with
    | none => simp at q4 ⊢; omega
    | some m => simpa using q3
  have hb := run_bounds (P := E.P) (w := w) (b := true) (len := l.length) (cap := cap) (opt_idx c h1) (opt_idx c h2) (opt_idx c h3) q1 q2 q7 q6 q5
  have q8 : hi'.getD l.length ≤ (l.length : Int) := by omega
  have hr := piece_rep h (lo := (lo'.getD 0).toNat) (hi := (hi'.getD l.length).toNat) (m := (mx'.getD cap).toNat) (by omega) (by omega) (by omega) (by omega)
  refine c.pure (v := .slice (if (mx'.getD cap).toNat = (lo'.getD 0).toNat then A else A.map (·.add ((lo'.getD 0).toNat * ti.esz))) ((hi'.getD l.length).toNat - (lo'.getD 0).toNat) ((mx'.getD cap).toNat - (lo'.getD 0).toNat)) ?_ (.of (.one ?_))
  · simp [execOp, ho, hv, Instr.sliceAt, Instr.slice, run_underlying hd, hb, run_sizeOf hj, hjz]
  · by_cases hm : mx'.isSome = true ∧ hi'.getD l.length = mx'.getD (hi'.getD l.length)
    · rw [if_pos hm]
      obtain ⟨m1, m2⟩ := hm
      obtain ⟨m, rfl⟩ := Option.isSome_iff_exists.1 m1
      simp only [Option.getD_some] at m2 hr ⊢
      rw [m2] at hr ⊢
      exact .p0 hr
    · rw [if_neg hm]
      exact .p hr
theorem Cur.sliceVw {s : St} {a : Act} (c : Cur E B lim s g a w) {o : Oper} {t : TypeId} {x : Operand} {lo hi : Option Operand} (ho : o.op = .slice t x lo hi none) {ti : TI} (hT : E.T t = some ti) (hk : ti.kd = 3)
    {q k n : Nat} (hx : evOpd E s.tm x = .one (.vw q k n)) {fz : Bool} {rows : List (List PV)} (hq : s.ob q = some (.arr fz ti.esz rows)) {lo' hi' : Option Int} (h1 : optIdx (evOpd E s.tm) lo = some lo')
    (h2 : optIdx (evOpd E s.tm) hi = some hi') (q1 : 0 ≤ lo'.getD 0) (q2 : lo'.getD 0 ≤ hi'.getD n) (q3 : hi'.getD n ≤ n) {rd : List Nat} :
    OpOk E B lim s g a w o { val := .one (.vw q (k + (lo'.getD 0).toNat) (hi'.getD n - lo'.getD 0).toNat), rd := rd } := by
  have h := c.opd x
  rw [hx] at h
  have h := one_rep h
  obtain ⟨hd, j, hj, hjz, _, _⟩ := (tiOk hT).sli hk
  generalize hv : a.eval x = ev at h
  cases h with
  | vw hq' r1 r2 r3 r4 r5 r6 =>
    rename_i cap A fz' z' rows'
    rw [hq] at hq'
    cases hq'
    have hb := run_bounds (P := E.P) (w := w) (b := true) (len := n) (cap := cap) (mx := none) (mx' := none) (opt_idx c h1) (opt_idx c h2) (.inl ⟨rfl, rfl⟩) q1 q2 (by simp; omega) (by simp) (by simp)
    simp only [Option.getD_none, Int.toNat_natCast] at hb
    refine c.pure (v := .slice (if cap = (lo'.getD 0).toNat then A else A.map (·.add ((lo'.getD 0).toNat * ti.esz))) ((hi'.getD n).toNat - (lo'.getD 0).toNat) (cap - (lo'.getD 0).toNat)) ?_ (.of (.one ?_))
    · simp [execOp, ho, hv, Instr.sliceAt, Instr.slice, run_underlying hd, hb, run_sizeOf hj, hjz]
    · have e1 : (hi'.getD n).toNat - (lo'.getD 0).toNat = (hi'.getD n - lo'.getD 0).toNat := by omega
      rw [e1]
      refine .vw hq (by omega) (by omega) (by omega) (fun hn => ?_) (fun ad had => ?_) fun hn => ?_
      · split at hn
        · omega
        · simp only [Option.map_eq_none_iff] at hn
          have := r4 hn
          omega
      · split at had
        · exact r5 ad had
        · simp only [Option.map_eq_some_iff] at had
          obtain ⟨a', ha', rfl⟩ := had
          obtain ⟨b2, o2, sp⟩ := a'
          have := r5 _ ha'
          simp only at this
          subst this
          rw [Addr.add_lit]
      · have hne : ¬ cap = (lo'.getD 0).toNat := by omega
        rw [if_neg hne, r6 (by omega)]
        simp only [Option.map_some, Addr.add_lit, Nat.add_mul]
theorem opt_none {s : St} {x : Option Operand} (h : optIdx (evOpd E s.tm) x = some none) : x = none := by
  cases x with
  | none => rfl
  | some m => simp [optIdx] at h
theorem Cur.sliceRef {s : St} {a : Act} (c : Cur E B lim s g a w) {o : Oper} {t : TypeId} {x : Operand} (ho : o.op = .slice t x none none none) {ti : TI} (hT : E.T t = some ti) (hk : ti.kd = 2) (hz : ti.esz = 1)
    {p : Option Nat} {cs : List PV} (hl : cs.length = ti.len) (hm : ti.len ≤ 65536) (hx : evOpd E s.tm x = .one (.p p (.ref cs))) :
    OpOk E B lim s g a w o { val := .one (.p none (.sl 1 (cs.map fun c => [c]))) } := by
  have h := c.opd x
  rw [hx] at h
  have h := one_rep h
  obtain ⟨hd, j, hj, hjz, _, _⟩ := (tiOk hT).arr hk
  generalize hv : a.eval x = ev at h
  have hrep : RepP g.I w ev (.ref cs) := by cases h; assumption
  cases hrep with
  | ref f h1 h2 =>
    rename_i b off
    have e : ∀ k, (Addr.mk b off none).add (0 * k) = ⟨b, off, none⟩ := fun k => by rw [Nat.zero_mul, Addr.add_lit]; rfl
    have hb := run_bounds (P := E.P) (w := w) (b := false) (len := ti.len) (cap := ti.len) (lo := none) (hi := none) (mx := none) (lo' := none) (hi' := none) (mx' := none) (.inl ⟨rfl, rfl⟩) (.inl ⟨rfl, rfl⟩) (.inl ⟨rfl, rfl⟩) (by simp) (by simp) (by simp) (by simp) (by simp)
    simp only [Option.getD_none, Int.toNat_natCast, Int.toNat_zero] at hb
    refine c.pure (v := .slice (some ⟨b, off, none⟩) (cs.map fun c => [c]).length ti.len) ?_ (.of (.one (.p ?_)))
    · simp [execOp, ho, hv, Instr.sliceAt, run_underlying hd, hb, run_sizeOf hj, hl, Instr.sureAddr, Addr.add_lit]
    · refine .sl (fun i _ => f i) (by simp [hl]) (by unfold maxLen; omega) (fun h => by cases h) (fun a h => by cases h; rfl) (fun i r hr => ?_) (fun a ha i r j x hr hx' => ?_) (fun i r j x hr hx' => ?_)
      · simp only [List.getElem?_map, Option.map_eq_some_iff] at hr
        obtain ⟨y, _, rfl⟩ := hr
        rfl
      · cases ha
        simp only [List.getElem?_map, Option.map_eq_some_iff] at hr
        obtain ⟨y, hy, rfl⟩ := hr
        cases j with
        | zero => cases hx'; have := h1 i _ hy; simpa using this
        | succ j => simp at hx'
      · simp only [List.getElem?_map, Option.map_eq_some_iff] at hr
        obtain ⟨y, hy, rfl⟩ := hr
        cases j with
        | zero => cases hx'; exact h2 i _ hy
        | succ j => simp at hx'
theorem wrap_le {n : Int} (h : n ≤ 16777216) : n ≤ 9223372036854775807 := by omega
theorem Cur.makeRight {s : St} {a : Act} (c : Cur E B lim s g a w) {o : Oper} {t : TypeId} {x y : Operand} (ho : o.op = .makeSlice t x y) {ti te : TI} (hT : E.T t = some ti) (hk : ti.kd = 3) (hTe : E.T ti.e = some te)
    {n : Int} (hx : isZero x = true) (hy : idxOf (evOpd E s.tm y) = some n) (h0 : 0 ≤ n) (hn : n ≤ 16777216) (hby : ti.eby ≤ 4096) :
    OpOk E B lim s g a w o { val := .one (.p (some s.nx) (.sl ti.esz [])), rw := some 0, nl := true } := by
  obtain ⟨kc, hv⟩ := idx_rep (c.opd y) hy
  obtain ⟨kl, hv0⟩ : ∃ k, a.eval x = .int k 0 := by
    unfold isZero at hx
    split at hx
    · exact ⟨_, rfl⟩
    · cases hx
  obtain ⟨hd, j, hj, hjz, hjb, _⟩ := (tiOk hT).sli hk
  obtain ⟨d, i, zv, hd', hi, hsz, hzv, hza, hzl, _⟩ := (tiOk hTe).base
  rw [hj] at hi
  cases hi
  have hbytes : (j.bytes : Int) * n ≤ 281474976710656 := by
    have h1 : (j.bytes : Int) ≤ 4096 := by omega
    have : (j.bytes : Int) * n ≤ 4096 * 16777216 := Int.mul_le_mul h1 hn h0 (by omega)
    omega
  have hr := run_make (P := E.P) w t ti.e j zv hd hj hzv kl kc 0 n (Int.le_refl _) h0 hbytes (wrap_le hn)
  obtain ⟨hE, hM⟩ := c.mem.right c.lab 0 g.I (w.alloc (.cells (madeCells zv.cells (n.toNat * j.size)) ti.e)) (.slice (some ⟨w.heap.size, 0, none⟩) 0 n.toNat) ti.esz (some w.heap.size)
    ((Keep.refl B w).alloc c.mem.size _) (fun _ _ q => q) (fun _ _ _ q => q) (fun b i q => World.cell?_alloc_lt _ _ _ (c.mem.bnd b i q))
    (fun b hb _ => ⟨heap_old _ _ hb, fun _ q => q⟩)
    (fun b hb => by
      cases hb
      refine ⟨fun p x hx hs => ?_, fun m m0 hm ht _ hβ => absurd ((c.mem.own m m0 hm ht).lt hβ).1 (Nat.lt_irrefl _)⟩
      have := (c.mem.obj p x hx).1.lt hs
      omega)
    (.own w.heap.size 0 n.toNat ti.esz ti.e _ (upd_same _ _ _) (upd_same _ _ _) (fun hB => absurd (c.mem.size _ hB) (Nat.lt_irrefl _)) (heap_new _ _) (Nat.zero_le _) (by simp only [maxLen]; omega) (by rw [size_madeCells, hjz])
      (fun i _ q => absurd (c.mem.bnd _ i q) (Nat.lt_irrefl _))
      (fun p x hx hs => by
        have := (c.mem.obj p x hx).1.lt hs
        show g.φ p ≠ _
        omega))
    (fun b i q => by
      have := c.mem.bnd b i q
      simp
      omega)
  refine .value (v := .slice (some ⟨w.heap.size, 0, none⟩) 0 n.toNat) (w' := w.alloc (.cells (madeCells zv.cells (n.toNat * j.size)) ti.e)) ?_ ⟨hE, hM, c.lab, .of (.one (.pn (by have := c.mem.pos; omega) (Nat.lt_succ_self _) ?_ fun _ => upd_same _ _ _))⟩
  · simp only [Int.toNat_zero] at hr
    simp [execOp, ho, hv, hv0, hr]
  · exact .sl (l := []) (fun _ _ => undef) (Nat.zero_le _) (by simp only [maxLen]; omega) (fun h => by cases h) (fun a ha => by cases ha; rfl) (fun i r h => by simp at h) (fun a ha i r j x h => by simp at h) fun i r j x h => by simp at h
theorem Cur.makeVw {s : St} {a : Act} (c : Cur E B lim s g a w) {o : Oper} {t : TypeId} {x y : Operand} (ho : o.op = .makeSlice t x y) {ti te : TI} (hT : E.T t = some ti) (hk : ti.kd = 3) (hTe : E.T ti.e = some te)
    {n : Int} (hx : idxOf (evOpd E s.tm x) = some n) (hy : idxOf (evOpd E s.tm y) = some n) (h0 : 0 ≤ n) (hn : n ≤ 16777216) (hby : ti.eby ≤ 4096) (hz0 : 0 < ti.esz) {z : List PV} (hz : pvL s.ob te.zero = some z)
    (hzl : z.length = ti.esz) {q : Nat} (hq : s.ob q = none) (hql : q < lim) {rd : List Nat} :
    OpOk E B lim s g a w o { val := .one (.vw q 0 n.toNat), ow := [(q, .arr false ti.esz (List.replicate n.toNat z))], rd := rd } := by
  obtain ⟨kc, hv⟩ := idx_rep (c.opd y) hy
  obtain ⟨kl, hv0⟩ := idx_rep (c.opd x) hx
  obtain ⟨hd, j, hj, hjz, hjb, _⟩ := (tiOk hT).sli hk
  obtain ⟨d, i, zv, hd', hi, hsz, hzv, hza, hzl', _⟩ := (tiOk hTe).base
  rw [hj] at hi
  cases hi
  have hbytes : (j.bytes : Int) * n ≤ 281474976710656 := by
    have h1 : (j.bytes : Int) ≤ 4096 := by omega
    have : (j.bytes : Int) * n ≤ 4096 * 16777216 := Int.mul_le_mul h1 hn h0 (by omega)
    omega
  have hr := run_make (P := E.P) w t ti.e j zv hd hj hzv kl kc n n h0 (Int.le_refl _) hbytes (wrap_le hn)
  have hrel := zero_all (g := g) (w := w) (ob := s.ob) (rt := s.rt) (nx := s.nx) hza
  simp only [Array.toArray_toList] at hrel
  have hzz : zv.cells.size = ti.esz := by rw [hrel.1, hzl', ← hsz, hjz]
  obtain ⟨_, hzr⟩ := RelL.seen c.mem (I := g.I) (fun _ _ q => q) (vs := zv.cells.toList) (by rw [Array.length_toList]; exact hrel.1) (fun j x v hx hv => hrel.2 j x v hx (by simpa using hv)) hz
    (fun p hp => by
      exfalso
      obtain ⟨cv, hcv, hp⟩ := List.mem_flatMap.1 hp
      obtain ⟨k, hk, e⟩ := List.mem_iff_getElem.1 hcv
      have hk2 : k < zv.cells.size := by rw [hrel.1]; exact hk
      have hf : ∀ {cs : List CV} {vs : List Value}, zeroAll cs vs = true → ∀ cv ∈ cs, seenC cv = [] := by
        intro cs
        induction cs with
        | nil => intro vs _ cv h; cases h
        | cons b cs ih =>
          intro vs h cv hm
          cases vs with
          | nil => simp [zeroAll] at h
          | cons v vs =>
            simp only [zeroAll, Bool.and_eq_true] at h
            rcases List.mem_cons.1 hm with rfl | hm
            · have := h.1
              unfold zeroFits at this
              split at this <;> first | rfl | cases this
            · exact ih h.2 cv hm
      rw [hf hza cv hcv] at hp
      cases hp)
  have hE : Ext B lim g w s.ob s.rt s.nx { g with φ := upd g.φ q w.heap.size } (w.alloc (.cells (madeCells zv.cells (n.toNat * j.size)) ti.e)) (upd s.ob q (some (.arr false ti.esz (List.replicate n.toNat z)))) s.rt s.nx := Ext.var c.mem hq _ _
  have hM := RelM.var c.mem c.lab hq (.cells (madeCells zv.cells (n.toNat * j.size)) ti.e) (.arr false ti.esz (List.replicate n.toNat z))
    (.arr ti.e _ (heap_new w _) (Nat.le_of_eq (by rw [size_madeCells, List.length_replicate, hjz])) (by rw [List.length_replicate]; simp only [maxLen]; omega)
      (fun i r hr => by rw [List.getElem?_replicate] at hr; split at hr <;> simp at hr; rw [← hr]; exact hzl)
      (fun i r j' x v hr' hx' hv' => by
        rw [List.getElem?_replicate] at hr'
        split at hr'
        · cases hr'
          have hj' : j' < ti.esz := by rw [← hzl]; exact (List.getElem?_eq_some_iff.1 hx').1
          have hlt : i * ti.esz + j' < n.toNat * j.size := by rw [hjz]; exact at_lt (by assumption) hj'
          rw [madeCells, Array.getElem?_map, Array.getElem?_range, if_pos hlt] at hv'
          simp only [Option.map_some, Option.some.injEq] at hv'
          refine RepP.ext hE (hzr j' x v hx' ?_)
          have e1 : (i * ti.esz + j') % zv.cells.size = j' := by rw [hzz, Nat.mul_comm, Nat.mul_add_mod, Nat.mod_eq_of_lt hj']
          rw [e1] at hv'
          have hj2 : j' < zv.cells.size := by omega
          rw [Array.getElem?_toList, Array.getElem?_eq_getElem hj2, ← hv']
          simp [hj2]
        · cases hr')
      (fun _ i hi => absurd (c.mem.bnd _ i hi) (Nat.lt_irrefl _)) (fun h => by cases h))
  refine .value (g' := { g with φ := upd g.φ q w.heap.size }) (v := .slice (some ⟨w.heap.size, 0, none⟩) n.toNat n.toNat) (w' := w.alloc (.cells (madeCells zv.cells (n.toNat * j.size)) ti.e)) ?_ ⟨hE, hM, fun p hp => ?_, ?_⟩
  · simp [execOp, ho, hv, hv0, hr]
  · by_cases hpq : p = q
    · exact hpq ▸ hql
    · exact c.lab p (by simpa [apU, upd_ne _ _ hpq] using hp)
  · refine .of (.one (.vw (upd_same _ _ _) (by simp) (Nat.le_refl _) (by simp only [maxLen]; omega) (fun h => by cases h) (fun a ha => by cases ha; rfl) fun _ => ?_))
    simp only [upd_same, Nat.zero_mul]
end
end Go.Proofs.YtjhljcnjafbkfaaDoor.X
end
section
set_option linter.unusedVariables false
namespace Go.Proofs.YtjhljcnjafbkfaaDoor.X
open Go.RowKit
theorem foldl_set (off : Nat) : ∀ (l : List Value) (k : Nat) (cur : Array Value), off + k + l.length ≤ cur.size →
    ((l.zipIdx k).foldl (fun cs p => cs.setIfInBounds (off + p.2) p.1) cur) = (splice cur.toList (off + k) l).toArray
  | [], k, cur, h => by
    simp only [List.zipIdx_nil, List.foldl_nil, splice, List.append_nil, List.length_nil, Nat.add_zero, List.take_append_drop, Array.toArray_toList]
  | v :: l, k, cur, h => by
    simp only [List.length_cons] at h
    rw [List.zipIdx_cons, List.foldl_cons, foldl_set off l (k + 1) (cur.setIfInBounds (off + k) v) (by simp; omega)]
    apply Array.ext'
    apply List.ext_getElem?
    intro m
    have hc : cur.toList.length = cur.size := Array.length_toList
    rw [splice_at (by simp; omega), splice_at (by simp; omega)]
    simp only [List.length_cons, Array.getElem?_toList, Array.getElem?_setIfInBounds]
    by_cases h1 : m < off + k
    · rw [if_pos (show m < off + (k + 1) by omega), if_neg (show ¬ off + k = m by omega), if_pos h1]
    · by_cases h2 : m = off + k
      · subst h2
        rw [if_pos (show off + k < off + (k + 1) by omega), if_pos rfl, if_pos (show off + k < cur.size by omega), if_neg h1, if_pos (show off + k < off + k + (l.length + 1) by omega), Nat.sub_self]
        rfl
      · by_cases h3 : m < off + (k + 1) + l.length
        · rw [if_neg (show ¬ m < off + (k + 1) by omega), if_pos h3, if_neg h1, if_pos (show m < off + k + (l.length + 1) by omega)]
          have : m - (off + k) = (m - (off + (k + 1))) + 1 := by omega
          rw [this, List.getElem?_cons_succ]
        · rw [if_neg (show ¬ m < off + (k + 1) by omega), if_neg h3, if_neg (show ¬ off + k = m by omega), if_neg h1, if_neg (show ¬ m < off + k + (l.length + 1) by omega)]
theorem fold_cells (off : Nat) (us cur : Array Value) (h : off + us.size ≤ cur.size) :
    us.zipIdx.foldl (fun cs (x : Value × Nat) => match x with | (c, j) => cs.setIfInBounds (off + j) c) cur = (splice cur.toList off us.toList).toArray := by
  have := foldl_set off us.toList 0 cur (by simpa using h)
  rw [Nat.add_zero] at this
  rw [← this, ← Array.foldl_toList, Array.toList_zipIdx]
section
variable {E : Env} {B : Blk} {lim : Nat} {g g' : Gh} {w w' : World} {ob ob' : ObF} {rt rt' : RtF} {nx nx' : Nat}
theorem fillS_rep {s : St} {a : Act} (c : Cur E B lim s g a w) {fs : List (Nat × Nat × Bool × TypeId)} {place : Nat → Option (Nat × Nat)} (hp : ∀ (i : Nat) y, fs[i]? = some y → place i = some (y.1, y.2.1)) :
    ∀ {parts : List (Nat × Operand)} {cs cs' : List CV} {cur : Array Value}, RelL g w s.ob s.rt s.nx cur cs → fillS fs E (evOpd E s.tm) cs parts = some cs' →
    ∃ cells, Instr.fill place cur (parts.map fun p => (p.1, a.eval p.2)) = some cells ∧ RelL g w s.ob s.rt s.nx cells cs'
  | [], cs, cs', cur, h, hf => by
    simp only [fillS, Option.some.injEq] at hf
    subst hf
    exact ⟨cur, rfl, h⟩
  | (i, x) :: r, cs, cs', cur, h, hf => by
    simp only [fillS] at hf
    split at hf
    · rename_i off sz ag t hfs
      split at hf
      · rename_i vs hvs
        split at hf
        · rename_i hc
          have hr := cells_rep (c.opT t x) hvs
          have h2 : RelL g w s.ob s.rt s.nx (splice cur.toList off (a.eval x).cells.toList).toArray (splice cs off vs) := h.splice hr (by rw [hc.1]; exact hc.2)
          obtain ⟨cells, q1, q2⟩ := fillS_rep c hp h2 hf
          refine ⟨cells, ?_, q2⟩
          have e1 : ¬ ((a.eval x).cells.size ≠ sz ∨ off + (a.eval x).cells.size > cur.size) := by
            rw [hr.1, h.1]
            omega
          simp only [List.map_cons, Instr.fill, hp i _ hfs]
          rw [if_neg (by simpa using e1), fold_cells off _ cur (by rw [hr.1, h.1]; omega)]
          exact q1
        · cases hf
      · cases hf
    · cases hf
theorem fillA_rep {s : St} {a : Act} (c : Cur E B lim s g a w) {ti : TI} : ∀ {parts : List (Nat × Operand)} {cs cs' : List CV} {cur : Array Value}, RelL g w s.ob s.rt s.nx cur cs →
    fillA ti E (evOpd E s.tm) cs parts = some cs' →
    ∃ cells, Instr.fill (fun i => some (i * ti.esz, ti.esz)) cur (parts.map fun p => (p.1, a.eval p.2)) = some cells ∧ RelL g w s.ob s.rt s.nx cells cs'
  | [], cs, cs', cur, h, hf => by
    simp only [fillA, Option.some.injEq] at hf
    subst hf
    exact ⟨cur, rfl, h⟩
  | (i, x) :: r, cs, cs', cur, h, hf => by
    simp only [fillA] at hf
    split at hf
    · rename_i vs hvs
      split at hf
      · rename_i hc
        have hr := cells_rep (c.opT ti.e x) hvs
        have h2 : RelL g w s.ob s.rt s.nx (splice cur.toList (i * ti.esz) (a.eval x).cells.toList).toArray (splice cs (i * ti.esz) vs) := h.splice hr (by rw [hc.1]; exact hc.2)
        obtain ⟨cells, q1, q2⟩ := fillA_rep c h2 hf
        refine ⟨cells, ?_, q2⟩
        have e1 : ¬ ((a.eval x).cells.size ≠ ti.esz ∨ i * ti.esz + (a.eval x).cells.size > cur.size) := by
          rw [hr.1, h.1]
          omega
        simp only [List.map_cons, Instr.fill]
        rw [if_neg (by simpa using e1), fold_cells _ _ cur (by rw [hr.1, h.1]; omega)]
        exact q1
      · cases hf
    · cases hf
theorem parts_eq (parts : Array (Nat × Operand)) (f : Operand → Value) : (parts.map fun (i, x) => (i, f x)).toList = parts.toList.map fun p => (p.1, f p.2) := by simp
theorem Cur.buildS {s : St} {a : Act} (c : Cur E B lim s g a w) {o : Oper} {t : TypeId} {parts : Array (Nat × Operand)} (ho : o.op = .build t parts) {ti : TI} (hT : E.T t = some ti) (hk : ti.kd = 1) {cs : List CV}
    (hf : fillS ti.fs E (evOpd E s.tm) ti.zero parts.toList = some cs) : OpOk E B lim s g a w o { val := .agg cs } := by
  obtain ⟨d, i, zv, hd, hi, hsz, hzv, hza, hzl, hag⟩ := (tiOk hT).base
  obtain ⟨fs, hd', hfs⟩ := (tiOk hT).str hk
  have hz : RelL g w s.ob s.rt s.nx zv.cells ti.zero := by simpa using zero_all hza
  have hm1 := (tiOk hT).places hk fs hd'
  obtain ⟨cells, q1, q2⟩ := fillS_rep c (place := ((ti.fs.map fun y => (y.1, y.2.1)).toArray[·]?)) (fun k y hy => by simp [hy]) hz hf
  refine c.pure (v := .agg cells) ?_ (.of (.agg q2))
  have hr := run_build (P := E.P) w t (parts.map fun (i, x) => (i, a.eval x)) cells (by
    unfold Program.built
    simp only [hi, hd', hzv, hm1, parts_eq]
    exact q1)
  simp only [execOp, ho, hr, Sem.run_bind, Result.andThen_ok, Sem.run_pure]
theorem Cur.buildA {s : St} {a : Act} (c : Cur E B lim s g a w) {o : Oper} {t : TypeId} {parts : Array (Nat × Operand)} (ho : o.op = .build t parts) {ti : TI} (hT : E.T t = some ti) (hk : ti.kd = 2) {cs : List CV}
    (hf : fillA ti E (evOpd E s.tm) ti.zero parts.toList = some cs) : OpOk E B lim s g a w o { val := .agg cs } := by
  obtain ⟨d, i, zv, hd, hi, hsz, hzv, hza, hzl, hag⟩ := (tiOk hT).base
  obtain ⟨hd', j, hj, hjz, _, _⟩ := (tiOk hT).arr hk
  have hz : RelL g w s.ob s.rt s.nx zv.cells ti.zero := by simpa using zero_all hza
  obtain ⟨cells, q1, q2⟩ := fillA_rep c hz hf
  refine c.pure (v := .agg cells) ?_ (.of (.agg q2))
  have hr := run_build (P := E.P) w t (parts.map fun (i, x) => (i, a.eval x)) cells (by
    unfold Program.built
    simp only [hi, hd', hzv, hj, hjz, parts_eq]
    exact q1)
  simp only [execOp, ho, hr, Sem.run_bind, Result.andThen_ok, Sem.run_pure]
end
end Go.Proofs.YtjhljcnjafbkfaaDoor.X
end
section
set_option linter.unusedVariables false
namespace Go.Proofs.YtjhljcnjafbkfaaDoor.X
open Go.RowKit
def RowsRel (I : Nat → Nat → Prop) (w : World) (z : Nat) (vs : Array Value) (rows : List (List PV)) : Prop :=
  vs.size = rows.length * z ∧ (∀ (i : Nat) (r : List PV), rows[i]? = some r → r.length = z) ∧
  ∀ (i : Nat) (r : List PV) (j : Nat) (x : PV) (v : Value), rows[i]? = some r → r[j]? = some x → vs[i * z + j]? = some v → RepP I w v x
def RowsGe (I : Nat → Nat → Prop) (w : World) (z : Nat) (vs : Array Value) (rows : List (List PV)) : Prop :=
  rows.length * z ≤ vs.size ∧ (∀ (i : Nat) (r : List PV), rows[i]? = some r → r.length = z) ∧
  ∀ (i : Nat) (r : List PV) (j : Nat) (x : PV) (v : Value), rows[i]? = some r → r[j]? = some x → vs[i * z + j]? = some v → RepP I w v x
section
variable {E : Env} {B : Blk} {lim : Nat} {g g' : Gh} {w w' : World} {ob ob' : ObF} {rt rt' : RtF} {nx nx' : Nat} {I : Nat → Nat → Prop}
theorem RowsGe.set {z : Nat} {vs us : Array Value} {rows : List (List PV)} {xs : List PV} (h : RowsGe I w z vs rows) {i off : Nat} {row : List PV} (hr : rows[i]? = some row) (hu : us.size = xs.length) (hle : off + xs.length ≤ row.length)
    (hx : ∀ (j : Nat) (x : PV) (v : Value), xs[j]? = some x → us[j]? = some v → RepP I w v x) :
    RowsGe I w z (splice vs.toList (i * z + off) us.toList).toArray (rows.set i (splice row off xs)) := by
  obtain ⟨h1, h2, h3⟩ := h
  have hi : i < rows.length := (List.getElem?_eq_some_iff.1 hr).1
  have hrow := h2 i row hr
  have hus : us.toList.length = xs.length := by rw [Array.length_toList]; exact hu
  have hvs : rows.length * z ≤ vs.toList.length := by rw [Array.length_toList]; exact h1
  have hend : i * z + z ≤ rows.length * z := by
    have := Nat.mul_le_mul_right z hi
    rwa [Nat.succ_mul] at this
  refine ⟨?_, fun k r hk => ?_, fun k r j x v hk hx' hv => ?_⟩
  · rw [List.size_toArray, splice_length (by omega), List.length_set]
    exact hvs
  · rw [List.getElem?_set] at hk
    split at hk
    · cases hk
      rw [splice_length hle]
      exact hrow
    · exact h2 k r hk
  · rw [List.getElem?_toArray, splice_at (by omega), hus] at hv
    rw [List.getElem?_set] at hk
    split at hk
    · rename_i hik
      subst hik
      cases hk
      rw [splice_at hle] at hx'
      split at hx'
      · rename_i hj
        rw [if_pos (by omega)] at hv
        exact h3 i row j x v hr hx' (by simpa using hv)
      · rename_i hj
        rw [if_neg (by omega)] at hv
        split at hx'
        · rename_i hj2
          rw [if_pos (by omega)] at hv
          refine hx (j - off) x v hx' ?_
          have : i * z + j - (i * z + off) = j - off := by omega
          rw [this] at hv
          simpa using hv
        · rename_i hj2
          rw [if_neg (by omega)] at hv
          exact h3 i row j x v hr hx' (by simpa using hv)
    · rename_i hik
      have hj : j < z := by rw [← h2 k r hk]; exact (List.getElem?_eq_some_iff.1 hx').1
      have hout : ¬ (i * z + off ≤ k * z + j ∧ k * z + j < i * z + off + xs.length) := by
        rintro ⟨a, b⟩
        rcases Nat.lt_or_gt_of_ne hik with hlt | hgt
        · have := Nat.mul_le_mul_right z hlt
          rw [Nat.succ_mul] at this
          omega
        · have := Nat.mul_le_mul_right z hgt
          rw [Nat.succ_mul] at this
          omega
      have hv' : vs.toList[k * z + j]? = some v := by
        split at hv
        · exact hv
        · split at hv
          · exact absurd ⟨by omega, by omega⟩ hout
          · exact hv
      exact h3 k r j x v hk hx' (by simpa using hv')
theorem RowsRel.ge {z : Nat} {vs : Array Value} {rows : List (List PV)} (h : RowsRel I w z vs rows) : RowsGe I w z vs rows := ⟨Nat.le_of_eq h.1.symm, h.2⟩
theorem RowsRel.set {z : Nat} {vs us : Array Value} {rows : List (List PV)} {xs : List PV} (h : RowsRel I w z vs rows) {i off : Nat} {row : List PV} (hr : rows[i]? = some row) (hu : us.size = xs.length) (hle : off + xs.length ≤ row.length)
    (hx : ∀ (j : Nat) (x : PV) (v : Value), xs[j]? = some x → us[j]? = some v → RepP I w v x) :
    RowsRel I w z (splice vs.toList (i * z + off) us.toList).toArray (rows.set i (splice row off xs)) := by
  have q := h.ge.set hr hu hle hx
  refine ⟨?_, q.2⟩
  have hi : i < rows.length := (List.getElem?_eq_some_iff.1 hr).1
  have hrow := h.2.1 i row hr
  have hus : us.toList.length = xs.length := by rw [Array.length_toList]; exact hu
  have hvs : vs.toList.length = rows.length * z := by rw [Array.length_toList]; exact h.1
  have hend : i * z + z ≤ rows.length * z := by
    have := Nat.mul_le_mul_right z hi
    rwa [Nat.succ_mul] at this
  rw [List.size_toArray, splice_length (by omega), List.length_set, hvs]
theorem RelObj.rows {b : Nat} {fz : Bool} {z : Nat} {rows : List (List PV)} (h : RelObj g w ob rt nx b (.arr fz z rows)) (hne : rows ≠ []) :
    ∃ e vs, w.heap[b]? = some (.cells vs e (0, 0)) ∧ RowsGe g.I w z vs rows ∧ rows.length ≤ maxLen := by
  cases h with
  | nil => exact absurd rfl hne
  | arr e vs h1 h2 h3 h4 h5 h6 h7 => exact ⟨e, vs, h1, ⟨h2, h4, h5⟩, h3⟩
theorem RowsRel.ext {z : Nat} {vs : Array Value} {rows : List (List PV)} (h : RowsRel g.I w z vs rows) (hE : Ext B lim g w ob rt nx g' w' ob' rt' nx') : RowsRel g'.I w' z vs rows :=
  ⟨h.1, h.2.1, fun i r j x v a b c => (h.2.2 i r j x v a b c).ext hE⟩
theorem RelM.frozen {G : Nat → Option (List PV)} (h : RelM G g w ob rt nx B) {o : Nat} {z : Nat} {rows : List (List PV)} (ho : ob o = some (.arr false z rows)) (hne : rows ≠ []) : ∀ i, ¬ g.I (g.φ o) i := by
  have := (h.obj o _ ho).1
  cases this with
  | nil => exact absurd rfl hne
  | arr e vs h1 h2 h3 h4 h5 h6 h7 => exact h6 rfl
theorem Cur.storeArr {s : St} {a : Act} (c : Cur E B lim s g a w) {o : Oper} {t : TypeId} {x y : Operand} (ho : o.op = .store t x y) {ti : TI} (hT : E.T t = some ti)
    {p r off : Nat} {vs : List CV} {xs : List PV} {z : Nat} {rows : List (List PV)} {row : List PV} (hx : evOpd E s.tm x = .one (.pr p r off)) (hy : cellsOf (X.opT E (evOpd E s.tm) t y) = some vs) (hp : s.ob p = some (.arr false z rows))
    (hxs : pvL s.ob vs = some xs) (hr : rows[r]? = some row) (hl : xs.length = ti.sz) (hle : off + xs.length ≤ row.length) (hns : p ∉ vs.flatMap seenC) :
    OpOk E B lim s g a w o { val := .no, ow := icy s.ob (vs.flatMap seenC) ++ [(p, .arr false z (rows.set r (splice row off xs)))], rd := p :: vs.flatMap seenC } := by
  obtain ⟨d, i, zv, hd, hi, hsz, hzv, hza, hzl, hag⟩ := (tiOk hT).base
  have hcr := cells_rep (c.opT t y) hy
  have hxr := c.opd x
  rw [hx] at hxr
  generalize hev : a.eval x = ev at hxr
  have hxr := one_rep hxr
  cases hxr with
  | pr hcs =>
    rw [hp] at hcs
    cases hcs
    obtain ⟨g1, hE1, hM1, hφ1, hb1, hs1⟩ := icy_all (vs.flatMap seenC) c.mem c.lab
    have hp1 : putAll s.ob (icy s.ob (vs.flatMap seenC)) p = some (.arr false z rows) := by
      rw [putAll_other (p := p) fun q hq e => hns (by rw [← e]; exact icy_mem q hq)]
      exact hp
    obtain ⟨hxl, hxv⟩ := RelL.seen c.mem (I := g1.I) hE1.I (vs := (a.eval y).cells.toList) (by rw [Array.length_toList]; exact hcr.1) (fun j x v hx hv => hcr.2 j x v hx (by simpa using hv)) hxs
      (fun o ho fz z rows hob => hs1 o ho fz z rows hob)
    have hne : rows ≠ [] := fun e => by rw [e] at hr; simp at hr
    obtain ⟨e, cur, hh, hR, hmx⟩ := (hM1.obj p _ hp1).1.rows hne
    rw [hφ1] at hh
    have hrow := hR.2.1 r row hr
    have hrl := (List.getElem?_eq_some_iff.1 hr).1
    have hend : r * z + z ≤ rows.length * z := by
      have := Nat.mul_le_mul_right z hrl
      rwa [Nat.succ_mul] at this
    have hus : (a.eval y).cells.size = xs.length := by rw [hcr.1, hxl]
    have hst := run_storeCells_at E.P (g.φ p) (r * z + off) e (a.eval y).cells.toList 0 cur w hh (by have q := hR.1; rw [Array.length_toList, hus]; omega) hcr.flat
    simp only [Nat.add_zero] at hst
    have hR2 := hR.set hr hus hle (fun j x v hx hv => hxv j x v hx (by simpa using hv))
    have hlike : Obj.like (.arr false z rows) (.arr false z (rows.set r (splice row off xs))) := ⟨rfl, List.length_set⟩
    have hI := hM1.frozen hp1 hne
    have hE2 : Ext B lim g1 w (putAll s.ob (icy s.ob (vs.flatMap seenC))) s.rt s.nx g1 (w.setRow (g1.φ p) (splice cur.toList (r * z + off) (a.eval y).cells.toList).toArray)
        (upd (putAll s.ob (icy s.ob (vs.flatMap seenC))) p (some (.arr false z (rows.set r (splice row off xs))))) s.rt s.nx := Ext.store hM1 hp1 hlike (Obj.solid_ne hne) _ hI
    have hR3 := hR2
    have hM2 := RelM.store hM1 hb1 hp1 hlike (Obj.solid_ne hne) (splice cur.toList (r * z + off) (a.eval y).cells.toList).toArray hI
      (.arr e _ (setRow_heap w _ cur _ e (0, 0) (by rw [hφ1]; exact hh)) hR2.1 (by rw [List.length_set]; exact hmx) hR2.2.1 (fun i r j x v q1 q2 q3 => (hR2.2.2 i r j x v q1 q2 q3).ext hE2) (fun _ => hI) (fun h => by cases h))
    have e0 : (apU none ({ val := .no, ow := icy s.ob (vs.flatMap seenC) ++ [(p, .arr false z (rows.set r (splice row off xs)))], rd := p :: vs.flatMap seenC } : Upd) s).ob =
        upd (putAll s.ob (icy s.ob (vs.flatMap seenC))) p (some (.arr false z (rows.set r (splice row off xs)))) := by
      simp only [apU, List.foldl_append, List.foldl_cons, List.foldl_nil]
      rfl
    refine .skip (g' := g1) (w' := w.setRow (g1.φ p) (splice cur.toList (r * z + off) (a.eval y).cells.toList).toArray) ?_ ⟨?_, ?_, ?_, .of .no⟩
    · have e1 : (a.eval y).cells.size = i.size := by rw [hus, hl, hsz]
      rw [hφ1]
      simp only [execOp, ho, hev, Instr.storeAt, Instr.sureAddr, Go.storeVar, Sem.run_bind, Sem.run_pure, Result.andThen_ok, run_sizeOf hi, e1, ne_eq, not_true_eq_false, if_false, hst]
      rfl
    · rw [e0]; exact hE1.trans hE2
    · rw [e0]; exact hM2
    · rw [e0]
      intro q hq
      by_cases hqp : q = p
      · exact hqp ▸ c.lab p (by simp [hp])
      · exact hb1 q (by simpa [upd_ne _ _ hqp] using hq)
theorem cvA_rep {v : Value} {x : AT} {y : Bool × List CV} (h : RelA g w ob rt nx v x) (hx : cvA x = some y) : RelA1 g w ob rt nx v (atC y) := by
  cases h with
  | tup => simp [cvA] at hx
  | of h =>
    cases h with
    | no => simp [cvA] at hx
    | one h => simp [cvA] at hx; subst hx; exact .one h
    | agg h => simp [cvA] at hx; subst hx; exact .agg h
end
end Go.Proofs.YtjhljcnjafbkfaaDoor.X
end
section
set_option linter.unusedVariables false
namespace Go.Proofs.YtjhljcnjafbkfaaDoor.X
open Go.RowKit
section
variable {E : Env} {B : Blk} {lim : Nat} {g g' : Gh} {w w' : World} {ob ob' : ObF} {rt rt' : RtF} {nx nx' : Nat} {I : Nat → Nat → Prop}
theorem zero_seen : ∀ {cs : List CV} {vs : List Value}, zeroAll cs vs = true → cs.flatMap seenC = []
  | [], _, _ => rfl
  | c :: cs, [], h => by simp [zeroAll] at h
  | c :: cs, v :: vs, h => by
    simp only [zeroAll, Bool.and_eq_true] at h
    rw [List.flatMap_cons, zero_seen h.2, List.append_nil]
    have := h.1
    unfold zeroFits at this
    split at this <;> first | rfl | cases this
theorem zero_rows {G : Nat → Option (List PV)} (h : RelM G g w ob rt nx B) {zv : Value} {zc : List CV} {z : List PV} (hza : zeroAll zc zv.cells.toList = true) (hz : pvL ob zc = some z) {n k : Nat} (hk : z.length = k) (hk0 : 0 < k) :
    RowsRel g.I w k ((Array.range (n * k)).map (zv.cells[· % zv.cells.size]!)) (List.replicate n z) := by
  have hrel := zero_all (g := g) (w := w) (ob := ob) (rt := rt) (nx := nx) hza
  simp only [Array.toArray_toList] at hrel
  obtain ⟨hl, hr⟩ := RelL.seen h (I := g.I) (fun _ _ q => q) (vs := zv.cells.toList) (by rw [Array.length_toList]; exact hrel.1) (fun j x v hx hv => hrel.2 j x v hx (by simpa using hv)) hz
    (fun o ho => by rw [zero_seen hza] at ho; cases ho)
  have hzz : zv.cells.size = k := by rw [hrel.1, ← hl, hk]
  refine ⟨by simp, fun i r hr' => ?_, fun i r j x v hr' hx hv => ?_⟩
  · rw [List.getElem?_replicate] at hr'
    split at hr'
    · cases hr'; exact hk
    · cases hr'
  · rw [List.getElem?_replicate] at hr'
    split at hr'
    · rename_i hi
      cases hr'
      have hj : j < k := by rw [← hk]; exact (List.getElem?_eq_some_iff.1 hx).1
      have hlt : i * k + j < n * k := at_lt hi hj
      rw [Array.getElem?_map, Array.getElem?_range, if_pos hlt] at hv
      simp only [Option.map_some, Option.some.injEq] at hv
      have e1 : (i * k + j) % zv.cells.size = j := by rw [hzz, Nat.mul_comm, Nat.mul_add_mod, Nat.mod_eq_of_lt hj]
      rw [e1] at hv
      have hj2 : j < zv.cells.size := by omega
      refine hr j x v hx ?_
      rw [Array.getElem?_toList, Array.getElem?_eq_getElem hj2, ← hv]
      simp [hj2]
    · cases hr'
theorem cells_seen {x : AT} {cs : List CV} (h : cellsOf x = some cs) : cs.flatMap seenC = seenT x := by
  cases x with
  | one c => simp [cellsOf] at h; subst h; simp [seenT]
  | agg cs => simp [cellsOf] at h; subst h; rfl
  | _ => simp [cellsOf] at h
theorem opT_seen (m : Nat → AT) (t : TypeId) (x : Operand) : ∀ o ∈ seenT (X.opT E (evOpd E m) t x), o ∈ seenT (evOpd E m x) := by
  intro o ho
  unfold X.opT at ho
  split at ho
  · simp [seenT, seenC] at ho
  · exact ho
theorem fillR_rep {s : St} {a : Act} (c : Cur E B lim s g a w) {ti : TI} (hI : ∀ b i, g.I b i → I b i) :
    ∀ {parts : List (Nat × Operand)} {rows rows' : List (List PV)} {cur : Array Value}, RowsRel I w ti.esz cur rows → fillR ti E s.ob (evOpd E s.tm) rows parts = some rows' →
    (∀ o ∈ parts.flatMap (fun p => seenT (evOpd E s.tm p.2)), ∀ fz z rows, s.ob o = some (.arr fz z rows) → ∀ i, i < rows.length * z → I (g.φ o) i) →
    ∃ cells, Instr.fill (fun i => some (i * ti.esz, ti.esz)) cur (parts.map fun p => (p.1, a.eval p.2)) = some cells ∧ RowsRel I w ti.esz cells rows' ∧ rows'.length = rows.length
  | [], rows, rows', cur, h, hf, _ => by
    simp only [fillR, Option.some.injEq] at hf
    subst hf
    exact ⟨cur, rfl, h, rfl⟩
  | (i, x) :: r, rows, rows', cur, h, hf, hs => by
    simp only [fillR] at hf
    split at hf
    · rename_i xs hxs
      simp only [Option.bind_eq_some_iff] at hxs
      obtain ⟨vs, hvs, hpv⟩ := hxs
      split at hf
      · rename_i hc
        obtain ⟨hc1, hc2⟩ := hc
        have hr := cells_rep (c.opT ti.e x) hvs
        obtain ⟨hxl, hxv⟩ := RelL.seen c.mem (I := I) hI (vs := (a.eval x).cells.toList) (by rw [Array.length_toList]; exact hr.1) (fun j x v hx hv => hr.2 j x v hx (by simpa using hv)) hpv
          (fun o ho => hs o (by
            rw [cells_seen hvs] at ho
            simp only [List.flatMap_cons, List.mem_append]
            exact .inl (opT_seen _ _ _ o ho)))
        have hrow : rows[i]? = some rows[i] := List.getElem?_eq_getElem hc2
        have hrl := h.2.1 i _ hrow
        have hus : (a.eval x).cells.size = xs.length := by rw [hr.1, hxl]
        have h2 := h.set hrow hus (off := 0) (by omega) (fun j x v hx hv => hxv j x v hx (by simpa using hv))
        have e2 : splice rows[i] 0 xs = xs := by
          unfold splice
          rw [List.take_zero, List.nil_append, Nat.zero_add, List.drop_eq_nil_of_le (by omega), List.append_nil]
        rw [e2] at h2
        simp only [Nat.add_zero] at h2
        obtain ⟨cells, q1, q2, q3⟩ := fillR_rep c hI h2 hf (fun o ho => hs o (by simp only [List.flatMap_cons, List.mem_append]; exact .inr ho))
        refine ⟨cells, ?_, q2, by rw [q3, List.length_set]⟩
        have hend : i * ti.esz + ti.esz ≤ rows.length * ti.esz := by
          have := Nat.mul_le_mul_right ti.esz hc2
          rwa [Nat.succ_mul] at this
        have e1 : ¬ ((a.eval x).cells.size ≠ ti.esz ∨ i * ti.esz + (a.eval x).cells.size > cur.size) := by
          rw [hus, hc1, h.1]
          omega
        simp only [List.map_cons, Instr.fill]
        rw [if_neg (by simpa using e1), fold_cells _ _ cur (by rw [hus, hc1, h.1]; exact hend)]
        exact q1
      · cases hf
    · cases hf
theorem Cur.buildSlice {s : St} {a : Act} (c : Cur E B lim s g a w) {o : Oper} {t : TypeId} {n : Nat} {parts : Array (Nat × Operand)} (ho : o.op = .buildSlice t n parts) {ti te : TI} (hT : E.T t = some ti) (hk : ti.kd = 3) (h0 : 0 < ti.esz)
    (hn : n ≤ 65536) (he : ti.esz ≤ 256) (hTe : E.T ti.e = some te) {z : List PV} (hz : pvL s.ob te.zero = some z) (hzl : z.length = ti.esz) {rows : List (List PV)}
    (hf : fillR ti E s.ob (evOpd E s.tm) (List.replicate n z) parts.toList = some rows) :
    OpOk E B lim s g a w o { val := .one (.p (some 0) (.sl ti.esz rows)), ow := icy s.ob (parts.toList.flatMap fun p => seenT (evOpd E s.tm p.2)), rd := parts.toList.flatMap fun p => seenT (evOpd E s.tm p.2) } := by
  obtain ⟨hd, j, hj, hjz, hjb, _⟩ := (tiOk hT).sli hk
  obtain ⟨d, i, zv, hd', hi, hsz, hzv, hza, hzl', _⟩ := (tiOk hTe).base
  rw [hj] at hi
  cases hi
  obtain ⟨g1, hE1, hM1, hφ1, hb1, hs1⟩ := icy_all (parts.toList.flatMap fun p => seenT (evOpd E s.tm p.2)) c.mem c.lab
  obtain ⟨z1, z2, z3⟩ := zero_rows (n := n) c.mem hza hz hzl h0
  have hz0 : RowsRel g1.I w ti.esz ((Array.range (n * ti.esz)).map (zv.cells[· % zv.cells.size]!)) (List.replicate n z) := ⟨z1, z2, fun i r j x v a b c => (z3 i r j x v a b c).ext hE1⟩
  obtain ⟨cells, q1, q2, q3⟩ := fillR_rep c hE1.I hz0 hf hs1
  rw [List.length_replicate] at q3
  by_cases hn0 : n = 0
  · subst hn0
    have hrows : rows = [] := List.eq_nil_of_length_eq_zero q3
    subst hrows
    have hcells : cells = #[] := by
      have := q2.1
      simp at this
      exact this
    have hp : parts.toList = [] := by
      cases hp : parts.toList with
      | nil => rfl
      | cons p r =>
        rw [hp] at hf
        simp only [fillR, List.replicate] at hf
        split at hf
        · split at hf
          · rename_i h; simp at h
          · cases hf
        · cases hf
    have hE2 : Ext B lim g1 w (putAll s.ob (icy s.ob (parts.toList.flatMap fun p => seenT (evOpd E s.tm p.2)))) s.rt s.nx _ (w.alloc (.cells #[] ti.e)) _ s.rt s.nx := Ext.block hM1 (.cells #[] ti.e) (fun _ => False)
    have hM2 := RelM.block hM1 hb1 (.cells #[] ti.e) (fun _ => False)
    refine .value (v := .slice (some ⟨w.heap.size, 0, none⟩) 0 0) (w' := w.alloc (.cells #[] ti.e)) ?_ ⟨hE1.trans hE2, hM2, hb1, .of (.one (.p0 ?_))⟩
    · have hp2 : parts = #[] := Array.toList_eq_nil_iff.1 hp
      subst hp2
      simp [execOp, ho, Instr.buildSlice, run_underlying hd, sizeOf, typeInfo, hj, Instr.fill, Go.newRow, Array.range_zero']
    · exact .sl (l := []) (fun _ _ => undef) (Nat.le_refl _) (Nat.zero_le _) (fun h => by cases h) (fun a ha => by cases ha; rfl) (fun i r h => by simp at h) (fun a ha i r j x h => by simp at h) fun i r j x h => by simp at h
  · have hpos : ¬ n * j.size = 0 := by
      rw [hjz]
      exact Nat.mul_ne_zero hn0 (by omega)
    have hsmall : ¬ n * j.size > 2 ^ 24 := by
      have := Nat.mul_le_mul hn he
      rw [hjz]
      omega
    have hr := run_buildSlice (P := E.P) w t ti.e n (parts.map fun (i, x) => (i, a.eval x)) cells j zv hd hj hzv hsmall hpos (by
      rw [hjz, parts_eq]
      exact q1)
    have hE2 : Ext B lim g1 w (putAll s.ob (icy s.ob (parts.toList.flatMap fun p => seenT (evOpd E s.tm p.2)))) s.rt s.nx _ (w.alloc (.cells cells ti.e)) _ s.rt s.nx := Ext.block hM1 (.cells cells ti.e) (fun i => i < cells.size)
    have hM2 := RelM.block hM1 hb1 (.cells cells ti.e) (fun i => i < cells.size)
    refine .value (v := .slice (some ⟨w.heap.size, 0, none⟩) n n) (w' := w.alloc (.cells cells ti.e)) ?_ ⟨hE1.trans hE2, hM2, hb1, .of (.one (.p0 ?_))⟩
    · simp only [execOp, ho, hr, Sem.run_bind, Result.andThen_ok, Sem.run_pure]
    · have := RepP.ofCells (I := fun b i => g1.I b i ∨ (b = w.heap.size ∧ i < cells.size)) (w := w.alloc (.cells cells ti.e)) (b := w.heap.size) (o := 0) (cap := n) (z := ti.esz) (l := rows) cells.toList
        (by rw [Array.length_toList, q2.1])
        (fun k v hv => by
          rw [Array.getElem?_toList] at hv
          rw [Nat.zero_add]
          exact ⟨.inr ⟨rfl, (Array.getElem?_eq_some_iff.1 hv).1⟩, by rw [cell_of_row _ w.heap.size k cells ti.e (0, 0) (heap_new w _)]; exact hv⟩)
        (by omega) (by simp only [maxLen]; omega) q2.2.1
        (fun i r k x hr hx => by
          have hk' : k < ti.esz := by rw [← q2.2.1 i r hr]; exact (List.getElem?_eq_some_iff.1 hx).1
          have hlt : i * ti.esz + k < cells.size := by rw [q2.1]; exact at_lt (List.getElem?_eq_some_iff.1 hr).1 hk'
          refine ⟨cells[i * ti.esz + k], by rw [Array.getElem?_toList]; exact Array.getElem?_eq_getElem hlt, ?_⟩
          exact RepP.ext hE2 (q2.2.2 i r k x _ hr hx (Array.getElem?_eq_getElem hlt)))
      rw [q3] at this
      exact this
end
end Go.Proofs.YtjhljcnjafbkfaaDoor.X
end
section
set_option linter.unusedVariables false
namespace Go.Proofs.YtjhljcnjafbkfaaDoor.X
open Go.RowKit
section
variable {E : Env} {B : Blk} {lim base : Nat} {g g' : Gh} {w w' : World} {ob ob' : ObF} {rt rt' : RtF} {nx nx' : Nat} {I : Nat → Nat → Prop}
def RelAs (g : Gh) (w : World) (ob : ObF) (rt : RtF) (nx : Nat) (vs : List Value) (xs : List AT) : Prop :=
  vs.length = xs.length ∧ ∀ (i : Nat) (x : AT) (v : Value), xs[i]? = some x → vs[i]? = some v → RelA g w ob rt nx v x
def ResRel (g : Gh) (w : World) (ob : ObF) (rt : RtF) (nx : Nat) (v : Value) (rs : List AT) : Prop :=
  match rs with
  | [r] => RelA g w ob rt nx v r
  | rs => ∃ vs : Array Value, v = .tuple vs ∧ RelAs g w ob rt nx vs.toList rs
def Enters (P : Program) (f : FuncId) : Prop := ∃ fn, P.funcs[f]? = some fn ∧ fn.body.isSome = true ∧ (fn.name == "runtime.NumGoroutine") = false
theorem Enters.run {P : Program} {f : FuncId} (h : Enters P f) (args : Array Value) (w : World) : (callFunc f args).run P w = .ok (.enter f args) w := by
  obtain ⟨fn, h1, h2, h3⟩ := h
  have h4 : fn.body.isNone = false := by cases hb : fn.body <;> simp_all
  simp only [callFunc, Sem.run_bind, run_program, Result.andThen_ok, h1, h3, h4, Bool.false_eq_true, if_false, Sem.run_pure]
def lastN (mv : Bool) (base : Nat) : Nat := if mv then base + 4 else base
def CallOk (E : Env) (call : CallF) : Prop := ∀ base mv f args ob rt nx rs ob' rt' nx', call base mv f args ob rt nx = some (rs, ob', rt', nx') →
  Enters E.P f ∧ ∀ (g : Gh) (w : World) (B : Blk) (vals : Array Value), RelM E.G g w ob rt nx B → (∀ o, (ob o).isSome → o < base) → RelAs g w ob rt nx vals.toList args →
    Calls E.P f vals w fun e w' => ∃ v g', e = .returned v ∧ Ext B base g w ob rt nx g' w' ob' rt' nx' ∧ RelM E.G g' w' ob' rt' nx' B ∧ (∀ o, (ob' o).isSome → o < lastN mv base) ∧ ResRel g' w' ob' rt' nx' v rs
theorem cvAs_at : ∀ {l : List AT} {ts : List (Bool × List CV)}, cvAs l = some ts → ts.length = l.length ∧ ∀ (i : Nat) (x : AT) (t : Bool × List CV), l[i]? = some x → ts[i]? = some t → cvA x = some t
  | [], ts, h => by
    simp [cvAs] at h
    subst h
    exact ⟨rfl, fun i x t hx => by simp at hx⟩
  | a :: l, ts, h => by
    simp only [cvAs] at h
    split at h
    · rename_i y ys hy hys
      cases h
      obtain ⟨h1, h2⟩ := cvAs_at hys
      refine ⟨by simp [h1], fun i x t hx ht => ?_⟩
      cases i with
      | zero => simp at hx ht; subst hx; subst ht; exact hy
      | succ i => exact h2 i x t (by simpa using hx) (by simpa using ht)
    · cases h
theorem resAll_rep {v : Value} {rs : List AT} {r : AT} (h : ResRel g w ob rt nx v rs) (hr : resAll rs = some r) : RelA g w ob rt nx v r := by
  have key : ∀ {rs : List AT} {ts : List (Bool × List CV)}, cvAs rs = some ts → (∃ vs : Array Value, v = .tuple vs ∧ RelAs g w ob rt nx vs.toList rs) → RelA g w ob rt nx v (.tup ts) := by
    rintro rs ts hts ⟨vs, rfl, hl, hv⟩
    obtain ⟨h1, h2⟩ := cvAs_at hts
    refine .tup (by rw [h1, ← hl, Array.length_toList]) fun j t u ht hu => ?_
    have hj : j < rs.length := by rw [← h1]; exact (List.getElem?_eq_some_iff.1 ht).1
    have hx : rs[j]? = some rs[j] := List.getElem?_eq_getElem hj
    exact cvA_rep (hv j _ u hx (by simpa using hu)) (h2 j _ t hx ht)
  match rs, h, hr with
  | [r'], h, hr =>
    simp [resAll] at hr
    subst hr
    exact h
  | [], h, hr =>
    simp only [resAll, Option.map_eq_some_iff] at hr
    obtain ⟨ts, hts, rfl⟩ := hr
    exact key hts h
  | a :: b :: l, h, hr =>
    simp only [resAll, Option.map_eq_some_iff] at hr
    obtain ⟨ts, hts, rfl⟩ := hr
    exact key hts h
theorem exec_call {a : Act} {o : Oper} {f : Operand} {args : Array Operand} {ts : Array TypeId} {k : FuncId} {caps : Array Value} (ho : o.op = .call { callee := .value f, args, argTypes := ts }) (hf : a.eval f = .func (.func k) #[] caps)
    (he : Enters E.P k) : (execOp a.eval o).run E.P w = .ok (.enter k (args.map a.eval ++ caps)) w := by
  simp [execOp, ho, resolve, hf, Deferred.ofValue, invoke, he.run]
theorem args_rep {s : St} {a : Act} (c : Cur E B lim s g a w) : ∀ {args : List Operand} {ts : List TypeId}, args.length = ts.length →
    RelAs g w s.ob s.rt s.nx (args.map a.eval) ((args.zip ts).map fun p => X.opT E (evOpd E s.tm) p.2 p.1)
  | [], [], _ => ⟨rfl, fun i x v h => by simp at h⟩
  | x :: args, t :: ts, h => by
    obtain ⟨h1, h2⟩ := args_rep c (args := args) (ts := ts) (by simpa using h)
    refine ⟨by simpa using h1, fun i y v hy hv => ?_⟩
    cases i with
    | zero => simp at hy hv; subst hy; subst hv; exact c.opT t x
    | succ i => exact h2 i y v (by simpa using hy) (by simpa using hv)
  | [], _ :: _, h => by simp at h
  | _ :: _, [], h => by simp at h
theorem RelAs.append {vs us : List Value} {xs ys : List AT} (h : RelAs g w ob rt nx vs xs) (k : RelAs g w ob rt nx us ys) : RelAs g w ob rt nx (vs ++ us) (xs ++ ys) := by
  refine ⟨by simp [h.1, k.1], fun i x v hx hv => ?_⟩
  rw [List.getElem?_append] at hx hv
  rw [h.1] at hv
  split at hx
  · rename_i hi
    rw [if_pos hi] at hv
    exact h.2 i x v hx hv
  · rename_i hi
    rw [if_neg hi] at hv
    exact k.2 _ x v hx hv
theorem RelM.bare {G : Nat → Option (List PV)} (h : RelM G g w ob rt nx B) (I' : Nat → Nat → Prop) (hI : ∀ b i, g.I b i → I' b i) (hb : ∀ b i, I' b i → b < w.heap.size) :
    RelM G { g with I := I' } w noOb noRt 1 (old w) :=
  ⟨Nat.one_pos, fun k cs hk => (h.glob k cs hk).mono hI fun _ _ _ => rfl, fun _ h => h, (fun o x hx => by cases hx), (fun o o' x y ho => by cases ho), (fun n _ _ h => by cases h), (fun n m b _ _ _ _ h => by cases h), hb⟩
theorem argsOf_at : ∀ {ob : ObF} {l : List AT} {xs : List Arg}, argsOf ob l = some xs → xs.length = l.length ∧ ∀ (i : Nat) (x : AT) (y : Arg), l[i]? = some x → xs[i]? = some y → argOf ob x = some y
  | ob, [], xs, h => by
    simp [argsOf] at h
    subst h
    exact ⟨rfl, fun i x t hx => by simp at hx⟩
  | ob, a :: l, xs, h => by
    simp only [argsOf] at h
    split at h
    · rename_i y ys hy hys
      cases h
      obtain ⟨h1, h2⟩ := argsOf_at hys
      refine ⟨by simp [h1], fun i x t hx ht => ?_⟩
      cases i with
      | zero => simp at hx ht; subst hx; subst ht; exact hy
      | succ i => exact h2 i x t (by simpa using hx) (by simpa using ht)
    · cases h
def RepA (I : Nat → Nat → Prop) (w : World) (v : Value) (x : Arg) : Prop := match x with
  | (false, [y]) => RepP I w v y
  | (true, ys) => ∃ vs : Array Value, v = .agg vs ∧ vs.size = ys.length ∧ ∀ (j : Nat) (y : PV) (u : Value), ys[j]? = some y → vs[j]? = some u → RepP I w u y
  | _ => False
theorem RepA.rel1 {v : Value} {x : Arg} (h : RepA g.I w v x) : RelA1 g w ob rt nx v (atOf x) := by
  unfold RepA at h
  split at h
  · exact .one (.p h)
  · obtain ⟨vs, rfl, hl, hv⟩ := h
    refine .agg ⟨by simpa using hl, fun j y u hy hu => ?_⟩
    simp only [List.getElem?_map, Option.map_eq_some_iff] at hy
    obtain ⟨z, hz, rfl⟩ := hy
    exact .p (hv j z u hz hu)
  · exact h.elim
theorem RepA.rel {v : Value} {x : Arg} (h : RepA g.I w v x) : RelA g w ob rt nx v (atOf x) := .of h.rel1
theorem argOf_rep {G : Nat → Option (List PV)} (h : RelM G g w ob rt nx B) (hI : ∀ b i, g.I b i → I b i) {v : Value} {x : AT} {y : Arg} (k : RelA g w ob rt nx v x) (hy : argOf ob x = some y)
    (hs : ∀ o ∈ seenT x, ∀ fz z rows, ob o = some (.arr fz z rows) → ∀ i, i < rows.length * z → I (g.φ o) i) : RepA I w v y := by
  cases k with
  | tup => simp [argOf] at hy
  | of k =>
    cases k with
    | no => simp [argOf] at hy
    | one k =>
      simp only [argOf, Option.map_eq_some_iff] at hy
      obtain ⟨z, hz, rfl⟩ := hy
      exact k.seen h hz hI hs
    | agg k =>
      rename_i vs cs
      simp only [argOf, Option.map_eq_some_iff] at hy
      obtain ⟨z, hz, rfl⟩ := hy
      obtain ⟨h1, h2⟩ := RelL.seen h hI (vs := vs.toList) (by rw [Array.length_toList]; exact k.1) (fun j x v hx hv => k.2 j x v hx (by simpa using hv)) hz hs
      exact ⟨vs, rfl, by rw [h1, k.1], fun j y u hy hu => h2 j y u hy (by simpa using hu)⟩
theorem RelM.later {G : Nat → Option (List PV)} (h : RelM G g w ob rt nx B) (hb : ∀ o, (ob o).isSome → o < lim) (hw : Keep (old w) w w') (I' : Nat → Nat → Prop) (h1 : ∀ b i, b < w.heap.size → (I' b i ↔ g.I b i)) (h2 : ∀ b i, I' b i → b < w'.heap.size) :
    Ext B lim g w ob rt nx { g with I := I' } w' ob rt nx ∧ RelM G { g with I := I' } w' ob rt nx B := by
  have hE : Ext B lim g w ob rt nx { g with I := I' } w' ob rt nx :=
    ⟨hw.mono h.size, fun b i hi => (h1 b i (h.bnd b i hi)).2 hi, fun b i hbB hi => (h1 b i (h.size b hbB)).1 hi, fun b i hi => hw.below.cell (p := ⟨b, i, none⟩) (h.bnd b i hi), fun o x _ hx => ⟨x, hx, .refl x⟩, fun _ _ _ => rfl,
      fun _ _ ht => ⟨ht, rfl⟩, Nat.le_refl _⟩
  refine ⟨hE, ⟨h.pos, fun k cs hk => (h.glob k cs hk).ext hE, fun b hb => Nat.lt_of_lt_of_le (h.size b hb) hw.size, fun o x hx => ?_, h.inj, fun n h0 hn ht => ?_, h.apart, h2⟩⟩
  · obtain ⟨q, r⟩ := h.obj o x hx
    exact ⟨q.ext hE hb (fun hs => hw.block _ (q.lt hs)) fun hs i hi => (h1 _ i (q.lt hs)).1 hi, r⟩
  · have k := h.own n h0 hn ht
    refine k.ext rfl rfl fun b hβ => ⟨hw.block b (k.lt hβ).1, fun i hi => (h1 b i (k.lt hβ).1).1 hi, ?_⟩
    cases k with
    | full A k z h hb' => rw [hb'] at hβ; cases hβ
    | own b' len cap z e cur h hb' hB q1 q2 q3 q4 q5 q6 =>
      rw [hb'] at hβ
      cases hβ
      exact q6
theorem flat_rep {I' : Nat → Nat → Prop} {v : Value} {x : Arg} (h : RepA I w v x) (hf : flatArg x = true) : RepA I' w' v x := by
  have key : ∀ {y : PV} {u : Value}, RepP I w u y → flatP y = true → RepP I' w' u y := by
    intro y u hy hm
    cases hy with
    | sc h => exact .sc h
    | _ => cases hm
  unfold RepA at h ⊢
  split at h
  · exact key h (by simpa [flatArg] using hf)
  · obtain ⟨vs, rfl, hl, hv⟩ := h
    refine ⟨vs, rfl, hl, fun j y u hy hu => key (hv j y u hy hu) ?_⟩
    exact List.all_eq_true.1 hf y (List.mem_of_getElem? hy)
  · exact h.elim
def ResA (I : Nat → Nat → Prop) (w : World) (v : Value) (rs : List Arg) : Prop := match rs with
  | [r] => RepA I w v r
  | rs => ∃ vs : Array Value, v = .tuple vs ∧ vs.size = rs.length ∧ ∀ (i : Nat) (x : Arg) (u : Value), rs[i]? = some x → vs[i]? = some u → RepA I w u x
theorem ResA.map {I' : Nat → Nat → Prop} {v : Value} {rs : List Arg} (h : ResA I w v rs) (hm : ∀ x ∈ rs, ∀ u, RepA I w u x → RepA I' w' u x) : ResA I' w' v rs := by
  match rs, h, hm with
  | [r], h, hm => exact hm r (by simp) v h
  | [], h, hm =>
    obtain ⟨vs, rfl, hl, hv⟩ := h
    exact ⟨vs, rfl, hl, fun i x u hx => by simp at hx⟩
  | a :: b :: l, h, hm =>
    obtain ⟨vs, rfl, hl, hv⟩ := h
    exact ⟨vs, rfl, hl, fun i x u hx hu => hm x (List.mem_of_getElem? hx) u (hv i x u hx hu)⟩
theorem atC_cv (x : Arg) : atC (cvOf x) = atOf x := by
  obtain ⟨b, l⟩ := x
  cases b <;> cases l with
  | nil => rfl
  | cons a l => cases l <;> rfl
theorem ResA.rel {v : Value} {rs : List Arg} (h : ResA g.I w v rs) : RelA g w ob rt nx v (resAT rs) := by
  have key : ∀ {rs : List Arg}, (∃ vs : Array Value, v = .tuple vs ∧ vs.size = rs.length ∧ ∀ (i : Nat) (x : Arg) (u : Value), rs[i]? = some x → vs[i]? = some u → RepA g.I w u x) → RelA g w ob rt nx v (.tup (rs.map cvOf)) := by
    rintro rs ⟨vs, rfl, hl, hv⟩
    refine .tup (by simpa using hl) fun j t u ht hu => ?_
    simp only [List.getElem?_map, Option.map_eq_some_iff] at ht
    obtain ⟨x, hx, rfl⟩ := ht
    rw [atC_cv]
    exact (hv j x u hx hu).rel1
  match rs, h with
  | [r], h => exact RepA.rel h
  | [], h => exact key h
  | a :: b :: l, h => exact key h
end
end Go.Proofs.YtjhljcnjafbkfaaDoor.X
end
section
set_option linter.unusedVariables false
namespace Go.Proofs.YtjhljcnjafbkfaaDoor.X
open Go.RowKit
section
variable {E : Env} {B : Blk} {lim base : Nat} {g g' : Gh} {w w' : World} {ob ob' : ObF} {rt rt' : RtF} {nx nx' : Nat} {I : Nat → Nat → Prop}
theorem results_rep {G : Nat → Option (List PV)} (h : RelM G g w ob rt nx B) (hno : ∀ o, ob o = none) {v : Value} {rs : List AT} {xs : List Arg} (k : ResRel g w ob rt nx v rs) (hx : argsOf ob rs = some xs) : ResA g.I w v xs := by
  have hs : ∀ (x : AT), ∀ o ∈ seenT x, ∀ fz z rows, ob o = some (.arr fz z rows) → ∀ i, i < rows.length * z → g.I (g.φ o) i := fun x o _ fz z rows ho => by rw [hno o] at ho; cases ho
  have key : ∀ {rs : List AT} {xs : List Arg}, argsOf ob rs = some xs → (∃ vs : Array Value, v = .tuple vs ∧ RelAs g w ob rt nx vs.toList rs) →
      ∃ vs : Array Value, v = .tuple vs ∧ vs.size = xs.length ∧ ∀ (i : Nat) (x : Arg) (u : Value), xs[i]? = some x → vs[i]? = some u → RepA g.I w u x := by
    rintro rs xs hx ⟨vs, rfl, hl, hv⟩
    obtain ⟨h1, h2⟩ := argsOf_at hx
    refine ⟨vs, rfl, by rw [h1, ← hl, Array.length_toList], fun i x u hxi hu => ?_⟩
    have hi : i < rs.length := by rw [← h1]; exact (List.getElem?_eq_some_iff.1 hxi).1
    have hr : rs[i]? = some rs[i] := List.getElem?_eq_getElem hi
    exact argOf_rep h (fun _ _ q => q) (hv i _ u hr (by simpa using hu)) (h2 i _ x hr hxi) (hs _)
  obtain ⟨hl, hat⟩ := argsOf_at hx
  match rs, xs, hl, k, hx with
  | [r], [x], hl, k, hx => exact argOf_rep h (fun _ _ q => q) k (hat 0 r x rfl rfl) (hs r)
  | [], [], hl, k, hx => exact key hx k
  | a :: b :: l, c :: d :: m, hl, k, hx => exact key hx k
  | [], _ :: _, hl, _, _ => simp at hl
  | [_], [], hl, _, _ => simp at hl
  | [_], _ :: _ :: _, hl, _, _ => simp at hl
  | _ :: _ :: _, [], hl, _, _ => simp at hl
  | _ :: _ :: _, [_], hl, _, _ => simp at hl
theorem capArgs_rep {caps : List Value} {cs : List PV} (hl : caps.length = cs.length) (h : ∀ (j : Nat) (x : PV) (v : Value), cs[j]? = some x → caps[j]? = some v → RepP g.I w v x) :
    RelAs g w ob rt nx caps ((capArgs cs).map atOf) := by
  refine ⟨by simp [capArgs, hl], fun i x v hx hv => ?_⟩
  simp only [capArgs, List.map_map, List.getElem?_map, Option.map_eq_some_iff] at hx
  obtain ⟨y, hy, rfl⟩ := hx
  exact .of (.one (.p (h i y v hy hv)))
theorem Cur.callPure {s : St} {a : Act} {call : CallF} (hcall : CallOk E call) (c : Cur E B lim s g a w) {o : Oper} {f : Operand} {args : Array Operand} {ts : Array TypeId} {k : FuncId} {p : Option Nat} {cs : List PV}
    (ho : o.op = .call { callee := .value f, args, argTypes := ts }) (hf : evOpd E s.tm f = .one (.p p (.fn k cs))) (hlen : args.toList.length = ts.toList.length) {xs rs : List Arg}
    (hxs : argsOf s.ob ((args.toList.zip ts.toList).map fun p => X.opT E (evOpd E s.tm) p.2 p.1) = some xs) (h : pureCall call k (xs ++ capArgs cs) = some rs) :
    OpOk E B lim s g a w o { val := resAT rs, ow := if rs.all flatArg then [] else icy s.ob (((args.toList.zip ts.toList).map fun p => X.opT E (evOpd E s.tm) p.2 p.1).flatMap seenT),
                             rd := ((args.toList.zip ts.toList).map fun p => X.opT E (evOpd E s.tm) p.2 p.1).flatMap seenT } := by
  have hfr := c.opd f
  rw [hf] at hfr
  have hfr := one_rep hfr
  generalize hfv : a.eval f = fv at hfr
  have hfn : RepP g.I w fv (.fn k cs) := by cases hfr; assumption
  cases hfn with
  | fn hcl hcr =>
    rename_i caps
    -- what the arguments show is written no more while the call runs
    obtain ⟨g1, hE1, hM1, hφ1, hb1, hs1⟩ := icy_all (((args.toList.zip ts.toList).map fun p => X.opT E (evOpd E s.tm) p.2 p.1).flatMap seenT) c.mem c.lab
    have hb0 := hM1.bare g1.I (fun _ _ q => q) hM1.bnd
    have hargs := args_rep c hlen
    obtain ⟨hx1, hx2⟩ := argsOf_at hxs
    have ha1 : RelAs { g1 with I := g1.I } w noOb noRt 1 (args.toList.map a.eval) (xs.map atOf) := by
      refine ⟨by rw [hargs.1, ← hx1]; simp, fun i x v hx hv => ?_⟩
      simp only [List.getElem?_map, Option.map_eq_some_iff] at hx
      obtain ⟨y, hy, rfl⟩ := hx
      have hi : i < (((args.toList.zip ts.toList).map fun p => X.opT E (evOpd E s.tm) p.2 p.1)).length := by rw [← hx1]; exact (List.getElem?_eq_some_iff.1 hy).1
      have hr := List.getElem?_eq_getElem hi
      refine RepA.rel (argOf_rep c.mem hE1.I (hargs.2 i _ v hr hv) (hx2 i _ y hr hy) fun o ho => hs1 o ?_)
      exact List.mem_flatMap.2 ⟨_, List.mem_of_getElem? hr, ho⟩
    have ha2 : RelAs { g1 with I := g1.I } w noOb noRt 1 caps.toList ((capArgs cs).map atOf) :=
      capArgs_rep (by rw [Array.length_toList]; exact hcl) fun j x v hx hv => (hcr j x v hx (by simpa using hv)).mono hE1.I fun _ _ _ => rfl
    have ha3 := ha1.append ha2
    rw [← List.map_append] at ha3
    -- the call
    unfold pureCall at h
    split at h
    · rename_i rs' ob' rt' nx' hc
      obtain ⟨he, hcal⟩ := hcall _ _ _ _ _ _ _ _ _ _ _ hc
      intro K Q hK
      unfold Oper.wp
      rw [exec_call ho hfv he]
      refine (hcal { g1 with I := g1.I } w (old w) (args.map a.eval ++ caps) hb0 (fun o ho => by cases ho) (by simpa using ha3)).mono fun e w' hq => ?_
      obtain ⟨v, g', rfl, q1, q2, q3, q4⟩ := hq
      have hno : ∀ o, ob' o = none := fun o => by
        cases ho : ob' o with
        | none => rfl
        | some x => exact absurd (q3 o (by simp [ho])) (Nat.not_lt_zero _)
      have hres := results_rep q2 hno q4 h
      by_cases hfl : rs.all flatArg = true
      · obtain ⟨z1, z2⟩ := c.mem.later c.lab q1.below g.I (fun _ _ _ => Iff.rfl) (fun b i hi => Nat.lt_of_lt_of_le (c.mem.bnd b i hi) q1.below.size)
        have hrel : ResA g.I w' v rs := hres.map fun x hx u hu => flat_rep hu (List.all_eq_true.1 hfl x hx)
        refine hK v { g with I := g.I } w' ?_
        rw [if_pos hfl]
        exact ⟨z1, z2, c.lab, ResA.rel hrel⟩
      · have hold : ∀ b i, b < w.heap.size → ((fun b i => (b < w.heap.size ∧ g1.I b i) ∨ (¬ b < w.heap.size ∧ g'.I b i)) b i ↔ g1.I b i) := by
          intro b i hb
          constructor
          · rintro (⟨_, q⟩ | ⟨q, _⟩)
            · exact q
            · exact absurd hb q
          · exact fun q => .inl ⟨hb, q⟩
        obtain ⟨z1, z2⟩ := hM1.later hb1 q1.below (fun b i => (b < w.heap.size ∧ g1.I b i) ∨ (¬ b < w.heap.size ∧ g'.I b i)) hold (fun b i hi => by
          rcases hi with ⟨q, _⟩ | ⟨_, q⟩
          · exact Nat.lt_of_lt_of_le q q1.below.size
          · exact q2.bnd b i q)
        have hII : ∀ b i, g'.I b i → (b < w.heap.size ∧ g1.I b i) ∨ (¬ b < w.heap.size ∧ g'.I b i) := by
          intro b i hi
          by_cases hb : b < w.heap.size
          · exact .inl ⟨hb, q1.old b i hb hi⟩
          · exact .inr ⟨hb, hi⟩
        have hmono : ∀ {x : Arg} {u : Value}, RepA g'.I w' u x → RepA (fun b i => (b < w.heap.size ∧ g1.I b i) ∨ (¬ b < w.heap.size ∧ g'.I b i)) w' u x := by
          intro x u hu
          unfold RepA at hu ⊢
          split at hu
          · exact hu.mono hII fun _ _ _ => rfl
          · obtain ⟨vs, rfl, hl, hv⟩ := hu
            exact ⟨vs, rfl, hl, fun j y u hy hu => (hv j y u hy hu).mono hII fun _ _ _ => rfl⟩
          · exact hu.elim
        have hrel := hres.map (I' := fun b i => (b < w.heap.size ∧ g1.I b i) ∨ (¬ b < w.heap.size ∧ g'.I b i)) (w' := w') fun x _ u hu => hmono hu
        refine hK v { g1 with I := fun b i => (b < w.heap.size ∧ g1.I b i) ∨ (¬ b < w.heap.size ∧ g'.I b i) } w' ?_
        rw [if_neg hfl]
        exact ⟨hE1.trans z1, z2, hb1, ResA.rel hrel⟩
    · cases h
def wide (g : Gh) (ob : ObF) : Nat → Nat → Prop := fun b i => g.I b i ∨ ∃ o x, ob o = some x ∧ x.solid ∧ g.φ o = b
theorem wide_seen {o : Nat} {b i : Nat} {x : Obj} (ho : ob o = some x) (hs : x.solid) (hb : g.φ o = b) : wide g ob b i := .inr ⟨o, x, ho, hs, hb⟩
theorem RelC.snap {G : Nat → Option (List PV)} (h : RelM G g w ob rt nx B) {v : Value} {c : CV} (k : RelC g w ob rt nx v c) : ∀ {x : PV}, snapC ob c = some x → RepP (wide g ob) w v x := by
  have hs : ∀ o, ∀ fz z rows, ob o = some (.arr fz z rows) → ∀ i, i < rows.length * z → wide g ob (g.φ o) i := fun o fz z rows ho i hi => wide_seen ho (solid_lt hi) rfl
  induction k with
  | p k => intro x hx; cases hx; exact k.mono (fun _ _ q => .inl q) fun _ _ _ => rfl
  | p0 k => intro x hx; cases hx; exact k.mono (fun _ _ q => .inl q) fun _ _ _ => rfl
  | pn h0 h1 k hg => intro x hx; cases hx; exact k.mono (fun _ _ q => .inl q) fun _ _ _ => rfl
  | vw k h1 h2 h3 h4 h5 h6 =>
    intro x hx
    exact RelC.seen h (RelC.vw k h1 h2 h3 h4 h5 h6) hx (fun _ _ q => .inl q) fun o _ => hs o
  | @pt o off cs k =>
    intro x hx
    simp only [snapC, k, Option.map_eq_some_iff] at hx
    obtain ⟨xs, hxs, rfl⟩ := hx
    cases (h.obj o _ k).1 with
    | var e vs hh hr hI =>
      obtain ⟨l1, l2⟩ := RelL.seen h (I := wide g ob) (fun _ _ q => .inl q) (vs := vs.toList) (by simpa using hr.1) (fun j x v hx hv => hr.2 j x v hx (by simpa using hv)) hxs fun o _ => hs o
      refine .ref (fun j => (vs[off + j]?).getD undef) (fun j y hy => ⟨wide_seen k trivial rfl, ?_⟩) fun j y hy => ?_
      · rw [List.getElem?_drop] at hy
        have hj : off + j < vs.size := by have := (List.getElem?_eq_some_iff.1 hy).1; rw [hr.1]; omega
        rw [cell_of_row w _ _ vs e (0, 0) hh, Array.getElem?_eq_getElem hj]
        rfl
      · rw [List.getElem?_drop] at hy
        have hj : off + j < vs.size := by have := (List.getElem?_eq_some_iff.1 hy).1; rw [hr.1]; omega
        refine l2 (off + j) y _ hy ?_
        rw [Array.getElem?_eq_getElem hj]
        simp [hj]
  | @pr o r off fz z rows k =>
    intro x hx
    simp only [snapC, k, Option.map_eq_some_iff] at hx
    obtain ⟨row, hrow, rfl⟩ := hx
    cases (h.obj o _ k).1 with
    | nil => simp at hrow
    | arr e vs hh hl hm hz hr hI hJ =>
      have hb : ∀ j y, row[off + j]? = some y → r * z + (off + j) < vs.size := fun j y hy => by
        refine Nat.lt_of_lt_of_le ?_ hl
        exact at_lt (List.getElem?_eq_some_iff.1 hrow).1 (by rw [← hz r row hrow]; exact (List.getElem?_eq_some_iff.1 hy).1)
      refine .ref (fun j => (vs[r * z + (off + j)]?).getD undef) (fun j y hy => ⟨wide_seen k (Obj.solid_arr hrow) rfl, ?_⟩) fun j y hy => ?_
      · rw [List.getElem?_drop] at hy
        rw [Nat.add_assoc, cell_of_row w _ _ vs e (0, 0) hh, Array.getElem?_eq_getElem (hb j y hy)]
        rfl
      · rw [List.getElem?_drop] at hy
        have hj := hb j y hy
        refine (hr r row (off + j) y _ hrow hy (by rw [Array.getElem?_eq_getElem hj]; rfl)).mono (fun _ _ q => .inl q) fun _ _ _ => rfl
  | mt k => intro x hx; simp [snapC] at hx
  | @cl f caps cs hl hr ih =>
    intro x hx
    simp only [snapC, Option.map_eq_some_iff] at hx
    obtain ⟨xs, hxs, rfl⟩ := hx
    have key : ∀ {cs : List CV} {xs : List PV} {k : Nat}, snapL ob cs = some xs → (∀ (j : Nat) (x : CV) (v : Value), cs[j]? = some x → caps[k + j]? = some v → ∀ {y : PV}, snapC ob x = some y → RepP (wide g ob) w v y) →
        xs.length = cs.length ∧ ∀ (j : Nat) (y : PV) (v : Value), xs[j]? = some y → caps[k + j]? = some v → RepP (wide g ob) w v y := by
      intro cs
      induction cs with
      | nil => intro xs k h _; simp only [snapL, Option.some.injEq] at h; subst h; exact ⟨rfl, fun j y v h => by simp at h⟩
      | cons c cs ihc =>
        intro xs k h hk
        simp only [snapL] at h
        split at h
        · rename_i y ys hy hys
          cases h
          obtain ⟨q1, q2⟩ := ihc (k := k + 1) hys fun j x v hx hv => hk (j + 1) x v (by simpa using hx) (by rw [← hv]; congr 1; omega)
          refine ⟨by simp [q1], fun j z v hz hv => ?_⟩
          cases j with
          | zero => simp at hz; subst hz; exact hk 0 c v rfl hv hy
          | succ j => exact q2 j z v (by simpa using hz) (by rw [← hv]; congr 1; omega)
        · cases h
    obtain ⟨q1, q2⟩ := key (k := 0) hxs fun j x v hx hv => ih j x v hx (by rw [Nat.zero_add] at hv; exact hv)
    exact .fn (hl.trans q1.symm) fun j y v hy hv => q2 j y v hy (by rw [Nat.zero_add]; exact hv)
theorem snapL_rep {G : Nat → Option (List PV)} (h : RelM G g w ob rt nx B) : ∀ {cs : List CV} {vs : List Value} {xs : List PV}, vs.length = cs.length → (∀ (j : Nat) (x : CV) (v : Value), cs[j]? = some x → vs[j]? = some v → RelC g w ob rt nx v x) → snapL ob cs = some xs →
    xs.length = cs.length ∧ ∀ (j : Nat) (y : PV) (v : Value), xs[j]? = some y → vs[j]? = some v → RepP (wide g ob) w v y
  | [], vs, xs, hl, hr, hx => by
    simp only [snapL, Option.some.injEq] at hx
    subst hx
    exact ⟨rfl, fun j y v h => by simp at h⟩
  | c :: cs, [], xs, hl, hr, hx => by simp at hl
  | c :: cs, v :: vs, xs, hl, hr, hx => by
    simp only [snapL] at hx
    split at hx
    · rename_i y ys hy hys
      cases hx
      obtain ⟨q1, q2⟩ := snapL_rep h (vs := vs) (by simpa using hl) (fun j x v hx hv => hr (j + 1) x v (by simpa using hx) (by simpa using hv)) hys
      refine ⟨by simp [q1], fun j z u hz hu => ?_⟩
      cases j with
      | zero => simp at hz hu; subst hz; subst hu; exact (hr 0 c v rfl rfl).snap h hy
      | succ j => exact q2 j z u (by simpa using hz) (by simpa using hu)
    · cases hx
theorem snapOf_rep {G : Nat → Option (List PV)} (h : RelM G g w ob rt nx B) {v : Value} {x : AT} {y : Arg} (k : RelA g w ob rt nx v x) (hy : snapOf ob x = some y) : RepA (wide g ob) w v y := by
  cases k with
  | tup => simp [snapOf] at hy
  | of k =>
    cases k with
    | no => simp [snapOf] at hy
    | one k =>
      simp only [snapOf, Option.map_eq_some_iff] at hy
      obtain ⟨z, hz, rfl⟩ := hy
      exact k.snap h hz
    | agg k =>
      rename_i vs cs
      simp only [snapOf, Option.map_eq_some_iff] at hy
      obtain ⟨z, hz, rfl⟩ := hy
      obtain ⟨h1, h2⟩ := snapL_rep h (vs := vs.toList) (by simpa using k.1) (fun j x v hx hv => k.2 j x v hx (by simpa using hv)) hz
      exact ⟨vs, rfl, by rw [h1, k.1], fun j y u hy hu => h2 j y u hy (by simpa using hu)⟩
theorem snapArgs_at : ∀ {ob : ObF} {l : List AT} {xs : List Arg}, snapArgs ob l = some xs → xs.length = l.length ∧ ∀ (i : Nat) (x : AT) (y : Arg), l[i]? = some x → xs[i]? = some y → snapOf ob x = some y
  | ob, [], xs, h => by
    simp only [snapArgs, Option.some.injEq] at h
    subst h
    exact ⟨rfl, fun i x t hx => by simp at hx⟩
  | ob, a :: l, xs, h => by
    simp only [snapArgs] at h
    split at h
    · rename_i y ys hy hys
      cases h
      obtain ⟨h1, h2⟩ := snapArgs_at hys
      refine ⟨by simp [h1], fun i x t hx ht => ?_⟩
      cases i with
      | zero => simp at hx ht; subst hx; subst ht; exact hy
      | succ i => exact h2 i x t (by simpa using hx) (by simpa using ht)
    · cases h
theorem Cur.callFlat {s : St} {a : Act} {call : CallF} (hcall : CallOk E call) (c : Cur E B lim s g a w) {o : Oper} {f : Operand} {args : Array Operand} {ts : Array TypeId} {k : FuncId} {caps : Array Value} {cs : List AT}
    (ho : o.op = .call { callee := .value f, args, argTypes := ts }) (hf : a.eval f = .func (.func k) #[] caps) (hlen : args.toList.length = ts.toList.length) (hcs : RelAs g w s.ob s.rt s.nx caps.toList cs) {xs : List Arg} {u : Upd} {R : List Nat}
    (hxs : snapArgs s.ob (((args.toList.zip ts.toList).map fun p => X.opT E (evOpd E s.tm) p.2 p.1) ++ cs) = some xs) (h : flatCall call k xs R = some u) : OpOk E B lim s g a w o u := by
  unfold flatCall at h
  simp only [Option.bind_eq_some_iff] at h
  obtain ⟨rs, hp, h⟩ := h
  split at h
  · rename_i hfl
    cases h
    have hargs := (args_rep c hlen).append hcs
    obtain ⟨hx1, hx2⟩ := snapArgs_at hxs
    have hwb : ∀ b i, wide g s.ob b i → b < w.heap.size := fun b i hi => by
      rcases hi with hi | ⟨q, x, hx, hs, rfl⟩
      · exact c.mem.bnd b i hi
      · exact (c.mem.obj q x hx).1.lt hs
    have hb0 := c.mem.bare (wide g s.ob) (fun _ _ q => .inl q) hwb
    have ha : RelAs { g with I := wide g s.ob } w noOb noRt 1 (args.toList.map a.eval ++ caps.toList) (xs.map atOf) := by
      refine ⟨by rw [hargs.1, ← hx1]; simp, fun i x v hx hv => ?_⟩
      simp only [List.getElem?_map, Option.map_eq_some_iff] at hx
      obtain ⟨y, hy, rfl⟩ := hx
      have hi := (List.getElem?_eq_some_iff.1 hy).1
      have hr := List.getElem?_eq_getElem (l := ((args.toList.zip ts.toList).map fun p => X.opT E (evOpd E s.tm) p.2 p.1) ++ cs) (i := i) (by rw [← hx1]; exact hi)
      exact RepA.rel (g := { g with I := wide g s.ob }) (snapOf_rep c.mem (hargs.2 i _ v hr hv) (hx2 i _ y hr hy))
    unfold pureCall at hp
    split at hp
    · rename_i rs' ob' rt' nx' hc
      obtain ⟨he, hcal⟩ := hcall _ _ _ _ _ _ _ _ _ _ _ hc
      intro K Q hK
      unfold Oper.wp
      rw [exec_call ho hf he]
      refine (hcal { g with I := wide g s.ob } w (old w) (args.map a.eval ++ caps) hb0 (fun o ho => by cases ho) (by simpa using ha)).mono fun e w' hq => ?_
      obtain ⟨v, g', rfl, q1, q2, q3, q4⟩ := hq
      have hno : ∀ o, ob' o = none := fun o => by
        cases ho : ob' o with
        | none => rfl
        | some x => exact absurd (q3 o (by simp [ho])) (Nat.not_lt_zero _)
      have hres := results_rep q2 hno q4 hp
      obtain ⟨z1, z2⟩ := c.mem.later c.lab q1.below g.I (fun _ _ _ => Iff.rfl) (fun b i hi => Nat.lt_of_lt_of_le (c.mem.bnd b i hi) q1.below.size)
      have hrel : ResA g.I w' v rs := hres.map fun x hx u hu => flat_rep hu (List.all_eq_true.1 hfl x hx)
      exact hK v { g with I := g.I } w' ⟨z1, z2, c.lab, ResA.rel hrel⟩
    · cases hp
  · cases h
end
end Go.Proofs.YtjhljcnjafbkfaaDoor.X
end
section
set_option linter.unusedVariables false
namespace Go.Proofs.YtjhljcnjafbkfaaDoor.X
open Go.RowKit
section
variable {E : Env} {B : Blk} {lim base : Nat} {g g' : Gh} {w w' : World} {ob ob' : ObF} {rt rt' : RtF} {nx nx' : Nat} {I : Nat → Nat → Prop}
theorem caps_rep {s : St} {a : Act} (c : Cur E B lim s g a w) : ∀ {l : List Operand} {cs : List (Bool × List CV)}, cvAs (l.map (evOpd E s.tm)) = some cs → cs.all (fun c => !c.1) = true →
    (cs.flatMap (·.2)).length = l.length ∧ ∀ (j : Nat) (x : CV) (v : Value), (cs.flatMap (·.2))[j]? = some x → (l.map a.eval)[j]? = some v → RelC g w s.ob s.rt s.nx v x
  | [], cs, h, _ => by
    simp [cvAs] at h
    subst h
    exact ⟨rfl, fun j x v hx => by simp at hx⟩
  | o :: l, cs, h, hall => by
    simp only [List.map_cons, cvAs] at h
    split at h
    · rename_i y ys hy hys
      cases h
      simp only [List.all_cons, Bool.and_eq_true] at hall
      obtain ⟨h1, h2⟩ := caps_rep c hys hall.2
      have ho := c.opd o
      obtain ⟨x0, hx0, hr⟩ : ∃ x0, y = (false, [x0]) ∧ RelC g w s.ob s.rt s.nx (a.eval o) x0 := by
        generalize evOpd E s.tm o = z at hy ho
        cases z with
        | one c0 => simp [cvA] at hy; exact ⟨c0, hy.symm, one_rep ho⟩
        | agg cs0 => simp [cvA] at hy; subst hy; simp at hall
        | _ => simp [cvA] at hy
      subst hx0
      refine ⟨by simp [h1], fun j x v hx hv => ?_⟩
      cases j with
      | zero => simp at hx hv; subst hx; subst hv; exact hr
      | succ j => exact h2 j x v (by simpa using hx) (by simpa using hv)
    · cases h
theorem pvL_noOb : ∀ {xs : List CV} {ps : List PV}, pvL noOb xs = some ps → ps.length = xs.length ∧ ∀ (j : Nat) (x : CV) (y : PV), xs[j]? = some x → ps[j]? = some y → ∃ p, x = .p p y
  | [], ps, h => by
    simp [pvL] at h
    subst h
    exact ⟨rfl, fun j x y hx => by simp at hx⟩
  | c :: xs, ps, h => by
    simp only [pvL] at h
    split at h
    · rename_i y ys hy hys
      cases h
      obtain ⟨h1, h2⟩ := pvL_noOb hys
      refine ⟨by simp [h1], fun j x z hx hz => ?_⟩
      cases j with
      | zero =>
        simp at hx hz
        subst hx
        subst hz
        cases c with
        | p q x => simp [pvC] at hy; exact ⟨q, by rw [hy]⟩
        | vw => simp [pvC, noOb] at hy
        | _ => simp [pvC] at hy
      | succ j => exact h2 j x z (by simpa using hx) (by simpa using hz)
    · cases h
theorem p_rep {v : Value} {p : Option Nat} {x : PV} (h : RelC g w ob rt nx v (.p p x)) : RepP g.I w v x := by cases h <;> assumption
theorem Cur.makeFunc {s : St} {a : Act} (c : Cur E B lim s g a w) {o : Oper} {f : FuncId} {first caps : Array Operand} (ho : o.op = .makeFunc (.func f) first caps) (h0 : first.size = 0) {cs : List (Bool × List CV)}
    (hcs : cvAs (caps.toList.map (evOpd E s.tm)) = some cs) (hall : cs.all (fun c => !c.1) = true) :
    (∀ ps, pvL noOb (cs.flatMap (·.2)) = some ps → OpOk E B lim s g a w o { val := .one (.p none (.fn f ps)) }) ∧ OpOk E B lim s g a w o { val := .one (.cl f (cs.flatMap (·.2))) } := by
  obtain ⟨h1, h2⟩ := caps_rep c hcs hall
  have hf : first = #[] := Array.eq_empty_of_size_eq_zero h0
  subst hf
  have hr : (execOp a.eval o).run E.P w = .ok (.value (.func (.func f) #[] (caps.map a.eval))) w := by simp [execOp, ho, Instr.makeFunc]
  refine ⟨fun ps hps => c.pure hr (.of (.one (.p (.fn ?_ fun j y v hy hv => ?_)))), c.pure hr (.of (.one (.cl ?_ fun j x v hx hv => ?_)))⟩
  · rw [(pvL_noOb hps).1, h1]; simp
  · obtain ⟨hl, hp⟩ := pvL_noOb hps
    have hj : j < (cs.flatMap (·.2)).length := by rw [← hl]; exact (List.getElem?_eq_some_iff.1 hy).1
    have hx := List.getElem?_eq_getElem hj
    obtain ⟨p, e⟩ := hp j _ y hx hy
    have := h2 j _ v hx (by simpa using hv)
    rw [e] at this
    exact p_rep this
  · rw [h1]; simp
  · exact h2 j x v hx (by simpa using hv)
end
end Go.Proofs.YtjhljcnjafbkfaaDoor.X
end
