import Derived.Test.YtcmaohhcbiienaaYM
/-! YN: bundles of laws for the printed texts. -/
set_option linter.unusedVariables false
namespace Go.Proofs.Ytcmaohhcbiienaa.X
open Go.RowKit

section
variable {C : Cx} {F : Fr} {k : List It} {s : St} {Q : Post} {a b : Code} {c : Operand} {id n : Nat} {ops : Array Oper} {us : List Upd} {draw : Bool} {l : List Oper}
/-- A branch. -/
def GoIf (C : Cx) (F : Fr) (a b : Code) (k : List It) (s : St) (Q : Post) (x : AT) : Prop := match x with
  | .one (.p _ (.sc (.bool t))) => if t = true then Go C F a k s Q else Go C F b k s Q
  | _ => False
@[congr] theorem goIf_congr {x y : AT} (h : x = y) : GoIf C F a b k s Q x = GoIf C F a b k s Q y := by rw [h]
theorem goIf_b {w : Option Nat} {t : Bool} : GoIf C F a b k s Q (.one (.p w (.sc (.bool t)))) = if t = true then Go C F a k s Q else Go C F b k s Q := rfl
theorem go_if : Go C F (.cond c a b) k s Q = GoIf C F a b k s Q (evOpd C.E s.tm c) := go_cond

/-- What is kept ahead of a text. -/
def keyJ (H : Hint) (c : Code) : Option (List Nat) := (joinKey c).bind H.join
def FinJ (C : Cx) (F : Fr) (a : Code) (k : List It) (s : St) (Q : Post) (x : Option (List Nat)) : Prop := match x with
  | none => Go C F a k s Q
  | some l => AtJ C F a k (head F.base F.nx0 F.vis l s) Q
@[congr] theorem finJ_congr {x y : Option (List Nat)} (h : x = y) : FinJ C F a k s Q x = FinJ C F a k s Q y := by rw [h]
theorem finJ_n : FinJ C F a k s Q none = Go C F a k s Q := rfl
theorem finJ_s {l : List Nat} : FinJ C F a k s Q (some l) = AtJ C F a k (head F.base F.nx0 F.vis l s) Q := rfl
theorem finJ_code : Fin C F (.code a :: k) .fall s Q = FinJ C F a k s Q (keyJ (C.H F.f) a) := by
  rw [fin_code]
  unfold FinJ keyJ joinOf
  cases joinKey a with
  | none => exact atJ_some
  | some j =>
    simp only [Option.bind_some]
    cases (C.H F.f).join j with
    | none => exact atJ_some
    | some l => rfl

/-! ### heads -/
section
variable {rt : RtF} {nx0 q : Nat} {seen : List Nat} {x : PV} {cs : List CV} {os : List Nat} {tm : Nat → AT} {t : Nat} {ts : List Nat} {ob rest : ObF} {o off lo m : Nat}
theorem relC_0 : relC rt nx0 q seen (.p none x) = (.p none x, seen) := rfl
theorem relC_f : relC rt nx0 q seen (.p (some 0) x) = (.p (some q) x, seen) := rfl
theorem relC_n : relC rt nx0 q seen (.p (some (n + 1)) x) = if n + 1 < nx0 then (.p (some (n + 1)) x, seen) else if rt (n + 1) = true ∧ n + 1 ∉ seen then (.p (some q) x, (n + 1) :: seen) else (.p none x, seen) := rfl
theorem relC_pt : relC rt nx0 q seen (.pt o off) = (.pt o off, seen) := rfl
theorem relC_vw : relC rt nx0 q seen (.vw o lo m) = (.vw o lo m, seen) := rfl
theorem relL_0 : relL rt nx0 q seen [] = ([], seen) := rfl
theorem relL_c {c : CV} : relL rt nx0 q seen (c :: cs) = ((relC rt nx0 q seen c).1 :: (relL rt nx0 (q + 1) (relC rt nx0 q seen c).2 cs).1, (relL rt nx0 (q + 1) (relC rt nx0 q seen c).2 cs).2) := rfl
theorem relT_1 {c : CV} : relT rt nx0 q seen (.one c) = (.one (relC rt nx0 q seen c).1, q + 1, (relC rt nx0 q seen c).2) := rfl
theorem relT_a : relT rt nx0 q seen (.agg cs) = (.agg (relL rt nx0 q seen cs).1, q + cs.length, (relL rt nx0 q seen cs).2) := rfl
theorem relT_n : relT rt nx0 q seen .no = (.no, q, seen) := rfl
theorem okC_p {w : Option Nat} : okC os false (.p w x) = true := rfl
theorem okC_pt {d : Bool} : okC os d (.pt o off) = os.contains o := rfl
theorem okC_vw {d : Bool} : okC os d (.vw o lo m) = os.contains o := rfl
theorem okL_0 {d : Bool} : okL os d [] = true := rfl
theorem okL_c {d : Bool} {c : CV} : okL os d (c :: cs) = (okC os d c && okL os d cs) := rfl
theorem okT_1 {c : CV} : okT os (.one c) = okC os false c := rfl
theorem okT_a : okT os (.agg cs) = okL os false cs := rfl
theorem okT_n : okT os .no = true := rfl
theorem headT_0 : headT rt nx0 os tm q seen [] = (fun _ => .no, q, seen) := rfl
theorem headT_c : headT rt nx0 os tm q seen (t :: ts) =
  (upd (headT rt nx0 os tm (relT rt nx0 q seen (if okT os (tm t) = true then tm t else .no)).2.1 (relT rt nx0 q seen (if okT os (tm t) = true then tm t else .no)).2.2 ts).1 t (relT rt nx0 q seen (if okT os (tm t) = true then tm t else .no)).1,
   (headT rt nx0 os tm (relT rt nx0 q seen (if okT os (tm t) = true then tm t else .no)).2.1 (relT rt nx0 q seen (if okT os (tm t) = true then tm t else .no)).2.2 ts).2) := rfl
theorem headO_0 : headO rt nx0 os ob rest q seen [] = some (rest, q) := rfl
theorem headO_c : headO rt nx0 os ob rest q seen (o :: ts) = match ob o with
    | none => headO rt nx0 os ob rest q seen ts
    | some (.var cs) => if okL os false cs = true then
        match headO rt nx0 os ob rest (q + cs.length) (relL rt nx0 q seen cs).2 ts with
        | some (f, m) => some (upd f o (some (.var (relL rt nx0 q seen cs).1)), m)
        | none => none
      else none
    | some (.arr z n rows) => match headO rt nx0 os ob rest q seen ts with
      | some (f, m) => some (upd f o (some (.arr z n rows)), m)
      | none => none
    | some (.mp es c) => match headO rt nx0 os ob rest q seen ts with
      | some (f, m) => some (upd f o (some (.mp es c)), m)
      | none => none := rfl
def headEnd (tm : Nat → AT) (rt : RtF) (nx0 : Nat) : Option (ObF × Nat) → Option St
  | some (f, m) => some { tm := tm, ob := f, rt := rtH rt nx0 m, nx := m }
  | none => none
def headB (base nx0 : Nat) (h : List Nat) (vis : List Nat) (s : St) (all : List Nat) : Option St :=
  headEnd (headT s.rt nx0 all s.tm nx0 [] h).1 s.rt nx0 (headO s.rt nx0 all s.ob noOb (headT s.rt nx0 all s.tm nx0 [] h).2.1 (headT s.rt nx0 all s.tm nx0 [] h).2.2 (all.filter fun o => decide (base ≤ o) || vis.contains o))
theorem head_eq {base nx0 nx : Nat} {vis h : List Nat} {tm : Nat → AT} {ob : ObF} {rt : RtF} : head base nx0 vis h ⟨tm, ob, rt, nx⟩ = headB base nx0 h vis ⟨fun t => coldT ob (tm t), ob, rt, nx⟩ ((reach ob 2 (addS (h.flatMap fun t => refsT (coldT ob (tm t))) vis)).filter fun o => (ob o).isSome) := by
  unfold head head0 headB headEnd coldS
  rfl
def coldV (o lo n : Nat) : Option Obj → CV
  | some (.arr true z rows) => .p none (.sl z ((rows.drop lo).take n))
  | _ => .vw o lo n
theorem coldC_vw : coldC ob (.vw o lo n) = coldV o lo n (ob o) := by
  simp only [coldC, coldV]
  cases ob o with
  | none => rfl
  | some x =>
    cases x with
    | var cs => rfl
    | mp => rfl
    | arr fz z rows => cases fz <;> rfl
theorem coldV_t {z : Nat} {rows : List (List PV)} : coldV o lo n (some (.arr true z rows)) = .p none (.sl z ((rows.drop lo).take n)) := rfl
theorem coldV_f {z : Nat} {rows : List (List PV)} : coldV o lo n (some (.arr false z rows)) = .vw o lo n := rfl
theorem coldC_p {w : Option Nat} : coldC ob (.p w x) = .p w x := rfl
theorem coldC_pt : coldC ob (.pt o off) = .pt o off := rfl
theorem coldC_pr {r : Nat} : coldC ob (.pr o r off) = .pr o r off := rfl
theorem coldC_cl {f : FuncId} : coldC ob (.cl f cs) = .cl f cs := rfl
theorem coldT_1 {c : CV} : coldT ob (.one c) = .one (coldC ob c) := rfl
theorem coldT_a : coldT ob (.agg cs) = .agg (cs.map (coldC ob)) := rfl
theorem coldT_n : coldT ob .no = .no := rfl
theorem coldT_t {l : List (Bool × List CV)} : coldT ob (.tup l) = .tup l := rfl
theorem headEnd_s {f : ObF} {m : Nat} : headEnd tm rt nx0 (some (f, m)) = some { tm := tm, ob := f, rt := rtH rt nx0 m, nx := m } := rfl
theorem headB_eq {base nx0 : Nat} {vis h all : List Nat} {s : St} : headB base nx0 h vis s all = headEnd (headT s.rt nx0 all s.tm nx0 [] h).1 s.rt nx0 (headO s.rt nx0 all s.ob noOb (headT s.rt nx0 all s.tm nx0 [] h).2.1 (headT s.rt nx0 all s.tm nx0 [] h).2.2 (all.filter fun o => decide (base ≤ o) || vis.contains o)) := rfl
theorem reach_2 {l : List Nat} : reach ob 2 l = addS ((addS (l.flatMap fun o => match ob o with | some (.var cs) => refsL cs | _ => []) l).flatMap fun o => match ob o with | some (.var cs) => refsL cs | _ => []) (addS (l.flatMap fun o => match ob o with | some (.var cs) => refsL cs | _ => []) l) := rfl
def refsO : Option Obj → List Nat
  | some (.var cs) => refsL cs
  | _ => []
theorem reach_r {l : List Nat} : reach ob 2 l = addS ((addS (l.flatMap fun o => refsO (ob o)) l).flatMap fun o => refsO (ob o)) (addS (l.flatMap fun o => refsO (ob o)) l) := rfl
theorem refsO_v : refsO (some (.var cs)) = refsL cs := rfl
theorem refsO_a {fz : Bool} {z : Nat} {r : List (List PV)} : refsO (some (.arr fz z r)) = [] := rfl
theorem refsO_n : refsO none = [] := rfl
theorem addS_0 {b : List Nat} : addS [] b = b := rfl
theorem addS_c {a b : List Nat} : addS (t :: a) b = addS a (if b.contains t = true then b else t :: b) := rfl
theorem refsC_p {w : Option Nat} : refsC (.p w x) = [] := rfl
theorem refsC_pt : refsC (.pt o off) = [o] := rfl
theorem refsC_cl {f : FuncId} : refsC (.cl f cs) = refsL cs := rfl
theorem relC_cl {f : FuncId} : relC rt nx0 q seen (.cl f cs) = (.cl f cs, seen) := rfl
theorem okC_cl {d : Bool} {f : FuncId} : okC os d (.cl f cs) = okL os true cs := rfl
theorem okC_pn : okC os true (.p none x) = true := rfl
theorem seenC_cl {f : FuncId} : seenC (.cl f cs) = [] := rfl
theorem refsC_vw : refsC (.vw o lo m) = [o] := rfl
theorem refsL_0 : refsL [] = [] := rfl
theorem refsL_c {c : CV} : refsL (c :: cs) = refsC c ++ refsL cs := rfl
theorem refsT_1 {c : CV} : refsT (.one c) = refsC c := rfl
theorem refsT_a : refsT (.agg cs) = refsL cs := rfl
theorem refsT_n : refsT .no = [] := rfl
theorem seenC_p {w : Option Nat} : seenC (.p w x) = [] := rfl
theorem seenC_pt : seenC (.pt o off) = [] := rfl
theorem seenC_vw : seenC (.vw o lo m) = [o] := rfl
theorem seenT_1 {c : CV} : seenT (.one c) = seenC c := rfl
theorem seenT_a : seenT (.agg cs) = cs.flatMap seenC := rfl
theorem seenT_n : seenT .no = [] := rfl
theorem joinOf_eq {H : Hint} {base nx0 : Nat} {vis : List Nat} {c : Code} {s : St} : joinOf H base nx0 vis c s = match joinKey c with
  | some j => match H.join j with
    | some l => head base nx0 vis l s
    | none => some s
  | none => some s := rfl
theorem keyJ_e {H : Hint} : keyJ H a = (joinKey a).bind H.join := rfl
theorem jk_r {id : Nat} {p : Array Oper} {d : Bool} : joinKey (.region id p d) = some id := rfl
theorem jk_s : joinKey (.seq a b) = joinKey a := rfl
theorem jk_c : joinKey (.cond (.tmp n) a b) = some (1000000 + n) := rfl
theorem jk_b : joinKey (.block id b) = none := rfl
theorem jk_l : joinKey (.loop b) = none := rfl
theorem jk_e : joinKey (.exit id) = none := rfl
theorem jk_t : joinKey .ret = none := rfl
theorem jk_k : joinKey .skip = none := rfl
theorem fr_r {id : Nat} {p : Array Oper} {d : Bool} : firstR (.region id p d) = id := rfl
theorem fr_s : firstR (.seq a b) = firstR a := rfl
theorem fr_b : firstR (.block id b) = firstR b := rfl
theorem fr_l : firstR (.loop b) = firstR b := rfl
theorem fr_c : firstR (.cond c a b) = firstR a := rfl
end

/-! ### arguments and results -/
section
variable {ob : ObF} {x : PV} {w : Option Nat} {cs : List CV} {xs : List PV} {E : Env} {ρ : Operand → AT}
theorem argL_0 {ts : List TypeId} : argL E ρ [] ts = [] := by cases ts <;> rfl
theorem argL_c {m : Nat → AT} {x : Operand} {xs : List Operand} {t : TypeId} {ts : List TypeId} : argL E (evOpd E m) (x :: xs) (t :: ts) = opV E m t x :: argL E (evOpd E m) xs ts := by
  simp only [argL, opT_eq]
theorem argsOf_0 : argsOf ob [] = some [] := rfl
theorem argsOf_1 {r : List AT} : argsOf ob (.one (.p w x) :: r) = (argsOf ob r).map ((false, [x]) :: ·) := by
  simp only [argsOf, argOf, pvC, Option.map_some]
  cases argsOf ob r <;> rfl
theorem argsOf_a {r : List AT} : argsOf ob (.agg cs :: r) = match pvL ob cs with
    | some y => (argsOf ob r).map ((true, y) :: ·)
    | none => none := by
  simp only [argsOf, argOf]
  cases pvL ob cs <;> cases argsOf ob r <;> rfl
def vwA (r : List AT) (ob : ObF) (lo n : Nat) : Option Obj → Option (List Arg)
  | some (.arr _ z rows) => (argsOf ob r).map ((false, [.sl z ((rows.drop lo).take n)]) :: ·)
  | _ => none
theorem argsOf_v {r : List AT} {o lo n : Nat} : argsOf ob (.one (.vw o lo n) :: r) = vwA r ob lo n (ob o) := by
  simp only [argsOf, argOf, pvC, vwA]
  split
  · rename_i h1 h2
    split at h1
    · rename_i h3
      simp only [h3]
      simp at h1
      subst h1
      simp [h2]
    · cases h1
  · rename_i h1
    split
    · rename_i fz z rows h3
      simp only [h3, Option.map_some] at h1
      cases h4 : argsOf ob r with
      | none => rfl
      | some y => exact absurd h4 (h1 _ y rfl)
    · rfl
theorem vwA_a {r : List AT} {lo n z : Nat} {fz : Bool} {rows : List (List PV)} : vwA r ob lo n (some (.arr fz z rows)) = (argsOf ob r).map ((false, [.sl z ((rows.drop lo).take n)]) :: ·) := rfl
theorem argsOf_pt {o off : Nat} {r : List AT} : argsOf ob (.one (.pt o off) :: r) = none := rfl
theorem argsOf_cl {f : FuncId} {cs : List CV} {r : List AT} : argsOf ob (.one (.cl f cs) :: r) = none := rfl
theorem snA_0 : snapArgs ob [] = some [] := rfl
theorem snA_1 {c : CV} {r : List AT} : snapArgs ob (.one c :: r) = (snapC ob c).bind fun y => (snapArgs ob r).map ((false, [y]) :: ·) := by
  simp only [snapArgs, snapOf]
  cases snapC ob c <;> cases snapArgs ob r <;> rfl
theorem snA_a {r : List AT} : snapArgs ob (.agg cs :: r) = (snapL ob cs).bind fun y => (snapArgs ob r).map ((true, y) :: ·) := by
  simp only [snapArgs, snapOf]
  cases snapL ob cs <;> cases snapArgs ob r <;> rfl
theorem snC_p : snapC ob (.p w x) = some x := rfl
def snapP (ob : ObF) (off : Nat) : Option Obj → Option PV
  | some (.var cs) => (pvL ob cs).map fun xs => .ref (xs.drop off)
  | _ => none
theorem snC_pt {o off : Nat} : snapC ob (.pt o off) = snapP ob off (ob o) := by
  simp only [snapC, snapP]
  cases ob o with
  | none => rfl
  | some y => cases y <;> rfl
theorem snapP_v {off : Nat} : snapP ob off (some (.var cs)) = (pvL ob cs).map fun xs => .ref (xs.drop off) := rfl
def snapV (lo n : Nat) : Option Obj → Option PV
  | some (.arr _ z rows) => some (.sl z ((rows.drop lo).take n))
  | _ => none
theorem snC_vw {o lo n : Nat} : snapC ob (.vw o lo n) = snapV lo n (ob o) := by
  simp only [snapC, pvC, snapV]
  cases ob o with
  | none => rfl
  | some y => cases y <;> rfl
theorem snapV_a {lo n z : Nat} {fz : Bool} {rows : List (List PV)} : snapV lo n (some (.arr fz z rows)) = some (.sl z ((rows.drop lo).take n)) := rfl
theorem snC_cl {f : FuncId} : snapC ob (.cl f cs) = (snapL ob cs).map (.fn f) := rfl
theorem snL_0 : snapL ob [] = some [] := rfl
theorem snL_c {c : CV} : snapL ob (c :: cs) = (snapC ob c).bind fun y => (snapL ob cs).map (y :: ·) := by
  simp only [snapL]
  cases snapC ob c <;> cases snapL ob cs <;> rfl
theorem cvAs_0 : cvAs [] = some [] := rfl
theorem cvAs_1 {c : CV} {r : List AT} : cvAs (.one c :: r) = (cvAs r).map ((false, [c]) :: ·) := by
  simp only [cvAs, cvA]
  cases cvAs r <;> rfl
theorem pvL_pt {o off : Nat} : pvL ob (.pt o off :: cs) = none := rfl
theorem pvL_cl {f : FuncId} {ds : List CV} : pvL ob (.cl f ds :: cs) = none := rfl
def vwL (ob : ObF) (cs : List CV) (lo n : Nat) : Option Obj → Option (List PV)
  | some (.arr _ z rows) => (pvL ob cs).map (.sl z ((rows.drop lo).take n) :: ·)
  | _ => none
theorem pvL_vw {o lo n : Nat} : pvL ob (.vw o lo n :: cs) = vwL ob cs lo n (ob o) := by
  simp only [pvL, pvC, vwL]
  cases h : ob o with
  | none => rfl
  | some x =>
    cases x with
    | var ds => rfl
    | mp => rfl
    | arr fz z rows =>
      simp only
      cases pvL ob cs <;> rfl
theorem vwL_a {lo n z : Nat} {fz : Bool} {rows : List (List PV)} : vwL ob cs lo n (some (.arr fz z rows)) = (pvL ob cs).map (.sl z ((rows.drop lo).take n) :: ·) := rfl
theorem looksT_1 {c : CV} : looksT ob (.one c) = looksC ob c := rfl
theorem looksT_a : looksT ob (.agg cs) = looksL ob cs := rfl
theorem looksC_p : looksC ob (.p w x) = [] := rfl
theorem looksC_vw {o lo n : Nat} : looksC ob (.vw o lo n) = [o] := rfl
def looksP (o : Nat) : Option Obj → List Nat
  | some (.var cs) => o :: cs.flatMap seenC
  | _ => [o]
theorem looksC_pt {o off : Nat} : looksC ob (.pt o off) = looksP o (ob o) := by
  simp only [looksC, looksP]
  cases ob o with
  | none => rfl
  | some y => cases y <;> rfl
theorem looksP_v {o : Nat} : looksP o (some (.var cs)) = o :: cs.flatMap seenC := rfl
theorem looksC_cl {f : FuncId} : looksC ob (.cl f cs) = looksL ob cs := rfl
theorem looksL_0 : looksL ob [] = [] := rfl
theorem looksL_c {c : CV} : looksL ob (c :: cs) = looksC ob c ++ looksL ob cs := rfl
theorem atOf_v : atOf (false, [x]) = .one (.p none x) := rfl
theorem atOf_a : atOf (true, xs) = .agg (xs.map (.p none)) := rfl
theorem resAT_1 {r : Arg} : resAT [r] = atOf r := rfl
theorem resAT_0 : resAT [] = .tup [] := rfl
theorem resAT_2 {a b : Arg} {r : List Arg} : resAT (a :: b :: r) = .tup ((a :: b :: r).map cvOf) := rfl
theorem cvOf_v {t : Bool} : cvOf (t, xs) = (t, xs.map (.p none)) := rfl
theorem capArgs_0 : capArgs [] = [] := rfl
theorem capArgs_c {xs : List PV} : capArgs (x :: xs) = (false, [x]) :: capArgs xs := rfl
theorem icy_0 : icy ob [] = [] := rfl
def icyO (o : Nat) : Option Obj → List (Nat × Obj)
  | some (.arr _ z rows) => [(o, .arr true z rows)]
  | _ => []
theorem icy_c {o : Nat} {os : List Nat} : icy ob (o :: os) = icyO o (ob o) ++ icy ob os := by
  unfold icy
  rw [List.filterMap_cons]
  cases h : ob o with
  | none => rfl
  | some x => cases x <;> rfl
theorem icyO_a {o z : Nat} {fz : Bool} {rows : List (List PV)} : icyO o (some (.arr fz z rows)) = [(o, .arr true z rows)] := rfl
theorem flat_s {v : Value} : flatP (.sc v) = true := rfl
theorem flat_l {z : Nat} {l : List (List PV)} : flatP (.sl z l) = false := rfl
theorem flatArg_e {t : Bool} : flatArg (t, xs) = xs.all flatP := rfl
theorem initTm_0 : initTm [] n = fun _ => .no := rfl
theorem initTm_c {a : AT} {r : List AT} : initTm (a :: r) n = upd (initTm r (n + 1)) n a := rfl
theorem retQ_e {rv : List ResultVar} {rs : List Arg} {o : Out} : RetQ C rv rs o s = (outRet o = true ∧ (backAll 0 s.ob (rv.map (resAT1 C.E s))).bind (argsOf noOb) = some rs) := rfl
theorem outRet_r : outRet .ret = true := rfl
theorem outRet_f : outRet .fall = true := rfl
theorem backAll_0 : backAll 0 ob [] = some [] := rfl
theorem backAll_c {x : AT} {r : List AT} : backAll 0 ob (x :: r) = match backT 0 ob x with
  | some y => (backAll 0 ob r).map (y :: ·)
  | none => none := by
  simp only [backAll]
  cases backT 0 ob x <;> cases backAll 0 ob r <;> rfl
theorem backT_p : backT 0 ob (.one (.p w x)) = some (.one (.p w x)) := rfl
theorem backT_a : backT 0 ob (.agg cs) = (backL 0 ob cs).map .agg := rfl
def backV (lo n : Nat) : Option Obj → Option AT
  | some (.arr _ z rows) => some (.one (.p none (.sl z ((rows.drop lo).take n))))
  | _ => none
theorem backT_v {o lo n : Nat} : backT 0 ob (.one (.vw o lo n)) = backV lo n (ob o) := by
  simp only [backT, backC, backV, Nat.not_lt_zero, if_false, pvC]
  cases h : ob o with
  | none => rfl
  | some x => cases x <;> rfl
theorem backV_a {lo n z : Nat} {fz : Bool} {rows : List (List PV)} : backV lo n (some (.arr fz z rows)) = some (.one (.p none (.sl z ((rows.drop lo).take n)))) := rfl
theorem backL_0 : backL 0 ob [] = some [] := rfl
theorem backL_c : backL 0 ob (.p w x :: cs) = (backL 0 ob cs).map (.p w x :: ·) := by
  simp only [backL, backC]
  cases backL 0 ob cs <;> rfl
theorem rv_t {t : Nat} : resAT1 E s (.tmp t) = s.tm t := rfl
def rvC (ti : Option TI) (x : AT) (ob : ObF) : AT := match x, ti with
    | .one (.pt o off), some ti => match ob o with
      | some (.var cs) => (partOf cs off ti.sz ti.agg).getD .no
      | _ => .no
    | _, _ => .no
theorem rv_c {a : Nat} {t : TypeId} : resAT1 E s (.cell a t) = rvC (E.T t) (s.tm a) s.ob := rfl
theorem rvC_e {ti : TI} {o off : Nat} : rvC (some ti) (.one (.pt o off)) ob = match ob o with
      | some (.var cs) => (partOf cs off ti.sz ti.agg).getD .no
      | _ => .no := rfl
theorem splice_e {α : Type} {l cs : List α} {off : Nat} : splice l off cs = l.take off ++ cs ++ l.drop (off + cs.length) := rfl
end

/-! ### the lesser, the greater -/
def mmU (P : Program) (m : Value → Value → Sem Value) (a b : AT) : Option Upd := match valOf a, valOf b with
  | some v, some w => vU (tryP P (m v w))
  | _, _ => none
section
variable {d : Option Nat} {t u v : TypeId} {pos : String} {after : Array Edge} {g : Option (Nat × Bool)} {x y : Operand}
theorem gen_min : evGen C.E (evOpd C.E s.tm) ⟨d, .call { callee := .builtin .min, args := [x, y].toArray, argTypes := [u, v].toArray }, t, pos, after, g⟩ = mmU C.E.P Builtin.min2 (evOpd C.E s.tm x) (evOpd C.E s.tm y) := by
  unfold mmU
  cases hx : valOf (evOpd C.E s.tm x) with
  | none => exact gen_none (by simp [Op.operands, Call.operands, hx])
  | some a =>
    cases hy : valOf (evOpd C.E s.tm y) with
    | none => exact gen_none (by simp [Op.operands, Call.operands, hx, hy])
    | some b =>
      have e := gen_val (C := C) (s := s) (o := ⟨d, .call { callee := .builtin .min, args := [x, y].toArray, argTypes := [u, v].toArray }, t, pos, after, g⟩) (m := [b].foldlM Builtin.min2 a) (by
        simp [execOp, resolve, invoke, builtin, Builtin.min_, hx, hy]) (by simp [Op.operands, Call.operands, hx, hy])
      rw [e]
      simp only [List.foldlM_cons, List.foldlM_nil, bind_pure]
theorem gen_max : evGen C.E (evOpd C.E s.tm) ⟨d, .call { callee := .builtin .max, args := [x, y].toArray, argTypes := [u, v].toArray }, t, pos, after, g⟩ = mmU C.E.P Builtin.max2 (evOpd C.E s.tm x) (evOpd C.E s.tm y) := by
  unfold mmU
  cases hx : valOf (evOpd C.E s.tm x) with
  | none => exact gen_none (by simp [Op.operands, Call.operands, hx])
  | some a =>
    cases hy : valOf (evOpd C.E s.tm y) with
    | none => exact gen_none (by simp [Op.operands, Call.operands, hx, hy])
    | some b =>
      have e := gen_val (C := C) (s := s) (o := ⟨d, .call { callee := .builtin .max, args := [x, y].toArray, argTypes := [u, v].toArray }, t, pos, after, g⟩) (m := [b].foldlM Builtin.max2 a) (by
        simp [execOp, resolve, invoke, builtin, Builtin.max_, hx, hy]) (by simp [Op.operands, Call.operands, hx, hy])
      rw [e]
      simp only [List.foldlM_cons, List.foldlM_nil, bind_pure]
theorem so_min : StepO C F k Q id draw ops l s us ⟨d, .call { callee := .builtin .min, args := [x, y].toArray, argTypes := [u, v].toArray }, t, pos, after, g⟩ = StepU C F k Q id draw ops l s us d (mmU C.E.P Builtin.min2 (evOpd C.E s.tm x) (evOpd C.E s.tm y)) :=
  stepO_of fun _ => gen_min
theorem so_max : StepO C F k Q id draw ops l s us ⟨d, .call { callee := .builtin .max, args := [x, y].toArray, argTypes := [u, v].toArray }, t, pos, after, g⟩ = StepU C F k Q id draw ops l s us d (mmU C.E.P Builtin.max2 (evOpd C.E s.tm x) (evOpd C.E s.tm y)) :=
  stepO_of fun _ => gen_max
theorem mm_min {P : Program} {w1 w2 : Option Nat} {kd : IntKind} {m n : Int} : mmU P Builtin.min2 (.one (.p w1 (.sc (.int kd m)))) (.one (.p w2 (.sc (.int kd n)))) = some { val := .one (.p none (.sc (.int kd (min m n)))) } := by
  have : (if n < m then n else m) = min m n := by split <;> omega
  rw [← this]
  rfl
theorem mm_max {P : Program} {w1 w2 : Option Nat} {kd : IntKind} {m n : Int} : mmU P Builtin.max2 (.one (.p w1 (.sc (.int kd m)))) (.one (.p w2 (.sc (.int kd n)))) = some { val := .one (.p none (.sc (.int kd (max m n)))) } := by
  have : (if n > m then n else m) = max m n := by split <;> omega
  rw [← this]
  rfl
end
theorem beq_t {b : Bool} : (b == true) = b := by cases b <;> rfl
theorem beq_f {b : Bool} : (b == false) = !b := by cases b <;> rfl
/-! ### conversions -/
theorem tryP_under {P : Program} {t : TypeId} {d : TypeDesc} (h : P.underlying t = some d) : tryP P (underlying t) = some d := by
  unfold underlying
  show tryP P (match P.underlying t with
    | some d => pure d
    | none => _) = some d
  rw [h]
  rfl
theorem cv_int {P : Program} {u v : TypeId} {du : TypeDesc} {kd kk : IntKind} {m : Int} {w : Option Nat} (h1 : P.underlying u = some du) (h2 : P.underlying v = some (.int kk)) :
    cv1 P u v (.one (.p w (.sc (.int kd m)))) = some { val := .one (.p none (.sc (.int kk (kk.wrap m)))) } := by
  have : tryP P (convert u v (.int kd m)) = some (.int kk (kk.wrap m)) := by
    unfold convert
    simp only [tryP_bind, tryP_under h1, tryP_under h2, Option.bind_some]
    rfl
  unfold cv1
  simp only [valOf, scC, this]
  rfl
theorem noOb_eq {o : Nat} : noOb o = none := rfl
theorem tk_map {α β : Type} {f : α → β} {l : List α} : (l.map f).take l.length = l.map f := List.take_of_length_le (Nat.le_of_eq (List.length_map f))
def nilC (t : Option TI) (r : Bool) (n : Nat) : Option Upd := match t with
  | some ti => if ti.kd = 3 ∧ 0 < n then some { val := .one (.p none (.sc (.bool r))) } else none
  | none => none
theorem nilC_eq {ti : TI} {r : Bool} {n : Nat} : nilC (some ti) r n = if ti.kd = 3 ∧ 0 < n then some { val := .one (.p none (.sc (.bool r))) } else none := rfl
theorem b_nilE {E : Env} {u : TypeId} {x : Operand} {w : Option Nat} {z : Nat} {l : List (List PV)} {b : AT} : bin2 E.P .eql u x (.const (.slice none 0 0)) (.one (.p w (.sl z l))) b = nilC (E.T u) false l.length := by
  show nilB E.P .eql u (.const (.slice none 0 0)) (.one (.p w (.sl z l))) = nilC (tiOf E.P u) false l.length
  unfold nilB nilC
  cases tiOf E.P u with
  | none => rfl
  | some ti => simp [isNilS, filled]
theorem b_nilN {E : Env} {u : TypeId} {x : Operand} {w : Option Nat} {z : Nat} {l : List (List PV)} {b : AT} : bin2 E.P .neq u x (.const (.slice none 0 0)) (.one (.p w (.sl z l))) b = nilC (E.T u) true l.length := by
  show nilB E.P .neq u (.const (.slice none 0 0)) (.one (.p w (.sl z l))) = nilC (tiOf E.P u) true l.length
  unfold nilB nilC
  cases tiOf E.P u with
  | none => rfl
  | some ti => simp [isNilS, filled]
theorem isZ_int {k : IntKind} {n : Int} : isZero (.const (.int k n)) = decide (n = 0) := by
  unfold isZero
  split
  · rename_i h; cases h; rfl
  · rename_i h
    exact (decide_eq_false fun e => h k (by rw [e])).symm
theorem isZ_tmp {d : Nat} : isZero (.tmp d) = false := rfl
theorem pair_beq {a b c d : Nat} : ((a, b) == (c, d)) = ((a == c) && (b == d)) := rfl
theorem nat_lt {i : Int} {n : Nat} (h : 0 ≤ i) (q : i < (n : Int)) : i.toNat < n := by omega
theorem loud_0 {n : Nat} : loud n [] = [] := rfl
theorem loud_c {n : Nat} {u : Upd} {us : List Upd} : loud n (u :: us) = if u.quiet = true then loud (n + 1) us else (n, u) :: loud (n + 1) us := rfl
theorem quiet_e {u : Upd} : u.quiet = (u.ow.isEmpty && u.rd.isEmpty && !u.nl && u.all.isNone) := rfl
theorem apart2_0 {q : List (Nat × Nat)} : apart2 q [] = true := rfl
theorem apart2_c {q : List (Nat × Nat)} {p : Nat × Upd} {r : List (Nat × Upd)} : apart2 q (p :: r) = ((r.all fun x => !(q.contains (p.1, x.1)) || p.2.apart x.2) && apart2 q r) := rfl
theorem apart_e {a b : Upd} : a.apart b = (if (a.all.isSome || b.all.isSome) = true then (a.quiet || b.quiet) else
  (a.ow.all fun p => !(b.rd.contains p.1) && !(b.ow.any fun q => q.1 == p.1)) && (b.ow.all fun p => !(a.rd.contains p.1)) && !(a.nl && b.nl)) := rfl
theorem lessAll_0 {n : Nat} : lessAll n [] = true := rfl
theorem lessAll_c {n i j : Nat} {q : List (Nat × Nat)} : lessAll n ((i, j) :: q) = (decide (i < j) && decide (j < n) && lessAll n q) := rfl
theorem isN_n {α : Type} : (none : Option α).isNone = true := rfl
theorem isN_s {α : Type} {a : α} : (some a).isNone = false := rfl
theorem isE_n {α : Type} : ([] : List α).isEmpty = true := rfl
theorem isE_c {α : Type} {a : α} {l : List α} : (a :: l).isEmpty = false := rfl
theorem any_0 {α : Type} {f : α → Bool} : ([] : List α).any f = false := rfl
theorem any_c {α : Type} {f : α → Bool} {a : α} {l : List α} : (a :: l).any f = (f a || l.any f) := rfl
theorem get_of {α : Type} {l : List α} {i : Nat} (z : α) (h : i < l.length) : l[i]? = some (l.getD i z) := by
  rw [List.getElem?_eq_getElem h, List.getD_eq_getElem?_getD, List.getElem?_eq_getElem h]; rfl
theorem noRt_eq {o : Nat} : noRt o = false := rfl
theorem ple_i {a : Int} : (a ≤ a) = True := by simp
theorem ple_n {a : Nat} : (a ≤ a) = True := by simp
def cvK (P : Program) (u v : TypeId) (kd : IntKind) (m : Int) : Option TypeDesc → Option TypeDesc → Option Upd
  | some _, some (.int kk) => some { val := .one (.p none (.sc (.int kk (kk.wrap m)))) }
  | _, _ => vU (tryP P (convert u v (.int kd m)))
theorem cv_i {P : Program} {u v : TypeId} {kd : IntKind} {m : Int} {w : Option Nat} : cv1 P u v (.one (.p w (.sc (.int kd m)))) = cvK P u v kd m (P.underlying u) (P.underlying v) := by
  unfold cvK
  split
  · rename_i h1 h2
    exact cv_int h1 h2
  · rfl
theorem cvK_i {P : Program} {u v : TypeId} {kd kk : IntKind} {m : Int} {du : TypeDesc} : cvK P u v kd m (some du) (some (.int kk)) = some { val := .one (.p none (.sc (.int kk (kk.wrap m)))) } := rfl
end
section
variable {P : Program} {w1 w2 : Option Nat} {a b : ByteArray} {u v : TypeId} {x y : Operand}
theorem b_eqlS : bin2 P .eql u x y (.one (.p w1 (.sc (.string a)))) (.one (.p w2 (.sc (.string b)))) = some { val := .one (.p none (.sc (.bool (a.toList == b.toList)))) } := rfl
theorem b_neqS : bin2 P .neq u x y (.one (.p w1 (.sc (.string a)))) (.one (.p w2 (.sc (.string b)))) = some { val := .one (.p none (.sc (.bool (!(a.toList == b.toList))))) } := rfl
theorem b_lssS : bin2 P .lss u x y (.one (.p w1 (.sc (.string a)))) (.one (.p w2 (.sc (.string b)))) = some { val := .one (.p none (.sc (.bool (Op.bytesLess a.toList b.toList)))) } := rfl
theorem b_addS (h : a.size + b.size ≤ 9223372036854775807) : bin2 P .add u x y (.one (.p w1 (.sc (.string a)))) (.one (.p w2 (.sc (.string b)))) = some { val := .one (.p none (.sc (.string (a ++ b)))) } := by
  have : ¬ ((a.size + b.size : Nat) : Int) > IntKind.i64.max := by
    have : IntKind.i64.max = 9223372036854775807 := rfl
    omega
  have e : Op.stringOp .add a b = pure (.string (a ++ b)) := by
    unfold Op.stringOp
    simp only [if_neg this]
  show vU (tryP P (Op.stringOp .add a b)) = _
  rw [e]
  rfl
end
def lenG (P : Program) (u t : TypeId) (a : AT) : Option Upd := match valOf a with
  | some v => vU (tryP P (Builtin.len_ #[u] t #[v]))
  | none => none
section
variable {C : Cx} {F : Fr} {k : List It} {Q : Post} {id : Nat} {draw : Bool} {ops : Array Oper} {l : List Oper} {s : St} {us : List Upd}
variable {d : Option Nat} {t u v : TypeId} {pos : String} {after : Array Edge} {g : Option (Nat × Bool)} {x y : Operand}
theorem gen_len : evGen C.E (evOpd C.E s.tm) ⟨d, .call { callee := .builtin .len, args := [x].toArray, argTypes := [u].toArray }, t, pos, after, g⟩ = lenG C.E.P u t (evOpd C.E s.tm x) := by
  unfold lenG
  cases hx : valOf (evOpd C.E s.tm x) with
  | none => exact gen_none (by simp [Op.operands, Call.operands, hx])
  | some a =>
    exact gen_val (C := C) (s := s) (o := ⟨d, .call { callee := .builtin .len, args := [x].toArray, argTypes := [u].toArray }, t, pos, after, g⟩) (m := Builtin.len_ #[u] t #[a]) (by
        simp [execOp, resolve, invoke, builtin, hx]) (by simp [Op.operands, Call.operands, hx])
theorem stepL_none : StepL C F k Q id draw ops l s us d none ⟨d, .call { callee := .builtin .len, args := [x].toArray, argTypes := [u].toArray }, t, pos, after, g⟩ = StepU C F k Q id draw ops l s us d (lenG C.E.P u t (evOpd C.E s.tm x)) := by
  unfold StepL
  rw [gen_len]
end
def lenS (P : Program) (u t : TypeId) (b : ByteArray) : Option TypeDesc → Option Upd
  | some .string => some { val := .one (.p none (.sc (.int .i64 b.size))) }
  | _ => lenG P u t (.one (.p none (.sc (.string b))))
theorem lenG_s {P : Program} {u t : TypeId} {b : ByteArray} {w : Option Nat} : lenG P u t (.one (.p w (.sc (.string b)))) = lenS P u t b (P.underlying u) := by
  unfold lenS
  split
  · rename_i hu
    have e : tryP P (Builtin.len_ #[u] t #[.string b]) = some (.int .i64 b.size) := by
      unfold Builtin.len_
      simp [tryP_bind, tryP_under hu]
      rfl
    unfold lenG
    simp only [valOf, scC, e]
    rfl
  · rfl
theorem lenS_s {P : Program} {u t : TypeId} {b : ByteArray} : lenS P u t b (some .string) = some { val := .one (.p none (.sc (.int .i64 b.size))) } := rfl
section
variable {P : Program} {w1 w2 : Option Nat} {a b : Bool} {u v : TypeId} {x y : Operand} {kd k2 : IntKind} {m n : Int}
theorem b_shl (h : ¬ n < 0) : bin2 P .shl u x y (.one (.p w1 (.sc (.int kd m)))) (.one (.p w2 (.sc (.int k2 n)))) = some { val := .one (.p none (.sc (.int kd (kd.wrap (m * 2 ^ min n.toNat kd.bits))))) } := by
  have e : tryP P (do eqGuard .shl u x y (.int kd m) (.int k2 n); binOp .shl u (.int kd m) (.int k2 n)) = some (.int kd (kd.wrap (m * 2 ^ min n.toNat kd.bits))) := by
    cases kd <;> simp [binOp, eqGuard, Op.shift, h] <;> rfl
  show vU (tryP P (do eqGuard .shl u x y (.int kd m) (.int k2 n); binOp .shl u (.int kd m) (.int k2 n))) = _
  rw [e]
  rfl
theorem b_shr (h : ¬ n < 0) : bin2 P .shr u x y (.one (.p w1 (.sc (.int kd m)))) (.one (.p w2 (.sc (.int k2 n)))) = some { val := .one (.p none (.sc (.int kd (Int.fdiv m (2 ^ min n.toNat kd.bits))))) } := by
  have e : tryP P (do eqGuard .shr u x y (.int kd m) (.int k2 n); binOp .shr u (.int kd m) (.int k2 n)) = some (.int kd (Int.fdiv m (2 ^ min n.toNat kd.bits))) := by
    cases kd <;> simp [binOp, eqGuard, Op.shift, h] <;> rfl
  show vU (tryP P (do eqGuard .shr u x y (.int kd m) (.int k2 n); binOp .shr u (.int kd m) (.int k2 n))) = _
  rw [e]
  rfl
def eqB (P : Program) (u : TypeId) (x y : Operand) (r : Bool) (a b : Bool) : Option TypeDesc → Option Upd
  | some .bool => some { val := .one (.p none (.sc (.bool (if r then !(a == b) else a == b)))) }
  | _ => if r then vU (tryP P (do eqGuard .neq u x y (.bool a) (.bool b); binOp .neq u (.bool a) (.bool b))) else vU (tryP P (do eqGuard .eql u x y (.bool a) (.bool b); binOp .eql u (.bool a) (.bool b)))
theorem equal_b (hu : P.underlying u = some .bool) : tryP P (Op.equal u (.bool a) (.bool b)) = some (a == b) := by
  unfold Op.equal Op.maxDepth
  unfold Op.equalIn
  simp [tryP_bind, tryP_under hu]
  rfl
theorem b_eqlB : bin2 P .eql u x y (.one (.p w1 (.sc (.bool a)))) (.one (.p w2 (.sc (.bool b)))) = eqB P u x y false a b (P.underlying u) := by
  unfold eqB
  split
  · rename_i hu
    have e : tryP P (do eqGuard .eql u x y (.bool a) (.bool b); binOp .eql u (.bool a) (.bool b)) = some (.bool (a == b)) := by
      simp only [binOp, eqGuard]
      simp
      rw [← bind_pure_comp, tryP_bind, equal_b hu]
      rfl
    show vU (tryP P (do eqGuard .eql u x y (.bool a) (.bool b); binOp .eql u (.bool a) (.bool b))) = _
    rw [e]
    rfl
  · rfl
theorem b_neqB : bin2 P .neq u x y (.one (.p w1 (.sc (.bool a)))) (.one (.p w2 (.sc (.bool b)))) = eqB P u x y true a b (P.underlying u) := by
  unfold eqB
  split
  · rename_i hu
    have e : tryP P (do eqGuard .neq u x y (.bool a) (.bool b); binOp .neq u (.bool a) (.bool b)) = some (.bool (!(a == b))) := by
      simp only [binOp, eqGuard]
      simp
      rw [← bind_pure_comp, tryP_bind, equal_b hu]
      rfl
    show vU (tryP P (do eqGuard .neq u x y (.bool a) (.bool b); binOp .neq u (.bool a) (.bool b))) = _
    rw [e]
    rfl
  · rfl
theorem eqB_e {x y : Operand} : eqB P u x y false a b (some .bool) = some { val := .one (.p none (.sc (.bool (a == b)))) } := rfl
theorem eqB_n {x y : Operand} : eqB P u x y true a b (some .bool) = some { val := .one (.p none (.sc (.bool (!(a == b))))) } := rfl
end
theorem rep1 {α : Type} {a : α} : List.replicate 1 a = [a] := rfl
theorem rep2 {α : Type} {a : α} : List.replicate 2 a = [a, a] := rfl
theorem rep3 {α : Type} {a : α} : List.replicate 3 a = [a, a, a] := rfl
theorem rep4 {α : Type} {a : α} : List.replicate 4 a = [a, a, a, a] := rfl
end Go.Proofs.Ytcmaohhcbiienaa.X
