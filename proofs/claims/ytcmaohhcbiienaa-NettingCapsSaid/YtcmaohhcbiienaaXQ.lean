import Derived.Test.YtcmaohhcbiienaaXP
/-! XQ: calls of functions that write nothing of ours. -/
set_option linter.unusedVariables false
namespace Go.Proofs.Ytcmaohhcbiienaa.X
open Go.RowKit

section
variable {E : Env} {B : Blk} {lim base : Nat} {g g' : Gh} {w w' : World} {ob ob' : ObF} {rt rt' : RtF} {nx nx' : Nat} {I : Nat → Nat → Prop}

theorem results_rep {G : Nat → Option (List PV)} (h : RelM G g w ob rt nx B) (hno : ∀ o, ob o = none) {v : Value} {rs : List AT} {xs : List Arg} (k : ResRel g w ob rt nx v rs) (hx : argsOf ob rs = some xs) : ResA g.I w v xs := by
  have hs : ∀ (x : AT), ∀ o ∈ seenT x, ∀ fz z rows, ob o = some (.arr fz z rows) → ∀ i, i < rows.length * z → g.I (g.φ o) i := fun x o _ fz z rows ho => by rw [hno o] at ho; cases ho
  have key : ∀ {rs : List AT} {xs : List Arg}, argsOf ob rs = some xs → (∃ vs : Array Value, v = .tuple vs ∧ RelAs g w ob rt nx vs.toList rs) →
      ∃ vs : Array Value, v = .tuple vs ∧ vs.size = xs.length ∧ ∀ (i : Nat) (x : Arg) (u : Value), xs[i]? = some x → vs[i]? = some u → RepA g.I w u x := by
    rintro rs xs hx ⟨vs, rfl, hl, hv⟩
    obtain ⟨h1, h2⟩ := argsOf_at hx
    refine ⟨vs, rfl, by rw [h1, ← hl, Array.length_toList], fun i x u hxi hu => ?_⟩
    have hi : i < rs.length := by rw [← h1]; exact (List.getElem?_eq_some_iff.1 hxi).1
    have hr : rs[i]? = some rs[i] := List.getElem?_eq_getElem hi
    exact argOf_rep h (fun _ _ q => q) (hv i _ u hr (by simpa using hu)) (h2 i _ x hr hxi) (hs _)
  obtain ⟨hl, hat⟩ := argsOf_at hx
  match rs, xs, hl, k, hx with
  | [r], [x], hl, k, hx => exact argOf_rep h (fun _ _ q => q) k (hat 0 r x rfl rfl) (hs r)
  | [], [], hl, k, hx => exact key hx k
  | a :: b :: l, c :: d :: m, hl, k, hx => exact key hx k
  | [], _ :: _, hl, _, _ => simp at hl
  | [_], [], hl, _, _ => simp at hl
  | [_], _ :: _ :: _, hl, _, _ => simp at hl
  | _ :: _ :: _, [], hl, _, _ => simp at hl
  | _ :: _ :: _, [_], hl, _, _ => simp at hl

theorem capArgs_rep {caps : List Value} {cs : List PV} (hl : caps.length = cs.length) (h : ∀ (j : Nat) (x : PV) (v : Value), cs[j]? = some x → caps[j]? = some v → RepP g.I w v x) :
    RelAs g w ob rt nx caps ((capArgs cs).map atOf) := by
  refine ⟨by simp [capArgs, hl], fun i x v hx hv => ?_⟩
  simp only [capArgs, List.map_map, List.getElem?_map, Option.map_eq_some_iff] at hx
  obtain ⟨y, hy, rfl⟩ := hx
  exact .of (.one (.p (h i y v hy hv)))

theorem Cur.callPure {s : St} {a : Act} {call : CallF} (hcall : CallOk E call) (c : Cur E B lim s g a w) {o : Oper} {f : Operand} {args : Array Operand} {ts : Array TypeId} {k : FuncId} {p : Option Nat} {cs : List PV}
    (ho : o.op = .call { callee := .value f, args, argTypes := ts }) (hf : evOpd E s.tm f = .one (.p p (.fn k cs))) (hlen : args.toList.length = ts.toList.length) {xs rs : List Arg}
    (hxs : argsOf s.ob ((args.toList.zip ts.toList).map fun p => X.opT E (evOpd E s.tm) p.2 p.1) = some xs) (h : pureCall call k (xs ++ capArgs cs) = some rs) :
    OpOk E B lim s g a w o { val := resAT rs, ow := if rs.all flatArg then [] else icy s.ob (((args.toList.zip ts.toList).map fun p => X.opT E (evOpd E s.tm) p.2 p.1).flatMap seenT),
                             rd := ((args.toList.zip ts.toList).map fun p => X.opT E (evOpd E s.tm) p.2 p.1).flatMap seenT } := by
  have hfr := c.opd f
  rw [hf] at hfr
  have hfr := one_rep hfr
  generalize hfv : a.eval f = fv at hfr
  have hfn : RepP g.I w fv (.fn k cs) := by cases hfr; assumption
  cases hfn with
  | fn hcl hcr =>
    rename_i caps
    -- what the arguments show is written no more while the call runs
    obtain ⟨g1, hE1, hM1, hφ1, hb1, hs1⟩ := icy_all (((args.toList.zip ts.toList).map fun p => X.opT E (evOpd E s.tm) p.2 p.1).flatMap seenT) c.mem c.lab
    have hb0 := hM1.bare g1.I (fun _ _ q => q) hM1.bnd
    have hargs := args_rep c hlen
    obtain ⟨hx1, hx2⟩ := argsOf_at hxs
    have ha1 : RelAs { g1 with I := g1.I } w noOb noRt 1 (args.toList.map a.eval) (xs.map atOf) := by
      refine ⟨by rw [hargs.1, ← hx1]; simp, fun i x v hx hv => ?_⟩
      simp only [List.getElem?_map, Option.map_eq_some_iff] at hx
      obtain ⟨y, hy, rfl⟩ := hx
      have hi : i < (((args.toList.zip ts.toList).map fun p => X.opT E (evOpd E s.tm) p.2 p.1)).length := by rw [← hx1]; exact (List.getElem?_eq_some_iff.1 hy).1
      have hr := List.getElem?_eq_getElem hi
      refine RepA.rel (argOf_rep c.mem hE1.I (hargs.2 i _ v hr hv) (hx2 i _ y hr hy) fun o ho => hs1 o ?_)
      exact List.mem_flatMap.2 ⟨_, List.mem_of_getElem? hr, ho⟩
    have ha2 : RelAs { g1 with I := g1.I } w noOb noRt 1 caps.toList ((capArgs cs).map atOf) :=
      capArgs_rep (by rw [Array.length_toList]; exact hcl) fun j x v hx hv => (hcr j x v hx (by simpa using hv)).mono hE1.I fun _ _ _ => rfl
    have ha3 := ha1.append ha2
    rw [← List.map_append] at ha3
    -- the call
    unfold pureCall at h
    split at h
    · rename_i rs' ob' rt' nx' hc
      obtain ⟨he, hcal⟩ := hcall _ _ _ _ _ _ _ _ _ _ _ hc
      intro K Q hK
      unfold Oper.wp
      rw [exec_call ho hfv he]
      refine (hcal { g1 with I := g1.I } w (old w) (args.map a.eval ++ caps) hb0 (fun o ho => by cases ho) (by simpa using ha3)).mono fun e w' hq => ?_
      obtain ⟨v, g', rfl, q1, q2, q3, q4⟩ := hq
      have hno : ∀ o, ob' o = none := fun o => by
        cases ho : ob' o with
        | none => rfl
        | some x => exact absurd (q3 o (by simp [ho])) (Nat.not_lt_zero _)
      have hres := results_rep q2 hno q4 h
      by_cases hfl : rs.all flatArg = true
      · obtain ⟨z1, z2⟩ := c.mem.later c.lab q1.below g.I (fun _ _ _ => Iff.rfl) (fun b i hi => Nat.lt_of_lt_of_le (c.mem.bnd b i hi) q1.below.size)
        have hrel : ResA g.I w' v rs := hres.map fun x hx u hu => flat_rep hu (List.all_eq_true.1 hfl x hx)
        refine hK v { g with I := g.I } w' ?_
        rw [if_pos hfl]
        exact ⟨z1, z2, c.lab, ResA.rel hrel⟩
      · have hold : ∀ b i, b < w.heap.size → ((fun b i => (b < w.heap.size ∧ g1.I b i) ∨ (¬ b < w.heap.size ∧ g'.I b i)) b i ↔ g1.I b i) := by
          intro b i hb
          constructor
          · rintro (⟨_, q⟩ | ⟨q, _⟩)
            · exact q
            · exact absurd hb q
          · exact fun q => .inl ⟨hb, q⟩
        obtain ⟨z1, z2⟩ := hM1.later hb1 q1.below (fun b i => (b < w.heap.size ∧ g1.I b i) ∨ (¬ b < w.heap.size ∧ g'.I b i)) hold (fun b i hi => by
          rcases hi with ⟨q, _⟩ | ⟨_, q⟩
          · exact Nat.lt_of_lt_of_le q q1.below.size
          · exact q2.bnd b i q)
        have hII : ∀ b i, g'.I b i → (b < w.heap.size ∧ g1.I b i) ∨ (¬ b < w.heap.size ∧ g'.I b i) := by
          intro b i hi
          by_cases hb : b < w.heap.size
          · exact .inl ⟨hb, q1.old b i hb hi⟩
          · exact .inr ⟨hb, hi⟩
        have hmono : ∀ {x : Arg} {u : Value}, RepA g'.I w' u x → RepA (fun b i => (b < w.heap.size ∧ g1.I b i) ∨ (¬ b < w.heap.size ∧ g'.I b i)) w' u x := by
          intro x u hu
          unfold RepA at hu ⊢
          split at hu
          · exact hu.mono hII fun _ _ _ => rfl
          · obtain ⟨vs, rfl, hl, hv⟩ := hu
            exact ⟨vs, rfl, hl, fun j y u hy hu => (hv j y u hy hu).mono hII fun _ _ _ => rfl⟩
          · exact hu.elim
        have hrel := hres.map (I' := fun b i => (b < w.heap.size ∧ g1.I b i) ∨ (¬ b < w.heap.size ∧ g'.I b i)) (w' := w') fun x _ u hu => hmono hu
        refine hK v { g1 with I := fun b i => (b < w.heap.size ∧ g1.I b i) ∨ (¬ b < w.heap.size ∧ g'.I b i) } w' ?_
        rw [if_neg hfl]
        exact ⟨hE1.trans z1, z2, hb1, ResA.rel hrel⟩
    · cases h

/-- All cells of own variables, besides. -/
def wide (g : Gh) (ob : ObF) : Nat → Nat → Prop := fun b i => g.I b i ∨ ∃ o x, ob o = some x ∧ x.solid ∧ g.φ o = b
theorem wide_seen {o : Nat} {b i : Nat} {x : Obj} (ho : ob o = some x) (hs : x.solid) (hb : g.φ o = b) : wide g ob b i := .inr ⟨o, x, ho, hs, hb⟩
theorem RelC.snap {G : Nat → Option (List PV)} (h : RelM G g w ob rt nx B) {v : Value} {c : CV} (k : RelC g w ob rt nx v c) : ∀ {x : PV}, snapC ob c = some x → RepP (wide g ob) w v x := by
  have hs : ∀ o, ∀ fz z rows, ob o = some (.arr fz z rows) → ∀ i, i < rows.length * z → wide g ob (g.φ o) i := fun o fz z rows ho i hi => wide_seen ho (solid_lt hi) rfl
  induction k with
  | p k => intro x hx; cases hx; exact k.mono (fun _ _ q => .inl q) fun _ _ _ => rfl
  | p0 k => intro x hx; cases hx; exact k.mono (fun _ _ q => .inl q) fun _ _ _ => rfl
  | pn h0 h1 k hg => intro x hx; cases hx; exact k.mono (fun _ _ q => .inl q) fun _ _ _ => rfl
  | vw k h1 h2 h3 h4 h5 h6 =>
    intro x hx
    exact RelC.seen h (RelC.vw k h1 h2 h3 h4 h5 h6) hx (fun _ _ q => .inl q) fun o _ => hs o
  | @pt o off cs k =>
    intro x hx
    simp only [snapC, k, Option.map_eq_some_iff] at hx
    obtain ⟨xs, hxs, rfl⟩ := hx
    cases (h.obj o _ k).1 with
    | var e vs hh hr hI =>
      obtain ⟨l1, l2⟩ := RelL.seen h (I := wide g ob) (fun _ _ q => .inl q) (vs := vs.toList) (by simpa using hr.1) (fun j x v hx hv => hr.2 j x v hx (by simpa using hv)) hxs fun o _ => hs o
      refine .ref (fun j => (vs[off + j]?).getD undef) (fun j y hy => ⟨wide_seen k trivial rfl, ?_⟩) fun j y hy => ?_
      · rw [List.getElem?_drop] at hy
        have hj : off + j < vs.size := by have := (List.getElem?_eq_some_iff.1 hy).1; rw [hr.1]; omega
        rw [cell_of_row w _ _ vs e (0, 0) hh, Array.getElem?_eq_getElem hj]
        rfl
      · rw [List.getElem?_drop] at hy
        have hj : off + j < vs.size := by have := (List.getElem?_eq_some_iff.1 hy).1; rw [hr.1]; omega
        refine l2 (off + j) y _ hy ?_
        rw [Array.getElem?_eq_getElem hj]
        simp [hj]
  | @pr o r off fz z rows k =>
    intro x hx
    simp only [snapC, k, Option.map_eq_some_iff] at hx
    obtain ⟨row, hrow, rfl⟩ := hx
    cases (h.obj o _ k).1 with
    | nil => simp at hrow
    | arr e vs hh hl hm hz hr hI hJ =>
      have hb : ∀ j y, row[off + j]? = some y → r * z + (off + j) < vs.size := fun j y hy => by
        refine Nat.lt_of_lt_of_le ?_ hl
        exact at_lt (List.getElem?_eq_some_iff.1 hrow).1 (by rw [← hz r row hrow]; exact (List.getElem?_eq_some_iff.1 hy).1)
      refine .ref (fun j => (vs[r * z + (off + j)]?).getD undef) (fun j y hy => ⟨wide_seen k (Obj.solid_arr hrow) rfl, ?_⟩) fun j y hy => ?_
      · rw [List.getElem?_drop] at hy
        rw [Nat.add_assoc, cell_of_row w _ _ vs e (0, 0) hh, Array.getElem?_eq_getElem (hb j y hy)]
        rfl
      · rw [List.getElem?_drop] at hy
        have hj := hb j y hy
        refine (hr r row (off + j) y _ hrow hy (by rw [Array.getElem?_eq_getElem hj]; rfl)).mono (fun _ _ q => .inl q) fun _ _ _ => rfl
  | mt k => intro x hx; simp [snapC] at hx
  | @cl f caps cs hl hr ih =>
    intro x hx
    simp only [snapC, Option.map_eq_some_iff] at hx
    obtain ⟨xs, hxs, rfl⟩ := hx
    have key : ∀ {cs : List CV} {xs : List PV} {k : Nat}, snapL ob cs = some xs → (∀ (j : Nat) (x : CV) (v : Value), cs[j]? = some x → caps[k + j]? = some v → ∀ {y : PV}, snapC ob x = some y → RepP (wide g ob) w v y) →
        xs.length = cs.length ∧ ∀ (j : Nat) (y : PV) (v : Value), xs[j]? = some y → caps[k + j]? = some v → RepP (wide g ob) w v y := by
      intro cs
      induction cs with
      | nil => intro xs k h _; simp only [snapL, Option.some.injEq] at h; subst h; exact ⟨rfl, fun j y v h => by simp at h⟩
      | cons c cs ihc =>
        intro xs k h hk
        simp only [snapL] at h
        split at h
        · rename_i y ys hy hys
          cases h
          obtain ⟨q1, q2⟩ := ihc (k := k + 1) hys fun j x v hx hv => hk (j + 1) x v (by simpa using hx) (by rw [← hv]; congr 1; omega)
          refine ⟨by simp [q1], fun j z v hz hv => ?_⟩
          cases j with
          | zero => simp at hz; subst hz; exact hk 0 c v rfl hv hy
          | succ j => exact q2 j z v (by simpa using hz) (by rw [← hv]; congr 1; omega)
        · cases h
    obtain ⟨q1, q2⟩ := key (k := 0) hxs fun j x v hx hv => ih j x v hx (by rw [Nat.zero_add] at hv; exact hv)
    exact .fn (hl.trans q1.symm) fun j y v hy hv => q2 j y v hy (by rw [Nat.zero_add]; exact hv)

theorem snapL_rep {G : Nat → Option (List PV)} (h : RelM G g w ob rt nx B) : ∀ {cs : List CV} {vs : List Value} {xs : List PV}, vs.length = cs.length → (∀ (j : Nat) (x : CV) (v : Value), cs[j]? = some x → vs[j]? = some v → RelC g w ob rt nx v x) → snapL ob cs = some xs →
    xs.length = cs.length ∧ ∀ (j : Nat) (y : PV) (v : Value), xs[j]? = some y → vs[j]? = some v → RepP (wide g ob) w v y
  | [], vs, xs, hl, hr, hx => by
    simp only [snapL, Option.some.injEq] at hx
    subst hx
    exact ⟨rfl, fun j y v h => by simp at h⟩
  | c :: cs, [], xs, hl, hr, hx => by simp at hl
  | c :: cs, v :: vs, xs, hl, hr, hx => by
    simp only [snapL] at hx
    split at hx
    · rename_i y ys hy hys
      cases hx
      obtain ⟨q1, q2⟩ := snapL_rep h (vs := vs) (by simpa using hl) (fun j x v hx hv => hr (j + 1) x v (by simpa using hx) (by simpa using hv)) hys
      refine ⟨by simp [q1], fun j z u hz hu => ?_⟩
      cases j with
      | zero => simp at hz hu; subst hz; subst hu; exact (hr 0 c v rfl rfl).snap h hy
      | succ j => exact q2 j z u (by simpa using hz) (by simpa using hu)
    · cases hx
theorem snapOf_rep {G : Nat → Option (List PV)} (h : RelM G g w ob rt nx B) {v : Value} {x : AT} {y : Arg} (k : RelA g w ob rt nx v x) (hy : snapOf ob x = some y) : RepA (wide g ob) w v y := by
  cases k with
  | tup => simp [snapOf] at hy
  | of k =>
    cases k with
    | no => simp [snapOf] at hy
    | one k =>
      simp only [snapOf, Option.map_eq_some_iff] at hy
      obtain ⟨z, hz, rfl⟩ := hy
      exact k.snap h hz
    | agg k =>
      rename_i vs cs
      simp only [snapOf, Option.map_eq_some_iff] at hy
      obtain ⟨z, hz, rfl⟩ := hy
      obtain ⟨h1, h2⟩ := snapL_rep h (vs := vs.toList) (by simpa using k.1) (fun j x v hx hv => k.2 j x v hx (by simpa using hv)) hz
      exact ⟨vs, rfl, by rw [h1, k.1], fun j y u hy hu => h2 j y u hy (by simpa using hu)⟩
theorem snapArgs_at : ∀ {ob : ObF} {l : List AT} {xs : List Arg}, snapArgs ob l = some xs → xs.length = l.length ∧ ∀ (i : Nat) (x : AT) (y : Arg), l[i]? = some x → xs[i]? = some y → snapOf ob x = some y
  | ob, [], xs, h => by
    simp only [snapArgs, Option.some.injEq] at h
    subst h
    exact ⟨rfl, fun i x t hx => by simp at hx⟩
  | ob, a :: l, xs, h => by
    simp only [snapArgs] at h
    split at h
    · rename_i y ys hy hys
      cases h
      obtain ⟨h1, h2⟩ := snapArgs_at hys
      refine ⟨by simp [h1], fun i x t hx ht => ?_⟩
      cases i with
      | zero => simp at hx ht; subst hx; subst ht; exact hy
      | succ i => exact h2 i x t (by simpa using hx) (by simpa using ht)
    · cases h

/-- A call that is shown what own variables hold, and hands back plain values. -/
theorem Cur.callFlat {s : St} {a : Act} {call : CallF} (hcall : CallOk E call) (c : Cur E B lim s g a w) {o : Oper} {f : Operand} {args : Array Operand} {ts : Array TypeId} {k : FuncId} {caps : Array Value} {cs : List AT}
    (ho : o.op = .call { callee := .value f, args, argTypes := ts }) (hf : a.eval f = .func (.func k) #[] caps) (hlen : args.toList.length = ts.toList.length) (hcs : RelAs g w s.ob s.rt s.nx caps.toList cs) {xs : List Arg} {u : Upd} {R : List Nat}
    (hxs : snapArgs s.ob (((args.toList.zip ts.toList).map fun p => X.opT E (evOpd E s.tm) p.2 p.1) ++ cs) = some xs) (h : flatCall call k xs R = some u) : OpOk E B lim s g a w o u := by
  unfold flatCall at h
  simp only [Option.bind_eq_some_iff] at h
  obtain ⟨rs, hp, h⟩ := h
  split at h
  · rename_i hfl
    cases h
    have hargs := (args_rep c hlen).append hcs
    obtain ⟨hx1, hx2⟩ := snapArgs_at hxs
    have hwb : ∀ b i, wide g s.ob b i → b < w.heap.size := fun b i hi => by
      rcases hi with hi | ⟨q, x, hx, hs, rfl⟩
      · exact c.mem.bnd b i hi
      · exact (c.mem.obj q x hx).1.lt hs
    have hb0 := c.mem.bare (wide g s.ob) (fun _ _ q => .inl q) hwb
    have ha : RelAs { g with I := wide g s.ob } w noOb noRt 1 (args.toList.map a.eval ++ caps.toList) (xs.map atOf) := by
      refine ⟨by rw [hargs.1, ← hx1]; simp, fun i x v hx hv => ?_⟩
      simp only [List.getElem?_map, Option.map_eq_some_iff] at hx
      obtain ⟨y, hy, rfl⟩ := hx
      have hi := (List.getElem?_eq_some_iff.1 hy).1
      have hr := List.getElem?_eq_getElem (l := ((args.toList.zip ts.toList).map fun p => X.opT E (evOpd E s.tm) p.2 p.1) ++ cs) (i := i) (by rw [← hx1]; exact hi)
      exact RepA.rel (g := { g with I := wide g s.ob }) (snapOf_rep c.mem (hargs.2 i _ v hr hv) (hx2 i _ y hr hy))
    unfold pureCall at hp
    split at hp
    · rename_i rs' ob' rt' nx' hc
      obtain ⟨he, hcal⟩ := hcall _ _ _ _ _ _ _ _ _ _ _ hc
      intro K Q hK
      unfold Oper.wp
      rw [exec_call ho hf he]
      refine (hcal { g with I := wide g s.ob } w (old w) (args.map a.eval ++ caps) hb0 (fun o ho => by cases ho) (by simpa using ha)).mono fun e w' hq => ?_
      obtain ⟨v, g', rfl, q1, q2, q3, q4⟩ := hq
      have hno : ∀ o, ob' o = none := fun o => by
        cases ho : ob' o with
        | none => rfl
        | some x => exact absurd (q3 o (by simp [ho])) (Nat.not_lt_zero _)
      have hres := results_rep q2 hno q4 hp
      obtain ⟨z1, z2⟩ := c.mem.later c.lab q1.below g.I (fun _ _ _ => Iff.rfl) (fun b i hi => Nat.lt_of_lt_of_le (c.mem.bnd b i hi) q1.below.size)
      have hrel : ResA g.I w' v rs := hres.map fun x hx u hu => flat_rep hu (List.all_eq_true.1 hfl x hx)
      exact hK v { g with I := g.I } w' ⟨z1, z2, c.lab, ResA.rel hrel⟩
    · cases hp
  · cases h
end
end Go.Proofs.Ytcmaohhcbiienaa.X
