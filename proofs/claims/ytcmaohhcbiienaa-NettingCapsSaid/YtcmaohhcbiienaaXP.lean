import Derived.Test.YtcmaohhcbiienaaXO
/-! XP: function values; calls. -/
set_option linter.unusedVariables false
namespace Go.Proofs.Ytcmaohhcbiienaa.X
open Go.RowKit

section
variable {E : Env} {B : Blk} {lim base : Nat} {g g' : Gh} {w w' : World} {ob ob' : ObF} {rt rt' : RtF} {nx nx' : Nat} {I : Nat → Nat → Prop}

def RelAs (g : Gh) (w : World) (ob : ObF) (rt : RtF) (nx : Nat) (vs : List Value) (xs : List AT) : Prop :=
  vs.length = xs.length ∧ ∀ (i : Nat) (x : AT) (v : Value), xs[i]? = some x → vs[i]? = some v → RelA g w ob rt nx v x
def ResRel (g : Gh) (w : World) (ob : ObF) (rt : RtF) (nx : Nat) (v : Value) (rs : List AT) : Prop :=
  match rs with
  | [r] => RelA g w ob rt nx v r
  | rs => ∃ vs : Array Value, v = .tuple vs ∧ RelAs g w ob rt nx vs.toList rs

/-- A function that is entered when it is called. -/
def Enters (P : Program) (f : FuncId) : Prop := ∃ fn, P.funcs[f]? = some fn ∧ fn.body.isSome = true ∧ (fn.name == "runtime.NumGoroutine") = false
theorem Enters.run {P : Program} {f : FuncId} (h : Enters P f) (args : Array Value) (w : World) : (callFunc f args).run P w = .ok (.enter f args) w := by
  obtain ⟨fn, h1, h2, h3⟩ := h
  have h4 : fn.body.isNone = false := by cases hb : fn.body <;> simp_all
  simp only [callFunc, Sem.run_bind, run_program, Result.andThen_ok, h1, h3, h4, Bool.false_eq_true, if_false, Sem.run_pure]

/-- What a call is good for. -/
def lastN (mv : Bool) (base : Nat) : Nat := if mv then base + 4 else base
def CallOk (E : Env) (call : CallF) : Prop := ∀ base mv f args ob rt nx rs ob' rt' nx', call base mv f args ob rt nx = some (rs, ob', rt', nx') →
  Enters E.P f ∧ ∀ (g : Gh) (w : World) (B : Blk) (vals : Array Value), RelM E.G g w ob rt nx B → (∀ o, (ob o).isSome → o < base) → RelAs g w ob rt nx vals.toList args →
    Calls E.P f vals w fun e w' => ∃ v g', e = .returned v ∧ Ext B base g w ob rt nx g' w' ob' rt' nx' ∧ RelM E.G g' w' ob' rt' nx' B ∧ (∀ o, (ob' o).isSome → o < lastN mv base) ∧ ResRel g' w' ob' rt' nx' v rs

theorem cvAs_at : ∀ {l : List AT} {ts : List (Bool × List CV)}, cvAs l = some ts → ts.length = l.length ∧ ∀ (i : Nat) (x : AT) (t : Bool × List CV), l[i]? = some x → ts[i]? = some t → cvA x = some t
  | [], ts, h => by
    simp [cvAs] at h
    subst h
    exact ⟨rfl, fun i x t hx => by simp at hx⟩
  | a :: l, ts, h => by
    simp only [cvAs] at h
    split at h
    · rename_i y ys hy hys
      cases h
      obtain ⟨h1, h2⟩ := cvAs_at hys
      refine ⟨by simp [h1], fun i x t hx ht => ?_⟩
      cases i with
      | zero => simp at hx ht; subst hx; subst ht; exact hy
      | succ i => exact h2 i x t (by simpa using hx) (by simpa using ht)
    · cases h

theorem resAll_rep {v : Value} {rs : List AT} {r : AT} (h : ResRel g w ob rt nx v rs) (hr : resAll rs = some r) : RelA g w ob rt nx v r := by
  have key : ∀ {rs : List AT} {ts : List (Bool × List CV)}, cvAs rs = some ts → (∃ vs : Array Value, v = .tuple vs ∧ RelAs g w ob rt nx vs.toList rs) → RelA g w ob rt nx v (.tup ts) := by
    rintro rs ts hts ⟨vs, rfl, hl, hv⟩
    obtain ⟨h1, h2⟩ := cvAs_at hts
    refine .tup (by rw [h1, ← hl, Array.length_toList]) fun j t u ht hu => ?_
    have hj : j < rs.length := by rw [← h1]; exact (List.getElem?_eq_some_iff.1 ht).1
    have hx : rs[j]? = some rs[j] := List.getElem?_eq_getElem hj
    exact cvA_rep (hv j _ u hx (by simpa using hu)) (h2 j _ t hx ht)
  match rs, h, hr with
  | [r'], h, hr =>
    simp [resAll] at hr
    subst hr
    exact h
  | [], h, hr =>
    simp only [resAll, Option.map_eq_some_iff] at hr
    obtain ⟨ts, hts, rfl⟩ := hr
    exact key hts h
  | a :: b :: l, h, hr =>
    simp only [resAll, Option.map_eq_some_iff] at hr
    obtain ⟨ts, hts, rfl⟩ := hr
    exact key hts h

theorem exec_call {a : Act} {o : Oper} {f : Operand} {args : Array Operand} {ts : Array TypeId} {k : FuncId} {caps : Array Value} (ho : o.op = .call { callee := .value f, args, argTypes := ts }) (hf : a.eval f = .func (.func k) #[] caps)
    (he : Enters E.P k) : (execOp a.eval o).run E.P w = .ok (.enter k (args.map a.eval ++ caps)) w := by
  simp [execOp, ho, resolve, hf, Deferred.ofValue, invoke, he.run]

/-- Values for operands of given types. -/
theorem args_rep {s : St} {a : Act} (c : Cur E B lim s g a w) : ∀ {args : List Operand} {ts : List TypeId}, args.length = ts.length →
    RelAs g w s.ob s.rt s.nx (args.map a.eval) ((args.zip ts).map fun p => X.opT E (evOpd E s.tm) p.2 p.1)
  | [], [], _ => ⟨rfl, fun i x v h => by simp at h⟩
  | x :: args, t :: ts, h => by
    obtain ⟨h1, h2⟩ := args_rep c (args := args) (ts := ts) (by simpa using h)
    refine ⟨by simpa using h1, fun i y v hy hv => ?_⟩
    cases i with
    | zero => simp at hy hv; subst hy; subst hv; exact c.opT t x
    | succ i => exact h2 i y v (by simpa using hy) (by simpa using hv)
  | [], _ :: _, h => by simp at h
  | _ :: _, [], h => by simp at h

theorem RelAs.append {vs us : List Value} {xs ys : List AT} (h : RelAs g w ob rt nx vs xs) (k : RelAs g w ob rt nx us ys) : RelAs g w ob rt nx (vs ++ us) (xs ++ ys) := by
  refine ⟨by simp [h.1, k.1], fun i x v hx hv => ?_⟩
  rw [List.getElem?_append] at hx hv
  rw [h.1] at hv
  split at hx
  · rename_i hi
    rw [if_pos hi] at hv
    exact h.2 i x v hx hv
  · rename_i hi
    rw [if_neg hi] at hv
    exact k.2 _ x v hx hv

/-- Nothing of ours. -/
theorem RelM.bare {G : Nat → Option (List PV)} (h : RelM G g w ob rt nx B) (I' : Nat → Nat → Prop) (hI : ∀ b i, g.I b i → I' b i) (hb : ∀ b i, I' b i → b < w.heap.size) :
    RelM G { g with I := I' } w noOb noRt 1 (old w) :=
  ⟨Nat.one_pos, fun k cs hk => (h.glob k cs hk).mono hI fun _ _ _ => rfl, fun _ h => h, (fun o x hx => by cases hx), (fun o o' x y ho => by cases ho), (fun n _ _ h => by cases h), (fun n m b _ _ _ _ h => by cases h), hb⟩

theorem argsOf_at : ∀ {ob : ObF} {l : List AT} {xs : List Arg}, argsOf ob l = some xs → xs.length = l.length ∧ ∀ (i : Nat) (x : AT) (y : Arg), l[i]? = some x → xs[i]? = some y → argOf ob x = some y
  | ob, [], xs, h => by
    simp [argsOf] at h
    subst h
    exact ⟨rfl, fun i x t hx => by simp at hx⟩
  | ob, a :: l, xs, h => by
    simp only [argsOf] at h
    split at h
    · rename_i y ys hy hys
      cases h
      obtain ⟨h1, h2⟩ := argsOf_at hys
      refine ⟨by simp [h1], fun i x t hx ht => ?_⟩
      cases i with
      | zero => simp at hx ht; subst hx; subst ht; exact hy
      | succ i => exact h2 i x t (by simpa using hx) (by simpa using ht)
    · cases h

/-- An argument stands for what it tells, wherever. -/
def RepA (I : Nat → Nat → Prop) (w : World) (v : Value) (x : Arg) : Prop := match x with
  | (false, [y]) => RepP I w v y
  | (true, ys) => ∃ vs : Array Value, v = .agg vs ∧ vs.size = ys.length ∧ ∀ (j : Nat) (y : PV) (u : Value), ys[j]? = some y → vs[j]? = some u → RepP I w u y
  | _ => False
theorem RepA.rel1 {v : Value} {x : Arg} (h : RepA g.I w v x) : RelA1 g w ob rt nx v (atOf x) := by
  unfold RepA at h
  split at h
  · exact .one (.p h)
  · obtain ⟨vs, rfl, hl, hv⟩ := h
    refine .agg ⟨by simpa using hl, fun j y u hy hu => ?_⟩
    simp only [List.getElem?_map, Option.map_eq_some_iff] at hy
    obtain ⟨z, hz, rfl⟩ := hy
    exact .p (hv j z u hz hu)
  · exact h.elim
theorem RepA.rel {v : Value} {x : Arg} (h : RepA g.I w v x) : RelA g w ob rt nx v (atOf x) := .of h.rel1

theorem argOf_rep {G : Nat → Option (List PV)} (h : RelM G g w ob rt nx B) (hI : ∀ b i, g.I b i → I b i) {v : Value} {x : AT} {y : Arg} (k : RelA g w ob rt nx v x) (hy : argOf ob x = some y)
    (hs : ∀ o ∈ seenT x, ∀ fz z rows, ob o = some (.arr fz z rows) → ∀ i, i < rows.length * z → I (g.φ o) i) : RepA I w v y := by
  cases k with
  | tup => simp [argOf] at hy
  | of k =>
    cases k with
    | no => simp [argOf] at hy
    | one k =>
      simp only [argOf, Option.map_eq_some_iff] at hy
      obtain ⟨z, hz, rfl⟩ := hy
      exact k.seen h hz hI hs
    | agg k =>
      rename_i vs cs
      simp only [argOf, Option.map_eq_some_iff] at hy
      obtain ⟨z, hz, rfl⟩ := hy
      obtain ⟨h1, h2⟩ := RelL.seen h hI (vs := vs.toList) (by rw [Array.length_toList]; exact k.1) (fun j x v hx hv => k.2 j x v hx (by simpa using hv)) hz hs
      exact ⟨vs, rfl, by rw [h1, k.1], fun j y u hy hu => h2 j y u hy (by simpa using hu)⟩

/-- Behind a call that left all blocks as they were. -/
theorem RelM.later {G : Nat → Option (List PV)} (h : RelM G g w ob rt nx B) (hb : ∀ o, (ob o).isSome → o < lim) (hw : Keep (old w) w w') (I' : Nat → Nat → Prop) (h1 : ∀ b i, b < w.heap.size → (I' b i ↔ g.I b i)) (h2 : ∀ b i, I' b i → b < w'.heap.size) :
    Ext B lim g w ob rt nx { g with I := I' } w' ob rt nx ∧ RelM G { g with I := I' } w' ob rt nx B := by
  have hE : Ext B lim g w ob rt nx { g with I := I' } w' ob rt nx :=
    ⟨hw.mono h.size, fun b i hi => (h1 b i (h.bnd b i hi)).2 hi, fun b i hbB hi => (h1 b i (h.size b hbB)).1 hi, fun b i hi => hw.below.cell (p := ⟨b, i, none⟩) (h.bnd b i hi), fun o x _ hx => ⟨x, hx, .refl x⟩, fun _ _ _ => rfl,
      fun _ _ ht => ⟨ht, rfl⟩, Nat.le_refl _⟩
  refine ⟨hE, ⟨h.pos, fun k cs hk => (h.glob k cs hk).ext hE, fun b hb => Nat.lt_of_lt_of_le (h.size b hb) hw.size, fun o x hx => ?_, h.inj, fun n h0 hn ht => ?_, h.apart, h2⟩⟩
  · obtain ⟨q, r⟩ := h.obj o x hx
    exact ⟨q.ext hE hb (fun hs => hw.block _ (q.lt hs)) fun hs i hi => (h1 _ i (q.lt hs)).1 hi, r⟩
  · have k := h.own n h0 hn ht
    refine k.ext rfl rfl fun b hβ => ⟨hw.block b (k.lt hβ).1, fun i hi => (h1 b i (k.lt hβ).1).1 hi, ?_⟩
    cases k with
    | full A k z h hb' => rw [hb'] at hβ; cases hβ
    | own b' len cap z e cur h hb' hB q1 q2 q3 q4 q5 q6 =>
      rw [hb'] at hβ
      cases hβ
      exact q6

theorem flat_rep {I' : Nat → Nat → Prop} {v : Value} {x : Arg} (h : RepA I w v x) (hf : flatArg x = true) : RepA I' w' v x := by
  have key : ∀ {y : PV} {u : Value}, RepP I w u y → flatP y = true → RepP I' w' u y := by
    intro y u hy hm
    cases hy with
    | sc h => exact .sc h
    | _ => cases hm
  unfold RepA at h ⊢
  split at h
  · exact key h (by simpa [flatArg] using hf)
  · obtain ⟨vs, rfl, hl, hv⟩ := h
    refine ⟨vs, rfl, hl, fun j y u hy hu => key (hv j y u hy hu) ?_⟩
    exact List.all_eq_true.1 hf y (List.mem_of_getElem? hy)
  · exact h.elim

/-- Results that are written no more. -/
def ResA (I : Nat → Nat → Prop) (w : World) (v : Value) (rs : List Arg) : Prop := match rs with
  | [r] => RepA I w v r
  | rs => ∃ vs : Array Value, v = .tuple vs ∧ vs.size = rs.length ∧ ∀ (i : Nat) (x : Arg) (u : Value), rs[i]? = some x → vs[i]? = some u → RepA I w u x

theorem ResA.map {I' : Nat → Nat → Prop} {v : Value} {rs : List Arg} (h : ResA I w v rs) (hm : ∀ x ∈ rs, ∀ u, RepA I w u x → RepA I' w' u x) : ResA I' w' v rs := by
  match rs, h, hm with
  | [r], h, hm => exact hm r (by simp) v h
  | [], h, hm =>
    obtain ⟨vs, rfl, hl, hv⟩ := h
    exact ⟨vs, rfl, hl, fun i x u hx => by simp at hx⟩
  | a :: b :: l, h, hm =>
    obtain ⟨vs, rfl, hl, hv⟩ := h
    exact ⟨vs, rfl, hl, fun i x u hx hu => hm x (List.mem_of_getElem? hx) u (hv i x u hx hu)⟩

theorem atC_cv (x : Arg) : atC (cvOf x) = atOf x := by
  obtain ⟨b, l⟩ := x
  cases b <;> cases l with
  | nil => rfl
  | cons a l => cases l <;> rfl

theorem ResA.rel {v : Value} {rs : List Arg} (h : ResA g.I w v rs) : RelA g w ob rt nx v (resAT rs) := by
  have key : ∀ {rs : List Arg}, (∃ vs : Array Value, v = .tuple vs ∧ vs.size = rs.length ∧ ∀ (i : Nat) (x : Arg) (u : Value), rs[i]? = some x → vs[i]? = some u → RepA g.I w u x) → RelA g w ob rt nx v (.tup (rs.map cvOf)) := by
    rintro rs ⟨vs, rfl, hl, hv⟩
    refine .tup (by simpa using hl) fun j t u ht hu => ?_
    simp only [List.getElem?_map, Option.map_eq_some_iff] at ht
    obtain ⟨x, hx, rfl⟩ := ht
    rw [atC_cv]
    exact (hv j x u hx hu).rel1
  match rs, h with
  | [r], h => exact RepA.rel h
  | [], h => exact key h
  | a :: b :: l, h => exact key h
end
end Go.Proofs.Ytcmaohhcbiienaa.X
