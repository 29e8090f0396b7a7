import Derived.Test.YtcmaohhcbiienaaXF
import Derived.Lib.LazyBuf
/-! XG: types, operands, and the operations that touch no memory. -/
set_option linter.unusedVariables false
namespace Go.Proofs.Ytcmaohhcbiienaa.X
open Go.RowKit

theorem mapM_at {α β : Type} {f : α → Option β} : ∀ {l : List α} {r : List β}, l.mapM f = some r → ∀ (i : Nat) (y : β), r[i]? = some y → ∃ x, l[i]? = some x ∧ f x = some y := by
  intro l
  induction l with
  | nil =>
    intro r h i y hy
    simp at h
    subst h
    simp at hy
  | cons a l ih =>
    intro r h i y hy
    simp only [List.mapM_cons, Option.pure_def, Option.bind_eq_bind, Option.bind_eq_some_iff, Option.some.injEq] at h
    obtain ⟨b, hb, bs, hbs, rfl⟩ := h
    cases i with
    | zero => simp at hy; subst hy; exact ⟨a, rfl, hb⟩
    | succ i => simp at hy; simpa using ih hbs i y hy

theorem mapM_map {α β γ : Type} {f : α → Option β} {g : α → Option γ} {h : β → γ} (hfg : ∀ x y, f x = some y → g x = some (h y)) : ∀ {l : List α} {r : List β}, l.mapM f = some r → l.mapM g = some (r.map h) := by
  intro l
  induction l with
  | nil =>
    intro r hr
    simp at hr
    subst hr
    simp
  | cons a l ih =>
    intro r hr
    simp only [List.mapM_cons, Option.pure_def, Option.bind_eq_bind, Option.bind_eq_some_iff, Option.some.injEq] at hr
    obtain ⟨b, hb, bs, hbs, rfl⟩ := hr
    simp [List.mapM_cons, hfg a b hb, ih hbs]

structure TiOk (P : Program) (t : TypeId) (ti : TI) : Prop where
  base : ∃ d i v, P.underlying t = some d ∧ P.info? t = some i ∧ i.size = ti.sz ∧ i.zero = some v ∧ zeroAll ti.zero v.cells.toList = true ∧ ti.zero.length = ti.sz ∧ descAgg d = ti.agg
  str : ti.kd = 1 → ∃ fs, P.underlying t = some (.struct fs) ∧ ∀ (i : Nat) y, ti.fs[i]? = some y → ∃ f : Field, fs[i]? = some f ∧ f.offset = y.1 ∧ szT P f.type = some y.2.1 ∧ aggT P f.type = some y.2.2.1 ∧ f.type = y.2.2.2
  places : ti.kd = 1 → ∀ fs, P.underlying t = some (.struct fs) → fs.toList.mapM (fun f => (P.info? f.type).map fun i => (f.offset, i.size)) = some (ti.fs.map fun y => (y.1, y.2.1))
  arr : ti.kd = 2 → P.underlying t = some (.array ti.len ti.e) ∧ ∃ j, P.info? ti.e = some j ∧ j.size = ti.esz ∧ j.bytes = ti.eby ∧ aggT P ti.e = some ti.eagg
  sli : ti.kd = 3 → P.underlying t = some (.slice ti.e) ∧ ∃ j, P.info? ti.e = some j ∧ j.size = ti.esz ∧ j.bytes = ti.eby ∧ aggT P ti.e = some ti.eagg

theorem tiOk {P : Program} {t : TypeId} {ti : TI} (h : tiOf P t = some ti) : TiOk P t ti := by
  unfold tiOf at h
  cases hd : P.underlying t with
  | none => simp [hd] at h
  | some d =>
    cases hi : P.info? t with
    | none => simp [hd, hi] at h
    | some i =>
      cases hz : zeroD P 12 t with
      | none => simp [hd, hi, hz] at h
      | some z =>
        simp only [hd, hi, hz] at h
        by_cases hc : (z.length == i.size && zeroOk z i.zero) = true
        · rw [if_pos hc] at h
          simp only [Bool.and_eq_true, beq_iff_eq] at hc
          obtain ⟨hc1, hc2⟩ := hc
          obtain ⟨v, hv, hva⟩ : ∃ v, i.zero = some v ∧ zeroAll z v.cells.toList = true := by
            cases hv : i.zero with
            | none => rw [hv] at hc2; cases hc2
            | some v => rw [hv] at hc2; exact ⟨v, rfl, hc2⟩
          cases d with
          | struct fs =>
            simp only [Option.map_eq_some_iff] at h
            obtain ⟨l, hl, rfl⟩ := h
            refine ⟨⟨_, i, v, hd, hi, rfl, hv, hva, hc1, rfl⟩, fun _ => ⟨fs, hd, fun k y hy => ?_⟩, fun _ fs' hd'' => ?_, (fun h => by cases h), (fun h => by cases h)⟩
            · obtain ⟨f, hf, hfy⟩ := mapM_at hl k y hy
              simp only [Option.bind_eq_some_iff, Option.map_eq_some_iff] at hfy
              obtain ⟨s, hs, a, ha, rfl⟩ := hfy
              exact ⟨f, by simpa using hf, rfl, hs, ha, rfl⟩
            · rw [hd] at hd''
              cases hd''
              refine mapM_map (fun f y hfy => ?_) hl
              simp only [Option.bind_eq_some_iff, Option.map_eq_some_iff] at hfy
              obtain ⟨s, hs, a, ha, rfl⟩ := hfy
              simp only [szT, Option.map_eq_some_iff] at hs
              obtain ⟨j, hj, rfl⟩ := hs
              simp [hj]
          | array n e =>
            simp only [Option.bind_eq_some_iff, Option.map_eq_some_iff] at h
            obtain ⟨j, hj, a, ha, rfl⟩ := h
            exact ⟨⟨_, i, v, hd, hi, rfl, hv, hva, hc1, rfl⟩, (fun h => by cases h), (fun h => by cases h), fun _ => ⟨hd, j, hj, rfl, rfl, ha⟩, fun h => by cases h⟩
          | slice e =>
            simp only [Option.bind_eq_some_iff, Option.map_eq_some_iff] at h
            obtain ⟨j, hj, a, ha, rfl⟩ := h
            exact ⟨⟨_, i, v, hd, hi, rfl, hv, hva, hc1, rfl⟩, (fun h => by cases h), (fun h => by cases h), (fun h => by cases h), fun _ => ⟨hd, j, hj, rfl, rfl, ha⟩⟩
          | _ =>
            cases h
            exact ⟨⟨_, i, v, hd, hi, rfl, hv, hva, hc1, rfl⟩, (fun h => by cases h), (fun h => by cases h), (fun h => by cases h), fun h => by cases h⟩
        · rw [if_neg hc] at h
          cases h

section
variable {E : Env} {B : Blk} {lim : Nat} {g g' : Gh} {w w' : World} {ob ob' : ObF} {rt rt' : RtF} {nx nx' : Nat}

theorem zero_fits {c : CV} {v : Value} (h : zeroFits c v = true) : RelC g w ob rt nx v c := by
  unfold zeroFits at h
  split at h
  all_goals first | (cases h; done) | skip
  · simp at h; subst h; exact .p (.sc rfl)
  · simp at h; obtain ⟨rfl, rfl⟩ := h; exact .p (.sc rfl)
  · rename_i a b
    have : a = b := by
      cases a; cases b
      simp at h
      simp [h]
    subst this
    exact .p (.sc rfl)
  · rename_i z
    exact .p0 (.sl (l := []) (A := none) (cap := 0) (fun _ _ => undef) (Nat.le_refl _) (Nat.zero_le _) (fun _ => rfl) (fun a h => by cases h) (fun i r h => by simp at h) (fun a h => by cases h) fun i r j x h => by simp at h)
  · exact .p (.sc rfl)
  · exact .p (.sc rfl)
  · exact .p (.sc rfl)
  · exact .p (.sc rfl)
theorem zero_all : ∀ {cs : List CV} {vs : List Value}, zeroAll cs vs = true → RelL g w ob rt nx vs.toArray cs
  | [], [], _ => ⟨rfl, fun j x v h => by simp at h⟩
  | c :: cs, v :: vs, h => by
    simp only [zeroAll, Bool.and_eq_true] at h
    obtain ⟨h1, h2⟩ := zero_all h.2
    refine ⟨by simpa using h1, fun j x u hx hu => ?_⟩
    cases j with
    | zero => simp at hx hu; subst hx; subst hu; exact zero_fits h.1
    | succ j => exact h2 j x u (by simpa using hx) (by simpa using hu)
  | [], _ :: _, h => by simp [zeroAll] at h
  | _ :: _, [], h => by simp [zeroAll] at h

/-- A state, the temporaries, and the memory. -/
structure Cur (E : Env) (B : Blk) (lim : Nat) (s : St) (g : Gh) (a : Act) (w : World) : Prop where
  mem : RelM E.G g w s.ob s.rt s.nx B
  lab : ∀ o, (s.ob o).isSome → o < lim
  tm : ∀ t, RelA g w s.ob s.rt s.nx (a.eval (.tmp t)) (s.tm t)

theorem nil_rep (z : Nat) : RelC g w ob rt nx (.slice none 0 0) (.p (some 0) (.sl z [])) :=
  .p0 (.sl (l := []) (A := none) (cap := 0) (fun _ _ => undef) (Nat.le_refl _) (Nat.zero_le _) (fun _ => rfl) (fun a h => by cases h) (fun i r h => by simp at h) (fun a h => by cases h) fun i r j x h => by simp at h)

theorem const_rep (v : Value) : RelA g w ob rt nx v (constV v) := by
  unfold constV
  split
  · exact .of (.one (nil_rep 0))
  · exact .of .no
  · exact .of .no
  · rename_i h1 h2 h3
    refine .of (.one (.p (.sc ?_)))
    cases v <;> first | rfl | exact absurd rfl (h2 _) | exact absurd rfl (h3 _)

theorem Cur.opd {s : St} {a : Act} (c : Cur E B lim s g a w) (x : Operand) : RelA g w s.ob s.rt s.nx (a.eval x) (evOpd E s.tm x) := by
  cases x with
  | tmp t => exact c.tm t
  | const v => exact const_rep v
  | global k =>
    simp only [evOpd, Act.eval]
    split
    · rename_i cs hk
      exact .of (.one (.p (c.mem.glob k cs hk)))
    · exact .of (.one (.p (.sc rfl)))
  | func f => exact .of (.one (.p (.fn rfl fun j x v h => by simp at h)))

theorem Cur.opT {s : St} {a : Act} (c : Cur E B lim s g a w) (t : TypeId) (x : Operand) : RelA g w s.ob s.rt s.nx (a.eval x) (opT E (evOpd E s.tm) t x) := by
  unfold X.opT
  split
  · rename_i h
    unfold isNilSl at h
    split at h
    · exact .of (.one (nil_rep _))
    · cases h
  · exact c.opd x

theorem scC_eq {v v' : Value} {c : CV} (h : RelC g w ob rt nx v c) (hc : scC c = some v') : v = v' := by
  cases h with
  | p h => cases h <;> simp [scC] at hc; exact hc
  | _ => simp [scC] at hc
theorem scL_eq : ∀ {cs : List CV} {vs' vs : List Value}, vs.length = cs.length → (∀ (j : Nat) x v, cs[j]? = some x → vs[j]? = some v → RelC g w ob rt nx v x) → scL cs = some vs' → vs = vs'
  | [], vs', vs, hl, _, hs => by
    simp [scL] at hs
    subst hs
    exact List.eq_nil_of_length_eq_zero hl
  | c :: cs, vs', [], hl, _, hs => by simp at hl
  | c :: cs, vs', v :: vs, hl, h, hs => by
    simp only [scL] at hs
    split at hs
    · rename_i x xs hx hxs
      cases hs
      have e1 := scC_eq (h 0 c v rfl rfl) hx
      have e2 := scL_eq (vs := vs) (by simpa using hl) (fun j y u hy hu => h (j + 1) y u (by simpa using hy) (by simpa using hu)) hxs
      rw [e1, e2]
    · cases hs
theorem valOf_eq {v v' : Value} {x : AT} (h : RelA g w ob rt nx v x) (hx : valOf x = some v') : v = v' := by
  cases h with
  | tup => simp [valOf] at hx
  | of h =>
    cases h with
    | no => simp [valOf] at hx
    | one h => exact scC_eq h hx
    | agg h =>
      simp only [valOf, Option.map_eq_some_iff] at hx
      obtain ⟨vs', hs, rfl⟩ := hx
      have := scL_eq (by rw [Array.length_toList]; exact h.1) (fun j x v hx hv => h.2 j x v hx (by simpa using hv)) hs
      rw [← this]
theorem atOfV_rep {v : Value} {x : AT} (h : atOfV v = some x) : RelA g w ob rt nx v x := by
  unfold atOfV at h
  split at h
  · rename_i cs
    split at h
    · rename_i hf
      cases h
      refine .of (.agg ⟨by simp, fun j x u hx hu => ?_⟩)
      simp only [List.getElem?_map, Option.map_eq_some_iff, Array.getElem?_toList] at hx
      obtain ⟨y, hy, rfl⟩ := hx
      rw [hu] at hy
      cases hy
      exact .p (.sc (List.all_eq_true.1 hf _ (Array.mem_toList_iff.2 (Array.mem_of_getElem? hu))))
    · cases h
  · cases h
  · rename_i h1 h2
    cases h
    refine .of (.one (.p (.sc ?_)))
    cases v <;> first | rfl | exact absurd rfl (h1 _) | exact absurd rfl (h2 _)

/-- What stands behind an operation. -/
structure After (E : Env) (B : Blk) (lim : Nat) (s : St) (g : Gh) (w : World) (u : Upd) (v : Value) (g' : Gh) (w' : World) : Prop where
  ext : Ext B lim g w s.ob s.rt s.nx g' w' (apU none u s).ob (apU none u s).rt (apU none u s).nx
  mem : RelM E.G g' w' (apU none u s).ob (apU none u s).rt (apU none u s).nx B
  lab : ∀ o, ((apU none u s).ob o).isSome → o < lim
  val : RelA g' w' (apU none u s).ob (apU none u s).rt (apU none u s).nx v u.val

def OpOk (E : Env) (B : Blk) (lim : Nat) (s : St) (g : Gh) (a : Act) (w : World) (o : Oper) (u : Upd) : Prop :=
  ∀ (K : Act → World → Prop) (Q : Exit → Act → World → Prop), (∀ v g' w', After E B lim s g w u v g' w' → K (a.put o.dst v) w') → o.wp E.P a w K Q

theorem OpOk.value {s : St} {a : Act} {o : Oper} {u : Upd} {v : Value} (h : (execOp a.eval o).run E.P w = .ok (.value v) w') (k : After E B lim s g w u v g' w') : OpOk E B lim s g a w o u := by
  intro K Q hK
  unfold Oper.wp
  rw [h]
  exact hK v g' w' k
theorem OpOk.skip {s : St} {a : Act} {o : Oper} {u : Upd} (h : (execOp a.eval o).run E.P w = .ok .skip w') (k : After E B lim s g w u undef g' w') : OpOk E B lim s g a w o u := by
  intro K Q hK
  unfold Oper.wp
  rw [h]
  exact hK undef g' w' k

/-- Nothing but a value. -/
theorem Cur.quiet {s : St} {a : Act} (c : Cur E B lim s g a w) {v : Value} {x : AT} {rd : List Nat} (k : RelA g w s.ob s.rt s.nx v x) :
    After E B lim s g w { val := x, rd := rd } v g w := ⟨Ext.refl .., c.mem, c.lab, k⟩
theorem Cur.pure {s : St} {a : Act} (c : Cur E B lim s g a w) {o : Oper} {v : Value} {x : AT} {rd : List Nat} (h : (execOp a.eval o).run E.P w = .ok (.value v) w)
    (k : RelA g w s.ob s.rt s.nx v x) : OpOk E B lim s g a w o { val := x, rd := rd } := .value h (c.quiet k)

theorem filled_some {v : Value} {x : AT} (h : RelA g w ob rt nx v x) (hf : filled x = true) : ∃ A n cp, v = .slice (some A) n cp := by
  have rep : ∀ {z : Nat} {l : List (List PV)} {v : Value}, RepP g.I w v (.sl z l) → 0 < l.length → ∃ A n cp, v = .slice (some A) n cp := by
    intro z l v k hl
    cases k with
    | sl f h1 h2 h3 h4 h5 h6 h7 =>
      rename_i A cap
      cases A with
      | none => have := h3 rfl; omega
      | some A => exact ⟨A, _, _, rfl⟩
  cases h with
  | of h => cases h with
    | one h => cases h with
      | p k => cases k with
        | sl f h1 h2 h3 h4 h5 h6 h7 => exact rep (.sl f h1 h2 h3 h4 h5 h6 h7) (of_decide_eq_true hf)
        | _ => cases hf
      | p0 k => exact rep k (of_decide_eq_true hf)
      | pn _ _ k => exact rep k (of_decide_eq_true hf)
      | vw h hl hcap hmax hnil hs hA =>
        have := hA (Nat.ne_of_gt (of_decide_eq_true hf))
        subst this
        exact ⟨_, _, _, rfl⟩
      | _ => cases hf
    | _ => cases hf
  | tup => cases hf

theorem nil_eval {a : Act} {y : Operand} (h : isNilS y = true) : a.eval y = .slice none 0 0 := by
  unfold isNilS at h
  split at h
  · rfl
  · cases h

theorem Cur.gen {s : St} {a : Act} (c : Cur E B lim s g a w) {o : Oper} {u : Upd} (hs : ∀ cs b, o.op ≠ .select cs b) (h : evGen E (evOpd E s.tm) o = some u) : OpOk E B lim s g a w o u := by
  unfold evGen at h
  split at h
  · rename_i hall
    split at h
    · rename_i v hv
      simp only [Option.map_eq_some_iff] at h
      obtain ⟨x, hx, rfl⟩ := h
      refine c.pure ?_ (atOfV_rep hx)
      rw [execOp_congr o hs (ρ := a.eval) (ρ' := fun x => (valOf (evOpd E s.tm x)).getD undef) fun x hx => ?_]
      · exact tryP_run hv w
      · have := List.all_eq_true.1 hall x (by simpa using hx)
        obtain ⟨v', hv'⟩ := Option.isSome_iff_exists.1 this
        rw [valOf_eq (c.opd x) hv', hv']
        rfl
    · cases h
  · unfold nilGen at h
    split at h
    · rename_i op t x y u ho
      unfold nilB at h
      split at h
      · rename_i ti hT
        split at h
        · rename_i hc
          obtain ⟨hk, hn, hf⟩ := hc
          obtain ⟨hd, _⟩ := (tiOk hT).sli hk
          obtain ⟨A, n, cp, hv⟩ := filled_some (c.opd x) hf
          have hy := nil_eval (a := a) hn
          split at h
          · cases h
            refine c.pure (v := .bool false) ?_ (.of (.one (.p (.sc rfl))))
            have := run_eql_slice_nil (P := E.P) w t ti.e (some A) n cp hd
            simp [execOp, ho, hv, hy, eqGuard, this]
          · cases h
            refine c.pure (v := .bool true) ?_ (.of (.one (.p (.sc rfl))))
            have := run_neq_slice_nil (P := E.P) w t ti.e (some A) n cp hd
            simp [execOp, ho, hv, hy, eqGuard, this]
          · cases h
        · cases h
      · cases h
    · cases h
end
end Go.Proofs.Ytcmaohhcbiienaa.X
