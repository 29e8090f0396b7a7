import Derived.Test.YtcmaohhcbiienaaYH
/-! YI: steps through the rows of a region; calls; a function's end. -/
set_option linter.unusedVariables false
namespace Go.Proofs.Ytcmaohhcbiienaa.X
open Go.RowKit

/-- The rows that are left. -/
def GR (C : Cx) (F : Fr) (k : List It) (Q : Post) (id : Nat) (draw : Bool) (ops : Array Oper) (l : List Oper) (s : St) (us : List Upd) : Prop := ∃ n s' us', evRows C.E (C.gen F.f) (C.ev n) F.base F.nt ops l s = some (s', us') ∧
  us'.all (touchOk F.base F.vis) = true ∧ (draw = true → ∃ q, (C.H F.f).pairs id = some q ∧ apartAll (us.reverse ++ us') q = true) ∧ Fin C F k .fall s' Q
/-- A deed, and the rows behind it. -/
def StepU (C : Cx) (F : Fr) (k : List It) (Q : Post) (id : Nat) (draw : Bool) (ops : Array Oper) (l : List Oper) (s : St) (us : List Upd) (d : Option Nat) (u : Option Upd) : Prop :=
  match u with
  | some u => touchOk F.base F.vis u = true ∧ GR C F k Q id draw ops l (apU d u s) (u :: us)
  | none => False
/-- An operation, and the rows behind it. -/
def StepO (C : Cx) (F : Fr) (k : List It) (Q : Post) (id : Nat) (draw : Bool) (ops : Array Oper) (l : List Oper) (s : St) (us : List Upd) (o : Oper) : Prop :=
  ∃ n u, evOp C.E (C.gen F.f) (C.ev n) F.base (evOpd C.E s.tm) s.ob s.rt s.nx o = some u ∧ touchOk F.base F.vis u = true ∧ GR C F k Q id draw ops l (apU o.dst u s) (u :: us)
/-- A row with a guard. -/
def StepG (C : Cx) (F : Fr) (k : List It) (Q : Post) (id : Nat) (draw : Bool) (ops : Array Oper) (l : List Oper) (s : St) (us : List Upd) (o : Oper) (b : Option Bool) : Prop :=
  match b with
  | some true => StepO C F k Q id draw ops l s us o
  | some false => GR C F k Q id draw ops l (apU o.dst { val := .tup [] } s) ({ val := .tup [] } :: us)
  | none => False

section
variable {C : Cx} {F : Fr} {k : List It} {s : St} {Q : Post} {a b : Code} {id : Nat} {draw : Bool} {ops : Array Oper} {l : List Oper} {us : List Upd} {d : Option Nat}

theorem stepU_some {u : Upd} : StepU C F k Q id draw ops l s us d (some u) = (touchOk F.base F.vis u = true ∧ GR C F k Q id draw ops l (apU d u s) (u :: us)) := rfl
theorem stepU_none : StepU C F k Q id draw ops l s us d none = False := rfl
theorem stepU_if {c : Prop} [Decidable c] {u v : Option Upd} : StepU C F k Q id draw ops l s us d (if c then u else v) = if c then StepU C F k Q id draw ops l s us d u else StepU C F k Q id draw ops l s us d v := by split <;> rfl
@[congr] theorem stepU_congr {u v : Option Upd} (h : u = v) : StepU C F k Q id draw ops l s us d u = StepU C F k Q id draw ops l s us d v := by rw [h]
@[congr] theorem stepG_congr {o : Oper} {u v : Option Bool} (h : u = v) : StepG C F k Q id draw ops l s us o u = StepG C F k Q id draw ops l s us o v := by rw [h]
theorem stepG_t {o : Oper} : StepG C F k Q id draw ops l s us o (some true) = StepO C F k Q id draw ops l s us o := rfl
theorem stepG_f {o : Oper} : StepG C F k Q id draw ops l s us o (some false) = GR C F k Q id draw ops l (apU o.dst { val := .tup [] } s) ({ val := .tup [] } :: us) := rfl
theorem stepG_b {o : Oper} {b : Bool} : StepG C F k Q id draw ops l s us o (some b) = if b = true then StepO C F k Q id draw ops l s us o else GR C F k Q id draw ops l (apU o.dst { val := .tup [] } s) ({ val := .tup [] } :: us) := by cases b <;> rfl

theorem go_region {l : List Oper} : Go C F (.region id l.toArray draw) k s Q = GR C F k Q id draw l.toArray l s [] := by
  have ev : ∀ n p, evCode (C.fx F (n + 1)) (n + 1) (.region id l.toArray draw) s = some p ↔ (match evRows C.E (C.gen F.f) (C.ev (n + 1)) F.base F.nt l.toArray l s with
    | some (s', us) => if us.all (touchOk F.base F.vis) then
        if draw then match (C.H F.f).pairs id with
        | some l => if apartAll us l then some (.fall, s') else none
        | none => none
        else some (.fall, s')
      else none
    | none => none) = some p := fun n p => Iff.rfl
  refine propext ⟨fun ⟨n, p, h1, h2⟩ => ?_, fun ⟨n, s', us', h1, h2, h3, h4⟩ => ?_⟩
  · cases n with
    | zero => cases h1
    | succ n =>
      have h := (ev n p).1 h1
      split at h
      · rename_i s' us' hr
        split at h
        · rename_i ht
          split at h
          · rename_i hd
            split at h
            · rename_i q hq
              split at h
              · rename_i hap
                cases h
                exact ⟨n + 1, s', us', hr, ht, fun _ => ⟨q, hq, hap⟩, h2⟩
              · cases h
            · cases h
          · rename_i hd
            cases h
            exact ⟨n + 1, s', us', hr, ht, fun h => absurd h hd, h2⟩
        · cases h
      · cases h
  · refine ⟨n + 1, (.fall, s'), (ev n _).2 ?_, h4⟩
    have h1' : evRows C.E (C.gen F.f) (C.ev (n + 1)) F.base F.nt l.toArray l s = some (s', us') := evRows_mono (evF_mono (Nat.le_succ n)) h1
    rw [h1']
    simp only [h2, if_true]
    cases draw with
    | false => rfl
    | true =>
      obtain ⟨q, hq, hap⟩ := h3 rfl
      replace hap : apartAll us' q = true := hap
      simp only [if_true, hq]
      rw [if_pos hap]

theorem gr_nil : GR C F k Q id false ops [] s us = Fin C F k .fall s Q :=
  propext ⟨fun ⟨n, s', us', h1, h2, h3, h4⟩ => by cases h1; exact h4, fun h => ⟨0, s, [], rfl, rfl, (fun h => by cases h), h⟩⟩
/-- Only the deeds that are not quiet are asked. -/
def loud : Nat → List Upd → List (Nat × Upd)
  | _, [] => []
  | n, u :: us => if u.quiet then loud (n + 1) us else (n, u) :: loud (n + 1) us
def apart2 (q : List (Nat × Nat)) : List (Nat × Upd) → Bool
  | [] => true
  | (i, u) :: r => (r.all fun p => !(q.contains (i, p.1)) || u.apart p.2) && apart2 q r
def lessAll (n : Nat) (q : List (Nat × Nat)) : Bool := q.all fun p => decide (p.1 < p.2) && decide (p.2 < n)
theorem quiet_apart {u v : Upd} (h : u.quiet = true) : u.apart v = true := by
  obtain ⟨h1, h2, h3, h4⟩ := quiet_ob h
  unfold Upd.apart
  split
  · simp [h]
  · simp [h1, h2, h3]
theorem loud_at : ∀ {us : List Upd} {n i : Nat} {u : Upd}, us[i]? = some u → u.quiet = false → (n + i, u) ∈ loud n us
  | [], n, i, u, h, _ => by simp at h
  | v :: us, n, i, u, h, hq => by
    simp only [loud]
    cases i with
    | zero =>
      simp at h
      subst h
      rw [if_neg (by simp [hq])]
      exact List.mem_cons_self ..
    | succ i =>
      have := loud_at (us := us) (n := n + 1) (i := i) (by simpa using h) hq
      rw [show n + 1 + i = n + (i + 1) by omega] at this
      split
      · exact this
      · exact List.mem_cons_of_mem _ this
theorem loud_ge : ∀ {us : List Upd} {n : Nat} {p : Nat × Upd}, p ∈ loud n us → n ≤ p.1
  | [], n, p, h => by simp [loud] at h
  | v :: us, n, p, h => by
    simp only [loud] at h
    split at h
    · exact Nat.le_of_succ_le (loud_ge h)
    · rcases List.mem_cons.1 h with rfl | h
      · exact Nat.le_refl _
      · exact Nat.le_of_succ_le (loud_ge h)
theorem loud_sorted : ∀ {us : List Upd} {n : Nat}, (loud n us).Pairwise fun p q => p.1 < q.1
  | [], n => List.Pairwise.nil
  | v :: us, n => by
    simp only [loud]
    split
    · exact loud_sorted
    · exact List.pairwise_cons.2 ⟨fun p hp => loud_ge hp, loud_sorted⟩
theorem apart2_spec {q : List (Nat × Nat)} : ∀ {r : List (Nat × Upd)}, apart2 q r = true → r.Pairwise fun p p' => (p.1, p'.1) ∈ q → p.2.apart p'.2 = true
  | [], _ => List.Pairwise.nil
  | (i, u) :: r, h => by
    simp only [apart2, Bool.and_eq_true, List.all_eq_true, Bool.or_eq_true, Bool.not_eq_true', List.contains_eq_mem, decide_eq_false_iff_not] at h
    exact List.pairwise_cons.2 ⟨fun p hp hq => (h.1 p hp).resolve_left fun hn => hn hq, apart2_spec h.2⟩
theorem apart_of_loud {us : List Upd} {q : List (Nat × Nat)} (h : apart2 q (loud 0 us) = true) (hl : lessAll us.length q = true) : apartAll us q = true := by
  unfold apartAll
  rw [List.all_eq_true]
  rintro ⟨i, j⟩ hp
  have hij := List.all_eq_true.1 hl _ hp
  simp only [Bool.and_eq_true, decide_eq_true_eq] at hij
  have hi : us[i]? = some (us[i]'(by omega)) := List.getElem?_eq_getElem (by omega)
  have hj : us[j]? = some us[j] := List.getElem?_eq_getElem hij.2
  simp only [hi, hj]
  by_cases q1 : (us[i]'(by omega)).quiet = true
  · exact quiet_apart q1
  · by_cases q2 : us[j].quiet = true
    · exact apart_symm (quiet_apart q2)
    · have m1 := loud_at (n := 0) hi (by simpa using q1)
      have m2 := loud_at (n := 0) hj (by simpa using q2)
      rw [Nat.zero_add] at m1 m2
      have hs := loud_sorted (us := us) (n := 0)
      have ha := apart2_spec h
      obtain ⟨x, hx⟩ := List.mem_iff_getElem.1 m1
      obtain ⟨y, hy⟩ := List.mem_iff_getElem.1 m2
      obtain ⟨hx1, hx2⟩ := hx
      obtain ⟨hy1, hy2⟩ := hy
      rcases Nat.lt_trichotomy x y with hxy | hxy | hxy
      · have := List.pairwise_iff_getElem.1 ha x y hx1 hy1 hxy
        rw [hx2, hy2] at this
        exact this hp
      · subst hxy
        rw [hx2] at hy2
        cases hy2
        omega
      · have := List.pairwise_iff_getElem.1 hs y x hy1 hx1 hxy
        rw [hx2, hy2] at this
        simp only at this
        omega
theorem gr_nilD {q : List (Nat × Nat)} (hq : (C.H F.f).pairs id = some q) (ha : apart2 q (loud 0 us.reverse) = true) (hl : lessAll us.length q = true) : GR C F k Q id true ops [] s us = Fin C F k .fall s Q := by
  refine propext ⟨fun ⟨n, s', us', h1, h2, h3, h4⟩ => by cases h1; exact h4, fun h => ⟨0, s, [], rfl, rfl, fun _ => ⟨q, hq, ?_⟩, h⟩⟩
  rw [List.append_nil]
  exact apart_of_loud ha (by simpa using hl)
/-- The end of a drawn region. -/
def EndD (C : Cx) (F : Fr) (k : List It) (Q : Post) (s : St) (us : List Upd) (q : Option (List (Nat × Nat))) : Prop := ∃ p, q = some p ∧ apart2 p (loud 0 us.reverse) = true ∧ lessAll us.length p = true ∧ Fin C F k .fall s Q
theorem gr_nilE (h : EndD C F k Q s us ((C.H F.f).pairs id)) : GR C F k Q id true ops [] s us := by
  obtain ⟨q, hq, ha, hl, h⟩ := h
  rw [gr_nilD hq ha hl]
  exact h

theorem gr_cons {op : Op} {t : TypeId} {pos : String} {after : Array Edge} : GR C F k Q id draw ops (⟨d, op, t, pos, after, none⟩ :: l) s us = (okDst F.nt d = true ∧ StepO C F k Q id draw ops l s us ⟨d, op, t, pos, after, none⟩) := by
  refine propext ⟨fun ⟨n, s', us', h1, h2, h3, h4⟩ => ?_, fun ⟨h0, n, u, h1, h2, m, s', us', h3, h4, h5, h6⟩ => ?_⟩
  · obtain ⟨u, us2, g1, g2, rfl⟩ := evRows_cons.1 h1
    unfold evRow at g1
    split at g1
    · rename_i hd
      simp only [evGuard] at g1
      simp only [List.all_cons, Bool.and_eq_true] at h2
      exact ⟨hd, n, u, g1, h2.1, n, s', us2, g2, h2.2, fun h => by
        obtain ⟨q, hq, ha⟩ := h3 h
        exact ⟨q, hq, by simpa using ha⟩, h4⟩
    · cases g1
  · refine ⟨max n m, s', u :: us', evRows_cons.2 ⟨u, us', ?_, evRows_mono (evF_mono (Nat.le_max_right ..)) h3, rfl⟩, by simp [h2, h4], fun h => ?_, h6⟩
    · unfold evRow
      simp only [h0, if_true, evGuard]
      exact evOp_mono (evF_mono (Nat.le_max_left ..)) h1
    · obtain ⟨q, hq, ha⟩ := h5 h
      exact ⟨q, hq, by simpa using ha⟩
theorem gr_consG {op : Op} {t : TypeId} {pos : String} {after : Array Edge} {g : Nat × Bool} : GR C F k Q id draw ops (⟨d, op, t, pos, after, some g⟩ :: l) s us =
    (okDst F.nt d = true ∧ StepG C F k Q id draw ops l s us ⟨d, op, t, pos, after, some g⟩ (evGuard ops s.tm (some g))) := by
  refine propext ⟨fun ⟨n, s', us', h1, h2, h3, h4⟩ => ?_, fun ⟨h0, hg⟩ => ?_⟩
  · obtain ⟨u, us2, g1, g2, rfl⟩ := evRows_cons.1 h1
    unfold evRow at g1
    split at g1
    · rename_i hd
      simp only [List.all_cons, Bool.and_eq_true] at h2
      have rest : GR C F k Q id draw ops l (apU d u s) (u :: us) := ⟨n, s', us2, g2, h2.2, fun h => by
        obtain ⟨q, hq, ha⟩ := h3 h
        exact ⟨q, hq, by simpa using ha⟩, h4⟩
      refine ⟨hd, ?_⟩
      split at g1
      · rename_i he
        simp only [] at he
        rw [he]
        exact ⟨n, u, g1, h2.1, rest⟩
      · rename_i he
        simp only [] at he
        rw [he]
        cases g1
        exact rest
      · cases g1
    · cases g1
  · cases he : evGuard ops s.tm (some g) with
    | none => rw [he] at hg; exact hg.elim
    | some b =>
      rw [he] at hg
      cases b with
      | true =>
        obtain ⟨n, u, h1, h2, m, s', us', h3, h4, h5, h6⟩ := hg
        refine ⟨max n m, s', u :: us', evRows_cons.2 ⟨u, us', ?_, evRows_mono (evF_mono (Nat.le_max_right ..)) h3, rfl⟩, by simp [h2, h4], fun h => ?_, h6⟩
        · unfold evRow
          simp only [h0, if_true, he]
          exact evOp_mono (evF_mono (Nat.le_max_left ..)) h1
        · obtain ⟨q, hq, ha⟩ := h5 h
          exact ⟨q, hq, by simpa using ha⟩
      | false =>
        obtain ⟨m, s', us', h3, h4, h5, h6⟩ := hg
        refine ⟨m, s', { val := .tup [] } :: us', evRows_cons.2 ⟨{ val := .tup [] }, us', ?_, h3, rfl⟩, by simp [h4, touchOk], fun h => ?_, h6⟩
        · unfold evRow
          simp only [h0, if_true, he]
        · obtain ⟨q, hq, ha⟩ := h5 h
          exact ⟨q, hq, by simpa using ha⟩

/-! ### calls -/
/-- What a function hands back. -/
def Ret (C : Cx) (f : FuncId) (xs rs : List Arg) : Prop := ∃ n, pureCall (C.ev n) f xs = some rs
theorem Ret.one {f : FuncId} {xs rs rs' : List Arg} (h : Ret C f xs rs) (h' : Ret C f xs rs') : rs = rs' := by
  obtain ⟨n, h⟩ := h
  obtain ⟨m, h'⟩ := h'
  have h1 := pureCall_mono (evF_mono (Nat.le_max_left n m)) h
  have h2 := pureCall_mono (evF_mono (Nat.le_max_right n m)) h'
  rw [h1] at h2
  cases h2
  rfl
def CallP (C : Cx) (F : Fr) (k : List It) (Q : Post) (id : Nat) (draw : Bool) (ops : Array Oper) (l : List Oper) (s : St) (us : List Upd) (d : Option Nat) (g : FuncId) (xs : List Arg) (seen : List Nat) : Prop :=
  ∃ rs, Ret C g xs rs ∧ StepU C F k Q id draw ops l s us d (some { val := resAT rs, ow := if rs.all flatArg then [] else icy s.ob seen, rd := seen })
theorem callP_eq {g : FuncId} {xs rs : List Arg} {seen : List Nat} (h : Ret C g xs rs) :
    CallP C F k Q id draw ops l s us d g xs seen = StepU C F k Q id draw ops l s us d (some { val := resAT rs, ow := if rs.all flatArg then [] else icy s.ob seen, rd := seen }) :=
  propext ⟨fun ⟨rs', h1, h2⟩ => by rw [h.one h1]; exact h2, fun q => ⟨rs, h, q⟩⟩
/-- The arguments of a call. -/
def argL (E : Env) (ρ : Operand → AT) : List Operand → List TypeId → List AT
  | x :: xs, t :: ts => X.opT E ρ t x :: argL E ρ xs ts
  | _, _ => []
theorem argL_eq {E : Env} {ρ : Operand → AT} : ∀ {xs : List Operand} {ts : List TypeId}, ((xs.zip ts).map fun p => X.opT E ρ p.2 p.1) = argL E ρ xs ts
  | [], _ => by simp [argL]
  | _ :: _, [] => by simp [argL]
  | x :: xs, t :: ts => by simp [argL, argL_eq]
/-- What a function that is given own variables hands back, and out. -/
def RetM (C : Cx) (m : Nat) (g : FuncId) (as : List AT) (ob : ObF) (rt : RtF) (nx : Nat) (rs : List AT) (ob' : ObF) (rt' : RtF) (nx' : Nat) : Prop := ∃ n, C.ev n m true g as ob rt nx = some (rs, ob', rt', nx')
theorem RetM.one {m nx : Nat} {f : FuncId} {as : List AT} {ob ob' ob'' : ObF} {rt rt' rt'' : RtF} {nx' nx'' : Nat} {rs rs' : List AT} (h : RetM C m f as ob rt nx rs ob' rt' nx') (h' : RetM C m f as ob rt nx rs' ob'' rt'' nx'') : rs = rs' ∧ ob' = ob'' ∧ rt' = rt'' ∧ nx' = nx'' := by
  obtain ⟨n, h⟩ := h
  obtain ⟨n', h'⟩ := h'
  have h1 := evF_mono (Nat.le_max_left n n') _ _ _ _ _ _ _ _ h
  have h2 := evF_mono (Nat.le_max_right n n') _ _ _ _ _ _ _ _ h'
  rw [h1] at h2
  cases h2
  exact ⟨rfl, rfl, rfl, rfl⟩
/-- The call itself, and the rows behind it. -/
def MvC (C : Cx) (F : Fr) (k : List It) (Q : Post) (id : Nat) (draw : Bool) (ops : Array Oper) (l : List Oper) (s : St) (us : List Upd) (d : Option Nat) (g : FuncId) (os used : List Nat) (as : List AT) (ob : ObF) (rt : RtF) (nx : Nat) : Prop :=
  ∃ rs ob' rt' nx', RetM C os.length g as ob rt nx rs ob' rt' nx' ∧ StepU C F k Q id draw ops l s us d (mvEnd F.base (d.getD 4095) s.nx os s.ob s.rt used rs ob' rt' nx')
/-- .. what is given. -/
def MvH (C : Cx) (F : Fr) (k : List It) (Q : Post) (id : Nat) (draw : Bool) (ops : Array Oper) (l : List Oper) (s : St) (us : List Upd) (d : Option Nat) (g : FuncId) (n : Nat) (os used : List Nat) (h : Option St) : Prop :=
  ∃ s1, h = some s1 ∧ noDup os = true ∧ MvC C F k Q id draw ops l s us d g os used ((List.range n).map fun i => renT (posIn os) 0 (s1.tm i)) (takeO s1.ob os) s1.rt s1.nx
def MvO (C : Cx) (F : Fr) (k : List It) (Q : Post) (id : Nat) (draw : Bool) (ops : Array Oper) (l : List Oper) (s : St) (us : List Upd) (d : Option Nat) (g : FuncId) (as : List AT) (os : List Nat) : Prop :=
  MvH C F k Q id draw ops l s us d g as.length os (as.flatMap rtsT ++ os.flatMap fun o => rtsO (s.ob o)) (head 0 1 [] (List.range as.length) ⟨initTm as 0, s.ob, s.rt, s.nx⟩)
/-- A call of a function that may write what is ours. -/
def CallM (C : Cx) (F : Fr) (k : List It) (Q : Post) (id : Nat) (draw : Bool) (ops : Array Oper) (l : List Oper) (s : St) (us : List Upd) (d : Option Nat) (g : FuncId) (as : List AT) : Prop :=
  MvO C F k Q id draw ops l s us d g as (seeO s.ob (as.map (coldT s.ob)) []).reverse
theorem callM_eq {g : FuncId} {as : List AT} : CallM C F k Q id draw ops l s us d g as = MvO C F k Q id draw ops l s us d g as (seeO s.ob (as.map (coldT s.ob)) []).reverse := rfl
theorem mvO_eq {g : FuncId} {as : List AT} {os : List Nat} : MvO C F k Q id draw ops l s us d g as os = MvH C F k Q id draw ops l s us d g as.length os (as.flatMap rtsT ++ os.flatMap fun o => rtsO (s.ob o)) (head 0 1 [] (List.range as.length) ⟨initTm as 0, s.ob, s.rt, s.nx⟩) := rfl
theorem mvH_eq {g : FuncId} {n : Nat} {os used : List Nat} {tm : Nat → AT} {ob : ObF} {rt : RtF} {nx : Nat} : MvH C F k Q id draw ops l s us d g n os used (some ⟨tm, ob, rt, nx⟩) = (noDup os = true ∧ MvC C F k Q id draw ops l s us d g os used ((List.range n).map fun i => renT (posIn os) 0 (tm i)) (takeO ob os) rt nx) :=
  propext ⟨fun ⟨_, e, h⟩ => by cases e; exact h, fun h => ⟨_, rfl, h⟩⟩
theorem mvC_eq {m : Nat} {g : FuncId} {os used : List Nat} {as rs : List AT} {ob ob' : ObF} {rt rt' : RtF} {nx nx' : Nat} (h : RetM C m g as ob rt nx rs ob' rt' nx') (hm : os.length = m) : MvC C F k Q id draw ops l s us d g os used as ob rt nx =
    StepU C F k Q id draw ops l s us d (mvEnd F.base (d.getD 4095) s.nx os s.ob s.rt used rs ob' rt' nx') := by
  subst hm
  refine propext ⟨fun ⟨rs', o', r', n', h1, h2⟩ => ?_, fun q => ⟨_, _, _, _, h, q⟩⟩
  obtain ⟨rfl, rfl, rfl, rfl⟩ := h.one h1
  exact h2
@[congr] theorem mvO_congr {g : FuncId} {as as' : List AT} {os os' : List Nat} (h : as = as') (h' : os = os') : MvO C F k Q id draw ops l s us d g as os = MvO C F k Q id draw ops l s us d g as' os' := by rw [h, h']
@[congr] theorem mvH_congr {g : FuncId} {n n' : Nat} {os os' used used' : List Nat} {x x' : Option St} (hn : n = n') (ho : os = os') (hu : used = used') (hx : x = x') : MvH C F k Q id draw ops l s us d g n os used x = MvH C F k Q id draw ops l s us d g n' os' used' x' := by rw [hn, ho, hu, hx]
@[congr] theorem mvC_congr {g : FuncId} {os os' used used' : List Nat} {as as' : List AT} {ob ob' : ObF} {rt rt' : RtF} {nx nx' : Nat} (ho : os = os') (hu : used = used') (ha : as = as') (hb : ob = ob') (hr : rt = rt') (hn : nx = nx') :
    MvC C F k Q id draw ops l s us d g os used as ob rt nx = MvC C F k Q id draw ops l s us d g os' used' as' ob' rt' nx' := by rw [ho, hu, ha, hb, hr, hn]
theorem callM_iff {g : FuncId} {as : List AT} {X : Nat → Option Upd} (hX : ∀ n, X n = mvCall (C.ev n) F.base (d.getD 4095) g as s.ob s.rt s.nx) :
    (∃ n u, X n = some u ∧ touchOk F.base F.vis u = true ∧ GR C F k Q id draw ops l (apU d u s) (u :: us)) = CallM C F k Q id draw ops l s us d g as := by
  simp only [hX]
  refine propext ⟨?_, ?_⟩
  · rintro ⟨n, u, h, h1, h2⟩
    unfold mvCall at h
    split at h
    · rename_i s1 hh
      simp only at h
      split at h
      · rename_i hnd
        split at h
        · rename_i rs ob' rt' nx' hc
          exact ⟨s1, hh, hnd, rs, ob', rt', nx', ⟨n, hc⟩, by rw [h]; exact ⟨h1, h2⟩⟩
        · cases h
      · cases h
    · cases h
  · rintro ⟨s1, hh, hnd, rs, ob', rt', nx', ⟨n, hc⟩, hs⟩
    cases he : mvEnd F.base (d.getD 4095) s.nx (seeO s.ob (as.map (coldT s.ob)) []).reverse s.ob s.rt (as.flatMap rtsT ++ (seeO s.ob (as.map (coldT s.ob)) []).reverse.flatMap fun o => rtsO (s.ob o)) rs ob' rt' nx' with
    | none => rw [he] at hs; exact hs.elim
    | some u =>
      rw [he] at hs
      refine ⟨n, u, ?_, hs.1, hs.2⟩
      unfold mvCall
      rw [hh]
      simp only
      rw [if_pos hnd, hc]
      exact he
/-- A call that is shown what own variables hold. -/
def CallS (C : Cx) (F : Fr) (k : List It) (Q : Post) (id : Nat) (draw : Bool) (ops : Array Oper) (l : List Oper) (s : St) (us : List Upd) (d : Option Nat) (g : FuncId) (xs : Option (List Arg)) (looks : List Nat) : Prop :=
  ∃ ys rs, xs = some ys ∧ Ret C g ys rs ∧ rs.all flatArg = true ∧ StepU C F k Q id draw ops l s us d (some { val := resAT rs, rd := looks })
theorem callS_eq {g : FuncId} {ys rs : List Arg} {looks : List Nat} (h : Ret C g ys rs) (hf : rs.all flatArg = true) : CallS C F k Q id draw ops l s us d g (some ys) looks = StepU C F k Q id draw ops l s us d (some { val := resAT rs, rd := looks }) :=
  propext ⟨fun ⟨ys', rs', e, h1, _, h2⟩ => by cases e; rw [h.one h1]; exact h2, fun q => ⟨ys, rs, rfl, h, hf, q⟩⟩
/-- A call. -/
def StepC (C : Cx) (F : Fr) (k : List It) (Q : Post) (id : Nat) (draw : Bool) (ops : Array Oper) (l : List Oper) (s : St) (us : List Upd) (d : Option Nat) (f : AT) (as : List AT) : Prop :=
  match f with
  | .one (.p _ (.fn g caps)) => if C.gen F.f (d.getD 4095) = true then CallM C F k Q id draw ops l s us d g (as ++ caps.map fun x => .one (.p none x)) else match argsOf s.ob as with
    | some ys => CallP C F k Q id draw ops l s us d g (ys ++ capArgs caps) (as.flatMap seenT)
    | none => CallS C F k Q id draw ops l s us d g (snapArgs s.ob (as ++ caps.map fun x => .one (.p none x))) (as.flatMap (looksT s.ob))
  | .one (.cl g caps) => if C.gen F.f (d.getD 4095) = true then CallM C F k Q id draw ops l s us d g (as ++ caps.map .one) else
      CallS C F k Q id draw ops l s us d g (snapArgs s.ob (as ++ caps.map .one)) (as.flatMap (looksT s.ob) ++ looksL s.ob caps)
  | _ => False
theorem stepC_fn {w : Option Nat} {g : FuncId} {caps : List PV} {as : List AT} : StepC C F k Q id draw ops l s us d (.one (.p w (.fn g caps))) as = (if C.gen F.f (d.getD 4095) = true then CallM C F k Q id draw ops l s us d g (as ++ caps.map fun x => .one (.p none x)) else match argsOf s.ob as with
    | some ys => CallP C F k Q id draw ops l s us d g (ys ++ capArgs caps) (as.flatMap seenT)
    | none => CallS C F k Q id draw ops l s us d g (snapArgs s.ob (as ++ caps.map fun x => .one (.p none x))) (as.flatMap (looksT s.ob))) := rfl
theorem stepC_cl {g : FuncId} {caps : List CV} {as : List AT} : StepC C F k Q id draw ops l s us d (.one (.cl g caps)) as = (if C.gen F.f (d.getD 4095) = true then CallM C F k Q id draw ops l s us d g (as ++ caps.map .one) else
      CallS C F k Q id draw ops l s us d g (snapArgs s.ob (as ++ caps.map .one)) (as.flatMap (looksT s.ob) ++ looksL s.ob caps)) := rfl
@[congr] theorem callS_congr {g : FuncId} {xs xs' : Option (List Arg)} {se se' : List Nat} (h : xs = xs') (h' : se = se') : CallS C F k Q id draw ops l s us d g xs se = CallS C F k Q id draw ops l s us d g xs' se' := by rw [h, h']
@[congr] theorem stepC_congr {f f' : AT} {as as' : List AT} (h : f = f') (h' : as = as') : StepC C F k Q id draw ops l s us d f as = StepC C F k Q id draw ops l s us d f' as' := by rw [h, h']
@[congr] theorem callP_congr {g : FuncId} {xs xs' : List Arg} {se se' : List Nat} (h : xs = xs') (h' : se = se') : CallP C F k Q id draw ops l s us d g xs se = CallP C F k Q id draw ops l s us d g xs' se' := by rw [h, h']
theorem flat_eq {g : FuncId} {xs : Option (List Arg)} {R : List Nat} {X : Nat → Option Upd} (hX : ∀ n, X n = xs.bind fun ys => flatCall (C.ev n) g ys R) :
    (∃ n u, X n = some u ∧ touchOk F.base F.vis u = true ∧ GR C F k Q id draw ops l (apU d u s) (u :: us)) = CallS C F k Q id draw ops l s us d g xs R := by
  simp only [hX]
  refine propext ⟨?_, ?_⟩
  · rintro ⟨n, u, h, h1, h2⟩
    simp only [Option.bind_eq_some_iff] at h
    obtain ⟨ys, hy, h⟩ := h
    unfold flatCall at h
    simp only [Option.bind_eq_some_iff] at h
    obtain ⟨rs, hr, h⟩ := h
    split at h
    · rename_i hfl
      cases h
      exact ⟨ys, rs, hy, ⟨n, hr⟩, hfl, h1, h2⟩
    · cases h
  · rintro ⟨ys, rs, hy, ⟨n, hr⟩, hfl, h1, h2⟩
    refine ⟨n, _, ?_, h1, h2⟩
    rw [hy]
    simp only [flatCall, hr, Option.bind_some, hfl, if_true]
theorem so_call {f : Operand} {as : List Operand} {ts : List TypeId} {t : TypeId} {pos : String} {after : Array Edge} {g : Option (Nat × Bool)} (hl : as.length = ts.length) :
    StepO C F k Q id draw ops l s us ⟨d, .call { callee := .value f, args := as.toArray, argTypes := ts.toArray }, t, pos, after, g⟩ = StepC C F k Q id draw ops l s us d (evOpd C.E s.tm f) (argL C.E (evOpd C.E s.tm) as ts) := by
  have e : ∀ n, evOp C.E (C.gen F.f) (C.ev n) F.base (evOpd C.E s.tm) s.ob s.rt s.nx ⟨d, .call { callee := .value f, args := as.toArray, argTypes := ts.toArray }, t, pos, after, g⟩ =
    evCall C.E (C.gen F.f) (C.ev n) F.base (evOpd C.E s.tm) s.ob s.rt s.nx d { callee := .value f, args := as.toArray, argTypes := ts.toArray } := fun n => rfl
  unfold StepO StepC
  simp only [e]
  unfold evCall
  simp only [hl, if_true, argL_eq]
  cases hf : evOpd C.E s.tm f with
  | one c =>
    cases c with
    | p w x =>
      cases x with
      | fn gg caps =>
        simp only
        by_cases hg : C.gen F.f (d.getD 4095) = true
        · simp only [hg, if_true]
          exact callM_iff fun n => rfl
        · simp only [hg, Bool.false_eq_true, if_false]
          cases hx : argsOf s.ob (argL C.E (evOpd C.E s.tm) as ts) with
          | some ys =>
            simp only [Option.map_eq_some_iff]
            refine propext ⟨?_, ?_⟩
            · rintro ⟨n, u, ⟨rs, hr, rfl⟩, h1, h2⟩
              exact ⟨rs, ⟨n, hr⟩, h1, h2⟩
            · rintro ⟨rs, ⟨n, hr⟩, h1, h2⟩
              exact ⟨n, _, ⟨rs, hr, rfl⟩, h1, h2⟩
          | none =>
            simp only
            exact flat_eq fun n => by cases snapArgs s.ob (argL C.E (evOpd C.E s.tm) as ts ++ caps.map fun x => AT.one (.p none x)) <;> rfl
      | _ => simp
    | cl gg caps =>
      simp only
      by_cases hg : C.gen F.f (d.getD 4095) = true
      · simp only [hg, if_true]
        exact callM_iff fun n => rfl
      · simp only [hg, Bool.false_eq_true, if_false]
        exact flat_eq fun n => by cases snapArgs s.ob (argL C.E (evOpd C.E s.tm) as ts ++ caps.map AT.one) <;> rfl
    | _ => simp
  | _ => simp

/-! ### a function's end -/
def outRet : Out → Bool
  | .exit _ => false
  | _ => true
def RetQ (C : Cx) (rv : List ResultVar) (rs : List Arg) : Post := fun o s => outRet o = true ∧ (backAll 0 s.ob (rv.map (resAT1 C.E s))).bind (argsOf noOb) = some rs
theorem ret_of {f : FuncId} {fn : Func} {c : Code} {xs rs : List Arg} (hf : C.E.P.funcs[f]? = some fn) (hx : C.ext f = none) (hb : fn.body = some c) (hn : xs.length ≤ fn.ntmps ∧ fn.ntmps ≤ 4095)
    (h : Go C ⟨0, fn.ntmps, 1, [], f⟩ c [] ⟨initTm (xs.map atOf) 0, noOb, noRt, 1⟩ (RetQ C fn.results.toList rs)) : Ret C f xs rs := by
  obtain ⟨n, p, h1, h2⟩ := h
  rw [fin_nil] at h2
  obtain ⟨o, s⟩ := p
  obtain ⟨h3, h4⟩ := h2
  simp only [Option.bind_eq_some_iff] at h4
  obtain ⟨rs', h5, h6⟩ := h4
  refine ⟨n + 1, ?_⟩
  unfold pureCall Cx.ev
  simp only [evF, hx, hf]
  have : evFn C.E C.gen C.H (evF C.E C.gen C.H C.ext n) n 0 false f fn (xs.map atOf) noOb noRt 1 = some (rs', obH 0 s.ob, s.rt, s.nx) := by
    unfold evFn
    simp only [hb, List.length_map]
    rw [if_pos hn]
    have h1' : evCode ⟨C.E, C.gen f, evF C.E C.gen C.H C.ext n, 0, fn.ntmps, 1, List.range 0, C.H f⟩ n c ⟨initTm (xs.map atOf) 0, noOb, noRt, 1⟩ = some (o, s) := h1
    rw [h1']
    cases o with
    | exit i => cases h3
    | fall => simp [h5]
    | ret => simp [h5]
  rw [this]
  simp only [obH_zero]
  exact h6
/-- .. where own variables were given, and are handed out. -/
def RetQM (C : Cx) (m nx : Nat) (rv : List ResultVar) (rs : List AT) (ob' : ObF) (rt' : RtF) (nx' : Nat) : Post := fun o s => outRet o = true ∧ leave m nx s (rv.map (resAT1 C.E s)) = some (rs, ob', rt', nx')
theorem retM_of {m nx : Nat} {vis : List Nat} {f : FuncId} {fn : Func} {c : Code} {as rs : List AT} {ob ob' : ObF} {rt rt' : RtF} {nx' : Nat} (hf : C.E.P.funcs[f]? = some fn) (hx : C.ext f = none) (hb : fn.body = some c) (hn : as.length ≤ fn.ntmps ∧ fn.ntmps ≤ 4095) (hv : List.range m = vis)
    (h : Go C ⟨m, fn.ntmps, nx, vis, f⟩ c [] ⟨initTm as 0, ob, rt, nx⟩ (RetQM C m nx fn.results.toList rs ob' rt' nx')) : RetM C m f as ob rt nx rs ob' rt' nx' := by
  subst hv
  obtain ⟨n, p, h1, h2⟩ := h
  rw [fin_nil] at h2
  obtain ⟨o, s⟩ := p
  obtain ⟨h3, h4⟩ := h2
  refine ⟨n + 1, ?_⟩
  unfold Cx.ev
  simp only [evF, hx, hf]
  unfold evFn
  simp only [hb]
  rw [if_pos hn]
  have h1' : evCode ⟨C.E, C.gen f, evF C.E C.gen C.H C.ext n, m, fn.ntmps, nx, List.range m, C.H f⟩ n c ⟨initTm as 0, ob, rt, nx⟩ = some (o, s) := h1
  rw [h1']
  cases o with
  | exit i => cases h3
  | fall =>
    simp only [↓reduceIte]
    exact h4
  | ret =>
    simp only [↓reduceIte]
    exact h4
theorem ret_ext {f : FuncId} {h : List Arg → Option (List Arg)} {xs rs : List Arg} (hx : C.ext f = some h) (hr : h xs = some rs) (h1 : argsOf noOb (xs.map atOf) = some xs) (h2 : argsOf noOb (rs.map atOf) = some rs) : Ret C f xs rs := by
  refine ⟨1, ?_⟩
  unfold pureCall Cx.ev
  simp only [evF, hx, h1, hr, Option.map_some]
  exact h2
end
end Go.Proofs.Ytcmaohhcbiienaa.X
