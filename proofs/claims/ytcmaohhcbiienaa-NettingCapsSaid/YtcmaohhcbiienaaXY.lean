import Derived.Test.YtcmaohhcbiienaaXW
/-! XY: two rows without order may be swapped; a drawn region. -/
set_option linter.unusedVariables false
namespace Go.Proofs.Ytcmaohhcbiienaa.X
open Go.RowKit

section
variable {E : Env} {gen : FuncId → Bool} {call : CallF} {base nt : Nat} {ops : Array Oper}

theorem evOpd_apU {s : St} {dst : Option Nat} {u : Upd} {x : Operand} (h : ∀ d, dst = some d → x ≠ .tmp d) : evOpd E (apU dst u s).tm x = evOpd E s.tm x := by
  cases x with
  | tmp t =>
    cases dst with
    | none => rfl
    | some d => exact upd_ne _ _ fun e => h d rfl (by rw [e])
  | _ => rfl
theorem looks_opd {o : Oper} {d : Nat} (h : d ∉ o.looksAt ops) {x : Operand} (hx : x ∈ o.op.operands) : x ≠ .tmp d := fun e => by
  subst e
  exact h (List.mem_append_left _ (List.mem_filterMap.2 ⟨.tmp d, by simpa using hx, rfl⟩))
theorem evGuard_apU {s : St} {dst : Option Nat} {u : Upd} {o : Oper} (h : ∀ d, dst = some d → d ∉ o.looksAt ops) : evGuard ops (apU dst u s).tm o.guard = evGuard ops s.tm o.guard := by
  cases hg : o.guard with
  | none => rfl
  | some g =>
    obtain ⟨j, want⟩ := g
    unfold evGuard
    simp only
    cases hj : (ops[j]?).bind (·.dst) with
    | none => simp only
    | some t =>
      have : (apU dst u s).tm t = s.tm t := by
        cases dst with
        | none => rfl
        | some d => exact upd_ne _ _ fun e => h d rfl (by subst e; simp [Oper.looksAt, hg, hj])
      simp only [this]

theorem quiet_ob {u : Upd} (h : u.quiet = true) : u.ow = [] ∧ u.rd = [] ∧ u.nl = false ∧ u.all = none := by
  simp only [Upd.quiet, Bool.and_eq_true, Bool.not_eq_true', List.isEmpty_iff, Option.isNone_iff_eq_none] at h
  exact ⟨h.1.1.1, h.1.1.2, h.1.2, h.2⟩
theorem foldl_ob {l : List (Nat × Obj)} {f : ObF} {o : Nat} (h : ∀ p ∈ l, p.1 ≠ o) : (l.foldl (fun f p => upd f p.1 (some p.2)) f) o = f o := by
  induction l generalizing f with
  | nil => rfl
  | cons p l ih =>
    rw [List.foldl_cons, ih fun q hq => h q (List.mem_cons_of_mem _ hq)]
    exact upd_ne _ _ (Ne.symm (h p (List.mem_cons_self ..)))
theorem upd_comm {α : Type} (f : Nat → α) {a b : Nat} (x y : α) (h : a ≠ b) : upd (upd f a x) b y = upd (upd f b y) a x := by
  funext n
  unfold upd
  by_cases h1 : n = a <;> by_cases h2 : n = b <;> simp_all
theorem foldl_one {l : List (Nat × Obj)} {f : ObF} {a : Nat} {x : Option Obj} (h : ∀ p ∈ l, p.1 ≠ a) :
    upd (l.foldl (fun f p => upd f p.1 (some p.2)) f) a x = l.foldl (fun f p => upd f p.1 (some p.2)) (upd f a x) := by
  induction l generalizing f with
  | nil => rfl
  | cons p l ih =>
    rw [List.foldl_cons, List.foldl_cons, ih fun q hq => h q (List.mem_cons_of_mem _ hq), upd_comm _ _ _ (h p (List.mem_cons_self ..))]
theorem foldl_comm {l m : List (Nat × Obj)} {f : ObF} (h : ∀ p ∈ l, ∀ q ∈ m, q.1 ≠ p.1) :
    m.foldl (fun f p => upd f p.1 (some p.2)) (l.foldl (fun f p => upd f p.1 (some p.2)) f) = l.foldl (fun f p => upd f p.1 (some p.2)) (m.foldl (fun f p => upd f p.1 (some p.2)) f) := by
  induction l generalizing f with
  | nil => rfl
  | cons p l ih =>
    rw [List.foldl_cons, List.foldl_cons, ih fun q hq => h q (List.mem_cons_of_mem _ hq), ← foldl_one (h p (List.mem_cons_self ..))]

/-- What of the state another deed leaves as it is. -/
theorem like_of_apart {u v : Upd} {s : St} {dst : Option Nat} (h : u.apart v = true) : Like v (apU dst u s).ob s.ob (apU dst u s).rt s.rt (apU dst u s).nx s.nx := by
  unfold Upd.apart at h
  split at h
  · rename_i hall
    rw [Bool.or_eq_true] at h
    have key : u.quiet = true → Like v (apU dst u s).ob s.ob (apU dst u s).rt s.rt (apU dst u s).nx s.nx := fun hq => by
      obtain ⟨h1, h2, h3, h4⟩ := quiet_ob hq
      simp only [apU, h1, h3, h4, List.foldl_nil]
      exact ⟨fun _ _ => rfl, fun _ => ⟨by split <;> first | rfl | contradiction, rfl⟩, fun _ => ⟨rfl, by split <;> first | rfl | contradiction, rfl⟩⟩
    rcases h with h | h
    · exact key h
    · obtain ⟨h1, h2, h3, h4⟩ := quiet_ob h
      exact ⟨fun o ho => (by rw [h2] at ho; cases ho), fun hn => (by rw [h3] at hn; cases hn), fun hn => (by rw [h4] at hn; cases hn)⟩
  · rename_i hall
    simp only [Bool.or_eq_true, not_or, Bool.not_eq_true, Option.isSome_eq_false_iff, Option.isNone_iff_eq_none] at hall
    obtain ⟨hu, hv⟩ := hall
    simp only [Bool.and_eq_true, List.all_eq_true, Bool.not_eq_true', List.contains_eq_mem, decide_eq_false_iff_not, Bool.and_eq_false_iff] at h
    obtain ⟨⟨h1, h2⟩, h3⟩ := h
    refine ⟨fun o ho => ?_, fun hn => ?_, fun hn => by rw [hv] at hn; cases hn⟩
    · simp only [apU, hu]
      exact foldl_ob fun p hp e => (h1 p hp).1 (e ▸ ho)
    · have hun : u.nl = false := h3.resolve_right (by simp [hn])
      simp only [apU, hu, hun]
      exact ⟨by split <;> first | rfl | contradiction, rfl⟩
theorem apart_symm {u v : Upd} (h : u.apart v = true) : v.apart u = true := by
  unfold Upd.apart at h ⊢
  by_cases hc : (u.all.isSome || v.all.isSome) = true
  · rw [if_pos hc] at h
    rw [if_pos (by rw [Bool.or_comm]; exact hc), Bool.or_comm]
    exact h
  · rw [if_neg hc] at h
    rw [if_neg (by rw [Bool.or_comm]; exact hc)]
    simp only [Bool.and_eq_true, List.all_eq_true, Bool.not_eq_true', List.contains_eq_mem, decide_eq_false_iff_not, Bool.and_eq_false_iff, List.any_eq_false, beq_iff_eq] at h ⊢
    obtain ⟨⟨h1, h2⟩, h3⟩ := h
    exact ⟨⟨fun p hp => ⟨h2 p hp, fun q hq e => (h1 q hq).2 p hp e.symm⟩, fun p hp => (h1 p hp).1⟩, h3.symm⟩

theorem Like.symm {u : Upd} {ob ob' : ObF} {rt rt' : RtF} {nx nx' : Nat} (h : Like u ob ob' rt rt' nx nx') : Like u ob' ob rt' rt nx' nx :=
  ⟨fun o ho => (h.1 o ho).symm, fun hn => ⟨(h.2.1 hn).1.symm, (h.2.1 hn).2.symm⟩, fun hn => ⟨(h.2.2 hn).1.symm, (h.2.2 hn).2.1.symm, (h.2.2 hn).2.2.symm⟩⟩

theorem evRow_back {s : St} {x y : Oper} {u v : Upd} (hxy : ∀ d, x.dst = some d → d ∉ y.looksAt ops) (hu : u.apart v = true) :
    evRow E gen call base nt ops (apU x.dst u s) y = some v ↔ evRow E gen call base nt ops s y = some v := by
  unfold evRow
  have ho : ∀ z ∈ y.op.operands, evOpd E (apU x.dst u s).tm z = evOpd E s.tm z := fun z hz => evOpd_apU fun d hd => looks_opd (hxy d hd) hz
  have hl := like_of_apart (s := s) (dst := x.dst) hu
  rw [evGuard_apU hxy, evOp_congr ho]
  split
  · split
    · exact ⟨fun h => evOp_local h hl, fun h => evOp_local h hl.symm⟩
    · exact Iff.rfl
    · exact Iff.rfl
  · exact Iff.rfl

theorem apU_comm {s : St} {x y : Option Nat} {u v : Upd} (hd : ∀ d, x = some d → y ≠ some d) (hu : u.apart v = true) : apU y v (apU x u s) = apU x u (apU y v s) := by
  have tmc : (apU y v (apU x u s)).tm = (apU x u (apU y v s)).tm := by
    cases x with
    | none => cases y <;> rfl
    | some d =>
      cases y with
      | none => rfl
      | some e => exact upd_comm _ _ _ fun h => hd d rfl (by rw [h])
  have rest : (apU y v (apU x u s)).ob = (apU x u (apU y v s)).ob ∧ (apU y v (apU x u s)).rt = (apU x u (apU y v s)).rt ∧ (apU y v (apU x u s)).nx = (apU x u (apU y v s)).nx := by
    have key : ∀ {s : St} {x y : Option Nat} {u v : Upd}, u.quiet = true → (apU y v (apU x u s)).ob = (apU x u (apU y v s)).ob ∧ (apU y v (apU x u s)).rt = (apU x u (apU y v s)).rt ∧ (apU y v (apU x u s)).nx = (apU x u (apU y v s)).nx := by
      intro s x y u v hq
      obtain ⟨h1, h2, h3, h4⟩ := quiet_ob hq
      cases hrw : u.rw <;> simp only [apU, h1, h4, List.foldl_nil, h3, hrw] <;> exact ⟨trivial, rfl, rfl⟩
    unfold Upd.apart at hu
    split at hu
    · rw [Bool.or_eq_true] at hu
      rcases hu with hq | hq
      · exact key hq
      · obtain ⟨a, b, c⟩ := key (s := s) (x := y) (y := x) (u := v) (v := u) hq
        exact ⟨a.symm, b.symm, c.symm⟩
    · rename_i hall
      simp only [Bool.or_eq_true, not_or, Bool.not_eq_true, Option.isSome_eq_false_iff, Option.isNone_iff_eq_none] at hall
      obtain ⟨ha, hb⟩ := hall
      simp only [Bool.and_eq_true, List.all_eq_true, Bool.not_eq_true', List.contains_eq_mem, decide_eq_false_iff_not, Bool.and_eq_false_iff, List.any_eq_false, beq_iff_eq] at hu
      obtain ⟨⟨h1, h2⟩, h3⟩ := hu
      refine ⟨?_, ?_, ?_⟩
      · simp only [apU, ha, hb]
        exact foldl_comm fun p hp q hq => (h1 p hp).2 q hq
      · simp only [apU, ha, hb]
        rcases h3 with h3 | h3 <;> simp only [h3]
        · cases u.rw <;> cases v.rw <;> rfl
        · cases u.rw <;> cases v.rw <;> rfl
      · simp only [apU, ha, hb]
        rcases h3 with h3 | h3 <;> simp [h3]
  cases hA : apU y v (apU x u s)
  cases hB : apU x u (apU y v s)
  rw [hA, hB] at tmc rest
  simp only at tmc rest
  rw [tmc, rest.1, rest.2.1, rest.2.2]

theorem evRows_cons {o : Oper} {r : List Oper} {s s' : St} {us : List Upd} : evRows E gen call base nt ops (o :: r) s = some (s', us) ↔
    ∃ u us', evRow E gen call base nt ops s o = some u ∧ evRows E gen call base nt ops r (apU o.dst u s) = some (s', us') ∧ us = u :: us' := by
  simp only [evRows]
  constructor
  · intro h
    split at h
    · rename_i u hu
      split at h
      · rename_i s2 us2 hr
        cases h
        exact ⟨u, us2, hu, hr, rfl⟩
      · cases h
    · cases h
  · rintro ⟨u, us', h1, h2, rfl⟩
    simp only [h1, h2]

/-- A row that has no order with what stands in front of it comes first. -/
theorem rows_front {x : Oper} {u : Upd} {r2 : List Oper} {us2 : List Upd} {s' : St} : ∀ {r1 : List Oper} {us1 : List Upd} {s : St}, r1.length = us1.length →
    evRows E gen call base nt ops (r1 ++ x :: r2) s = some (s', us1 ++ u :: us2) → (∀ y ∈ r1, y.apart ops x = true) → (∀ v ∈ us1, v.apart u = true) →
    evRow E gen call base nt ops s x = some u ∧ evRows E gen call base nt ops (r1 ++ r2) (apU x.dst u s) = some (s', us1 ++ us2)
  | [], [], s, _, h, _, _ => by
    obtain ⟨u', us', h1, h2, h3⟩ := evRows_cons.1 h
    cases h3
    exact ⟨h1, h2⟩
  | y :: r1, v :: us1, s, hl, h, hy, hv => by
    obtain ⟨v', us', h1, h2, h3⟩ := evRows_cons.1 h
    cases h3
    obtain ⟨h4, h5⟩ := rows_front (by simpa using hl) h2 (fun z hz => hy z (List.mem_cons_of_mem _ hz)) fun z hz => hv z (List.mem_cons_of_mem _ hz)
    obtain ⟨a1, a2, a3⟩ := Oper.apart_spec (hy y (List.mem_cons_self ..))
    have hvu := hv v (List.mem_cons_self ..)
    have h6 := (evRow_back a1 hvu).1 h4
    have h7 := (evRow_back (E := E) (gen := gen) (call := call) (base := base) (nt := nt) (s := s) a3 (apart_symm hvu)).2 h1
    refine ⟨h6, evRows_cons.2 ⟨v, us1 ++ us2, h7, ?_, rfl⟩⟩
    rw [← apU_comm a2 hvu]
    exact h5
end
end Go.Proofs.Ytcmaohhcbiienaa.X
