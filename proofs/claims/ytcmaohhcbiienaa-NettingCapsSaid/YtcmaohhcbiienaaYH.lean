import Derived.Test.YtcmaohhcbiienaaYG
/-! YH: steps. What a text comes to, from a state on, with what is still to do behind it. -/
set_option linter.unusedVariables false
namespace Go.Proofs.Ytcmaohhcbiienaa.X
open Go.RowKit

/-- What is still to do. -/
inductive It where
  | code (c : Code)
  | blk (id : Nat)
  | lp (b : Code)

/-- What is the same in all calls: the program, the hints, what is known otherwise. -/
structure Cx where
  E : Env
  gen : FuncId → Nat → Bool
  H : FuncId → Hint
  ext : FuncId → Option (List Arg → Option (List Arg))
/-- What is the same in a call. -/
structure Fr where
  base : Nat
  nt : Nat
  nx0 : Nat
  vis : List Nat
  f : FuncId
def Cx.ev (C : Cx) (n : Nat) : CallF := evF C.E C.gen C.H C.ext n
def Cx.fx (C : Cx) (F : Fr) (n : Nat) : Fx := ⟨C.E, C.gen F.f, C.ev n, F.base, F.nt, F.nx0, F.vis, C.H F.f⟩

def fin (X : Fx) (n : Nat) : List It → Out → St → Option (Out × St)
  | [], o, s => some (o, s)
  | .code c :: k, .fall, s => (atJoin X c s).bind fun s => (evCode X n c s).bind fun p => fin X n k p.1 p.2
  | .code _ :: k, o, s => fin X n k o s
  | .blk id :: k, .exit i, s => if i = id then fin X n k .fall s else fin X n k (.exit i) s
  | .blk _ :: k, o, s => fin X n k o s
  | .lp b :: k, .fall, s => (evCode X n (.loop b) s).bind fun p => fin X n k p.1 p.2
  | .lp _ :: k, o, s => fin X n k o s

abbrev Post := Out → St → Prop
def Fin (C : Cx) (F : Fr) (k : List It) (o : Out) (s : St) (Q : Post) : Prop := ∃ n r, fin (C.fx F n) n k o s = some r ∧ Q r.1 r.2
def Go (C : Cx) (F : Fr) (c : Code) (k : List It) (s : St) (Q : Post) : Prop := ∃ n p, evCode (C.fx F n) n c s = some p ∧ Fin C F k p.1 p.2 Q

section
variable {C : Cx} {F : Fr} {k : List It} {s : St} {Q : Post} {a b : Code} {id : Nat} {draw : Bool} {ops : Array Oper} {l : List Oper} {us : List Upd}

theorem code_le {n m : Nat} (h : n ≤ m) {c : Code} {s : St} {p : Out × St} (k : evCode (C.fx F n) n c s = some p) : evCode (C.fx F m) m c s = some p :=
  evCode_mono (evF_mono h) n m h c s p k
theorem fin_le {n m : Nat} (h : n ≤ m) : ∀ {k : List It} {o : Out} {s : St} {r : Out × St}, fin (C.fx F n) n k o s = some r → fin (C.fx F m) m k o s = some r
  | [], o, s, r, q => q
  | .code c :: k, .fall, s, r, q => by
    simp only [fin, Option.bind_eq_some_iff] at q ⊢
    obtain ⟨s1, h1, p, h2, h3⟩ := q
    exact ⟨s1, h1, p, code_le h h2, fin_le h h3⟩
  | .code c :: k, .exit i, s, r, q => fin_le (k := k) h q
  | .code c :: k, .ret, s, r, q => fin_le (k := k) h q
  | .blk id :: k, .exit i, s, r, q => by
    simp only [fin] at q ⊢
    split at q
    · rename_i hi
      rw [if_pos hi]
      exact fin_le h q
    · rename_i hi
      rw [if_neg hi]
      exact fin_le h q
  | .blk id :: k, .fall, s, r, q => fin_le (k := k) h q
  | .blk id :: k, .ret, s, r, q => fin_le (k := k) h q
  | .lp b :: k, .fall, s, r, q => by
    simp only [fin, Option.bind_eq_some_iff] at q ⊢
    obtain ⟨p, h2, h3⟩ := q
    exact ⟨p, code_le h h2, fin_le h h3⟩
  | .lp b :: k, .exit i, s, r, q => fin_le (k := k) h q
  | .lp b :: k, .ret, s, r, q => fin_le (k := k) h q

/-- Where ways meet. -/
def AtJ (C : Cx) (F : Fr) (c : Code) (k : List It) (s : Option St) (Q : Post) : Prop := ∃ s', s = some s' ∧ Go C F c k s' Q
theorem atJ_some : AtJ C F a k (some s) Q = Go C F a k s Q := propext ⟨fun ⟨s', h, q⟩ => by cases h; exact q, fun q => ⟨s, rfl, q⟩⟩
theorem AtJ.eq {x y : Option St} (h : AtJ C F a k x Q) (e : y = x) : AtJ C F a k y Q := e ▸ h
/-- A loop's head. -/
def AtL (C : Cx) (F : Fr) (b : Code) (k : List It) (s : Option St) (Q : Post) : Prop := ∃ s', s = some s' ∧ Go C F b (.lp b :: k) s' Q
theorem atL_some : AtL C F b k (some s) Q = Go C F b (.lp b :: k) s Q := propext ⟨fun ⟨s', h, q⟩ => by cases h; exact q, fun q => ⟨s, rfl, q⟩⟩
theorem AtL.eq {x y : Option St} (h : AtL C F a k x Q) (e : y = x) : AtL C F a k y Q := e ▸ h
@[congr] theorem atJ_congr {x y : Option St} (h : x = y) : AtJ C F a k x Q = AtJ C F a k y Q := by rw [h]
@[congr] theorem atL_congr {x y : Option St} (h : x = y) : AtL C F a k x Q = AtL C F a k y Q := by rw [h]

def joinOf (H : Hint) (base nx0 : Nat) (vis : List Nat) (c : Code) (s : St) : Option St := match joinKey c with
  | some j => match H.join j with
    | some l => head base nx0 vis l s
    | none => some s
  | none => some s
theorem fin_code : Fin C F (.code a :: k) .fall s Q = AtJ C F a k (joinOf (C.H F.f) F.base F.nx0 F.vis a s) Q := by
  refine propext ⟨fun ⟨n, r, h, q⟩ => ?_, fun ⟨s', h, n, p, h1, m, r, h2, h3⟩ => ?_⟩
  · simp only [fin, Option.bind_eq_some_iff] at h
    obtain ⟨s1, h1, p, h2, h3⟩ := h
    exact ⟨s1, h1, n, p, h2, n, r, h3, q⟩
  · refine ⟨max n m, r, ?_, h3⟩
    simp only [fin, Option.bind_eq_some_iff]
    exact ⟨s', h, p, code_le (Nat.le_max_left ..) h1, fin_le (Nat.le_max_right ..) h2⟩
theorem fin_code1 {i : Nat} : Fin C F (.code a :: k) (.exit i) s Q = Fin C F k (.exit i) s Q := rfl
theorem fin_code2 : Fin C F (.code a :: k) .ret s Q = Fin C F k .ret s Q := rfl
theorem fin_blk {i : Nat} : Fin C F (.blk id :: k) (.exit i) s Q = if i = id then Fin C F k .fall s Q else Fin C F k (.exit i) s Q := by
  unfold Fin
  simp only [fin]
  split <;> rfl
theorem fin_blk1 : Fin C F (.blk id :: k) .fall s Q = Fin C F k .fall s Q := rfl
theorem fin_blk2 : Fin C F (.blk id :: k) .ret s Q = Fin C F k .ret s Q := rfl
theorem fin_lp1 {i : Nat} : Fin C F (.lp a :: k) (.exit i) s Q = Fin C F k (.exit i) s Q := rfl
theorem fin_lp2 : Fin C F (.lp a :: k) .ret s Q = Fin C F k .ret s Q := rfl
theorem fin_lp : Fin C F (.lp b :: k) .fall s Q = Go C F (.loop b) k s Q := by
  refine propext ⟨fun ⟨n, r, h, q⟩ => ?_, fun ⟨n, p, h1, m, r, h2, h3⟩ => ?_⟩
  · simp only [fin, Option.bind_eq_some_iff] at h
    obtain ⟨p, h2, h3⟩ := h
    exact ⟨n, p, h2, n, r, h3, q⟩
  · refine ⟨max n m, r, ?_, h3⟩
    simp only [fin, Option.bind_eq_some_iff]
    exact ⟨p, code_le (Nat.le_max_left ..) h1, fin_le (Nat.le_max_right ..) h2⟩
theorem fin_nil {o : Out} : Fin C F [] o s Q = Q o s := propext ⟨fun ⟨n, r, h, q⟩ => by cases h; exact q, fun q => ⟨0, (o, s), rfl, q⟩⟩

theorem go_one {c : Code} {o : Out} {s' : St} (h : ∀ n p, evCode (C.fx F (n + 1)) (n + 1) c s = some p ↔ p = (o, s')) : Go C F c k s Q = Fin C F k o s' Q := by
  refine propext ⟨fun ⟨n, p, h1, h2⟩ => ?_, fun q => ⟨1, (o, s'), (h 0 _).2 rfl, q⟩⟩
  cases n with
  | zero => cases h1
  | succ n => obtain rfl := (h n p).1 h1; exact h2
theorem go_skip : Go C F .skip k s Q = Fin C F k .fall s Q := go_one fun n p => ⟨fun h => by cases h; rfl, fun h => by subst h; rfl⟩
theorem go_label {i : Nat} : Go C F (.label i) k s Q = Fin C F k .fall s Q := go_one fun n p => ⟨fun h => by cases h; rfl, fun h => by subst h; rfl⟩
theorem go_exit : Go C F (.exit id) k s Q = Fin C F k (.exit id) s Q := go_one fun n p => ⟨fun h => by cases h; rfl, fun h => by subst h; rfl⟩
theorem go_ret : Go C F .ret k s Q = Fin C F k .ret s Q := go_one fun n p => ⟨fun h => by cases h; rfl, fun h => by subst h; rfl⟩

theorem seq_ev {n : Nat} {p : Out × St} : evCode (C.fx F (n + 1)) (n + 1) (.seq a b) s = some p ↔ ∃ q, evCode (C.fx F (n + 1)) (n + 1) a s = some q ∧
    (match q with
     | (.fall, s') => (joinOf (C.H F.f) F.base F.nx0 F.vis b s').bind (evCode (C.fx F (n + 1)) (n + 1) b)
     | r => some r) = some p := by
  show evCodeA _ (evCode (C.fx F (n + 1)) n) (.seq a b) s = some p ↔ _
  simp only [evCodeA]
  show (match evCode (C.fx F (n + 1)) (n + 1) a s with
    | some (.fall, s') => match joinOf (C.H F.f) F.base F.nx0 F.vis b s' with
      | some s' => evCode (C.fx F (n + 1)) (n + 1) b s'
      | none => none
    | r => r) = some p ↔ _
  cases evCode (C.fx F (n + 1)) (n + 1) a s with
  | none => simp
  | some q =>
    obtain ⟨o, s'⟩ := q
    cases o with
    | fall =>
      simp only [Option.some.injEq, exists_eq_left']
      cases joinOf (C.H F.f) F.base F.nx0 F.vis b s' <;> simp
    | exit i => simp
    | ret => simp
theorem go_seq : Go C F (.seq a b) k s Q = Go C F a (.code b :: k) s Q := by
  refine propext ⟨fun ⟨n, p, h1, h2⟩ => ?_, fun ⟨n, q, h1, h2⟩ => ?_⟩
  · cases n with
    | zero => cases h1
    | succ n =>
      obtain ⟨q, hq, hp⟩ := seq_ev.1 h1
      refine ⟨n + 1, q, hq, ?_⟩
      obtain ⟨o, s'⟩ := q
      cases o with
      | fall =>
        simp only [Option.bind_eq_some_iff] at hp
        obtain ⟨s1, hj, hb⟩ := hp
        rw [fin_code]
        exact ⟨s1, hj, n + 1, p, hb, h2⟩
      | exit i => cases hp; exact h2
      | ret => cases hp; exact h2
  · obtain ⟨o, s'⟩ := q
    cases o with
    | fall =>
      rw [fin_code] at h2
      obtain ⟨s1, hj, m, p, hb, h3⟩ := h2
      refine ⟨max n m + 1, p, seq_ev.2 ⟨(.fall, s'), code_le (by omega) h1, ?_⟩, h3⟩
      simp only [Option.bind_eq_some_iff]
      exact ⟨s1, hj, code_le (by omega) hb⟩
    | exit i => exact ⟨n + 1, (.exit i, s'), seq_ev.2 ⟨_, code_le (by omega) h1, rfl⟩, h2⟩
    | ret => exact ⟨n + 1, (.ret, s'), seq_ev.2 ⟨_, code_le (by omega) h1, rfl⟩, h2⟩

theorem block_ev {n : Nat} {p : Out × St} : evCode (C.fx F (n + 1)) (n + 1) (.block id b) s = some p ↔ ∃ q, evCode (C.fx F (n + 1)) (n + 1) b s = some q ∧
    (match q with
     | (.exit i, s') => if i = id then (.fall, s') else (.exit i, s')
     | r => r) = p := by
  show evCodeA _ (evCode (C.fx F (n + 1)) n) (.block id b) s = some p ↔ _
  simp only [evCodeA]
  show (match evCode (C.fx F (n + 1)) (n + 1) b s with
    | some (.exit i, s') => if i = id then some (.fall, s') else some (.exit i, s')
    | r => r) = some p ↔ _
  cases evCode (C.fx F (n + 1)) (n + 1) b s with
  | none => simp
  | some q =>
    obtain ⟨o, s'⟩ := q
    cases o with
    | fall => simp
    | exit i =>
      simp only [Option.some.injEq, exists_eq_left']
      split <;> simp
    | ret => simp
theorem go_block : Go C F (.block id b) k s Q = Go C F b (.blk id :: k) s Q := by
  have key : ∀ q : Out × St, Fin C F (.blk id :: k) q.1 q.2 Q ↔ Fin C F k (match q with
     | (.exit i, s') => if i = id then ((.fall, s') : Out × St) else (.exit i, s')
     | r => r).1 (match q with
     | (.exit i, s') => if i = id then ((.fall, s') : Out × St) else (.exit i, s')
     | r => r).2 Q := by
    rintro ⟨o, s'⟩
    cases o with
    | fall => exact Iff.rfl
    | exit i =>
      simp only [fin_blk]
      split <;> exact Iff.rfl
    | ret => exact Iff.rfl
  refine propext ⟨fun ⟨n, p, h1, h2⟩ => ?_, fun ⟨n, q, h1, h2⟩ => ?_⟩
  · cases n with
    | zero => cases h1
    | succ n =>
      obtain ⟨q, hq, rfl⟩ := block_ev.1 h1
      exact ⟨n + 1, q, hq, (key q).2 h2⟩
  · exact ⟨n + 1, _, block_ev.2 ⟨q, code_le (by omega) h1, rfl⟩, (key q).1 h2⟩

theorem loop_ev {n : Nat} {p : Out × St} : evCode (C.fx F (n + 1)) (n + 1) (.loop b) s = some p ↔ ∃ s1, head F.base F.nx0 F.vis ((C.H F.f).keep (firstR b)) s = some s1 ∧ ∃ q, evCode (C.fx F (n + 1)) (n + 1) b s1 = some q ∧
    (match q with
     | (.fall, s') => evCode (C.fx F (n + 1)) n (.loop b) s'
     | r => some r) = some p := by
  show evCodeA _ (evCode (C.fx F (n + 1)) n) (.loop b) s = some p ↔ _
  simp only [evCodeA]
  show (match head F.base F.nx0 F.vis ((C.H F.f).keep (firstR b)) s with
    | some s => match evCode (C.fx F (n + 1)) (n + 1) b s with
      | some (.fall, s') => evCode (C.fx F (n + 1)) n (.loop b) s'
      | r => r
    | none => none) = some p ↔ _
  cases head F.base F.nx0 F.vis ((C.H F.f).keep (firstR b)) s with
  | none => simp
  | some s1 =>
    simp only [Option.some.injEq, exists_eq_left']
    cases evCode (C.fx F (n + 1)) (n + 1) b s1 with
    | none => simp
    | some q =>
      obtain ⟨o, s'⟩ := q
      cases o <;> simp
theorem go_loop : Go C F (.loop b) k s Q = AtL C F b k (head F.base F.nx0 F.vis ((C.H F.f).keep (firstR b)) s) Q := by
  refine propext ⟨fun ⟨n, p, h1, h2⟩ => ?_, fun ⟨s1, hs, n, q, h1, h2⟩ => ?_⟩
  · cases n with
    | zero => cases h1
    | succ n =>
      obtain ⟨s1, hs, q, hq, hp⟩ := loop_ev.1 h1
      refine ⟨s1, hs, n + 1, q, hq, ?_⟩
      obtain ⟨o, s'⟩ := q
      cases o with
      | fall =>
        rw [fin_lp]
        exact ⟨n + 1, p, evCode_mono (fun _ _ _ _ _ _ _ _ h => h) n (n + 1) (by omega) _ _ _ hp, h2⟩
      | exit i => cases hp; exact h2
      | ret => cases hp; exact h2
  · obtain ⟨o, s'⟩ := q
    cases o with
    | fall =>
      rw [fin_lp] at h2
      obtain ⟨m, p, hb, h3⟩ := h2
      refine ⟨max n m + 1, p, loop_ev.2 ⟨s1, hs, (.fall, s'), code_le (by omega) h1, ?_⟩, h3⟩
      exact evCode_mono (evF_mono (by omega)) m (max n m) (by omega) _ _ _ hb
    | exit i => exact ⟨n + 1, (.exit i, s'), loop_ev.2 ⟨s1, hs, _, code_le (by omega) h1, rfl⟩, h2⟩
    | ret => exact ⟨n + 1, (.ret, s'), loop_ev.2 ⟨s1, hs, _, code_le (by omega) h1, rfl⟩, h2⟩

theorem go_cond {c : Operand} : Go C F (.cond c a b) k s Q = (match evOpd C.E s.tm c with
  | .one (.p _ (.sc (.bool t))) => if t = true then Go C F a k s Q else Go C F b k s Q
  | _ => False) := by
  have ev : ∀ n p, evCode (C.fx F (n + 1)) (n + 1) (.cond c a b) s = some p ↔ (match evOpd C.E s.tm c with
    | .one (.p _ (.sc (.bool t))) => if t then evCode (C.fx F (n + 1)) (n + 1) a s else evCode (C.fx F (n + 1)) (n + 1) b s
    | _ => none) = some p := fun n p => Iff.rfl
  split
  · rename_i w t ht
    simp only [ht] at ev
    cases t with
    | true =>
      simp only [if_true] at ev ⊢
      refine propext ⟨fun ⟨n, p, h1, h2⟩ => ?_, fun ⟨n, p, h1, h2⟩ => ?_⟩
      · cases n with
        | zero => cases h1
        | succ n => exact ⟨n + 1, p, (ev n p).1 h1, h2⟩
      · exact ⟨n + 1, p, (ev n p).2 (code_le (by omega) h1), h2⟩
    | false =>
      simp only [Bool.false_eq_true, if_false] at ev ⊢
      refine propext ⟨fun ⟨n, p, h1, h2⟩ => ?_, fun ⟨n, p, h1, h2⟩ => ?_⟩
      · cases n with
        | zero => cases h1
        | succ n => exact ⟨n + 1, p, (ev n p).1 h1, h2⟩
      · exact ⟨n + 1, p, (ev n p).2 (code_le (by omega) h1), h2⟩
  · rename_i hne
    refine propext ⟨fun ⟨n, p, h1, h2⟩ => ?_, fun h => h.elim⟩
    cases n with
    | zero => cases h1
    | succ n =>
      have := (ev n p).1 h1
      split at this
      · exact hne _ _ (by assumption)
      · cases this
end
end Go.Proofs.Ytcmaohhcbiienaa.X
