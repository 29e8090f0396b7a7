import Derived.Test.YtcmaohhcbiienaaYI
/-! YJ: operation by operation, what it does: by the kind of its operands. -/
set_option linter.unusedVariables false
namespace Go.Proofs.Ytcmaohhcbiienaa.X
open Go.RowKit

section
variable {C : Cx} {F : Fr} {k : List It} {s : St} {Q : Post} {id : Nat} {draw : Bool} {ops : Array Oper} {l : List Oper} {us : List Upd} {d : Option Nat} {t u v : TypeId} {pos : String} {after : Array Edge} {g : Option (Nat × Bool)} {x y z : Operand}

theorem stepO_of {o : Oper} {r : Option Upd} (h : ∀ call, evOp C.E (C.gen F.f) call F.base (evOpd C.E s.tm) s.ob s.rt s.nx o = r) : StepO C F k Q id draw ops l s us o = StepU C F k Q id draw ops l s us o.dst r := by
  refine propext ⟨fun ⟨n, w, h1, h2⟩ => ?_, fun q => ?_⟩
  · rw [h] at h1
    subst h1
    exact h2
  · cases r with
    | none => exact q.elim
    | some w => exact ⟨0, w, h _, q⟩

/-! ### operands -/
theorem opT_tmp {ρ : Operand → AT} {n : Nat} : opT C.E ρ t (.tmp n) = ρ (.tmp n) := rfl
theorem opT_int {ρ : Operand → AT} {kd : IntKind} {n : Int} : opT C.E ρ t (.const (.int kd n)) = .one (.p none (.sc (.int kd n))) ↔ ρ (.const (.int kd n)) = .one (.p none (.sc (.int kd n))) := Iff.rfl
def opV (E : Env) (m : Nat → AT) (t : TypeId) : Operand → AT
  | .tmp n => m n
  | .const (.slice none 0 0) => .one (.p (some 0) (.sl ((E.T t).map (·.esz)).get! []))
  | x => evOpd E m x
theorem opT_eq {E : Env} {m : Nat → AT} : opT E (evOpd E m) t x = opV E m t x := by
  unfold opV
  split
  · rfl
  · rfl
  · rename_i h1 h2
    unfold opT
    rw [if_neg]
    unfold isNilSl
    split
    · exact absurd rfl h2
    · exact Bool.false_ne_true
theorem opV_tmp {E : Env} {m : Nat → AT} {n : Nat} : opV E m t (.tmp n) = m n := rfl
theorem opV_int {E : Env} {m : Nat → AT} {kd : IntKind} {n : Int} : opV E m t (.const (.int kd n)) = .one (.p none (.sc (.int kd n))) := rfl
theorem opV_bool {E : Env} {m : Nat → AT} {b : Bool} : opV E m t (.const (.bool b)) = .one (.p none (.sc (.bool b))) := rfl
theorem opV_str {E : Env} {m : Nat → AT} {b : ByteArray} : opV E m t (.const (.string b)) = .one (.p none (.sc (.string b))) := rfl
theorem opV_fn {E : Env} {m : Nat → AT} {f : FuncId} : opV E m t (.func f) = .one (.p none (.fn f [])) := rfl
theorem opV_nilI {E : Env} {m : Nat → AT} : opV E m t (.const .nilIface) = .one (.p none (.sc .nilIface)) := rfl
theorem opV_nilP {E : Env} {m : Nat → AT} : opV E m t (.const (.pointer none)) = .one (.p none (.sc (.pointer none))) := rfl
def nilS (ti : Option TI) : AT := .one (.p (some 0) (.sl (ti.map (·.esz)).get! []))
theorem opV_nil {E : Env} {m : Nat → AT} : opV E m t (.const (.slice none 0 0)) = nilS (E.T t) := rfl
theorem nilS_eq {ti : TI} : nilS (some ti) = .one (.p (some 0) (.sl ti.esz [])) := rfl
theorem opd_tmp {E : Env} {m : Nat → AT} {n : Nat} : evOpd E m (.tmp n) = m n := rfl
theorem opd_int {E : Env} {m : Nat → AT} {kd : IntKind} {n : Int} : evOpd E m (.const (.int kd n)) = .one (.p none (.sc (.int kd n))) := rfl
theorem opd_bool {E : Env} {m : Nat → AT} {b : Bool} : evOpd E m (.const (.bool b)) = .one (.p none (.sc (.bool b))) := rfl
theorem opd_str {E : Env} {m : Nat → AT} {b : ByteArray} : evOpd E m (.const (.string b)) = .one (.p none (.sc (.string b))) := rfl
theorem opd_fn {E : Env} {m : Nat → AT} {f : FuncId} : evOpd E m (.func f) = .one (.p none (.fn f [])) := rfl
theorem opd_nilI {E : Env} {m : Nat → AT} : evOpd E m (.const .nilIface) = .one (.p none (.sc .nilIface)) := rfl
def globV (E : Env) (g : Nat) : Option (List PV) → AT
  | some cs => .one (.p none (.ref cs))
  | none => .one (.p none (.sc (.pointer (some ⟨g, 0, none⟩))))
theorem opd_glob {E : Env} {m : Nat → AT} {g : Nat} : evOpd E m (.global g) = globV E g (E.G g) := by
  unfold globV
  show (match E.G g with
    | some cs => AT.one (.p none (.ref cs))
    | none => .one (.p none (.sc (.pointer (some ⟨g, 0, none⟩))))) = _
  split <;> rfl
theorem globV_some {E : Env} {g : Nat} {cs : List PV} : globV E g (some cs) = .one (.p none (.ref cs)) := rfl
theorem upd_at {α : Type} {f : Nat → α} {t u : Nat} {x : α} : upd f t x u = if u = t then x else f u := rfl

/-! ### moves, picks -/
theorem so_move : StepO C F k Q id draw ops l s us ⟨d, .move x, t, pos, after, g⟩ = StepU C F k Q id draw ops l s us d (some { val := opV C.E s.tm t x }) :=
  (stepO_of fun _ => rfl).trans (by rw [opT_eq])
theorem so_assign : StepO C F k Q id draw ops l s us ⟨d, .assign x, t, pos, after, g⟩ = StepU C F k Q id draw ops l s us d (some { val := asg (C.gen F.f (d.getD 4095)) (opV C.E s.tm t x) }) :=
  (stepO_of fun _ => rfl).trans (by rw [opT_eq])
theorem asg_f {a : AT} : asg false a = a := rfl
theorem asg_t {w : Option Nat} {p : PV} : asg true (.one (.p w p)) = .one (.p none p) := rfl
def pickU (c : AT) (x y : AT) : Option Upd := match c with
  | .one (.p _ (.sc (.bool t))) => some { val := if t = true then x else y }
  | _ => none
theorem so_pick {c : Operand} : StepO C F k Q id draw ops l s us ⟨d, .pick c x y, t, pos, after, g⟩ = StepU C F k Q id draw ops l s us d (pickU (evOpd C.E s.tm c) (opV C.E s.tm t x) (opV C.E s.tm t y)) :=
  stepO_of fun call => by
    show (match evOpd C.E s.tm c with
      | .one (.p _ (.sc (.bool q))) => some { val := if q then opT C.E (evOpd C.E s.tm) t x else opT C.E (evOpd C.E s.tm) t y }
      | _ => none : Option Upd) = _
    simp only [opT_eq]
    rfl
theorem pickU_b {w : Option Nat} {b : Bool} {x y : AT} : pickU (.one (.p w (.sc (.bool b)))) x y = some { val := if b = true then x else y } := rfl

/-! ### plain values -/
def vU (v : Option Value) : Option Upd := match v with
  | some r => (atOfV r).map fun a => { val := a }
  | none => none
theorem vU_int {kd : IntKind} {n : Int} : vU (some (.int kd n)) = some { val := .one (.p none (.sc (.int kd n))) } := rfl
theorem vU_bool {b : Bool} : vU (some (.bool b)) = some { val := .one (.p none (.sc (.bool b))) } := rfl
theorem vU_str {b : ByteArray} : vU (some (.string b)) = some { val := .one (.p none (.sc (.string b))) } := rfl
def bin2 (P : Program) (op : BinOp) (t : TypeId) (x y : Operand) (a b : AT) : Option Upd := match valOf a, valOf b with
  | some v, some w => vU (tryP P (do eqGuard op t x y v w; binOp op t v w))
  | _, _ => nilB P op t y a
theorem tryP_bind {α β : Type} {P : Program} (m : Sem α) (f : α → Sem β) : tryP P (m >>= f) = (tryP P m).bind fun a => tryP P (f a) := by
  show tryP P (m.bind f) = _
  induction m with
  | pure a => rfl
  | program k ih => exact ih P
  | _ => rfl
theorem gen_val {o : Oper} {m : Sem Value} (h : execOp (fun x => (valOf (evOpd C.E s.tm x)).getD undef) o = (do pure (.value (← m)))) (ha : (o.op.operands.toList.all fun x => (valOf (evOpd C.E s.tm x)).isSome) = true) :
    evGen C.E (evOpd C.E s.tm) o = vU (tryP C.E.P m) := by
  unfold evGen
  rw [if_pos ha, h, tryP_bind]
  cases tryP C.E.P m with
  | none => rfl
  | some v => rfl
theorem gen_none {o : Oper} (ha : (o.op.operands.toList.all fun x => (valOf (evOpd C.E s.tm x)).isSome) = false) : evGen C.E (evOpd C.E s.tm) o = nilGen C.E (evOpd C.E s.tm) o := by
  unfold evGen
  rw [ha]
  rfl
theorem gen_bin {op : BinOp} : evGen C.E (evOpd C.E s.tm) ⟨d, .binOp op u x y v, t, pos, after, g⟩ = bin2 C.E.P op u x y (evOpd C.E s.tm x) (evOpd C.E s.tm y) := by
  unfold bin2
  cases hx : valOf (evOpd C.E s.tm x) with
  | none => exact gen_none (by simp [Op.operands, hx])
  | some a =>
    cases hy : valOf (evOpd C.E s.tm y) with
    | none => exact gen_none (by simp [Op.operands, hx, hy])
    | some b =>
      refine gen_val ?_ (by simp [Op.operands, hx, hy])
      simp only [execOp, hx, hy, Option.getD_some]
def un1 (P : Program) (op : UnOp) (a : AT) : Option Upd := match valOf a with
  | some v => vU (tryP P (Op.unary op v))
  | none => none
theorem gen_un {op : UnOp} : evGen C.E (evOpd C.E s.tm) ⟨d, .unOp op u x, t, pos, after, g⟩ = un1 C.E.P op (evOpd C.E s.tm x) := by
  unfold un1
  cases hx : valOf (evOpd C.E s.tm x) with
  | none => exact gen_none (by simp [Op.operands, hx])
  | some a =>
    refine gen_val ?_ (by simp [Op.operands, hx])
    simp only [execOp, hx, Option.getD_some]
def cv1 (P : Program) (src dst : TypeId) (a : AT) : Option Upd := match valOf a with
  | some v => vU (tryP P (convert src dst v))
  | none => none
theorem gen_cv : evGen C.E (evOpd C.E s.tm) ⟨d, .convert u v x, t, pos, after, g⟩ = cv1 C.E.P u v (evOpd C.E s.tm x) := by
  unfold cv1
  cases hx : valOf (evOpd C.E s.tm x) with
  | none => exact gen_none (by simp [Op.operands, hx])
  | some a =>
    refine gen_val ?_ (by simp [Op.operands, hx])
    simp only [execOp, hx, Option.getD_some]
def bin3 (P : Program) (op : BinOp) (t : TypeId) (x y : Operand) (a b : AT) : Option Upd := match aggB P op t a b with
  | some u => some u
  | none => bin2 P op t x y a b
theorem bin3_1 {P : Program} {op : BinOp} {c : CV} {b : AT} : bin3 P op u x y (.one c) b = bin2 P op u x y (.one c) b := rfl
theorem bin3_a {P : Program} {op : BinOp} {a b : AT} {r : Upd} (h : aggB P op u a b = some r) : bin3 P op u x y a b = some r := by
  unfold bin3
  rw [h]
theorem so_bin {op : BinOp} : StepO C F k Q id draw ops l s us ⟨d, .binOp op u x y v, t, pos, after, g⟩ = StepU C F k Q id draw ops l s us d (bin3 C.E.P op u x y (evOpd C.E s.tm x) (evOpd C.E s.tm y)) :=
  stepO_of fun _ => by
    unfold bin3
    rw [← gen_bin]
    rfl
theorem so_un {op : UnOp} : StepO C F k Q id draw ops l s us ⟨d, .unOp op u x, t, pos, after, g⟩ = StepU C F k Q id draw ops l s us d (un1 C.E.P op (evOpd C.E s.tm x)) :=
  stepO_of fun _ => gen_un
theorem so_cv : StepO C F k Q id draw ops l s us ⟨d, .convert u v x, t, pos, after, g⟩ = StepU C F k Q id draw ops l s us d (cv1 C.E.P u v (evOpd C.E s.tm x)) :=
  stepO_of fun _ => gen_cv
section
variable {P : Program} {w1 w2 : Option Nat} {kd : IntKind} {m n : Int}
theorem b_add : bin2 P .add u x y (.one (.p w1 (.sc (.int kd m)))) (.one (.p w2 (.sc (.int kd n)))) = some { val := .one (.p none (.sc (.int kd (kd.wrap (m + n))))) } := by cases kd <;> rfl
theorem b_sub : bin2 P .sub u x y (.one (.p w1 (.sc (.int kd m)))) (.one (.p w2 (.sc (.int kd n)))) = some { val := .one (.p none (.sc (.int kd (kd.wrap (m - n))))) } := by cases kd <;> rfl
theorem b_mul : bin2 P .mul u x y (.one (.p w1 (.sc (.int kd m)))) (.one (.p w2 (.sc (.int kd n)))) = some { val := .one (.p none (.sc (.int kd (kd.wrap (m * n))))) } := by cases kd <;> rfl
theorem b_quo (h : n ≠ 0) : bin2 P .quo u x y (.one (.p w1 (.sc (.int kd m)))) (.one (.p w2 (.sc (.int kd n)))) = some { val := .one (.p none (.sc (.int kd (kd.wrap (m.tdiv n))))) } := by
  cases kd <;> simp [bin2, valOf, scC, binOp, eqGuard, Op.intDiv, vU, atOfV, h] <;> rfl
theorem b_rem (h : n ≠ 0) : bin2 P .rem u x y (.one (.p w1 (.sc (.int kd m)))) (.one (.p w2 (.sc (.int kd n)))) = some { val := .one (.p none (.sc (.int kd (m.tmod n)))) } := by
  cases kd <;> simp [bin2, valOf, scC, binOp, eqGuard, Op.intDiv, vU, atOfV, h] <;> rfl
theorem b_lss : bin2 P .lss u x y (.one (.p w1 (.sc (.int kd m)))) (.one (.p w2 (.sc (.int kd n)))) = some { val := .one (.p none (.sc (.bool (decide (m < n))))) } := by cases kd <;> rfl
theorem b_leq : bin2 P .leq u x y (.one (.p w1 (.sc (.int kd m)))) (.one (.p w2 (.sc (.int kd n)))) = some { val := .one (.p none (.sc (.bool (decide (m ≤ n))))) } := by cases kd <;> rfl
theorem b_gtr : bin2 P .gtr u x y (.one (.p w1 (.sc (.int kd m)))) (.one (.p w2 (.sc (.int kd n)))) = some { val := .one (.p none (.sc (.bool (decide (n < m))))) } := by cases kd <;> rfl
theorem b_geq : bin2 P .geq u x y (.one (.p w1 (.sc (.int kd m)))) (.one (.p w2 (.sc (.int kd n)))) = some { val := .one (.p none (.sc (.bool (decide (n ≤ m))))) } := by cases kd <;> rfl
theorem b_eql : bin2 P .eql u x y (.one (.p w1 (.sc (.int kd m)))) (.one (.p w2 (.sc (.int kd n)))) = some { val := .one (.p none (.sc (.bool (decide (m = n))))) } := by cases kd <;> rfl
theorem b_neq : bin2 P .neq u x y (.one (.p w1 (.sc (.int kd m)))) (.one (.p w2 (.sc (.int kd n)))) = some { val := .one (.p none (.sc (.bool (!decide (m = n))))) } := by cases kd <;> rfl
theorem b_and : bin2 P .and u x y (.one (.p w1 (.sc (.int kd m)))) (.one (.p w2 (.sc (.int kd n)))) = some { val := .one (.p none (.sc (.int kd (Go.bits .and kd m n)))) } := by cases kd <;> rfl
theorem b_or : bin2 P .or u x y (.one (.p w1 (.sc (.int kd m)))) (.one (.p w2 (.sc (.int kd n)))) = some { val := .one (.p none (.sc (.int kd (Go.bits .or kd m n)))) } := by cases kd <;> rfl
theorem b_xor : bin2 P .xor u x y (.one (.p w1 (.sc (.int kd m)))) (.one (.p w2 (.sc (.int kd n)))) = some { val := .one (.p none (.sc (.int kd (Go.bits .xor kd m n)))) } := by cases kd <;> rfl
end
end
end Go.Proofs.Ytcmaohhcbiienaa.X
