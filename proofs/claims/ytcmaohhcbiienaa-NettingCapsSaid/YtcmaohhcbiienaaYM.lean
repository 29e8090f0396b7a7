import Derived.Test.YtcmaohhcbiienaaYL
/-! YM: words for the printed texts: states, heads, bundles of laws. -/
set_option linter.unusedVariables false
namespace Go.Proofs.Ytcmaohhcbiienaa.X
open Go.RowKit

/-! ### where a text stands within a function's -/
def bodyOf (f : Func) : Code := f.body.getD .skip
def sub : List Nat → Code → Code
  | [], c => c
  | 0 :: p, .seq a _ => sub p a
  | 1 :: p, .seq _ b => sub p b
  | _ :: p, .block _ b => sub p b
  | _ :: p, .loop b => sub p b
  | 1 :: p, .cond _ a _ => sub p a
  | 2 :: p, .cond _ _ b => sub p b
  | _, c => c
section
variable {p : List Nat} {a b : Code} {c : Operand} {id n : Nat}
theorem sub_nil : sub [] a = a := by cases a <;> rfl
theorem sub_s0 : sub (0 :: p) (.seq a b) = sub p a := rfl
theorem sub_s1 : sub (1 :: p) (.seq a b) = sub p b := rfl
theorem sub_bl : sub (0 :: p) (.block id b) = sub p b := rfl
theorem sub_lp : sub (0 :: p) (.loop b) = sub p b := rfl
theorem sub_c1 : sub (1 :: p) (.cond c a b) = sub p a := rfl
theorem sub_c2 : sub (2 :: p) (.cond c a b) = sub p b := rfl
end

/-! ### values -/
def vI (k : IntKind) (n : Int) : AT := .one (.p none (.sc (.int k n)))
def vB (b : Bool) : AT := .one (.p none (.sc (.bool b)))
def vS (b : ByteArray) : AT := .one (.p none (.sc (.string b)))
def vL (z : Nat) (l : List (List PV)) : AT := .one (.p none (.sl z l))
def vO (n z : Nat) (l : List (List PV)) : AT := .one (.p (some n) (.sl z l))
def cP (x : PV) : CV := .p none x
def aV (l : List PV) : Arg := (false, l)
def aA (l : List PV) : Arg := (true, l)
def pI (k : IntKind) (n : Int) : PV := .sc (.int k n)
def pB (b : Bool) : PV := .sc (.bool b)
def pS (b : ByteArray) : PV := .sc (.string b)

/-! ### small laws -/
section
variable {α β : Type}
theorem ifn {c : Prop} [Decidable c] {a : Option α} {r : α} (h : (if c then a else none) = some r) : c ∧ a = some r := by
  split at h
  · exact ⟨by assumption, h⟩
  · cases h
theorem ifz {c : Prop} [Decidable c] {a : Option α} {r : α} (h : (if c then none else a) = some r) : ¬ c ∧ a = some r := by
  split at h
  · cases h
  · exact ⟨by assumption, h⟩
theorem bnd {o : Option α} {f : α → Option β} {r : β} (h : o.bind f = some r) : ∃ a, o = some a ∧ f a = some r := Option.bind_eq_some_iff.1 h
theorem rd_at {l : List α} {i : Int} (d : α) (h0 : 0 ≤ i) (h1 : i < (l.length : Int)) : rd l i = some (l.getD i.toNat d) := by
  have h2 : i.toNat < l.length := by omega
  rw [rd, if_pos h0, List.getElem?_eq_getElem h2, List.getD_eq_getElem?_getD, List.getElem?_eq_getElem h2]
  rfl
theorem row_at {l : List α} {i : Int} (d : α) (h0 : 0 ≤ i) (h1 : i < (l.length : Int)) : l[i.toNat]? = some (l.getD i.toNat d) := by
  have h2 : i.toNat < l.length := by omega
  rw [List.getElem?_eq_getElem h2, List.getD_eq_getElem?_getD, List.getElem?_eq_getElem h2]
  rfl
theorem toNat_lt {i : Int} {n : Nat} (h0 : 0 ≤ i) (h1 : i < (n : Int)) : i.toNat < n := by omega
end
/-! ### more rounds say the same -/
def LeO {α : Type} (a b : Option α) : Prop := ∀ r, a = some r → b = some r
section
variable {α β : Type}
theorem leo_refl {a : Option α} : LeO a a := fun _ h => h
theorem leo_none {a : Option α} : LeO none a := fun _ h => by cases h
theorem leo_ite {c : Prop} [Decidable c] {a a' b b' : Option α} (h : LeO a a') (k : LeO b b') : LeO (if c then a else b) (if c then a' else b') := by
  split
  · exact h
  · exact k
theorem leo_if {c : Prop} [Decidable c] {a a' : Option α} (h : LeO a a') : LeO (if c then a else none) (if c then a' else none) := leo_ite h leo_refl
theorem leo_ifz {c : Prop} [Decidable c] {a a' : Option α} (h : LeO a a') : LeO (if c then none else a) (if c then none else a') := leo_ite leo_refl h
theorem leo_bind {g g' : Option α} {f f' : α → Option β} (h : LeO g g') (k : ∀ t, LeO (f t) (f' t)) : LeO (g.bind f) (g'.bind f') := fun r q => by
  obtain ⟨a, h1, h2⟩ := Option.bind_eq_some_iff.1 q
  exact Option.bind_eq_some_iff.2 ⟨a, h _ h1, k a _ h2⟩
end
/-- With enough rounds. -/
def Ev {α : Type} (g : Nat → Option α) (r : α) : Prop := ∃ K, ∀ k, K ≤ k → g k = some r
theorem Ev.of {α : Type} {g : Nat → Option α} {r : α} (hg : ∀ k, LeO (g k) (g (k + 1))) {k : Nat} (h : g k = some r) : Ev g r := by
  refine ⟨k, fun j hj => ?_⟩
  obtain ⟨d, rfl⟩ : ∃ d, j = k + d := ⟨j - k, by omega⟩
  clear hj
  induction d with
  | zero => exact h
  | succ d ih => exact hg _ _ ih
theorem Ev.now {α : Type} (r : α) : Ev (fun _ => some r) r := ⟨0, fun _ _ => rfl⟩
theorem Ev.rounds {α : Type} {g : Nat → Option α} {r : α} (h : Ev g r) : ∃ k, g k = some r := by
  obtain ⟨K, h⟩ := h
  exact ⟨K, h K (Nat.le_refl _)⟩
theorem Ev.bind {α β : Type} {g : Nat → Option α} {f : Nat → α → Option β} {a : α} {r : β} (h : Ev g a) (k : Ev (fun n => f n a) r) : Ev (fun n => (g n).bind (f n)) r := by
  obtain ⟨K, h⟩ := h
  obtain ⟨K', k⟩ := k
  refine ⟨max K K', fun n hn => ?_⟩
  show (g n).bind (f n) = _
  rw [h n (by omega)]
  exact k n (by omega)
theorem Ev.step {α : Type} {g f : Nat → Option α} {r : α} (h : ∀ k, g (k + 1) = f k) (k : Ev f r) : Ev g r := by
  obtain ⟨K, k⟩ := k
  refine ⟨K + 1, fun n hn => ?_⟩
  obtain ⟨m, rfl⟩ : ∃ m, n = m + 1 := ⟨n - 1, by omega⟩
  rw [h]
  exact k m (by omega)
theorem Ev.congr {α : Type} {g f : Nat → Option α} {r : α} (h : ∀ k, g k = f k) (k : Ev f r) : Ev g r := by
  obtain ⟨K, k⟩ := k
  exact ⟨K, fun n hn => by rw [h]; exact k n hn⟩
theorem w64 {n : Int} : IntKind.wrap .i64 n = wrap64 n := by
  unfold wrap64
  show (if (true && decide (n % (18446744073709551616 : Int) ≥ 9223372036854775808)) = true then n % 18446744073709551616 - 18446744073709551616 else n % 18446744073709551616) = _
  rw [Bool.true_and]
  by_cases h : n % 18446744073709551616 ≥ 9223372036854775808
  · rw [if_pos (decide_eq_true h)]; omega
  · rw [if_neg (by simpa using h)]; omega
theorem u_neg {P : Program} {w : Option Nat} {kd : IntKind} {m : Int} : un1 P .neg (.one (.p w (.sc (.int kd m)))) = some { val := .one (.p none (.sc (.int kd (kd.wrap (0 - m))))) } := by cases kd <;> rfl
theorem u_not {P : Program} {w : Option Nat} {b : Bool} : un1 P .not (.one (.p w (.sc (.bool b)))) = some { val := .one (.p none (.sc (.bool (!b)))) } := rfl
theorem rtP_at {m n : Nat} : rtP m n = if n = 0 then false else decide (n < m) := rfl
end Go.Proofs.Ytcmaohhcbiienaa.X
