import Derived.Test.YtcmaohhcbiienaaYO
import Derived.OpenShut
/-! WORDS OF PLAIN LAW: what holds with enough rounds (Ev of the print's words), step by step; 64 bits; lists. -/
set_option linter.unusedVariables false
namespace Go.Proofs.Ytcmaohhcbiienaa.L
open Go.RowKit Go.Proofs.Ytcmaohhcbiienaa.X

section
variable {α β γ : Type}
theorem ev_pos {c : Prop} [Decidable c] {A B : Nat → Option α} {r : α} (hc : c) (h : Ev A r) : Ev (fun k => if c then A k else B k) r := by
  obtain ⟨K, hK⟩ := h
  exact ⟨K, fun k hk => by show (if c then A k else B k) = _; rw [if_pos hc]; exact hK k hk⟩
theorem ev_neg {c : Prop} [Decidable c] {A B : Nat → Option α} {r : α} (hc : ¬ c) (h : Ev B r) : Ev (fun k => if c then A k else B k) r := by
  obtain ⟨K, hK⟩ := h
  exact ⟨K, fun k hk => by show (if c then A k else B k) = _; rw [if_neg hc]; exact hK k hk⟩
theorem ev_ite {c : Prop} [Decidable c] {A B : Nat → Option α} {r : α} (h1 : c → Ev A r) (h2 : ¬ c → Ev B r) : Ev (fun k => if c then A k else B k) r := by
  by_cases hc : c
  · exact ev_pos hc (h1 hc)
  · exact ev_neg hc (h2 hc)
theorem ev_ret {r : α} : Ev (fun _ => some r) r := Ev.now r
theorem ev_eq {r r' : α} (h : r = r') : Ev (fun _ => some r) r' := h ▸ Ev.now r
theorem ev_let {a : α} {f : Nat → α → Option β} {r : β} (h : Ev (fun k => f k a) r) : Ev (fun k => (some a).bind (f k)) r := h
theorem ev_call {g : Nat → Option α} {a : α} {f : Nat → α → Option β} {r : β} (hg : Ev g a) (h : Ev (fun k => f k a) r) : Ev (fun k => (g k).bind (f k)) r := Ev.bind hg h
theorem ev_pure {o : Option α} {a : α} {f : Nat → α → Option β} {r : β} (ho : o = some a) (h : Ev (fun k => f k a) r) : Ev (fun k => o.bind (f k)) r := by
  rw [ho]; exact h
theorem ev_unique {g : Nat → Option α} {a b : α} (h1 : Ev g a) (h2 : Ev g b) : a = b := by
  obtain ⟨K, hK⟩ := h1
  obtain ⟨K', hK'⟩ := h2
  have e1 := hK (max K K') (by omega)
  rw [hK' (max K K') (by omega)] at e1
  exact (Option.some.inj e1).symm
theorem ev_const {o : Option α} {r : α} (h : o = some r) : Ev (fun _ => o) r := by rw [h]; exact ev_ret
theorem ev_rounds {g : Nat → Option α} {r : α} (h : Ev g r) : ∃ k, g k = some r := Ev.rounds h
theorem ev_some {g : Nat → Option α} {r : α} (hm : ∀ k, LeO (g k) (g (k + 1))) (h : ∃ k, g k = some r) : Ev g r := by
  obtain ⟨k, h⟩ := h
  exact Ev.of hm h
end

theorem wrap_id {x : Int} (h1 : -9223372036854775808 ≤ x) (h2 : x ≤ 9223372036854775807) : wrap64 x = x := by unfold wrap64; omega
theorem lit64 {n : Int} (h : (Lit.int .i64 n).wf = true) : -9223372036854775808 ≤ n ∧ n ≤ 9223372036854775807 := bounds_i64 h
theorem down {P : Nat → Prop} (n : Nat) (hend : P n) (hstep : ∀ i, i < n → P (i + 1) → P i) : ∀ i, i ≤ n → P i := by
  intro i hi
  obtain ⟨d, hd⟩ : ∃ d, i + d = n := ⟨n - i, by omega⟩
  clear hi
  induction d generalizing i with
  | zero => obtain rfl : i = n := by omega
            exact hend
  | succ d ih => exact hstep i (by omega) (ih (i + 1) (by omega))
theorem up {P : Nat → Prop} (n : Nat) (h0 : P 0) (hstep : ∀ i, i < n → P i → P (i + 1)) : ∀ i, i ≤ n → P i := by
  intro i
  induction i with
  | zero => exact fun _ => h0
  | succ i ih => exact fun hi => hstep i (by omega) (ih (by omega))
theorem inc64 {i : Nat} (h : i < 9223372036854775807) : wrap64 ((i : Int) + 1) = ((i + 1 : Nat) : Int) := by unfold wrap64; omega
theorem getD_lt {α : Type} {xs : List α} {i : Nat} (h : i < xs.length) (d : α) : xs.getD i d = xs[i] := by
  rw [List.getD_eq_getElem?_getD, List.getElem?_eq_getElem h]; rfl
theorem drop_cons {α : Type} {xs : List α} {i : Nat} (h : i < xs.length) (d : α) : xs.drop i = xs.getD i d :: xs.drop (i + 1) := by
  rw [getD_lt h, List.drop_eq_getElem_cons h]
theorem take_snoc {α : Type} {xs : List α} {i : Nat} (h : i < xs.length) (d : α) : xs.take (i + 1) = xs.take i ++ [xs.getD i d] := by
  rw [getD_lt h, List.take_succ_eq_append_getElem h]
theorem getD_mem {α : Type} {xs : List α} {i : Nat} (h : i < xs.length) (d : α) : xs.getD i d ∈ xs := by
  rw [getD_lt h]; exact List.getElem_mem h
theorem gset_same {α : Type} {xs : List α} {i : Nat} (h : i < xs.length) (v d : α) : (xs.set i v).getD i d = v := by
  rw [getD_lt (by simpa using h)]; simp
theorem gset_ne {α : Type} {xs : List α} {i j : Nat} (h : i ≠ j) (v d : α) : (xs.set i v).getD j d = xs.getD j d := by
  rw [List.getD_eq_getElem?_getD, List.getD_eq_getElem?_getD, List.getElem?_set_ne h]
theorem sum_set : ∀ (x : List Int) (i : Nat) (v : Int), i < x.length → (x.set i v).sum = x.sum - x.getD i 0 + v
  | [], i, v, h => by simp at h
  | a :: x, 0, v, _ => by simp; omega
  | a :: x, i + 1, v, h => by
    have := sum_set x i v (by simpa using h)
    simp only [List.set_cons_succ, List.sum_cons, this]
    have e : (a :: x).getD (i + 1) 0 = x.getD i 0 := rfl
    rw [e]; omega
theorem list_ext {α : Type} {a b : List α} (d : α) (hl : a.length = b.length) (h : ∀ i, i < a.length → a.getD i d = b.getD i d) : a = b := by
  refine List.ext_getElem hl fun i h1 h2 => ?_
  have := h i h1
  rwa [getD_lt h1, getD_lt h2] at this
end Go.Proofs.Ytcmaohhcbiienaa.L
