import Derived.Test.YtjhljcnjafbkfaaDoorQB2
import Derived.OpenShut
set_option linter.unusedSimpArgs false
set_option linter.unusedVariables false
section
set_option linter.unusedVariables false
namespace Go.Proofs.YtjhljcnjafbkfaaDoor.L
open Go.RowKit Go.Proofs.YtjhljcnjafbkfaaDoor.X
section
variable {α β γ : Type}
theorem ev_pos {c : Prop} [Decidable c] {A B : Nat → Option α} {r : α} (hc : c) (h : Ev A r) : Ev (fun k => if c then A k else B k) r := by
  obtain ⟨K, hK⟩ := h
  exact ⟨K, fun k hk => by show (if c then A k else B k) = _; rw [if_pos hc]; exact hK k hk⟩
theorem ev_neg {c : Prop} [Decidable c] {A B : Nat → Option α} {r : α} (hc : ¬ c) (h : Ev B r) : Ev (fun k => if c then A k else B k) r := by
  obtain ⟨K, hK⟩ := h
  exact ⟨K, fun k hk => by show (if c then A k else B k) = _; rw [if_neg hc]; exact hK k hk⟩
theorem ev_ret {r : α} : Ev (fun _ => some r) r := Ev.now r
theorem ev_eq {r r' : α} (h : r = r') : Ev (fun _ => some r) r' := h ▸ Ev.now r
theorem ev_call {g : Nat → Option α} {a : α} {f : Nat → α → Option β} {r : β} (hg : Ev g a) (h : Ev (fun k => f k a) r) : Ev (fun k => (g k).bind (f k)) r := Ev.bind hg h
theorem ev_pure {o : Option α} {a : α} {f : Nat → α → Option β} {r : β} (ho : o = some a) (h : Ev (fun k => f k a) r) : Ev (fun k => o.bind (f k)) r := by
  rw [ho]; exact h
theorem ev_rounds {g : Nat → Option α} {r : α} (h : Ev g r) : ∃ k, g k = some r := Ev.rounds h
theorem ev_some {g : Nat → Option α} {r : α} (hm : ∀ k, LeO (g k) (g (k + 1))) (h : ∃ k, g k = some r) : Ev g r := by
  obtain ⟨k, h⟩ := h
  exact Ev.of hm h
end
theorem wrap_id {x : Int} (h1 : -9223372036854775808 ≤ x) (h2 : x ≤ 9223372036854775807) : wrap64 x = x := by unfold wrap64; omega
theorem down {P : Nat → Prop} (n : Nat) (hend : P n) (hstep : ∀ i, i < n → P (i + 1) → P i) : ∀ i, i ≤ n → P i := by
  intro i hi
  obtain ⟨d, hd⟩ : ∃ d, i + d = n := ⟨n - i, by omega⟩
  clear hi
  induction d generalizing i with
  | zero => obtain rfl : i = n := by omega
            exact hend
  | succ d ih => exact hstep i (by omega) (ih (i + 1) (by omega))
theorem up {P : Nat → Prop} (n : Nat) (h0 : P 0) (hstep : ∀ i, i < n → P i → P (i + 1)) : ∀ i, i ≤ n → P i := by
  intro i
  induction i with
  | zero => exact fun _ => h0
  | succ i ih => exact fun hi => hstep i (by omega) (ih (by omega))
theorem inc64 {i : Nat} (h : i < 9223372036854775807) : wrap64 ((i : Int) + 1) = ((i + 1 : Nat) : Int) := by unfold wrap64; omega
theorem getD_lt {α : Type} {xs : List α} {i : Nat} (h : i < xs.length) (d : α) : xs.getD i d = xs[i] := by
  rw [List.getD_eq_getElem?_getD, List.getElem?_eq_getElem h]; rfl
theorem drop_cons {α : Type} {xs : List α} {i : Nat} (h : i < xs.length) (d : α) : xs.drop i = xs.getD i d :: xs.drop (i + 1) := by
  rw [getD_lt h, List.drop_eq_getElem_cons h]
theorem take_snoc {α : Type} {xs : List α} {i : Nat} (h : i < xs.length) (d : α) : xs.take (i + 1) = xs.take i ++ [xs.getD i d] := by
  rw [getD_lt h, List.take_succ_eq_append_getElem h]
theorem getD_mem {α : Type} {xs : List α} {i : Nat} (h : i < xs.length) (d : α) : xs.getD i d ∈ xs := by
  rw [getD_lt h]; exact List.getElem_mem h
theorem gset_same {α : Type} {xs : List α} {i : Nat} (h : i < xs.length) (v d : α) : (xs.set i v).getD i d = v := by
  rw [getD_lt (by simpa using h)]; simp
theorem gset_ne {α : Type} {xs : List α} {i j : Nat} (h : i ≠ j) (v d : α) : (xs.set i v).getD j d = xs.getD j d := by
  rw [List.getD_eq_getElem?_getD, List.getD_eq_getElem?_getD, List.getElem?_set_ne h]
theorem list_ext {α : Type} {a b : List α} (d : α) (hl : a.length = b.length) (h : ∀ i, i < a.length → a.getD i d = b.getD i d) : a = b := by
  refine List.ext_getElem hl fun i h1 h2 => ?_
  have := h i h1
  rwa [getD_lt h1, getD_lt h2] at this
end Go.Proofs.YtjhljcnjafbkfaaDoor.L
end
section
set_option linter.unusedVariables false
namespace Go.Proofs.YtjhljcnjafbkfaaDoor.L
open Go.RowKit
def dv (B : Int) : List Int → Int
  | [] => 0
  | x :: l => x + B * dv B l
def Dg (B : Int) (l : List Int) : Prop := ∀ x ∈ l, 0 ≤ x ∧ x < B
structure Cn (B : Int) (l : List Int) : Prop where
  dg : Dg B l
  top : l ≠ [] → l.getD (l.length - 1) 0 ≠ 0
theorem dv_append (B : Int) (a b : List Int) : dv B (a ++ b) = dv B a + B ^ a.length * dv B b := by
  induction a with
  | nil => simp [dv]
  | cons x a ih => simp only [List.cons_append, dv, ih, List.length_cons]; grind
theorem Dg.nil (B : Int) : Dg B [] := fun x h => by cases h
theorem Dg.cons {B x : Int} {l : List Int} (h : 0 ≤ x ∧ x < B) (hl : Dg B l) : Dg B (x :: l) := fun y hy => by
  rcases List.mem_cons.1 hy with rfl | hy
  · exact h
  · exact hl y hy
theorem Dg.append {B : Int} {a b : List Int} (ha : Dg B a) (hb : Dg B b) : Dg B (a ++ b) := fun y hy => by
  rcases List.mem_append.1 hy with hy | hy
  · exact ha y hy
  · exact hb y hy
theorem Dg.take {B : Int} {l : List Int} (h : Dg B l) (i : Nat) : Dg B (l.take i) := fun x hx => h x (List.mem_of_mem_take hx)
theorem Dg.drop {B : Int} {l : List Int} (h : Dg B l) (i : Nat) : Dg B (l.drop i) := fun x hx => h x (List.mem_of_mem_drop hx)
theorem Dg.get {B : Int} {l : List Int} (h : Dg B l) (hB : 0 < B) (i : Nat) : 0 ≤ l.getD i 0 ∧ l.getD i 0 < B := by
  by_cases hi : i < l.length
  · exact h _ (getD_mem hi 0)
  · rw [List.getD_eq_getElem?_getD, List.getElem?_eq_none (by omega)]; exact ⟨Int.le_refl _, hB⟩
theorem dv_nonneg {B : Int} (hB : 0 < B) : ∀ {l : List Int}, Dg B l → 0 ≤ dv B l
  | [], _ => Int.le_refl _
  | x :: l, h => by
    have h1 := (h x (List.mem_cons_self ..)).1
    have h2 := dv_nonneg hB (l := l) (fun y hy => h y (List.mem_cons_of_mem _ hy))
    have h3 := Int.mul_nonneg (Int.le_of_lt hB) h2
    show 0 ≤ x + B * dv B l
    omega
theorem pow_pos_ {B : Int} (hB : 0 < B) (n : Nat) : 0 < B ^ n := Int.pow_pos hB
theorem dv_lt {B : Int} (hB : 0 < B) : ∀ {l : List Int}, Dg B l → dv B l < B ^ l.length
  | [], _ => by simp [dv]
  | x :: l, h => by
    have h1 := (h x (List.mem_cons_self ..)).2
    have h2 := dv_lt hB (l := l) (fun y hy => h y (List.mem_cons_of_mem _ hy))
    have h3 : B * (dv B l + 1) ≤ B * B ^ l.length := Int.mul_le_mul_of_nonneg_left (by omega) (Int.le_of_lt hB)
    show x + B * dv B l < B ^ (l.length + 1)
    rw [Int.pow_succ, Int.mul_comm (B ^ l.length)]
    rw [Int.mul_add] at h3
    omega
theorem dv_split (B : Int) (l : List Int) (i : Nat) (hi : i < l.length) : dv B l = dv B (l.take i) + B ^ i * (l.getD i 0 + B * dv B (l.drop (i + 1))) := by
  have e : l = l.take i ++ (l.getD i 0 :: l.drop (i + 1)) := by rw [← drop_cons hi]; exact (List.take_append_drop i l).symm
  have h := dv_append B (l.take i) (l.getD i 0 :: l.drop (i + 1))
  rw [← e] at h
  rw [h, List.length_take, Nat.min_eq_left (by omega)]
  rfl
theorem cn_nil (B : Int) : Cn B [] := ⟨Dg.nil B, fun h => absurd rfl h⟩
theorem cn_pow_le {B : Int} (hB : 0 < B) {l : List Int} (h : Cn B l) (hl : l ≠ []) : B ^ (l.length - 1) ≤ dv B l := by
  have hp : 0 < l.length := List.length_pos_iff.2 hl
  have e := dv_split B l (l.length - 1) (by omega)
  have h1 := (h.dg.get hB (l.length - 1)).1
  have h2 := h.top hl
  have h3 := dv_nonneg hB (h.dg.take (l.length - 1))
  rw [List.drop_eq_nil_of_le (by omega)] at e
  have h5 : dv B [] = 0 := rfl
  rw [h5, Int.mul_zero, Int.add_zero] at e
  have h4 : B ^ (l.length - 1) * 1 ≤ B ^ (l.length - 1) * l.getD (l.length - 1) 0 := Int.mul_le_mul_of_nonneg_left (by omega) (Int.le_of_lt (pow_pos_ hB _))
  rw [Int.mul_one] at h4
  omega
theorem pow_mono {B : Int} (hB : 1 ≤ B) {m n : Nat} (h : m ≤ n) : B ^ m ≤ B ^ n := by
  obtain ⟨d, rfl⟩ := Nat.exists_eq_add_of_le h
  rw [Int.pow_add]
  have h1 : 1 ≤ B ^ d := by have := pow_pos_ (by omega : 0 < B) d; omega
  have h2 := Int.mul_le_mul_of_nonneg_left h1 (Int.le_of_lt (pow_pos_ (by omega : 0 < B) m))
  omega
theorem cn_len_lt {B : Int} (hB : 0 < B) {a b : List Int} (ha : Dg B a) (hb : Cn B b) (h : a.length < b.length) : dv B a < dv B b := by
  have h1 := dv_lt hB ha
  have h2 := cn_pow_le hB hb (by intro e; rw [e] at h; simp at h)
  have h3 := pow_mono (B := B) (by omega) (show a.length ≤ b.length - 1 by omega)
  omega
theorem dg_unique {B : Int} (hB : 0 < B) : ∀ {a b : List Int}, Dg B a → Dg B b → a.length = b.length → dv B a = dv B b → a = b
  | [], [], _, _, _, _ => rfl
  | [], _ :: _, _, _, h, _ => by simp at h
  | _ :: _, [], _, _, h, _ => by simp at h
  | x :: a, y :: b, ha, hb, hl, hv => by
    have hx := ha x (List.mem_cons_self ..)
    have hy := hb y (List.mem_cons_self ..)
    have hv' : x + B * dv B a = y + B * dv B b := hv
    have e1 : x = y := by
      have h1 := congrArg (· % B) hv'
      simp only [Int.add_mul_emod_self_left] at h1
      rwa [Int.emod_eq_of_lt hx.1 hx.2, Int.emod_eq_of_lt hy.1 hy.2] at h1
    subst e1
    have e2 : dv B a = dv B b := by
      have h2 : B * dv B a = B * dv B b := by omega
      exact Int.eq_of_mul_eq_mul_left (by omega) h2
    rw [dg_unique hB (fun y hy => ha y (List.mem_cons_of_mem _ hy)) (fun y hy => hb y (List.mem_cons_of_mem _ hy)) (by simpa using hl) e2]
theorem cn_unique {B : Int} (hB : 0 < B) {a b : List Int} (ha : Cn B a) (hb : Cn B b) (h : dv B a = dv B b) : a = b := by
  rcases Nat.lt_trichotomy a.length b.length with hl | hl | hl
  · have := cn_len_lt hB ha.dg hb hl; omega
  · exact dg_unique hB ha.dg hb.dg hl h
  · have := cn_len_lt hB hb.dg ha hl; omega
theorem cn_zero {B : Int} (hB : 0 < B) {a : List Int} (ha : Cn B a) (h : dv B a = 0) : a = [] := cn_unique hB ha (cn_nil B) h
theorem cn_len_le {B : Int} (hB : 1 < B) {a : List Int} (ha : Cn B a) {n : Nat} : a.length ≤ n ↔ dv B a < B ^ n := by
  constructor
  · intro h
    have h1 := dv_lt (by omega) ha.dg
    have h2 := pow_mono (B := B) (by omega) h
    omega
  · intro h
    refine Nat.le_of_not_lt fun hn => ?_
    have h1 := cn_pow_le (by omega) ha (by intro e; rw [e] at hn; simp at hn)
    have h2 := pow_mono (B := B) (by omega) (show n ≤ a.length - 1 by omega)
    omega
theorem dv_lt_of {B : Int} (hB : 0 < B) {a b : List Int} (ha : Dg B a) (hb : Dg B b) (i : Nat) (hi : i < a.length) (hj : i < b.length) (he : dv B (a.drop (i + 1)) = dv B (b.drop (i + 1))) (h : a.getD i 0 < b.getD i 0) : dv B a < dv B b := by
  have e1 := dv_split B a i hi
  have e2 := dv_split B b i hj
  have h1 := dv_lt hB (ha.take i)
  have h2 := dv_nonneg hB (hb.take i)
  rw [List.length_take, Nat.min_eq_left (by omega)] at h1
  rw [he] at e1
  have h3 : B ^ i * (a.getD i 0 + B * dv B (b.drop (i + 1)) + 1) ≤ B ^ i * (b.getD i 0 + B * dv B (b.drop (i + 1))) := Int.mul_le_mul_of_nonneg_left (by omega) (Int.le_of_lt (pow_pos_ hB _))
  rw [Int.mul_add, Int.mul_one] at h3
  omega
theorem dv_drop (B : Int) (l : List Int) (i : Nat) : dv B (l.drop i) = l.getD i 0 + B * dv B (l.drop (i + 1)) := by
  by_cases hi : i < l.length
  · rw [drop_cons hi 0]; rfl
  · rw [List.drop_eq_nil_of_le (by omega), List.drop_eq_nil_of_le (by omega), List.getD_eq_getElem?_getD, List.getElem?_eq_none (by omega)]; simp [dv]
theorem dv_parts (B : Int) (l : List Int) (i : Nat) : dv B l = dv B (l.take i) + B ^ i * dv B (l.drop i) := by
  by_cases hi : i ≤ l.length
  · have h := dv_append B (l.take i) (l.drop i)
    rw [List.take_append_drop, List.length_take, Nat.min_eq_left hi] at h
    exact h
  · rw [List.drop_eq_nil_of_le (by omega), List.take_of_length_le (by omega)]; simp [dv]
theorem dv_take_lt {B : Int} (hB : 0 < B) {l : List Int} (h : Dg B l) (i : Nat) : dv B (l.take i) < B ^ i := by
  have h1 := dv_lt hB (h.take i)
  have h2 := pow_mono (B := B) (by omega) (show (l.take i).length ≤ i by rw [List.length_take]; omega)
  omega
theorem top_zero_lt {B : Int} (hB : 0 < B) {l : List Int} (h : Dg B l) (h0 : l ≠ []) (hz : l.getD (l.length - 1) 0 = 0) : dv B l < B ^ (l.length - 1) := by
  have hp : 0 < l.length := List.length_pos_iff.2 h0
  have e := dv_parts B l (l.length - 1)
  rw [dv_drop, hz, List.drop_eq_nil_of_le (by omega)] at e
  have h1 := dv_take_lt hB h (l.length - 1)
  have h5 : dv B [] = 0 := rfl
  rw [h5, Int.mul_zero, Int.add_zero, Int.mul_zero, Int.add_zero] at e
  omega
def ps (B : Int) (t : Nat → Int) : Nat → Int
  | 0 => 0
  | i + 1 => ps B t i + B ^ i * t i
theorem dv_map_range (B : Int) (o : Nat → Int) : ∀ i, dv B ((List.range i).map o) = ps B o i
  | 0 => rfl
  | i + 1 => by
    rw [List.range_succ, List.map_append, dv_append, dv_map_range B o i]
    simp [ps, dv]
theorem ps_getD (B : Int) (l : List Int) : ∀ i, ps B (fun j => l.getD j 0) i = dv B (l.take i)
  | 0 => by simp [ps, dv]
  | i + 1 => by
    show ps B (fun j => l.getD j 0) i + B ^ i * l.getD i 0 = _
    rw [ps_getD B l i]
    by_cases hi : i < l.length
    · rw [take_snoc hi 0, dv_append, List.length_take, Nat.min_eq_left (by omega)]; simp [dv]
    · rw [List.take_of_length_le (by omega), List.take_of_length_le (by omega), List.getD_eq_getElem?_getD, List.getElem?_eq_none (by omega)]; simp
theorem dv_take_succ (B : Int) (l : List Int) (i : Nat) : dv B (l.take (i + 1)) = dv B (l.take i) + B ^ i * l.getD i 0 := by
  rw [← ps_getD B l (i + 1), ← ps_getD B l i]; rfl
theorem ps_all (B : Int) (l : List Int) {i : Nat} (h : l.length ≤ i) : ps B (fun j => l.getD j 0) i = dv B l := by rw [ps_getD, List.take_of_length_le h]
theorem ps_add (B : Int) (s t : Nat → Int) : ∀ i, ps B (fun j => s j + t j) i = ps B s i + ps B t i
  | 0 => rfl
  | i + 1 => by simp only [ps, ps_add B s t i]; grind
theorem ps_sub (B : Int) (s t : Nat → Int) : ∀ i, ps B (fun j => s j - t j) i = ps B s i - ps B t i
  | 0 => rfl
  | i + 1 => by simp only [ps, ps_sub B s t i]; grind
theorem ps_mul (B q : Int) (s : Nat → Int) : ∀ i, ps B (fun j => q * s j) i = q * ps B s i
  | 0 => by simp [ps]
  | i + 1 => by simp only [ps, ps_mul B q s i]; grind
theorem carries (B : Int) (t o c : Nat → Int) : ∀ i, (∀ j, j < i → o j + B * c (j + 1) = t j + c j) → ps B o i + B ^ i * c i = ps B t i + c 0
  | 0, _ => by simp [ps]
  | i + 1, h => by
    have ih := carries B t o c i (fun j hj => h j (by omega))
    have hi := h i (by omega)
    simp only [ps]
    have : B ^ (i + 1) * c (i + 1) = B ^ i * (B * c (i + 1)) := by grind
    rw [this]
    have h2 : B ^ i * o i + B ^ i * (B * c (i + 1)) = B ^ i * t i + B ^ i * c i := by rw [← Int.mul_add, hi, Int.mul_add]
    omega
theorem dg_map_range {B : Int} {o : Nat → Int} {n : Nat} (h : ∀ j, j < n → 0 ≤ o j ∧ o j < B) : Dg B ((List.range n).map o) := fun x hx => by
  obtain ⟨j, hj, rfl⟩ := List.mem_map.1 hx
  exact h j (List.mem_range.1 hj)
end Go.Proofs.YtjhljcnjafbkfaaDoor.L
end
