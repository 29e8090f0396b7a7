import Derived.Test.YtcidmdjhmhkmgaaDoorLEv
import Derived.Test.YtcidmdjhmhkmgaaDoorS1
import Derived.Lib.VarintBits
import Derived.Lib.Zigzag
import Derived.Test.YtcidmdjhmhkmgaaDoorS5
import Derived.Test.YtcidmdjhmhkmgaaDoorS8
import Derived.Test.YtcidmdjhmhkmgaaDoorS3
import Derived.Test.YtcidmdjhmhkmgaaDoorS6
import Derived.Test.YtcidmdjhmhkmgaaDoorS7
import Derived.Test.YtcidmdjhmhkmgaaDoorS9
import Derived.Test.YtcidmdjhmhkmgaaDoorS2
import Derived.Lib.ItoaNum
import Derived.Lib.Join
import Derived.Lib.Repeat
import Derived.Lib.Strings
import Derived.Laws.RangeString
import Derived.Laws.RangeAny
import Derived.Test.YtcidmdjhmhkmgaaDoorS22
import Derived.Test.YtcidmdjhmhkmgaaDoorS4
import Derived.Test.YtcidmdjhmhkmgaaDoorS12
-- MERGED
-- Num
section
/-! NUMERALS: the value of figures of a base, the lowest one first; canonical ones; carries. -/
set_option linter.unusedVariables false
namespace Go.Proofs.YtcidmdjhmhkmgaaDoor.L
open Go.RowKit

def dv (B : Int) : List Int → Int
  | [] => 0
  | x :: l => x + B * dv B l
def Dg (B : Int) (l : List Int) : Prop := ∀ x ∈ l, 0 ≤ x ∧ x < B
structure Cn (B : Int) (l : List Int) : Prop where
  dg : Dg B l
  top : l ≠ [] → l.getD (l.length - 1) 0 ≠ 0

theorem dv_append (B : Int) (a b : List Int) : dv B (a ++ b) = dv B a + B ^ a.length * dv B b := by
  induction a with
  | nil => simp [dv]
  | cons x a ih => simp only [List.cons_append, dv, ih, List.length_cons]; grind
theorem Dg.nil (B : Int) : Dg B [] := fun x h => by cases h
theorem Dg.cons {B x : Int} {l : List Int} (h : 0 ≤ x ∧ x < B) (hl : Dg B l) : Dg B (x :: l) := fun y hy => by
  rcases List.mem_cons.1 hy with rfl | hy
  · exact h
  · exact hl y hy
theorem Dg.append {B : Int} {a b : List Int} (ha : Dg B a) (hb : Dg B b) : Dg B (a ++ b) := fun y hy => by
  rcases List.mem_append.1 hy with hy | hy
  · exact ha y hy
  · exact hb y hy
theorem Dg.take {B : Int} {l : List Int} (h : Dg B l) (i : Nat) : Dg B (l.take i) := fun x hx => h x (List.mem_of_mem_take hx)
theorem Dg.drop {B : Int} {l : List Int} (h : Dg B l) (i : Nat) : Dg B (l.drop i) := fun x hx => h x (List.mem_of_mem_drop hx)
theorem Dg.get {B : Int} {l : List Int} (h : Dg B l) (hB : 0 < B) (i : Nat) : 0 ≤ l.getD i 0 ∧ l.getD i 0 < B := by
  by_cases hi : i < l.length
  · exact h _ (getD_mem hi 0)
  · rw [List.getD_eq_getElem?_getD, List.getElem?_eq_none (by omega)]; exact ⟨Int.le_refl _, hB⟩
theorem dv_nonneg {B : Int} (hB : 0 < B) : ∀ {l : List Int}, Dg B l → 0 ≤ dv B l
  | [], _ => Int.le_refl _
  | x :: l, h => by
    have h1 := (h x (List.mem_cons_self ..)).1
    have h2 := dv_nonneg hB (l := l) (fun y hy => h y (List.mem_cons_of_mem _ hy))
    have h3 := Int.mul_nonneg (Int.le_of_lt hB) h2
    show 0 ≤ x + B * dv B l
    omega
theorem pow_pos_ {B : Int} (hB : 0 < B) (n : Nat) : 0 < B ^ n := Int.pow_pos hB
theorem dv_lt {B : Int} (hB : 0 < B) : ∀ {l : List Int}, Dg B l → dv B l < B ^ l.length
  | [], _ => by simp [dv]
  | x :: l, h => by
    have h1 := (h x (List.mem_cons_self ..)).2
    have h2 := dv_lt hB (l := l) (fun y hy => h y (List.mem_cons_of_mem _ hy))
    have h3 : B * (dv B l + 1) ≤ B * B ^ l.length := Int.mul_le_mul_of_nonneg_left (by omega) (Int.le_of_lt hB)
    show x + B * dv B l < B ^ (l.length + 1)
    rw [Int.pow_succ, Int.mul_comm (B ^ l.length)]
    rw [Int.mul_add] at h3
    omega
theorem dv_split (B : Int) (l : List Int) (i : Nat) (hi : i < l.length) : dv B l = dv B (l.take i) + B ^ i * (l.getD i 0 + B * dv B (l.drop (i + 1))) := by
  have e : l = l.take i ++ (l.getD i 0 :: l.drop (i + 1)) := by rw [← drop_cons hi]; exact (List.take_append_drop i l).symm
  have h := dv_append B (l.take i) (l.getD i 0 :: l.drop (i + 1))
  rw [← e] at h
  rw [h, List.length_take, Nat.min_eq_left (by omega)]
  rfl
theorem cn_nil (B : Int) : Cn B [] := ⟨Dg.nil B, fun h => absurd rfl h⟩
theorem cn_pow_le {B : Int} (hB : 0 < B) {l : List Int} (h : Cn B l) (hl : l ≠ []) : B ^ (l.length - 1) ≤ dv B l := by
  have hp : 0 < l.length := List.length_pos_iff.2 hl
  have e := dv_split B l (l.length - 1) (by omega)
  have h1 := (h.dg.get hB (l.length - 1)).1
  have h2 := h.top hl
  have h3 := dv_nonneg hB (h.dg.take (l.length - 1))
  rw [List.drop_eq_nil_of_le (by omega)] at e
  have h5 : dv B [] = 0 := rfl
  rw [h5, Int.mul_zero, Int.add_zero] at e
  have h4 : B ^ (l.length - 1) * 1 ≤ B ^ (l.length - 1) * l.getD (l.length - 1) 0 := Int.mul_le_mul_of_nonneg_left (by omega) (Int.le_of_lt (pow_pos_ hB _))
  rw [Int.mul_one] at h4
  omega
theorem pow_mono {B : Int} (hB : 1 ≤ B) {m n : Nat} (h : m ≤ n) : B ^ m ≤ B ^ n := by
  obtain ⟨d, rfl⟩ := Nat.exists_eq_add_of_le h
  rw [Int.pow_add]
  have h1 : 1 ≤ B ^ d := by have := pow_pos_ (by omega : 0 < B) d; omega
  have h2 := Int.mul_le_mul_of_nonneg_left h1 (Int.le_of_lt (pow_pos_ (by omega : 0 < B) m))
  omega
theorem cn_len_lt {B : Int} (hB : 0 < B) {a b : List Int} (ha : Dg B a) (hb : Cn B b) (h : a.length < b.length) : dv B a < dv B b := by
  have h1 := dv_lt hB ha
  have h2 := cn_pow_le hB hb (by intro e; rw [e] at h; simp at h)
  have h3 := pow_mono (B := B) (by omega) (show a.length ≤ b.length - 1 by omega)
  omega
theorem dg_unique {B : Int} (hB : 0 < B) : ∀ {a b : List Int}, Dg B a → Dg B b → a.length = b.length → dv B a = dv B b → a = b
  | [], [], _, _, _, _ => rfl
  | [], _ :: _, _, _, h, _ => by simp at h
  | _ :: _, [], _, _, h, _ => by simp at h
  | x :: a, y :: b, ha, hb, hl, hv => by
    have hx := ha x (List.mem_cons_self ..)
    have hy := hb y (List.mem_cons_self ..)
    have hv' : x + B * dv B a = y + B * dv B b := hv
    have e1 : x = y := by
      have h1 := congrArg (· % B) hv'
      simp only [Int.add_mul_emod_self_left] at h1
      rwa [Int.emod_eq_of_lt hx.1 hx.2, Int.emod_eq_of_lt hy.1 hy.2] at h1
    subst e1
    have e2 : dv B a = dv B b := by
      have h2 : B * dv B a = B * dv B b := by omega
      exact Int.eq_of_mul_eq_mul_left (by omega) h2
    rw [dg_unique hB (fun y hy => ha y (List.mem_cons_of_mem _ hy)) (fun y hy => hb y (List.mem_cons_of_mem _ hy)) (by simpa using hl) e2]
theorem cn_unique {B : Int} (hB : 0 < B) {a b : List Int} (ha : Cn B a) (hb : Cn B b) (h : dv B a = dv B b) : a = b := by
  rcases Nat.lt_trichotomy a.length b.length with hl | hl | hl
  · have := cn_len_lt hB ha.dg hb hl; omega
  · exact dg_unique hB ha.dg hb.dg hl h
  · have := cn_len_lt hB hb.dg ha hl; omega
theorem cn_zero {B : Int} (hB : 0 < B) {a : List Int} (ha : Cn B a) (h : dv B a = 0) : a = [] := cn_unique hB ha (cn_nil B) h
theorem cn_len_le {B : Int} (hB : 1 < B) {a : List Int} (ha : Cn B a) {n : Nat} : a.length ≤ n ↔ dv B a < B ^ n := by
  constructor
  · intro h
    have h1 := dv_lt (by omega) ha.dg
    have h2 := pow_mono (B := B) (by omega) h
    omega
  · intro h
    refine Nat.le_of_not_lt fun hn => ?_
    have h1 := cn_pow_le (by omega) ha (by intro e; rw [e] at hn; simp at hn)
    have h2 := pow_mono (B := B) (by omega) (show n ≤ a.length - 1 by omega)
    omega
/-- With equal higher figures and a greater one, the number is greater. -/
theorem dv_lt_of {B : Int} (hB : 0 < B) {a b : List Int} (ha : Dg B a) (hb : Dg B b) (i : Nat) (hi : i < a.length) (hj : i < b.length) (he : dv B (a.drop (i + 1)) = dv B (b.drop (i + 1))) (h : a.getD i 0 < b.getD i 0) : dv B a < dv B b := by
  have e1 := dv_split B a i hi
  have e2 := dv_split B b i hj
  have h1 := dv_lt hB (ha.take i)
  have h2 := dv_nonneg hB (hb.take i)
  rw [List.length_take, Nat.min_eq_left (by omega)] at h1
  rw [he] at e1
  have h3 : B ^ i * (a.getD i 0 + B * dv B (b.drop (i + 1)) + 1) ≤ B ^ i * (b.getD i 0 + B * dv B (b.drop (i + 1))) := Int.mul_le_mul_of_nonneg_left (by omega) (Int.le_of_lt (pow_pos_ hB _))
  rw [Int.mul_add, Int.mul_one] at h3
  omega
theorem dv_drop (B : Int) (l : List Int) (i : Nat) : dv B (l.drop i) = l.getD i 0 + B * dv B (l.drop (i + 1)) := by
  by_cases hi : i < l.length
  · rw [drop_cons hi 0]; rfl
  · rw [List.drop_eq_nil_of_le (by omega), List.drop_eq_nil_of_le (by omega), List.getD_eq_getElem?_getD, List.getElem?_eq_none (by omega)]; simp [dv]
theorem dv_parts (B : Int) (l : List Int) (i : Nat) : dv B l = dv B (l.take i) + B ^ i * dv B (l.drop i) := by
  by_cases hi : i ≤ l.length
  · have h := dv_append B (l.take i) (l.drop i)
    rw [List.take_append_drop, List.length_take, Nat.min_eq_left hi] at h
    exact h
  · rw [List.drop_eq_nil_of_le (by omega), List.take_of_length_le (by omega)]; simp [dv]
theorem dv_take_lt {B : Int} (hB : 0 < B) {l : List Int} (h : Dg B l) (i : Nat) : dv B (l.take i) < B ^ i := by
  have h1 := dv_lt hB (h.take i)
  have h2 := pow_mono (B := B) (by omega) (show (l.take i).length ≤ i by rw [List.length_take]; omega)
  omega
theorem dv_lt_at {B : Int} (hB : 0 < B) {a b : List Int} (ha : Dg B a) (hb : Dg B b) (i : Nat) (he : dv B (a.drop (i + 1)) = dv B (b.drop (i + 1))) (h : a.getD i 0 < b.getD i 0) : dv B a < dv B b := by
  have e1 := dv_parts B a i
  have e2 := dv_parts B b i
  rw [dv_drop] at e1 e2
  have h1 := dv_take_lt hB ha i
  have h2 := dv_nonneg hB (hb.take i)
  rw [he] at e1
  have h3 : B ^ i * (a.getD i 0 + B * dv B (b.drop (i + 1)) + 1) ≤ B ^ i * (b.getD i 0 + B * dv B (b.drop (i + 1))) := Int.mul_le_mul_of_nonneg_left (by omega) (Int.le_of_lt (pow_pos_ hB _))
  rw [Int.mul_add, Int.mul_one] at h3
  omega
theorem top_zero_lt {B : Int} (hB : 0 < B) {l : List Int} (h : Dg B l) (h0 : l ≠ []) (hz : l.getD (l.length - 1) 0 = 0) : dv B l < B ^ (l.length - 1) := by
  have hp : 0 < l.length := List.length_pos_iff.2 h0
  have e := dv_parts B l (l.length - 1)
  rw [dv_drop, hz, List.drop_eq_nil_of_le (by omega)] at e
  have h1 := dv_take_lt hB h (l.length - 1)
  have h5 : dv B [] = 0 := rfl
  rw [h5, Int.mul_zero, Int.add_zero, Int.mul_zero, Int.add_zero] at e
  omega
/-- Sums of places. -/
def ps (B : Int) (t : Nat → Int) : Nat → Int
  | 0 => 0
  | i + 1 => ps B t i + B ^ i * t i
theorem dv_map_range (B : Int) (o : Nat → Int) : ∀ i, dv B ((List.range i).map o) = ps B o i
  | 0 => rfl
  | i + 1 => by
    rw [List.range_succ, List.map_append, dv_append, dv_map_range B o i]
    simp [ps, dv]
theorem ps_getD (B : Int) (l : List Int) : ∀ i, ps B (fun j => l.getD j 0) i = dv B (l.take i)
  | 0 => by simp [ps, dv]
  | i + 1 => by
    show ps B (fun j => l.getD j 0) i + B ^ i * l.getD i 0 = _
    rw [ps_getD B l i]
    by_cases hi : i < l.length
    · rw [take_snoc hi 0, dv_append, List.length_take, Nat.min_eq_left (by omega)]; simp [dv]
    · rw [List.take_of_length_le (by omega), List.take_of_length_le (by omega), List.getD_eq_getElem?_getD, List.getElem?_eq_none (by omega)]; simp
theorem dv_take_succ (B : Int) (l : List Int) (i : Nat) : dv B (l.take (i + 1)) = dv B (l.take i) + B ^ i * l.getD i 0 := by
  rw [← ps_getD B l (i + 1), ← ps_getD B l i]; rfl
theorem ps_all (B : Int) (l : List Int) {i : Nat} (h : l.length ≤ i) : ps B (fun j => l.getD j 0) i = dv B l := by rw [ps_getD, List.take_of_length_le h]
theorem ps_add (B : Int) (s t : Nat → Int) : ∀ i, ps B (fun j => s j + t j) i = ps B s i + ps B t i
  | 0 => rfl
  | i + 1 => by simp only [ps, ps_add B s t i]; grind
theorem ps_sub (B : Int) (s t : Nat → Int) : ∀ i, ps B (fun j => s j - t j) i = ps B s i - ps B t i
  | 0 => rfl
  | i + 1 => by simp only [ps, ps_sub B s t i]; grind
theorem ps_mul (B q : Int) (s : Nat → Int) : ∀ i, ps B (fun j => q * s j) i = q * ps B s i
  | 0 => by simp [ps]
  | i + 1 => by simp only [ps, ps_mul B q s i]; grind
theorem ps_congr (B : Int) {s t : Nat → Int} : ∀ i, (∀ j, j < i → s j = t j) → ps B s i = ps B t i
  | 0, _ => rfl
  | i + 1, h => by simp only [ps]; rw [ps_congr B i (fun j hj => h j (by omega)), h i (by omega)]
/-- CARRIES: each place's figure and what is carried on are what is there and what came. -/
theorem carries (B : Int) (t o c : Nat → Int) : ∀ i, (∀ j, j < i → o j + B * c (j + 1) = t j + c j) → ps B o i + B ^ i * c i = ps B t i + c 0
  | 0, _ => by simp [ps]
  | i + 1, h => by
    have ih := carries B t o c i (fun j hj => h j (by omega))
    have hi := h i (by omega)
    simp only [ps]
    have : B ^ (i + 1) * c (i + 1) = B ^ i * (B * c (i + 1)) := by grind
    rw [this]
    have h2 : B ^ i * o i + B ^ i * (B * c (i + 1)) = B ^ i * t i + B ^ i * c i := by rw [← Int.mul_add, hi, Int.mul_add]
    omega
theorem dg_map_range {B : Int} {o : Nat → Int} {n : Nat} (h : ∀ j, j < n → 0 ≤ o j ∧ o j < B) : Dg B ((List.range n).map o) := fun x hx => by
  obtain ⟨j, hj, rfl⟩ := List.mem_map.1 hx
  exact h j (List.mem_range.1 hj)
end Go.Proofs.YtcidmdjhmhkmgaaDoor.L
end

-- NatA
section
set_option linter.unusedVariables false
namespace Go.Proofs.YtcidmdjhmhkmgaaDoor.Pure
open Go.RowKit Go.Proofs.YtcidmdjhmhkmgaaDoorW.PrintWords Go.Proofs.YtcidmdjhmhkmgaaDoorW.PrintMore Go.Proofs.YtcidmdjhmhkmgaaDoor.S Go.Proofs.YtcidmdjhmhkmgaaDoor.L

theorem bounds_u32 {n : Int} (h : (Lit.int .u32 n).wf = true) : 0 ≤ n ∧ n < 4294967296 := by
  simp [Lit.wf, IntKind.min, IntKind.max, IntKind.signed, IntKind.bits] at h
  omega
theorem u64_id {n : Int} (h0 : 0 ≤ n) (h1 : n < 18446744073709551616) : IntKind.u64.wrap n = n := by rw [IntKind.wrap_u64]; omega
theorem u64_mod (n : Int) : IntKind.u64.wrap n = n % 18446744073709551616 := IntKind.wrap_u64 n
theorem and32 {x : Int} (h0 : 0 ≤ x) (h1 : x < 18446744073709551616) : Go.bits .and .u64 x 4294967295 = x % 4294967296 := bits_mask .u64 64 (by decide) wraps_u64 32 (by decide) x h0 h1
abbrev D32 (l : List Int) : Prop := Dg 4294967296 l
abbrev C32 (l : List Int) : Prop := Cn 4294967296 l
abbrev v32 (l : List Int) : Int := dv 4294967296 l
theorem d32_of {l : List Int} (h : ∀ x ∈ l, (Lit.int .u32 x).wf = true) : D32 l := fun x hx => bounds_u32 (h x hx)
theorem K0 : (0 : Int) < 4294967296 := by decide
theorem K1 : (1 : Int) < 4294967296 := by decide
def rt (l : List Int) : Prop := l.length ≤ 256 ∧ (l ≠ [] → l.getD (l.length - 1) 0 ≠ 0)
instance (l : List Int) : Decidable (rt l) := by unfold rt; infer_instance
theorem rt_cn {l : List Int} (h : rt l) (hd : D32 l) : C32 l := ⟨hd, h.2⟩
theorem cn_rt {l : List Int} (h : C32 l) : rt l ↔ l.length ≤ 256 := ⟨fun x => x.1, fun x => ⟨x, h.top⟩⟩
theorem cn_rt' {l : List Int} (h : C32 l) : rt l ↔ v32 l < 4294967296 ^ 256 := (cn_rt h).trans (cn_len_le K1 h)
theorem last_wrap {l : List Int} (h0 : l ≠ []) (hl : l.length ≤ 1000000000) : wrap64 ((l.length : Int) - 1) = ((l.length - 1 : Nat) : Int) := by
  have : 0 < l.length := List.length_pos_iff.2 h0
  unfold wrap64; omega
theorem Right_eq {l : List Int} (hl : l.length ≤ 1000000000) : nat_Right.f l = some (decide (rt l)) := by
  unfold nat_Right.f
  by_cases h1 : (l.length : Int) ≤ 256
  · rw [if_pos h1]
    by_cases h2 : (l.length : Int) = 0
    · have : l = [] := List.eq_nil_of_length_eq_zero (by omega)
      subst this
      rfl
    · have h0 : l ≠ [] := fun e => h2 (by rw [e]; rfl)
      have hp : 0 < l.length := List.length_pos_iff.2 h0
      rw [if_neg h2, last_wrap h0 hl, if_pos (by omega), if_pos (by omega), rd_nat]
      congr 1
      rw [Bool.eq_iff_iff]
      simp only [bne_iff_ne, decide_eq_true_eq]
      exact ⟨fun h => ⟨by omega, fun _ => h⟩, fun h => h.2 h0⟩
  · rw [if_neg h1]
    exact congrArg some (decide_eq_false (fun h => h1 (by have := h.1; omega))).symm
theorem fit_eq {l : List Int} (hl : l.length ≤ 1000000000) : nat_fit.f l = some (if rt l then (l, 0) else ([], 4)) := by
  unfold nat_fit.f
  rw [Right_eq hl, Option.bind_some]
  by_cases h : rt l
  · rw [if_pos (by simpa using h), if_pos h]
  · rw [if_neg (by simpa using h), if_neg h]
theorem take_last {l : List Int} (h0 : l ≠ []) : l = l.take (l.length - 1) ++ [l.getD (l.length - 1) 0] := by
  have hp : 0 < l.length := List.length_pos_iff.2 h0
  rw [← take_snoc (by omega) 0, show l.length - 1 + 1 = l.length by omega, List.take_length]
theorem trim_loop : ∀ (n : Nat) (l : List Int), l.length = n → n ≤ 1000000000 → D32 l → ∃ r, Ev (fun k => nat_trim.l0 k l) r ∧ C32 r ∧ v32 r = v32 l ∧ r.length ≤ l.length
  | 0, l, hn, _, hd => by
    have : l = [] := List.eq_nil_of_length_eq_zero hn
    subst this
    exact ⟨[], Ev.step (fun k => by simp only [nat_trim.l0]; rfl) (ev_neg (by decide) ev_ret), cn_nil _, rfl, Nat.le_refl _⟩
  | n + 1, l, hn, hb, hd => by
    have h0 : l ≠ [] := fun e => by rw [e] at hn; simp at hn
    have hw := last_wrap h0 (by omega)
    by_cases hz : l.getD (l.length - 1) 0 = 0
    · have hl : (l.take (l.length - 1)).length = n := by rw [List.length_take]; omega
      obtain ⟨r, h1, h2, h3, h4⟩ := trim_loop n (l.take (l.length - 1)) hl (by omega) (hd.take _)
      refine ⟨r, Ev.step (fun k => by simp only [nat_trim.l0]; rfl) ?_, h2, ?_, by omega⟩
      · rw [hw]
        refine ev_pos (by omega) (ev_pos (by omega) (ev_pos (by omega) ?_))
        rw [rd_nat, Int.toNat_natCast]
        exact ev_pos hz (ev_pos (by omega) h1)
      · rw [h3]
        have e := dv_append 4294967296 (l.take (l.length - 1)) [l.getD (l.length - 1) 0]
        rw [← take_last h0, hz] at e
        show dv _ _ = dv _ _
        rw [e]
        simp [dv]
    · refine ⟨l, Ev.step (fun k => by simp only [nat_trim.l0]; rfl) ?_, ⟨hd, fun _ => hz⟩, rfl, Nat.le_refl _⟩
      rw [hw]
      refine ev_pos (by omega) (ev_pos (by omega) (ev_pos (by omega) ?_))
      rw [rd_nat]
      exact ev_neg hz ev_ret
theorem trim_ev {l : List Int} (hl : l.length ≤ 1000000000) (hd : D32 l) : ∃ r, Ev (fun k => nat_trim.f k l) r ∧ C32 r ∧ v32 r = v32 l ∧ r.length ≤ l.length := trim_loop _ l rfl hl hd

theorem atv_eq {l : List Int} (hd : D32 l) (i : Nat) : atv l i = l.getD i 0 := by
  unfold atv
  have h := hd.get K0 i
  by_cases hi : (l.length : Int) ≤ (i : Int)
  · rw [if_pos hi, List.getD_eq_getElem?_getD, List.getElem?_eq_none (by omega)]; rfl
  · rw [if_neg hi, rd_nat]; exact u64_id h.1 (by omega)
theorem addSum_eq {a b : List Int} (ha : D32 a) (hb : D32 b) {c : Int} (h0 : 0 ≤ c) (h1 : c ≤ 1) (i : Nat) : addSum a b c i = a.getD i 0 + b.getD i 0 + c := by
  have h2 := ha.get K0 i
  have h3 := hb.get K0 i
  unfold addSum
  rw [atv_eq ha, atv_eq hb, u64_id (n := a.getD i 0 + b.getD i 0) (by omega) (by omega), u64_id (by omega) (by omega)]
  omega
theorem addC_le {a b : List Int} (ha : D32 a) (hb : D32 b) : ∀ i, 0 ≤ addC a b i ∧ addC a b i ≤ 1
  | 0 => by simp [addC]
  | i + 1 => by
    have ih := addC_le ha hb i
    have h2 := ha.get K0 i
    have h3 := hb.get K0 i
    simp only [addC]
    rw [addSum_eq ha hb ih.1 ih.2]
    omega
theorem add_ev {a b : List Int} (ha : D32 a) (hb : D32 b) (hla : a.length ≤ 1000) (hlb : b.length ≤ 1000) : ∃ r, Ev (fun k => nat_add.f k a b) r ∧ C32 r ∧ v32 r = v32 a + v32 b ∧ r.length ≤ max a.length b.length + 1 := by
  have hs : ∀ j, addSum a b (addC a b j) j = a.getD j 0 + b.getD j 0 + addC a b j := fun j => addSum_eq ha hb (addC_le ha hb j).1 (addC_le ha hb j).2 j
  have hV : ∀ j, addV a b j % 4294967296 = addSum a b (addC a b j) j % 4294967296 := fun j => by
    have h2 := ha.get K0 j
    have h3 := hb.get K0 j
    have h4 := addC_le ha hb j
    unfold addV
    rw [and32 (by rw [hs]; omega) (by rw [hs]; omega)]
    omega
  obtain ⟨m, hm⟩ : ∃ m, m = max a.length b.length + 1 := ⟨_, rfl⟩
  have hd : D32 ((List.range m).map fun j => addV a b j % 4294967296) := dg_map_range (fun j _ => by omega)
  obtain ⟨r, h1, h2, h3, h4⟩ := trim_ev (l := (List.range m).map fun j => addV a b j % 4294967296) (by simp; omega) hd
  refine ⟨r, ?_, h2, ?_, by simpa [hm] using h4⟩
  · unfold nat_add.f
    rw [← hm]
    exact ev_pos (by omega) h1
  · rw [h3]
    have hc := carries 4294967296 (fun j => a.getD j 0 + b.getD j 0) (fun j => addV a b j % 4294967296) (addC a b) m (fun j _ => by
      show addV a b j % 4294967296 + 4294967296 * (addSum a b (addC a b j) j / 4294967296) = _
      rw [hV, hs]
      omega)
    rw [ps_add, ps_all _ _ (by omega), ps_all _ _ (by omega), ← dv_map_range] at hc
    simp only [addC] at hc
    have hlt : dv 4294967296 a + dv 4294967296 b < 4294967296 ^ m := by
      have e1 := dv_lt K0 ha
      have e2 := dv_lt K0 hb
      have e3 := pow_mono (B := 4294967296) (by decide) (show a.length ≤ m - 1 by omega)
      have e4 := pow_mono (B := 4294967296) (by decide) (show b.length ≤ m - 1 by omega)
      have e6 := pow_pos_ K0 (m - 1)
      have e5 : (4294967296 : Int) ^ m = 4294967296 * 4294967296 ^ (m - 1) := by
        rw [show m = (m - 1) + 1 by omega, Int.pow_succ, Int.mul_comm]; rfl
      omega
    have hn := dv_nonneg K0 hd
    have hcm := addC_le ha hb m
    have : addC a b m = 0 := by
      rcases Int.lt_or_le 0 (addC a b m) with h | h
      · have e : addC a b m = 1 := by omega
        rw [e] at hc
        omega
      · omega
    rw [this] at hc
    show dv _ _ = dv _ _ + dv _ _
    omega
theorem Add_ev {a b : List Int} (ha : D32 a) (hb : D32 b) (hla : a.length ≤ 1000) (hlb : b.length ≤ 1000) : ∃ r e, Ev (fun k => nat_Add.f k a b) (r, e) ∧
    ((¬ (rt a ∧ rt b) ∧ r = [] ∧ e = 1) ∨ (rt a ∧ rt b ∧ ((v32 a + v32 b < 4294967296 ^ 256 ∧ C32 r ∧ v32 r = v32 a + v32 b ∧ e = 0) ∨ (4294967296 ^ 256 ≤ v32 a + v32 b ∧ r = [] ∧ e = 4)))) := by
  by_cases h1 : rt a
  · by_cases h2 : rt b
    · obtain ⟨s, hs, hc, hv, hl⟩ := add_ev ha hb hla hlb
      have hf := fit_eq (l := s) (by omega)
      have hE : ∀ p, nat_fit.f s = some p → Ev (fun k => nat_Add.f k a b) p := fun p hp => by
        unfold nat_Add.f
        refine ev_pure (Right_eq (by omega)) (ev_pos (by simpa using h1) (ev_pure (Right_eq (by omega)) ?_))
        exact Ev.step (fun k => by simp only [nat_Add.j0]; rfl) (ev_neg (by simpa using h2) (ev_call hs (ev_pure hp ev_ret)))
      by_cases h3 : rt s
      · rw [if_pos h3] at hf
        have := (cn_rt' hc).1 h3
        exact ⟨_, _, hE _ hf, .inr ⟨h1, h2, .inl ⟨by omega, hc, hv, rfl⟩⟩⟩
      · rw [if_neg h3] at hf
        have : ¬ v32 s < 4294967296 ^ 256 := fun h => h3 ((cn_rt' hc).2 h)
        exact ⟨_, _, hE _ hf, .inr ⟨h1, h2, .inr ⟨by omega, rfl, rfl⟩⟩⟩
    · refine ⟨[], 1, ?_, .inl ⟨fun h => h2 h.2, rfl, rfl⟩⟩
      unfold nat_Add.f
      refine ev_pure (Right_eq (by omega)) (ev_pos (by simpa using h1) (ev_pure (Right_eq (by omega)) ?_))
      exact Ev.step (fun k => by simp only [nat_Add.j0]; rfl) (ev_pos (by simpa using h2) ev_ret)
  · refine ⟨[], 1, ?_, .inl ⟨fun h => h1 h.1, rfl, rfl⟩⟩
    unfold nat_Add.f
    refine ev_pure (Right_eq (by omega)) (ev_neg (by simpa using h1) ?_)
    exact Ev.step (fun k => by simp only [nat_Add.j0]; rfl) (ev_pos (c := true = true) rfl ev_ret)

/-! ### order, sub -/
theorem cmpi_eq (a b : Int) : cmp_Compare_int.f a b = some (if a < b then -1 else if a > b then 1 else 0) := by
  unfold cmp_Compare_int.f cmp_isNaN_int.f
  have h1 : (a != a) = false := by simp
  have h2 : (b != b) = false := by simp
  simp only [Option.bind_some, h1, h2]
  by_cases h : a < b
  · simp [h]
  · by_cases h' : a > b <;> simp [h, h']
theorem cmpu_eq (a b : Int) : cmp_Compare_uint32.f a b = some (if a < b then -1 else if a > b then 1 else 0) := by
  unfold cmp_Compare_uint32.f cmp_isNaN_uint32.f
  have h1 : (a != a) = false := by simp
  have h2 : (b != b) = false := by simp
  simp only [Option.bind_some, h1, h2]
  by_cases h : a < b
  · simp [h]
  · by_cases h' : a > b <;> simp [h, h']
def sgn (a b : Int) : Int := if a < b then -1 else if a > b then 1 else 0
theorem sgn_lt {a b : Int} (h : a < b) : sgn a b = -1 := by simp [sgn, h]
theorem sgn_gt {a b : Int} (h : b < a) : sgn a b = 1 := by unfold sgn; rw [if_neg (by omega), if_pos (by omega)]
theorem sgn_eq (a : Int) : sgn a a = 0 := by simp [sgn]
theorem dec64 {i : Nat} (h : i ≤ 1000000000) : wrap64 ((i : Int) - 1) = (i : Int) - 1 := by unfold wrap64; omega
theorem order_loop {a b : List Int} (ha : D32 a) (hb : D32 b) (hl : a.length = b.length) (hm : a.length ≤ 1000000000) : ∀ i, i ≤ a.length → a.drop i = b.drop i → Ev (fun k => nat_order.l0 k a b ((i : Int) - 1)) (sgn (v32 a) (v32 b))
  | 0, _, he => by
    have : a = b := he
    subst this
    rw [sgn_eq]
    exact Ev.step (fun k => by simp only [nat_order.l0]; rfl) (ev_neg (by omega) ev_ret)
  | i + 1, hi, he => by
    have e1 : ((i + 1 : Nat) : Int) - 1 = (i : Int) := by omega
    rw [e1]
    refine Ev.step (fun k => by simp only [nat_order.l0]; rfl) ?_
    refine ev_pos (by omega) (ev_pos (by omega) (ev_pos (by omega) (ev_pos (by omega) ?_)))
    rw [rd_nat, rd_nat]
    refine ev_pure (cmpu_eq _ _) ?_
    have hdv : dv 4294967296 (a.drop (i + 1)) = dv 4294967296 (b.drop (i + 1)) := by rw [he]
    by_cases h1 : a.getD i 0 < b.getD i 0
    · rw [if_pos h1]
      rw [sgn_lt (dv_lt_of K0 ha hb i (by omega) (by omega) hdv h1)]
      exact ev_neg (by decide) ev_ret
    · rw [if_neg h1]
      by_cases h2 : a.getD i 0 > b.getD i 0
      · rw [if_pos h2]
        rw [sgn_gt (dv_lt_of K0 hb ha i (by omega) (by omega) hdv.symm h2)]
        exact ev_neg (by decide) ev_ret
      · rw [if_neg h2]
        refine ev_pos rfl ?_
        rw [dec64 (by omega)]
        refine order_loop ha hb hl hm i (by omega) ?_
        rw [drop_cons (show i < a.length by omega) 0, drop_cons (show i < b.length by omega) 0, he, show a.getD i 0 = b.getD i 0 by omega]
theorem order_ev {a b : List Int} (ha : C32 a) (hb : C32 b) (hla : a.length ≤ 1000000) (hlb : b.length ≤ 1000000) : Ev (fun k => nat_order.f k a b) (sgn (v32 a) (v32 b)) := by
  unfold nat_order.f
  refine ev_pure (cmpi_eq _ _) ?_
  rcases Nat.lt_trichotomy a.length b.length with h | h | h
  · rw [if_pos (by omega), sgn_lt (cn_len_lt K0 ha.dg hb h)]
    exact ev_neg (by decide) ev_ret
  · rw [if_neg (by omega), if_neg (by omega)]
    refine ev_pos rfl ?_
    rw [dec64 (by omega)]
    exact order_loop ha.dg hb.dg h (by omega) a.length (Nat.le_refl _) (by rw [List.drop_length, h, List.drop_length])
  · rw [if_neg (by omega), if_pos (by omega), sgn_gt (cn_len_lt K0 hb.dg ha h)]
    exact ev_neg (by decide) ev_ret

def sb (n : Int) : Int := if n < 0 then 1 else 0
theorem subN_eq {a b : List Int} (ha : D32 a) (hb : D32 b) {c : Int} (h0 : 0 ≤ c) (h1 : c ≤ 1) (i : Nat) : subN a b c i = (a.getD i 0 - b.getD i 0 - c) % 18446744073709551616 := by
  have h2 := ha.get K0 i
  have h3 := hb.get K0 i
  unfold subN
  rw [atv_eq ha, atv_eq hb, u64_mod, u64_mod]
  omega
theorem subB_step {a b : List Int} (ha : D32 a) (hb : D32 b) {c : Int} (h0 : 0 ≤ c) (h1 : c ≤ 1) (i : Nat) : Go.bits .and .u64 (subN a b c i / 8589934592) 1 = sb (a.getD i 0 - b.getD i 0 - c) := by
  have h2 := ha.get K0 i
  have h3 := hb.get K0 i
  rw [subN_eq ha hb h0 h1, Go.Lib.u64_and1 _ (by omega) (by omega)]
  unfold sb
  split <;> omega
theorem subB_le {a b : List Int} (ha : D32 a) (hb : D32 b) : ∀ i, 0 ≤ subB a b i ∧ subB a b i ≤ 1
  | 0 => by simp [subB]
  | i + 1 => by
    have ih := subB_le ha hb i
    simp only [subB]
    rw [subB_step ha hb ih.1 ih.2]
    unfold sb
    split <;> omega
theorem sub_ev {a b : List Int} (ha : C32 a) (hb : C32 b) (hla : a.length ≤ 1000) (hle : v32 b ≤ v32 a) : ∃ r, Ev (fun k => nat_sub.f k a b) r ∧ C32 r ∧ v32 r = v32 a - v32 b ∧ r.length ≤ a.length := by
  have hlb : b.length ≤ a.length := Nat.le_of_not_lt fun h => by have := cn_len_lt K0 ha.dg hb h; show False; have h2 : dv 4294967296 b ≤ dv 4294967296 a := hle; omega
  have hN := fun j => subN_eq ha.dg hb.dg (subB_le ha.dg hb.dg j).1 (subB_le ha.dg hb.dg j).2 j
  have hV : ∀ j, subV a b j % 4294967296 = (a.getD j 0 - b.getD j 0 - subB a b j) % 4294967296 := fun j => by
    unfold subV
    rw [and32 (by rw [hN]; omega) (by rw [hN]; omega), hN]
    omega
  have hd : D32 ((List.range a.length).map fun j => subV a b j % 4294967296) := dg_map_range (fun j _ => by omega)
  obtain ⟨r, h1, h2, h3, h4⟩ := trim_ev (l := (List.range a.length).map fun j => subV a b j % 4294967296) (by simp; omega) hd
  refine ⟨r, ?_, h2, ?_, by simpa using h4⟩
  · unfold nat_sub.f
    exact ev_pos (by omega) h1
  · rw [h3]
    have hc := carries 4294967296 (fun j => a.getD j 0 - b.getD j 0) (fun j => subV a b j % 4294967296) (fun j => - subB a b j) a.length (fun j _ => by
      show subV a b j % 4294967296 + 4294967296 * (- Go.bits .and .u64 (subN a b (subB a b j) j / 8589934592) 1) = _
      have g1 := ha.dg.get K0 j
      have g2 := hb.dg.get K0 j
      have g3 := subB_le ha.dg hb.dg j
      rw [hV, subB_step ha.dg hb.dg g3.1 g3.2]
      unfold sb
      split <;> omega)
    rw [ps_sub, ps_all _ _ (Nat.le_refl _), ps_all _ _ hlb, ← dv_map_range] at hc
    simp only [subB] at hc
    have hlt := dv_lt K0 hd
    rw [List.length_map, List.length_range] at hlt
    have hcm := subB_le ha.dg hb.dg a.length
    have h2 : dv 4294967296 b ≤ dv 4294967296 a := hle
    have : subB a b a.length = 0 := by
      rcases Int.lt_or_le 0 (subB a b a.length) with h | h
      · have e : subB a b a.length = 1 := by omega
        rw [e] at hc
        omega
      · omega
    rw [this] at hc
    show dv _ _ = dv _ _ - dv _ _
    omega
theorem Sub_ev {a b : List Int} (ha : D32 a) (hb : D32 b) (hla : a.length ≤ 1000) (hlb : b.length ≤ 1000) : ∃ r e, Ev (fun k => nat_Sub.f k a b) (r, e) ∧
    ((¬ (rt a ∧ rt b) ∧ r = [] ∧ e = 1) ∨ (rt a ∧ rt b ∧ ((v32 a < v32 b ∧ r = [] ∧ e = 2) ∨ (v32 b ≤ v32 a ∧ C32 r ∧ rt r ∧ v32 r = v32 a - v32 b ∧ e = 0)))) := by
  by_cases h1 : rt a
  · by_cases h2 : rt b
    · have ca := rt_cn h1 ha
      have cb := rt_cn h2 hb
      have ho := order_ev ca cb (by omega) (by omega)
      have hE : ∀ p, Ev (fun k => (nat_order.f k a b).bind fun t128 => (if t128 < 0 then (some (([] : List Int), (2 : Int))) else ((nat_sub.f k a b).bind fun t129 => (some (t129, 0))))) p → Ev (fun k => nat_Sub.f k a b) p := fun p hp => by
        unfold nat_Sub.f
        refine ev_pure (Right_eq (by omega)) (ev_pos (by simpa using h1) (ev_pure (Right_eq (by omega)) ?_))
        exact Ev.step (fun k => by simp only [nat_Sub.j0]; rfl) (ev_neg (by simpa using h2) hp)
      by_cases h3 : v32 a < v32 b
      · rw [sgn_lt h3] at ho
        exact ⟨[], 2, hE _ (ev_call ho (ev_pos (by decide) ev_ret)), .inr ⟨h1, h2, .inl ⟨h3, rfl, rfl⟩⟩⟩
      · obtain ⟨r, hr, hc, hv, hl⟩ := sub_ev ca cb hla (by omega)
        refine ⟨r, 0, hE _ (ev_call ho (ev_neg ?_ (ev_call hr ev_ret))), .inr ⟨h1, h2, .inr ⟨by omega, hc, ⟨by have := h1.1; omega, hc.top⟩, hv, rfl⟩⟩⟩
        unfold sgn
        rw [if_neg h3]
        split <;> omega
    · refine ⟨[], 1, ?_, .inl ⟨fun h => h2 h.2, rfl, rfl⟩⟩
      unfold nat_Sub.f
      refine ev_pure (Right_eq (by omega)) (ev_pos (by simpa using h1) (ev_pure (Right_eq (by omega)) ?_))
      exact Ev.step (fun k => by simp only [nat_Sub.j0]; rfl) (ev_pos (by simpa using h2) ev_ret)
  · refine ⟨[], 1, ?_, .inl ⟨fun h => h1 h.1, rfl, rfl⟩⟩
    unfold nat_Sub.f
    refine ev_pure (Right_eq (by omega)) (ev_neg (by simpa using h1) ?_)
    exact Ev.step (fun k => by simp only [nat_Sub.j0]; rfl) (ev_pos (c := true = true) rfl ev_ret)
end Go.Proofs.YtcidmdjhmhkmgaaDoor.Pure
end

-- RefA
section
set_option linter.unusedVariables false
namespace Go.Proofs.YtcidmdjhmhkmgaaDoor.Pure
open Go.RowKit Go.Proofs.YtcidmdjhmhkmgaaDoorW.PrintWords Go.Proofs.YtcidmdjhmhkmgaaDoorW.PrintMore Go.Proofs.YtcidmdjhmhkmgaaDoor.S Go.Proofs.YtcidmdjhmhkmgaaDoor.L

abbrev D16 (l : List Int) : Prop := Dg 65536 l
abbrev C16 (l : List Int) : Prop := Cn 65536 l
abbrev v16 (l : List Int) : Int := dv 65536 l
theorem G0 : (0 : Int) < 65536 := by decide
theorem G1 : (1 : Int) < 65536 := by decide
theorem tmod_pos {a b : Int} (ha : 0 ≤ a) : Int.tmod a b = a % b := Int.tmod_eq_emod_of_nonneg ha
theorem tdiv_pos {a b : Int} (ha : 0 ≤ a) : Int.tdiv a b = a / b := Int.tdiv_eq_ediv_of_nonneg ha
theorem w64_id {x : Int} (h1 : 0 ≤ x) (h2 : x ≤ 9223372036854775807) : wrap64 x = x := wrap_id (by omega) h2
theorem RightR_eq {l : List Int} (hl : l.length ≤ 1000000000) : cashbookref01_Right.f l = some (decide (rt l)) := Right_eq hl
theorem trimR_loop {l : List Int} (hd : D16 l) (hb : l.length ≤ 1000000000) : ∀ n : Nat, n ≤ l.length → v16 (l.take n) = v16 l → ∃ r, Ev (fun k => cashbookref01_trim.l0 k l (n : Int)) r ∧ C16 r ∧ v16 r = v16 l ∧ r.length ≤ l.length
  | 0, hn, hv => by
    refine ⟨[], Ev.step (fun k => by simp only [cashbookref01_trim.l0]; rfl) (ev_neg (by decide) (ev_pos (by decide) (ev_pos (by omega) (ev_eq (by simp))))), cn_nil _, ?_, by simp⟩
    rw [← hv]; simp
  | n + 1, hn, hv => by
    have e1 : wrap64 (((n + 1 : Nat) : Int) - 1) = (n : Int) := by unfold wrap64; omega
    by_cases hz : l.getD n 0 = 0
    · have hv2 : v16 (l.take n) = v16 l := by
        have e := dv_take_succ 65536 l n
        rw [hz, Int.mul_zero, Int.add_zero] at e
        show dv _ _ = _
        rw [← e]; exact hv
      obtain ⟨r, h1, h2, h3, h4⟩ := trimR_loop hd hb n (by omega) hv2
      refine ⟨r, Ev.step (fun k => by simp only [cashbookref01_trim.l0]; rfl) ?_, h2, h3, h4⟩
      rw [e1]
      refine ev_pos (by omega) (ev_pos (by omega) (ev_pos (by omega) ?_))
      rw [rd_nat]
      exact ev_pos hz h1
    · refine ⟨l.take (n + 1), Ev.step (fun k => by simp only [cashbookref01_trim.l0]; rfl) ?_, ⟨hd.take _, fun _ => ?_⟩, hv, by rw [List.length_take]; omega⟩
      · rw [e1]
        refine ev_pos (by omega) (ev_pos (by omega) (ev_pos (by omega) ?_))
        rw [rd_nat]
        refine ev_neg hz (ev_pos (by omega) (ev_pos (by omega) ?_))
        rw [Int.toNat_natCast]
        exact ev_ret
      · rw [List.length_take, Nat.min_eq_left hn, Nat.add_sub_cancel, List.getD_eq_getElem?_getD, List.getElem?_take, if_pos (by omega), ← List.getD_eq_getElem?_getD]
        exact hz
theorem trimR_ev {l : List Int} (hd : D16 l) (hb : l.length ≤ 1000000000) : ∃ r, Ev (fun k => cashbookref01_trim.f k l) r ∧ C16 r ∧ v16 r = v16 l ∧ r.length ≤ l.length :=
  trimR_loop hd hb l.length (Nat.le_refl _) (by rw [List.take_length])
theorem pow_pair (i : Nat) : (65536 : Int) ^ (2 * i) = 4294967296 ^ i := by rw [Int.pow_mul]; rfl
theorem figs_loop {a : List Int} (ha : D32 a) (hl : a.length ≤ 100000) : ∀ i, i ≤ a.length → ∀ x3 : List Int, D16 x3 → x3.length = 2 * i → v16 x3 = v32 (a.take i) → ∃ r, Ev (fun k => cashbookref01_figures.l0 k a x3 (i : Int)) r ∧ C16 r ∧ v16 r = v32 a ∧ r.length ≤ 2 * a.length := by
  refine down a.length ?_ ?_
  · intro x3 hd hn hv
    obtain ⟨r, h1, h2, h3, h4⟩ := trimR_ev hd (by omega)
    refine ⟨r, Ev.step (fun k => by simp only [cashbookref01_figures.l0]; rfl) (ev_neg (by omega) (ev_call h1 ev_ret)), h2, ?_, by omega⟩
    rw [h3, hv, List.take_length]
  · intro i hi ih x3 hd hn hv
    have hg := ha.get K0 i
    have e1 : wrap64 (rd a (i : Int)) = a.getD i 0 := by rw [rd_nat]; exact w64_id hg.1 (by omega)
    have e2 : wrap64 (Int.tdiv (a.getD i 0) 65536) = a.getD i 0 / 65536 := by rw [tdiv_pos hg.1]; exact w64_id (by omega) (by omega)
    obtain ⟨r, h1, h2, h3, h4⟩ := ih (x3 ++ [a.getD i 0 % 65536, a.getD i 0 / 65536]) (hd.append (Dg.cons (by omega) (Dg.cons (by omega) (Dg.nil _)))) (by simp; omega) (by
      show dv _ _ = dv _ _
      rw [dv_append, hn, dv_take_succ, pow_pair]
      have hv' : dv 65536 x3 = dv 4294967296 (a.take i) := hv
      rw [hv']
      have e3 : dv 65536 [a.getD i 0 % 65536, a.getD i 0 / 65536] = a.getD i 0 := by simp only [dv]; omega
      rw [e3])
    refine ⟨r, Ev.step (fun k => by simp only [cashbookref01_figures.l0]; rfl) ?_, h2, h3, h4⟩
    refine ev_pos (by omega) (ev_pos (by omega) (ev_let ?_))
    rw [e1, e2, tmod_pos hg.1]
    refine ev_pos (by simp; omega) ?_
    rw [inc64 (by omega)]
    exact h1
theorem figs_ev {a : List Int} (ha : D32 a) (hl : a.length ≤ 100000) : ∃ r, Ev (fun k => cashbookref01_figures.f k a) r ∧ C16 r ∧ v16 r = v32 a ∧ r.length ≤ 2 * a.length :=
  figs_loop ha hl 0 (by omega) [] (Dg.nil _) rfl rfl
theorem nat_loop {l : List Int} (hd : D16 l) (hl : l.length ≤ 1000000) : ∀ (d j : Nat), l.length + 1 - 2 * j ≤ d → 2 * j ≤ l.length + 1 → ∀ x3 : List Int, D32 x3 → x3.length = j → v32 x3 = v16 (l.take (2 * j)) → ∃ r, Ev (fun k => cashbookref01_nat.l0 k l x3 ((2 * j : Nat) : Int)) r ∧ D32 r ∧ v32 r = v16 l ∧ 2 * r.length ≤ l.length + 1
  | d, j, hdj, hj, x3, h3, hn, hv => by
    by_cases hlt : 2 * j < l.length
    · match d, hdj with
      | 0, hdj => omega
      | d + 1, hdj =>
        have g1 := hd.get G0 (2 * j)
        have g2 := hd.get G0 (2 * j + 1)
        have ew : wrap64 (((2 * j : Nat) : Int) + 1) = ((2 * j + 1 : Nat) : Int) := by unfold wrap64; omega
        have ew2 : wrap64 (((2 * j : Nat) : Int) + 2) = ((2 * (j + 1) : Nat) : Int) := by unfold wrap64; omega
        have hstep : ∀ n : Int, n = l.getD (2 * j) 0 + 65536 * l.getD (2 * j + 1) 0 → ∃ r, Ev (fun k => cashbookref01_nat.l0 k l (x3 ++ [n]) ((2 * (j + 1) : Nat) : Int)) r ∧ D32 r ∧ v32 r = v16 l ∧ 2 * r.length ≤ l.length + 1 := by
          intro n e
          refine nat_loop hd hl d (j + 1) (by omega) (by omega) (x3 ++ [n]) (h3.append (Dg.cons (by omega) (Dg.nil _))) (by simp; omega) ?_
          show dv _ _ = dv _ _
          have hv' : dv 4294967296 x3 = dv 65536 (l.take (2 * j)) := hv
          rw [dv_append, hn, hv', show 2 * (j + 1) = 2 * j + 1 + 1 by omega, dv_take_succ, dv_take_succ, Int.pow_succ, pow_pair, e]
          simp only [dv]
          grind
        by_cases hlt2 : 2 * j + 1 < l.length
        · obtain ⟨r, q1, q2, q3, q4⟩ := hstep _ rfl
          refine ⟨r, Ev.step (fun k => by simp only [cashbookref01_nat.l0]; rfl) ?_, q2, q3, q4⟩
          rw [ew, ew2]
          refine ev_pos (by omega) (ev_pos (by omega) (ev_pos (by omega) (ev_pos (by omega) (ev_pos (by omega) ?_))))
          rw [rd_nat, rd_nat, w64_id (x := 65536 * l.getD (2 * j + 1) 0) (by omega) (by omega), w64_id (by omega) (by omega), Int.emod_eq_of_lt (by omega) (by omega)]
          exact q1
        · have hz : l.getD (2 * j + 1) 0 = 0 := by rw [List.getD_eq_getElem?_getD, List.getElem?_eq_none (by omega)]; rfl
          obtain ⟨r, q1, q2, q3, q4⟩ := hstep (l.getD (2 * j) 0) (by rw [hz]; omega)
          refine ⟨r, Ev.step (fun k => by simp only [cashbookref01_nat.l0]; rfl) ?_, q2, q3, q4⟩
          rw [ew, ew2]
          refine ev_pos (by omega) (ev_pos (by omega) (ev_neg (by omega) (ev_pos (by omega) ?_)))
          rw [rd_nat, Int.emod_eq_of_lt (by omega) (by omega)]
          exact q1
    · refine ⟨x3, Ev.step (fun k => by simp only [cashbookref01_nat.l0]; rfl) (ev_neg (by omega) ev_ret), h3, ?_, by omega⟩
      rw [hv, List.take_of_length_le (by omega)]
theorem nat_ev {l : List Int} (hc : C16 l) (hl : l.length ≤ 1000000) : ∃ r, Ev (fun k => cashbookref01_nat.f k l) r ∧ C32 r ∧ v32 r = v16 l ∧ 2 * r.length ≤ l.length + 1 := by
  obtain ⟨r, h1, h2, h3, h4⟩ := nat_loop hc.dg hl (l.length + 1) 0 (by omega) (by omega) [] (Dg.nil _) rfl rfl
  refine ⟨r, h1, ⟨h2, fun h0 hz => ?_⟩, h3, h4⟩
  have e1 := top_zero_lt K0 h2 h0 hz
  have hp : 0 < r.length := List.length_pos_iff.2 h0
  have hl0 : l ≠ [] := fun e => by
    subst e
    simp at h4; omega
  have e2 := cn_pow_le G0 hc hl0
  have e3 := pow_mono (B := 65536) (by decide) (show 2 * (r.length - 1) ≤ l.length - 1 by omega)
  rw [pow_pair] at e3
  have h3' : dv 4294967296 r = dv 65536 l := h3
  omega
theorem fitR_ev {l : List Int} (hd : D16 l) (hl : l.length ≤ 1000000) : ∃ r e, Ev (fun k => cashbookref01_fit.f k l) (r, e) ∧ ((v16 l < 4294967296 ^ 256 ∧ C32 r ∧ v32 r = v16 l ∧ e = 0) ∨ (4294967296 ^ 256 ≤ v16 l ∧ r = [] ∧ e = 4)) := by
  obtain ⟨t, h1, h2, h3, h4⟩ := trimR_ev hd (by omega)
  obtain ⟨r, q1, q2, q3, q4⟩ := nat_ev h2 (by omega)
  by_cases h5 : rt r
  · have := (cn_rt' q2).1 h5
    exact ⟨r, 0, ev_call h1 (ev_call q1 (ev_pure (RightR_eq (by omega)) (ev_pos (by simpa using h5) ev_ret))), .inl ⟨by omega, q2, by omega, rfl⟩⟩
  · have : ¬ v32 r < 4294967296 ^ 256 := fun h => h5 ((cn_rt' q2).2 h)
    exact ⟨[], 4, ev_call h1 (ev_call q1 (ev_pure (RightR_eq (by omega)) (ev_neg (by simpa using h5) ev_ret))), .inr ⟨by omega, rfl, rfl⟩⟩
theorem at_eq (l : List Int) (i : Nat) : cashbookref01_at.f l (i : Int) = some (l.getD i 0) := by
  unfold cashbookref01_at.f
  rw [if_neg (by omega)]
  by_cases h : (i : Int) ≥ (l.length : Int)
  · rw [if_pos h, List.getD_eq_getElem?_getD, List.getElem?_eq_none (by omega)]; rfl
  · rw [if_neg h, if_pos (by omega), if_pos (by omega), rd_nat]
theorem Same_ev {a : List Int} (hl : a.length ≤ 1000000000) : Ev (fun k => cashbookref01_Same.f k a a) true := by
  have h : ∀ i, i ≤ a.length → Ev (fun k => cashbookref01_Same.l0 k a a (i : Int)) true := by
    refine down a.length ?_ ?_
    · exact Ev.step (fun k => by simp only [cashbookref01_Same.l0]; rfl) (ev_neg (by omega) ev_ret)
    · intro i hi ih
      refine Ev.step (fun k => by simp only [cashbookref01_Same.l0]; rfl) (ev_pos (by omega) (ev_pos (by omega) (ev_pos (by omega) (ev_pos (c := rd a (i : Int) = rd a (i : Int)) rfl ?_))))
      rw [inc64 (by omega)]
      exact ih
  unfold cashbookref01_Same.f
  exact ev_pos (c := (a.length : Int) = (a.length : Int)) rfl (h 0 (by omega))
end Go.Proofs.YtcidmdjhmhkmgaaDoor.Pure
end

-- RefB
section
set_option linter.unusedVariables false
namespace Go.Proofs.YtcidmdjhmhkmgaaDoor.Pure
open Go.RowKit Go.Proofs.YtcidmdjhmhkmgaaDoorW.PrintWords Go.Proofs.YtcidmdjhmhkmgaaDoorW.PrintMore Go.Proofs.YtcidmdjhmhkmgaaDoor.S Go.Proofs.YtcidmdjhmhkmgaaDoor.L

theorem sum_j1 {x y : List Int} (hx : D16 x) (hy : D16 y) {i : Nat} {x5 : List Int} {c : Int} (h0 : 0 ≤ c) (h1 : c ≤ 1) (hl : x5.length ≤ 1000000) (hi : i ≤ 1000000) {r : List Int}
    (h : Ev (fun k => cashbookref01_sum.l0 k x y (x5 ++ [(x.getD i 0 + y.getD i 0 + c) % 65536]) ((x.getD i 0 + y.getD i 0 + c) / 65536) ((i + 1 : Nat) : Int)) r) :
    Ev (fun k => cashbookref01_sum.j1 k x y x5 c (i : Int) true) r := by
  have g1 := hx.get G0 i
  have g2 := hy.get G0 i
  refine Ev.step (fun k => by simp only [cashbookref01_sum.j1]; rfl) (ev_pos (c := true = true) rfl (ev_pure (at_eq x i) (ev_pure (at_eq y i) ?_)))
  refine ev_pos (by omega) ?_
  rw [inc64 (by omega), w64_id (x := x.getD i 0 + y.getD i 0) (by omega) (by omega), w64_id (x := x.getD i 0 + y.getD i 0 + c) (by omega) (by omega), tmod_pos (by omega), tdiv_pos (by omega), w64_id (by omega) (by omega)]
  exact h
theorem sum_end {x y : List Int} {i : Nat} {x5 : List Int} (hd : D16 x5) (hi : x.length ≤ i) (hj : y.length ≤ i) (hl : x5.length ≤ 1000000) (hv : v16 x5 = v16 x + v16 y) :
    ∃ r, Ev (fun k => cashbookref01_sum.l0 k x y x5 0 (i : Int)) r ∧ C16 r ∧ v16 r = v16 x + v16 y ∧ r.length ≤ x5.length := by
  obtain ⟨r, h1, h2, h3, h4⟩ := trimR_ev hd (by omega)
  refine ⟨r, ?_, h2, by omega, h4⟩
  refine Ev.step (fun k => by simp only [cashbookref01_sum.l0]; rfl) (ev_neg (by omega) (ev_neg (by omega) ?_))
  exact Ev.step (fun k => by simp only [cashbookref01_sum.j1]; rfl) (ev_neg (by decide) (ev_call h1 ev_ret))
theorem getD_out {l : List Int} {i : Nat} (h : l.length ≤ i) : l.getD i 0 = 0 := by rw [List.getD_eq_getElem?_getD, List.getElem?_eq_none h]; rfl
theorem sum_loop {x y : List Int} (hx : D16 x) (hy : D16 y) (M : Nat) (hM : M = max x.length y.length) (hb : M ≤ 100000) : ∀ i, i ≤ M → ∀ (x5 : List Int) (c : Int), D16 x5 → x5.length = i → 0 ≤ c → c ≤ 1 →
    v16 x5 + 65536 ^ i * c = v16 (x.take i) + v16 (y.take i) → ∃ r, Ev (fun k => cashbookref01_sum.l0 k x y x5 c (i : Int)) r ∧ C16 r ∧ v16 r = v16 x + v16 y ∧ r.length ≤ M + 1 := by
  refine down M ?_ ?_
  · intro x5 c hd hn h0 h1 hv
    rw [List.take_of_length_le (by omega), List.take_of_length_le (by omega)] at hv
    rcases Int.lt_or_le 0 c with h | h
    · have hc : c = 1 := by omega
      subst hc
      have hd2 : D16 (x5 ++ [(1 : Int)]) := hd.append (Dg.cons (by decide) (Dg.nil _))
      have hv2 : v16 (x5 ++ [(1 : Int)]) = v16 x + v16 y := by
        show dv _ _ = _
        rw [dv_append, hn]
        simp only [dv]
        simpa using hv
      obtain ⟨r, q1, q2, q3, q4⟩ := sum_end (x := x) (y := y) (i := M + 1) hd2 (by omega) (by omega) (by simp; omega) hv2
      refine ⟨r, ?_, q2, q3, by simp [hn] at q4; omega⟩
      refine Ev.step (fun k => by simp only [cashbookref01_sum.l0]; rfl) (ev_neg (by omega) (ev_neg (by omega) ?_))
      refine sum_j1 (r := r) (i := M) hx hy (by decide) (by decide) (by omega) (by omega) ?_
      rw [getD_out (by omega), getD_out (by omega)]
      exact q1
    · have hc : c = 0 := by omega
      subst hc
      obtain ⟨r, q1, q2, q3, q4⟩ := sum_end (x := x) (y := y) (i := M) hd (by omega) (by omega) (by omega) (by simpa using hv)
      exact ⟨r, q1, q2, q3, by omega⟩
  · intro i hi ih x5 c hd hn h0 h1 hv
    have g1 := hx.get G0 i
    have g2 := hy.get G0 i
    obtain ⟨r, q1, q2, q3, q4⟩ := ih (x5 ++ [(x.getD i 0 + y.getD i 0 + c) % 65536]) ((x.getD i 0 + y.getD i 0 + c) / 65536) (hd.append (Dg.cons (by omega) (Dg.nil _))) (by simp; omega) (by omega) (by omega) (by
      show dv _ _ + _ = dv _ _ + dv _ _
      have hv' : dv 65536 x5 + 65536 ^ i * c = dv 65536 (x.take i) + dv 65536 (y.take i) := hv
      rw [dv_append, hn, dv_take_succ, dv_take_succ, Int.pow_succ]
      simp only [dv]
      have e := Int.emod_add_mul_ediv (x.getD i 0 + y.getD i 0 + c) 65536
      obtain ⟨s, hs⟩ : ∃ s, s = x.getD i 0 + y.getD i 0 + c := ⟨_, rfl⟩
      rw [← hs] at e ⊢
      grind)
    refine ⟨r, ?_, q2, q3, q4⟩
    by_cases hxi : i < x.length
    · exact Ev.step (fun k => by simp only [cashbookref01_sum.l0]; rfl) (ev_pos (by omega) (sum_j1 hx hy h0 h1 (by omega) (by omega) q1))
    · exact Ev.step (fun k => by simp only [cashbookref01_sum.l0]; rfl) (ev_neg (by omega) (ev_pos (by omega) (sum_j1 hx hy h0 h1 (by omega) (by omega) q1)))
theorem sum_ev {x y : List Int} (hx : D16 x) (hy : D16 y) (hlx : x.length ≤ 100000) (hly : y.length ≤ 100000) : ∃ r, Ev (fun k => cashbookref01_sum.f k x y) r ∧ C16 r ∧ v16 r = v16 x + v16 y ∧ r.length ≤ max x.length y.length + 1 :=
  sum_loop hx hy _ rfl (by omega) 0 (by omega) [] 0 (Dg.nil _) rfl (by decide) (by decide) (by simp [dv])
theorem less_loop {x y : List Int} (hx : D16 x) (hy : D16 y) : ∀ i : Nat, i ≤ 1000000 → v16 (x.drop i) = v16 (y.drop i) → Ev (fun k => cashbookref01_less.l0 k x y ((i : Int) - 1)) (decide (v16 x < v16 y))
  | 0, _, he => by
    rw [List.drop_zero, List.drop_zero] at he
    rw [decide_eq_false (by omega)]
    exact Ev.step (fun k => by simp only [cashbookref01_less.l0]; rfl) (ev_neg (by omega) ev_ret)
  | i + 1, hi, he => by
    have e1 : ((i + 1 : Nat) : Int) - 1 = (i : Int) := by omega
    rw [e1]
    refine Ev.step (fun k => by simp only [cashbookref01_less.l0]; rfl) (ev_pos (by omega) (ev_pure (at_eq x i) (ev_pure (at_eq y i) ?_)))
    by_cases h : x.getD i 0 = y.getD i 0
    · refine ev_pos h ?_
      rw [dec64 (by omega)]
      refine less_loop hx hy i (by omega) ?_
      show dv _ _ = dv _ _
      rw [dv_drop, dv_drop 65536 y i, h]
      have he' : dv 65536 (x.drop (i + 1)) = dv 65536 (y.drop (i + 1)) := he
      rw [he']
    · refine ev_neg h (ev_eq ?_)
      rcases Int.lt_or_le (x.getD i 0) (y.getD i 0) with h1 | h1
      · rw [decide_eq_true h1, decide_eq_true (show v16 x < v16 y from dv_lt_at G0 hx hy i he h1)]
      · have h2 : v16 y < v16 x := dv_lt_at G0 hy hx i he.symm (by omega)
        rw [decide_eq_false (by omega), decide_eq_false (by omega)]
theorem mx_nat (a b : Nat) : mx (a : Int) (b : Int) = ((max a b : Nat) : Int) := by unfold mx; split <;> omega
theorem less_ev {x y : List Int} (hx : D16 x) (hy : D16 y) (hlx : x.length ≤ 100000) (hly : y.length ≤ 100000) : Ev (fun k => cashbookref01_less.f k x y) (decide (v16 x < v16 y)) := by
  unfold cashbookref01_less.f
  rw [mx_nat, dec64 (by omega)]
  exact less_loop hx hy _ (by omega) (by rw [List.drop_eq_nil_of_le (by omega), List.drop_eq_nil_of_le (by omega)])
theorem rest_loop {x y : List Int} (hx : D16 x) (hy : D16 y) (hlx : x.length ≤ 100000) (hle : v16 y ≤ v16 x) (hly : y.length ≤ x.length) : ∀ i, i ≤ x.length → ∀ (x5 : List Int) (b : Int), D16 x5 → x5.length = i → 0 ≤ b → b ≤ 1 →
    v16 x5 - 65536 ^ i * b = v16 (x.take i) - v16 (y.take i) → ∃ r, Ev (fun k => cashbookref01_rest.l0 k x y x5 b (i : Int)) r ∧ C16 r ∧ v16 r = v16 x - v16 y ∧ r.length ≤ x.length := by
  refine down x.length ?_ ?_
  · intro x5 b hd hn h0 h1 hv
    rw [List.take_length, List.take_of_length_le (by omega)] at hv
    have hlt := dv_lt G0 hd
    rw [hn] at hlt
    have hb : b = 0 := by
      rcases Int.lt_or_le 0 b with h | h
      · have hb : b = 1 := by omega
        rw [hb, Int.mul_one] at hv
        have hv' : dv 65536 x5 - 65536 ^ x.length = v16 x - v16 y := hv
        omega
      · omega
    rw [hb, Int.mul_zero] at hv
    obtain ⟨r, q1, q2, q3, q4⟩ := trimR_ev hd (by omega)
    exact ⟨r, Ev.step (fun k => by simp only [cashbookref01_rest.l0]; rfl) (ev_neg (by omega) (ev_call q1 ev_ret)), q2, by omega, by omega⟩
  · intro i hi ih x5 b hd hn h0 h1 hv
    have g1 := hx.get G0 i
    have g2 := hy.get G0 i
    have hv' : dv 65536 x5 - 65536 ^ i * b = dv 65536 (x.take i) - dv 65536 (y.take i) := hv
    have e1 : wrap64 (wrap64 (x.getD i 0 - y.getD i 0) - b) = x.getD i 0 - y.getD i 0 - b := by
      rw [wrap_id (x := x.getD i 0 - y.getD i 0) (by omega) (by omega), wrap_id (by omega) (by omega)]
    by_cases hneg : x.getD i 0 - y.getD i 0 - b < 0
    · obtain ⟨r, q1, q2, q3, q4⟩ := ih (x5 ++ [x.getD i 0 - y.getD i 0 - b + 65536]) 1 (hd.append (Dg.cons (by omega) (Dg.nil _))) (by simp; omega) (by decide) (by decide) (by
        show dv _ _ - _ = dv _ _ - dv _ _
        rw [dv_append, hn, dv_take_succ, dv_take_succ, Int.pow_succ]
        simp only [dv]
        grind)
      refine ⟨r, Ev.step (fun k => by simp only [cashbookref01_rest.l0]; rfl) (ev_pos (by omega) (ev_pure (at_eq x i) (ev_pure (at_eq y i) ?_))), q2, q3, q4⟩
      rw [e1]
      refine ev_pos hneg (ev_pos (by omega) ?_)
      rw [wrap_id (by omega) (by omega), inc64 (by omega)]
      exact q1
    · obtain ⟨r, q1, q2, q3, q4⟩ := ih (x5 ++ [x.getD i 0 - y.getD i 0 - b]) 0 (hd.append (Dg.cons (by omega) (Dg.nil _))) (by simp; omega) (by decide) (by decide) (by
        show dv _ _ - _ = dv _ _ - dv _ _
        rw [dv_append, hn, dv_take_succ, dv_take_succ, Int.pow_succ]
        simp only [dv]
        grind)
      refine ⟨r, Ev.step (fun k => by simp only [cashbookref01_rest.l0]; rfl) (ev_pos (by omega) (ev_pure (at_eq x i) (ev_pure (at_eq y i) ?_))), q2, q3, q4⟩
      rw [e1]
      refine ev_neg hneg (ev_pos (by omega) ?_)
      rw [inc64 (by omega)]
      exact q1
theorem rest_ev {x y : List Int} (hx : C16 x) (hy : C16 y) (hlx : x.length ≤ 100000) (hle : v16 y ≤ v16 x) : ∃ r, Ev (fun k => cashbookref01_rest.f k x y) r ∧ C16 r ∧ v16 r = v16 x - v16 y ∧ r.length ≤ x.length := by
  have hly : y.length ≤ x.length := Nat.le_of_not_lt fun h => by have := cn_len_lt G0 hx.dg hy h; show False; have h2 : dv 65536 y ≤ dv 65536 x := hle; omega
  exact rest_loop hx.dg hy.dg hlx hle hly 0 (by omega) [] 0 (Dg.nil _) rfl (by decide) (by decide) (by simp [dv])
end Go.Proofs.YtcidmdjhmhkmgaaDoor.Pure
end

-- Prod
section
set_option linter.unusedVariables false
namespace Go.Proofs.YtcidmdjhmhkmgaaDoor.L
open Go.RowKit
theorem dv_set (B : Int) : ∀ (l : List Int) (i : Nat) (v : Int), i < l.length → dv B (l.set i v) = dv B l + B ^ i * (v - l.getD i 0)
  | [], i, v, h => by simp at h
  | a :: l, 0, v, _ => by
    have e : (a :: l).getD 0 0 = a := rfl
    rw [e]; simp only [List.set_cons_zero, dv, Int.pow_zero]; omega
  | a :: l, i + 1, v, h => by
    have ih := dv_set B l i v (by simpa using h)
    have e : (a :: l).getD (i + 1) 0 = l.getD i 0 := rfl
    rw [e]
    simp only [List.set_cons_succ, dv, ih, Int.pow_succ]
    grind
theorem Dg.set {B : Int} {l : List Int} (h : Dg B l) (i : Nat) {v : Int} (hv : 0 ≤ v ∧ v < B) : Dg B (l.set i v) := fun x hx => by
  rcases List.mem_or_eq_of_mem_set hx with h1 | rfl
  · exact h x h1
  · exact hv
/-- A product, row by row: i rows are in. -/
structure MO (B : Int) (x y o : List Int) (L i : Nat) : Prop where
  dg : Dg B o
  len : o.length = L
  zero : ∀ p, i + y.length ≤ p → o.getD p 0 = 0
  val : dv B o = dv B (x.take i) * dv B y
/-- .. and of the next row j places, c being carried on. -/
structure MI (B xi : Int) (y o : List Int) (V0 : Int) (L i j : Nat) (c : Int) : Prop where
  dg : Dg B o
  len : o.length = L
  c0 : 0 ≤ c
  c1 : c < B
  zero : ∀ p, i + y.length ≤ p → o.getD p 0 = 0
  val : dv B o + B ^ (i + j) * c = V0 + B ^ i * (xi * dv B (y.take j))
theorem MI.start {B : Int} (hB : 0 < B) {x y o : List Int} {L i : Nat} (h : MO B x y o L i) (xi : Int) : MI B xi y o (dv B (x.take i) * dv B y) L i 0 0 :=
  ⟨h.dg, h.len, Int.le_refl _, hB, h.zero, by rw [h.val]; simp [dv]⟩
theorem MI.bound {B xi : Int} {y o : List Int} {V0 : Int} {L i j : Nat} {c : Int} (hB : 0 < B) (h : MI B xi y o V0 L i j c) (hx : 0 ≤ xi ∧ xi < B) (hy : Dg B y) :
    0 ≤ xi * y.getD j 0 ∧ 0 ≤ o.getD (i + j) 0 ∧ xi * y.getD j 0 ≤ (B - 1) * (B - 1) ∧ o.getD (i + j) 0 < B := by
  have g1 := hy.get hB j
  have g2 := h.dg.get hB (i + j)
  refine ⟨Int.mul_nonneg hx.1 g1.1, g2.1, ?_, g2.2⟩
  exact Int.mul_le_mul (by omega) (by omega) g1.1 (by omega)
theorem MI.step {B xi : Int} {y o : List Int} {V0 : Int} {L i j : Nat} {c : Int} (hB : 0 < B) (h : MI B xi y o V0 L i j c) (hx : 0 ≤ xi ∧ xi < B) (hy : Dg B y) (hj : j < y.length) (hL : i + y.length ≤ L) {s : Int} (hs : s = o.getD (i + j) 0 + xi * y.getD j 0 + c) :
    MI B xi y (o.set (i + j) (s % B)) V0 L i (j + 1) (s / B) := by
  obtain ⟨b1, b2, b3, b4⟩ := h.bound hB hx hy
  have c0 := h.c0
  have c1 := h.c1
  have e : (B - 1) * (B - 1) = B * B - 2 * B + 1 := by grind
  have hs0 : 0 ≤ s := by omega
  have hs1 : s < B * B := by omega
  refine ⟨h.dg.set _ ⟨Int.emod_nonneg _ (by omega), Int.emod_lt_of_pos _ hB⟩, by rw [List.length_set]; exact h.len, Int.ediv_nonneg hs0 (by omega), Int.ediv_lt_of_lt_mul hB hs1, fun p hp => ?_, ?_⟩
  · rw [gset_ne (by omega)]; exact h.zero p hp
  · have hv := h.val
    rw [dv_set B o _ _ (by have := h.len; omega), dv_take_succ, show i + (j + 1) = (i + j) + 1 by omega, Int.pow_succ, Int.pow_add]
    rw [Int.pow_add] at hv
    have e2 := Int.emod_add_mul_ediv s B
    obtain ⟨P, hP⟩ : ∃ P, P = B ^ i := ⟨_, rfl⟩
    obtain ⟨Q, hQ⟩ : ∃ Q, Q = B ^ j := ⟨_, rfl⟩
    rw [← hP, ← hQ] at hv ⊢
    obtain ⟨m, hm⟩ : ∃ m, m = s % B := ⟨_, rfl⟩
    obtain ⟨q, hq⟩ : ∃ q, q = s / B := ⟨_, rfl⟩
    rw [← hm, ← hq] at e2 ⊢
    obtain ⟨oj, hoj⟩ : ∃ z, z = o.getD (i + j) 0 := ⟨_, rfl⟩
    obtain ⟨yj, hyj⟩ : ∃ z, z = y.getD j 0 := ⟨_, rfl⟩
    rw [← hoj, ← hyj] at hs
    rw [← hoj, ← hyj]
    have e3 : m = oj + xi * yj + c - B * q := by omega
    rw [e3]
    grind
theorem MI.end_ {B : Int} {x y o : List Int} {L i : Nat} {c : Int} (hB : 0 < B) (h : MI B (x.getD i 0) y o (dv B (x.take i) * dv B y) L i y.length c) (hL : i + y.length < L) : MO B x y (o.set (i + y.length) c) L (i + 1) := by
  refine ⟨h.dg.set _ ⟨h.c0, h.c1⟩, by rw [List.length_set]; exact h.len, fun p hp => ?_, ?_⟩
  · rw [gset_ne (by omega)]; exact h.zero p (by omega)
  · have hv := h.val
    rw [List.take_length] at hv
    rw [dv_set B o _ _ (by have := h.len; omega), h.zero _ (Nat.le_refl _), dv_take_succ]
    grind
theorem MO.start {B : Int} (hB : 0 < B) (x y : List Int) (L : Nat) : MO B x y (List.replicate L 0) L 0 := by
  have hz : ∀ n, dv B (List.replicate n 0) = 0 := by
    intro n
    induction n with
    | zero => rfl
    | succ n ih => rw [List.replicate_succ]; simp [dv, ih]
  refine ⟨fun z hz => ?_, List.length_replicate, fun p _ => ?_, by rw [hz]; simp [dv]⟩
  · rw [List.eq_of_mem_replicate hz]; exact ⟨Int.le_refl _, hB⟩
  · by_cases hp : p < L
    · rw [getD_lt (by simpa using hp)]; simp
    · rw [List.getD_eq_getElem?_getD, List.getElem?_eq_none (by simp; omega)]; rfl
end Go.Proofs.YtcidmdjhmhkmgaaDoor.L
namespace Go.Proofs.YtcidmdjhmhkmgaaDoor.Pure
open Go.RowKit Go.Proofs.YtcidmdjhmhkmgaaDoorW.PrintWords Go.Proofs.YtcidmdjhmhkmgaaDoorW.PrintMore Go.Proofs.YtcidmdjhmhkmgaaDoor.S Go.Proofs.YtcidmdjhmhkmgaaDoor.L
theorem addN {i j : Nat} (h : i + j ≤ 1000000000) : wrap64 ((i : Int) + (j : Int)) = ((i + j : Nat) : Int) := by unfold wrap64; omega
theorem mulIn {a b : List Int} (ha : D32 a) (hb : D32 b) (hla : a.length ≤ 1000) (hlb : b.length ≤ 1000) (i : Nat) (hi : i < a.length) {Q : List Int × Int → Prop}
    (next : ∀ o, MO 4294967296 a b o (a.length + b.length) (i + 1) → ∃ r, Q r ∧ Ev (fun k => nat_Mul.l0 k b o a (a.length : Int) ((i + 1 : Nat) : Int)) r) :
    ∀ j, j ≤ b.length → ∀ o c, MI 4294967296 (a.getD i 0) b o (v32 (a.take i) * v32 b) (a.length + b.length) i j c → ∃ r, Q r ∧ Ev (fun k => nat_Mul.l1 k b o (i : Int) (a.getD i 0) c a (a.length : Int) (i : Int) b (b.length : Int) (j : Int)) r := by
  have gx := ha.get K0 i
  refine down b.length ?_ ?_
  · intro o c h
    obtain ⟨r, hq, hr⟩ := next _ (h.end_ K0 (by omega))
    refine ⟨r, hq, Ev.step (fun k => by simp only [nat_Mul.l1]; rfl) (ev_neg (by omega) ?_)⟩
    rw [addN (by omega), inc64 (by omega), Int.toNat_natCast, Int.emod_eq_of_lt h.c0 h.c1]
    have hl := h.len
    exact ev_pos (by omega) (ev_pos (by omega) hr)
  · intro j hj ih o c h
    have hl := h.len
    have hb1 := h.bound K0 gx hb
    have gy := hb.get K0 j
    have h0 := h.c0
    have h1 := h.c1
    obtain ⟨r, hq, hr⟩ := ih _ _ (h.step K0 gx hb hj (by omega) rfl)
    refine ⟨r, hq, Ev.step (fun k => by simp only [nat_Mul.l1]; rfl) ?_⟩
    refine ev_pos (by omega) ?_
    refine ev_pos (by omega) ?_
    refine ev_pos (by omega) ?_
    rw [addN (by omega)]
    refine ev_pos (by omega) ?_
    refine ev_pos (by omega) ?_
    rw [rd_nat, rd_nat, Int.toNat_natCast, inc64 (by omega)]
    rw [u64_id (n := a.getD i 0) gx.1 (by omega), u64_id (n := b.getD j 0) gy.1 (by omega), u64_id (n := o.getD (i + j) 0) hb1.2.1 (by omega), u64_id (n := a.getD i 0 * b.getD j 0) hb1.1 (by omega), u64_id (n := a.getD i 0 * b.getD j 0 + o.getD (i + j) 0) (by omega) (by omega), u64_id (by omega) (by omega)]
    rw [show c + (a.getD i 0 * b.getD j 0 + o.getD (i + j) 0) = o.getD (i + j) 0 + a.getD i 0 * b.getD j 0 + c by omega]
    exact hr
theorem mul_loop {a b : List Int} (ha : D32 a) (hb : D32 b) (hla : a.length ≤ 1000) (hlb : b.length ≤ 1000) {Q : List Int × Int → Prop}
    (fin : ∀ o, D32 o → o.length = a.length + b.length → v32 o = v32 a * v32 b → ∃ r, Q r ∧ Ev (fun k => (nat_trim.f k o).bind fun t137 => ((nat_fit.f t137).bind fun bt140 => (some (bt140.1, bt140.2)))) r) :
    ∀ i, i ≤ a.length → ∀ o, MO 4294967296 a b o (a.length + b.length) i → ∃ r, Q r ∧ Ev (fun k => nat_Mul.l0 k b o a (a.length : Int) (i : Int)) r := by
  refine down a.length ?_ ?_
  · intro o h
    obtain ⟨r, hq, hr⟩ := fin o h.dg h.len (by have := h.val; rwa [List.take_length] at this)
    exact ⟨r, hq, Ev.step (fun k => by simp only [nat_Mul.l0]; rfl) (ev_neg (by omega) hr)⟩
  · intro i hi ih o h
    obtain ⟨r, hq, hr⟩ := mulIn ha hb hla hlb i hi ih 0 (by omega) o 0 (MI.start K0 h _)
    refine ⟨r, hq, Ev.step (fun k => by simp only [nat_Mul.l0]; rfl) (ev_pos (by omega) (ev_pos (by omega) (ev_pos (by omega) ?_)))⟩
    rw [rd_nat]
    exact hr
theorem Mul_ev {a b : List Int} (ha : D32 a) (hb : D32 b) (hla : a.length ≤ 1000) (hlb : b.length ≤ 1000) : ∃ r e, Ev (fun k => nat_Mul.f k a b) (r, e) ∧
    ((¬ (rt a ∧ rt b) ∧ r = [] ∧ e = 1) ∨ (rt a ∧ rt b ∧ ((v32 a * v32 b < 4294967296 ^ 256 ∧ C32 r ∧ v32 r = v32 a * v32 b ∧ e = 0) ∨ (4294967296 ^ 256 ≤ v32 a * v32 b ∧ r = [] ∧ e = 4)))) := by
  by_cases h1 : rt a
  · by_cases h2 : rt b
    · obtain ⟨⟨r, e⟩, hq, hr⟩ := mul_loop ha hb hla hlb (Q := fun p => (v32 a * v32 b < 4294967296 ^ 256 ∧ C32 p.1 ∧ v32 p.1 = v32 a * v32 b ∧ p.2 = 0) ∨ (4294967296 ^ 256 ≤ v32 a * v32 b ∧ p.1 = [] ∧ p.2 = 4)) (fun o od ol ov => by
        obtain ⟨t, t1, t2, t3, t4⟩ := trim_ev (l := o) (by omega) od
        have hf := fit_eq (l := t) (by omega)
        by_cases h3 : rt t
        · rw [if_pos h3] at hf
          have := (cn_rt' t2).1 h3
          exact ⟨(t, 0), .inl ⟨by omega, t2, by show v32 t = _; omega, rfl⟩, ev_call t1 (ev_pure hf ev_ret)⟩
        · rw [if_neg h3] at hf
          have : ¬ v32 t < 4294967296 ^ 256 := fun h => h3 ((cn_rt' t2).2 h)
          exact ⟨([], 4), .inr ⟨by omega, rfl, rfl⟩, ev_call t1 (ev_pure hf ev_ret)⟩) 0 (by omega) _ (MO.start K0 a b _)
      refine ⟨r, e, ?_, .inr ⟨h1, h2, hq⟩⟩
      unfold nat_Mul.f
      refine ev_pure (Right_eq (by omega)) (ev_pos (by simpa using h1) (ev_pure (Right_eq (by omega)) ?_))
      refine Ev.step (fun k => by simp only [nat_Mul.j0]; rfl) (ev_neg (by simpa using h2) ?_)
      rw [addN (by omega), Int.toNat_natCast]
      exact ev_pos (by omega) (ev_pos (by omega) hr)
    · refine ⟨[], 1, ?_, .inl ⟨fun h => h2 h.2, rfl, rfl⟩⟩
      unfold nat_Mul.f
      refine ev_pure (Right_eq (by omega)) (ev_pos (by simpa using h1) (ev_pure (Right_eq (by omega)) ?_))
      exact Ev.step (fun k => by simp only [nat_Mul.j0]; rfl) (ev_pos (by simpa using h2) ev_ret)
  · refine ⟨[], 1, ?_, .inl ⟨fun h => h1 h.1, rfl, rfl⟩⟩
    unfold nat_Mul.f
    refine ev_pure (Right_eq (by omega)) (ev_neg (by simpa using h1) ?_)
    exact Ev.step (fun k => by simp only [nat_Mul.j0]; rfl) (ev_pos (c := true = true) rfl ev_ret)
end Go.Proofs.YtcidmdjhmhkmgaaDoor.Pure
end

-- NatD
section
set_option linter.unusedVariables false
namespace Go.Proofs.YtcidmdjhmhkmgaaDoor.Pure
open Go.RowKit Go.Proofs.YtcidmdjhmhkmgaaDoorW.PrintWords Go.Proofs.YtcidmdjhmhkmgaaDoorW.PrintMore Go.Proofs.YtcidmdjhmhkmgaaDoor.S Go.Proofs.YtcidmdjhmhkmgaaDoor.L
theorem or32 {x y : Int} (hx₀ : 0 ≤ x) (hx : x % 4294967296 = 0) (hx₁ : x < 18446744073709551616) (h₀ : 0 ≤ y) (h₁ : y < 4294967296) : Go.bits .or .u64 x y = x + y :=
  bits_join .u64 64 (by decide) wraps_u64 32 x y hx₀ hx hx₁ h₀ h₁ (by omega)
/-- Places that are still to come are 0. -/
structure SmSt (a out : List Int) (d rest : Int) (i : Nat) : Prop where
  dg : D32 out
  len : out.length = a.length
  r0 : 0 ≤ rest
  r1 : rest < d
  zero : ∀ p, p < i → out.getD p 0 = 0
  val : v32 a = d * v32 out + rest * 4294967296 ^ i + v32 (a.take i)
theorem small_loop {a : List Int} (ha : D32 a) (hl : a.length ≤ 1000) {d : Int} (d1 : 1 ≤ d) (d2 : d < 4294967296) : ∀ (i : Nat), i ≤ a.length → ∀ out rest, SmSt a out d rest i →
    ∃ q r, Ev (fun k => nat_small.l0 k a d out rest ((i : Int) - 1)) (q, r) ∧ C32 q ∧ 0 ≤ r ∧ r < d ∧ v32 a = d * v32 q + r ∧ q.length ≤ a.length
  | 0, _, out, rest, h => by
    have hlen := h.len
    obtain ⟨t, t1, t2, t3, t4⟩ := trim_ev (l := out) (by omega) h.dg
    refine ⟨t, rest, Ev.step (fun k => by simp only [nat_small.l0]; rfl) (ev_neg (by omega) (ev_call t1 ev_ret)), t2, h.r0, h.r1, ?_, by omega⟩
    have hv := h.val
    rw [List.take_zero, Int.pow_zero, Int.mul_one] at hv
    have e : v32 [] = 0 := rfl
    rw [e] at hv
    rw [t3]; omega
  | i + 1, hi, out, rest, h => by
    have hlen := h.len
    have g := ha.get K0 i
    have r0 := h.r0
    have r1 := h.r1
    have e1 : ((i + 1 : Nat) : Int) - 1 = (i : Int) := by omega
    rw [e1]
    obtain ⟨cur, hcur⟩ : ∃ cur, cur = rest * 4294967296 + a.getD i 0 := ⟨_, rfl⟩
    have hc0 : 0 ≤ cur := by omega
    have hc1 : cur < d * 4294967296 := by omega
    have hc2 : cur < 18446744073709551616 := by omega
    have hq0 : 0 ≤ cur / d := Int.ediv_nonneg hc0 (by omega)
    have hq1 : cur / d < 4294967296 := Int.ediv_lt_of_lt_mul (by omega) (by rw [Int.mul_comm]; exact hc1)
    have hm0 : 0 ≤ cur % d := Int.emod_nonneg _ (by omega)
    have hm1 : cur % d < d := Int.emod_lt_of_pos _ (by omega)
    have hem := Int.emod_add_mul_ediv cur d
    obtain ⟨q, r, q1, q2, q3, q4, q5, q6⟩ := small_loop ha hl d1 d2 i (by omega) (out.set i (cur / d)) (cur % d) ⟨h.dg.set _ ⟨hq0, hq1⟩, by rw [List.length_set]; exact hlen, hm0, hm1, fun p hp => by rw [gset_ne (by omega)]; exact h.zero p (by omega), by
      have hv := h.val
      show dv _ _ = _ * dv _ _ + _ + dv _ _
      have hv' : dv 4294967296 a = d * dv 4294967296 out + rest * 4294967296 ^ (i + 1) + dv 4294967296 (a.take (i + 1)) := hv
      rw [dv_set _ _ _ _ (by omega), h.zero i (by omega), hv', dv_take_succ, Int.pow_succ]
      obtain ⟨m, hm⟩ : ∃ m, m = cur % d := ⟨_, rfl⟩
      obtain ⟨z, hz⟩ : ∃ z, z = cur / d := ⟨_, rfl⟩
      rw [← hm, ← hz] at hem ⊢
      have e3 : m = rest * 4294967296 + a.getD i 0 - d * z := by omega
      rw [e3]
      grind⟩
    refine ⟨q, r, Ev.step (fun k => by simp only [nat_small.l0]; rfl) ?_, q2, q3, q4, q5, q6⟩
    refine ev_pos (by omega) ?_
    refine ev_pos (by omega) ?_
    refine ev_pos (by omega) ?_
    refine ev_neg (by omega) ?_
    refine ev_pos (by omega) ?_
    rw [rd_nat, u64_id (n := a.getD i 0) (by omega) (by omega), u64_id (n := rest * 4294967296) (by omega) (by omega), or32 (by omega) (by omega) (by omega) (by omega) (by omega), ← hcur, tdiv_pos hc0, tmod_pos hc0, u64_id hq0 (by omega), Int.emod_eq_of_lt hq0 hq1, Int.toNat_natCast, dec64 (by omega)]
    exact q1
theorem replicate_zero (B : Int) (n : Nat) : dv B (List.replicate n 0) = 0 := by
  induction n with
  | zero => rfl
  | succ n ih => rw [List.replicate_succ]; simp [dv, ih]
theorem small_ev {a : List Int} (ha : D32 a) (hl : a.length ≤ 1000) {d : Int} (d1 : 1 ≤ d) (d2 : d < 4294967296) :
    ∃ q r, Ev (fun k => nat_small.f k a d) (q, r) ∧ C32 q ∧ 0 ≤ r ∧ r < d ∧ v32 a = d * v32 q + r ∧ q.length ≤ a.length := by
  have hs := MO.start K0 a [] a.length
  obtain ⟨q, r, q1, h⟩ := small_loop ha hl d1 d2 a.length (Nat.le_refl _) (List.replicate a.length 0) 0 ⟨hs.dg, hs.len, Int.le_refl _, by omega, fun p _ => by
    by_cases hp : p < a.length
    · rw [getD_lt (by simpa using hp)]; simp
    · exact getD_out (by simp; omega), by
    show dv _ _ = _ * dv _ _ + _ + dv _ _
    rw [replicate_zero, List.take_length]; simp⟩
  refine ⟨q, r, ?_, h⟩
  unfold nat_small.f
  rw [Int.toNat_natCast, dec64 (by omega)]
  exact ev_pos (by omega) (ev_pos (by omega) q1)
theorem Of_ev {u : Int} (h0 : 0 ≤ u) (h1 : u < 18446744073709551616) : ∃ r, Ev (fun k => nat_Of.f k u) r ∧ C32 r ∧ v32 r = u ∧ r.length ≤ 2 := by
  obtain ⟨r, r1, r2, r3, r4⟩ := trim_ev (l := [u % 4294967296, (u / 4294967296) % 4294967296]) (by simp) (Dg.cons (by omega) (Dg.cons (by omega) (Dg.nil _)))
  refine ⟨r, ev_call r1 ev_ret, r2, ?_, r4⟩
  rw [r3]
  show dv _ _ = _
  simp only [dv]
  omega
end Go.Proofs.YtcidmdjhmhkmgaaDoor.Pure
end

-- NatE
section
set_option linter.unusedVariables false
namespace Go.Proofs.YtcidmdjhmhkmgaaDoor.Pure
open Go.RowKit Go.Proofs.YtcidmdjhmhkmgaaDoorW.PrintWords Go.Proofs.YtcidmdjhmhkmgaaDoorW.PrintMore Go.Proofs.YtcidmdjhmhkmgaaDoor.S Go.Proofs.YtcidmdjhmhkmgaaDoor.L
theorem nat_at_eq {l : List Int} (hd : D32 l) (i : Nat) : nat_at.f l (i : Int) = some (l.getD i 0) := by
  unfold nat_at.f
  have h := hd.get K0 i
  by_cases hi : (i : Int) ≥ (l.length : Int)
  · rw [if_pos hi, getD_out (by omega)]
  · rw [if_neg hi, if_pos (by omega), if_pos (by omega), rd_nat, u64_id h.1 (by omega)]
/-! ### take: q times v off u, at place k -/
structure TkSt (u v x : List Int) (k : Nat) (q b c : Int) (i : Nat) : Prop where
  dg : D32 x
  len : x.length = u.length
  b0 : 0 ≤ b
  b1 : b ≤ 1
  c0 : 0 ≤ c
  c1 : c < 4294967296
  high : ∀ p, k + v.length < p → x.getD p 0 = u.getD p 0
  val : v32 x = v32 u - 4294967296 ^ k * (q * v32 (v.take i)) + 4294967296 ^ (k + i) * (c + b)
theorem take_loop {u v : List Int} (hu : D32 u) (hv : D32 v) (k : Nat) {q : Int} (q0 : 0 ≤ q) (q1 : q < 4294967296) (hl : k + v.length < u.length) (hm : u.length ≤ 100000) : ∀ i, i ≤ v.length + 1 → ∀ x b c, TkSt u v x k q b c i → (i = v.length + 1 → c = 0) →
    ∃ b' x', Ev (fun n => nat_take.l0 n x v (k : Int) q b c ((v.length : Int) + 1) (i : Int)) (b', x') ∧ D32 x' ∧ x'.length = u.length ∧ (∀ p, k + v.length < p → x'.getD p 0 = u.getD p 0) ∧ ∃ b : Int, 0 ≤ b ∧ b ≤ 1 ∧ b' = (b == 1) ∧ v32 x' = v32 u - 4294967296 ^ k * (q * v32 v) + 4294967296 ^ (k + v.length + 1) * b := by
  refine down (v.length + 1) ?_ ?_
  · intro x b c h hc
    have hc0 := hc rfl
    subst hc0
    refine ⟨b == 1, x, Ev.step (fun n => by simp only [nat_take.l0]; rfl) (ev_neg (by omega) ev_ret), h.dg, h.len, h.high, b, h.b0, h.b1, rfl, ?_⟩
    have e := h.val
    rw [List.take_of_length_le (by omega), Int.zero_add] at e
    exact e
  · intro i hi ih x b c h _
    have hx := h.dg.get K0 (k + i)
    have gv := hv.get K0 i
    have hlen := h.len
    have b0 := h.b0
    have b1 := h.b1
    have c0 := h.c0
    have c1 := h.c1
    have hqv0 : 0 ≤ q * v.getD i 0 := Int.mul_nonneg q0 gv.1
    have hqv1 : q * v.getD i 0 ≤ 4294967295 * 4294967295 := Int.mul_le_mul (by omega) (by omega) gv.1 (by omega)
    obtain ⟨s, hs⟩ : ∃ s, s = c + q * v.getD i 0 := ⟨_, rfl⟩
    obtain ⟨n, hn⟩ : ∃ n, n = x.getD (k + i) 0 - s % 4294967296 - b := ⟨_, rfl⟩
    have hs0 : 0 ≤ s := by omega
    have hs1 : s ≤ 18446744069414584320 := by omega
    obtain ⟨b', x', r1, r2, r3, rh, bb, r4, r5, r6, r7⟩ := ih (x.set (k + i) (n % 4294967296)) (sb n) (s / 4294967296) ⟨h.dg.set _ ⟨by omega, by omega⟩, by rw [List.length_set]; exact hlen, by unfold sb; split <;> omega, by unfold sb; split <;> omega, by omega, by omega, fun p hp => by rw [gset_ne (by omega)]; exact h.high p hp, by
      have hv := h.val
      show dv _ _ = dv _ _ - _ * (_ * dv _ _) + _
      have hv' : dv 4294967296 x = dv 4294967296 u - 4294967296 ^ k * (q * dv 4294967296 (v.take i)) + 4294967296 ^ (k + i) * (c + b) := hv
      rw [dv_set _ _ _ _ (by omega), dv_take_succ, hv', show k + (i + 1) = (k + i) + 1 by omega, Int.pow_succ, Int.pow_add]
      have e1 : n % 4294967296 = n + 4294967296 * sb n := by unfold sb; split <;> omega
      have e2 : s % 4294967296 = s - 4294967296 * (s / 4294967296) := by omega
      rw [e1, hn, e2, hs]
      grind⟩ (fun hE => by
        have hil : i = v.length := by omega
        rw [hil, getD_out (l := v) (Nat.le_refl _), Int.mul_zero] at hs
        omega)
    refine ⟨b', x', Ev.step (fun n => by simp only [nat_take.l0]; rfl) ?_, r2, r3, rh, bb, r4, r5, r6, r7⟩
    refine ev_pos (by omega) (ev_pure (nat_at_eq hv i) ?_)
    rw [addN (by omega)]
    refine ev_pos (by omega) (ev_pos (by omega) ?_)
    have es : IntKind.u64.wrap (c + IntKind.u64.wrap (q * v.getD i 0)) = s := by
      rw [u64_id (n := q * v.getD i 0) hqv0 (by omega), u64_id (by omega) (by omega), hs]
    have en : IntKind.u64.wrap (IntKind.u64.wrap (IntKind.u64.wrap (rd x ((k + i : Nat) : Int)) - Go.bits .and .u64 s 4294967295) - b) = n % 18446744073709551616 := by
      rw [rd_nat, u64_id (n := x.getD (k + i) 0) hx.1 (by omega), and32 hs0 (by omega), u64_mod, u64_mod, hn]
      omega
    rw [es, en, Lib.u64_and1 _ (by omega) (by omega), inc64 (by omega), Int.toNat_natCast]
    have e3 : n % 18446744073709551616 % 4294967296 = n % 4294967296 := by omega
    have e4 : n % 18446744073709551616 / 8589934592 % 2 = sb n := by unfold sb; split <;> omega
    rw [e3, e4]
    exact r1
theorem take_ev {u v : List Int} (hu : D32 u) (hv : D32 v) (k : Nat) {q : Int} (q0 : 0 ≤ q) (q1 : q < 4294967296) (hl : k + v.length < u.length) (hm : u.length ≤ 100000) :
    ∃ b' x', Ev (fun n => nat_take.f n u v (k : Int) q) (b', x') ∧ D32 x' ∧ x'.length = u.length ∧ (∀ p, k + v.length < p → x'.getD p 0 = u.getD p 0) ∧ ∃ b : Int, 0 ≤ b ∧ b ≤ 1 ∧ b' = (b == 1) ∧ v32 x' = v32 u - 4294967296 ^ k * (q * v32 v) + 4294967296 ^ (k + v.length + 1) * b := by
  obtain ⟨b', x', r1, r⟩ := take_loop hu hv k q0 q1 hl hm 0 (by omega) u 0 0 ⟨hu, rfl, by decide, by decide, by decide, by decide, fun _ _ => rfl, by
    show dv _ _ = dv _ _ - _ * (_ * dv _ _) + _
    simp [dv]⟩ (fun h => by omega)
  refine ⟨b', x', ?_, r⟩
  unfold nat_take.f
  rw [show wrap64 ((v.length : Int) + 1) = (v.length : Int) + 1 by unfold wrap64; omega]
  exact r1
/-! ### back: v put back on u, at place k -/
structure BkSt (u v x : List Int) (k : Nat) (c : Int) (i : Nat) : Prop where
  dg : D32 x
  len : x.length = u.length
  c0 : 0 ≤ c
  c1 : c ≤ 1
  high : ∀ p, k + v.length < p → x.getD p 0 = u.getD p 0
  val : v32 x + 4294967296 ^ (k + i) * c = v32 u + 4294967296 ^ k * v32 (v.take i)
theorem back_loop {u v : List Int} (hu : D32 u) (hv : D32 v) (k : Nat) (hl : k + v.length < u.length) (hm : u.length ≤ 100000) : ∀ i, i ≤ v.length + 1 → ∀ x c, BkSt u v x k c i →
    ∃ x', Ev (fun n => nat_back.l0 n x v (k : Int) c ((v.length : Int) + 1) (i : Int)) x' ∧ D32 x' ∧ x'.length = u.length ∧ (∀ p, k + v.length < p → x'.getD p 0 = u.getD p 0) ∧ ∃ c : Int, 0 ≤ c ∧ c ≤ 1 ∧ v32 x' + 4294967296 ^ (k + v.length + 1) * c = v32 u + 4294967296 ^ k * v32 v := by
  refine down (v.length + 1) ?_ ?_
  · intro x c h
    refine ⟨x, Ev.step (fun n => by simp only [nat_back.l0]; rfl) (ev_neg (by omega) ev_ret), h.dg, h.len, h.high, c, h.c0, h.c1, ?_⟩
    have e := h.val
    rw [List.take_of_length_le (by omega)] at e
    exact e
  · intro i hi ih x c h
    have hx := h.dg.get K0 (k + i)
    have gv := hv.get K0 i
    have hlen := h.len
    have c0 := h.c0
    have c1 := h.c1
    obtain ⟨s, hs⟩ : ∃ s, s = c + (x.getD (k + i) 0 + v.getD i 0) := ⟨_, rfl⟩
    obtain ⟨x', r1, r⟩ := ih (x.set (k + i) (s % 4294967296)) (s / 4294967296) ⟨h.dg.set _ ⟨by omega, by omega⟩, by rw [List.length_set]; exact hlen, by omega, by omega, fun p hp => by rw [gset_ne (by omega)]; exact h.high p hp, by
      have hv := h.val
      show dv _ _ + _ = dv _ _ + _ * dv _ _
      have hv' : dv 4294967296 x + 4294967296 ^ (k + i) * c = dv 4294967296 u + 4294967296 ^ k * dv 4294967296 (v.take i) := hv
      rw [dv_set _ _ _ _ (by omega), dv_take_succ, show k + (i + 1) = (k + i) + 1 by omega, Int.pow_succ, Int.pow_add]
      rw [Int.pow_add] at hv'
      have e2 : s % 4294967296 = s - 4294967296 * (s / 4294967296) := by omega
      rw [e2, hs]
      grind⟩
    refine ⟨x', Ev.step (fun n => by simp only [nat_back.l0]; rfl) ?_, r⟩
    refine ev_pos (by omega) ?_
    rw [addN (by omega)]
    refine ev_pos (by omega) (ev_pos (by omega) (ev_pure (nat_at_eq hv i) ?_))
    rw [rd_nat, u64_id (n := x.getD (k + i) 0) hx.1 (by omega), u64_id (n := x.getD (k + i) 0 + v.getD i 0) (by omega) (by omega), u64_id (by omega) (by omega), ← hs, Int.toNat_natCast, inc64 (by omega)]
    exact r1
theorem back_ev {u v : List Int} (hu : D32 u) (hv : D32 v) (k : Nat) (hl : k + v.length < u.length) (hm : u.length ≤ 100000) :
    ∃ x', Ev (fun n => nat_back.f n u v (k : Int)) x' ∧ D32 x' ∧ x'.length = u.length ∧ (∀ p, k + v.length < p → x'.getD p 0 = u.getD p 0) ∧ ∃ c : Int, 0 ≤ c ∧ c ≤ 1 ∧ v32 x' + 4294967296 ^ (k + v.length + 1) * c = v32 u + 4294967296 ^ k * v32 v := by
  obtain ⟨x', r1, r⟩ := back_loop hu hv k hl hm 0 (by omega) u 0 ⟨hu, rfl, by decide, by decide, fun _ _ => rfl, by
    show dv _ _ + _ = dv _ _ + _ * dv _ _
    simp [dv]⟩
  refine ⟨x', ?_, r⟩
  unfold nat_back.f
  rw [show wrap64 ((v.length : Int) + 1) = (v.length : Int) + 1 by unfold wrap64; omega]
  exact r1
/-! ### guess -/
theorem guess_j1 {u v : List Int} (hv : D32 v) (k n : Nat) (hn : n = v.length) (h2 : 2 ≤ n) (hm : n ≤ 100000) {v1 q rest : Int} (e1 : v1 = v.getD (n - 1) 0) (q0 : 1 ≤ q) (q1 : q ≤ 4294967298) (r0 : 0 ≤ rest) (r1 : rest < 4294967296) {g : Int}
    (hb : rest + v1 ≥ 4294967296 → g = q - 1) (hc : rest + v1 < 4294967296 → Ev (fun m => nat_guess.l0 m u v (k : Int) (n : Int) (q - 1) (rest + v1)) g) : Ev (fun m => nat_guess.j1 m u v (k : Int) (n : Int) q rest true) g := by
  have gv := hv.get K0 (n - 1)
  rw [← e1] at gv
  have ew : wrap64 ((n : Int) - 1) = ((n - 1 : Nat) : Int) := by unfold wrap64; omega
  refine Ev.step (fun m => by simp only [nat_guess.j1]; rfl) (ev_pos (c := true = true) rfl ?_)
  rw [ew]
  refine ev_pos (by omega) (ev_pos (by omega) ?_)
  rw [rd_nat, ← e1, u64_id (n := v1) gv.1 (by omega), u64_id (n := rest + v1) (by omega) (by omega), u64_id (n := q - 1) (by omega) (by omega)]
  by_cases h : rest + v1 ≥ 4294967296
  · rw [hb h]; exact ev_pos h ev_ret
  · exact ev_neg h (hc (by omega))
theorem guess_loop {u v : List Int} (hu : D32 u) (hv : D32 v) (k n : Nat) (hn : n = v.length) (h2 : 2 ≤ n) (hl : k + n < u.length) (hm : u.length ≤ 100000) {v1 v2 t u2 Q : Int} (e1 : v1 = v.getD (n - 1) 0) (e2 : v2 = v.getD (n - 2) 0) (e3 : u2 = u.getD (k + n - 2) 0)
    (ht : t < v1 * 4294967296 + 4294967296) (hQ0 : 0 ≤ Q) (hstop : ∀ q, q ≥ 4294967296 ∨ q * (v1 * 4294967296 + v2) > t * 4294967296 + u2 → Q < q) : ∀ (d : Nat) (q rest : Int), q - Q = (d : Int) → t = q * v1 + rest → 0 ≤ rest → rest < 4294967296 → q ≤ 4294967298 →
    ∃ g, Ev (fun m => nat_guess.l0 m u v (k : Int) (n : Int) q rest) g ∧ Q ≤ g ∧ g < 4294967296 ∧ (g * (v1 * 4294967296 + v2) ≤ t * 4294967296 + u2 ∨ t - g * v1 ≥ 4294967296) := by
  have gv1 := hv.get K0 (n - 1)
  rw [← e1] at gv1
  have gv2 := hv.get K0 (n - 2)
  rw [← e2] at gv2
  have gu := hu.get K0 (k + n - 2)
  rw [← e3] at gu
  have ew : wrap64 ((n : Int) - 2) = ((n - 2 : Nat) : Int) := by unfold wrap64; omega
  have ew2 : wrap64 (wrap64 ((k : Int) + (n : Int)) - 2) = ((k + n - 2 : Nat) : Int) := by rw [addN (by omega)]; unfold wrap64; omega
  have down1 : ∀ q : Int, Q < q → ∀ rest, t = q * v1 + rest → t - (q - 1) * v1 = rest + v1 := fun q _ rest e => by rw [e]; grind
  have lt1 : ∀ q rest : Int, t = q * v1 + rest → rest + v1 ≥ 4294967296 → q - 1 < 4294967296 := fun q rest e h => by
    refine Int.lt_of_not_ge fun hq => ?_
    have m1 : 4294967296 * v1 ≤ (q - 1) * v1 := Int.mul_le_mul_of_nonneg_right hq gv1.1
    have m2 : (q - 1) * v1 = q * v1 - v1 := by grind
    omega
  intro d
  induction d with
  | zero =>
    intro q rest hd he r0 r1 hq
    have hqe : q = Q := by omega
    have n1 : ¬ q ≥ 4294967296 := fun h => by have := hstop q (.inl h); omega
    have n2 : ¬ q * (v1 * 4294967296 + v2) > t * 4294967296 + u2 := fun h => by have := hstop q (.inr h); omega
    have hv2 : 0 ≤ q * v2 := Int.mul_nonneg (by omega) gv2.1
    have hv2b : q * v2 ≤ 4294967295 * 4294967295 := Int.mul_le_mul (by omega) (by omega) gv2.1 (by omega)
    have hx : q * (v1 * 4294967296 + v2) = (q * v1) * 4294967296 + q * v2 := by grind
    refine ⟨q, Ev.step (fun m => by simp only [nat_guess.l0]; rfl) (ev_neg n1 ?_), by omega, by omega, .inl (by omega)⟩
    rw [ew, ew2]
    refine ev_pos (by omega) (ev_pos (by omega) (ev_pos (by omega) (ev_pos (by omega) ?_)))
    rw [rd_nat, rd_nat, ← e2, ← e3, u64_id (n := v2) gv2.1 (by omega), u64_id (n := u2) gu.1 (by omega), u64_id (n := q * v2) hv2 (by omega), u64_id (n := rest * 4294967296) (by omega) (by omega), or32 (by omega) (by omega) (by omega) gu.1 gu.2]
    rw [decide_eq_false (by omega)]
    exact Ev.step (fun m => by simp only [nat_guess.j1]; rfl) (ev_neg (by decide) ev_ret)
  | succ d ih =>
    intro q rest hd he r0 r1 hq
    have hlow : Q < q := by omega
    have hgo : ∃ g, Ev (fun m => nat_guess.j1 m u v (k : Int) (n : Int) q rest true) g ∧ Q ≤ g ∧ g < 4294967296 ∧ (g * (v1 * 4294967296 + v2) ≤ t * 4294967296 + u2 ∨ t - g * v1 ≥ 4294967296) := by
      have hdn := down1 q hlow rest he
      by_cases h : rest + v1 ≥ 4294967296
      · exact ⟨q - 1, guess_j1 hv k n hn h2 (by omega) e1 (by omega) hq r0 r1 (fun _ => rfl) (fun h' => absurd h (by omega)), by omega, lt1 q rest he h, .inr (by omega)⟩
      · obtain ⟨g, g1, g2⟩ := ih (q - 1) (rest + v1) (by omega) (by omega) (by omega) (by omega) (by omega)
        exact ⟨g, guess_j1 hv k n hn h2 (by omega) e1 (by omega) hq r0 r1 (fun h' => absurd h' h) (fun _ => g1), g2⟩
    by_cases n1 : q ≥ 4294967296
    · obtain ⟨g, g1, g2⟩ := hgo
      exact ⟨g, Ev.step (fun m => by simp only [nat_guess.l0]; rfl) (ev_pos n1 g1), g2⟩
    · have hv2 : 0 ≤ q * v2 := Int.mul_nonneg (by omega) gv2.1
      have hv2b : q * v2 ≤ 4294967295 * 4294967295 := Int.mul_le_mul (by omega) (by omega) gv2.1 (by omega)
      have hx : q * (v1 * 4294967296 + v2) = (q * v1) * 4294967296 + q * v2 := by grind
      have hstep : ∀ g, Ev (fun m => nat_guess.j1 m u v (k : Int) (n : Int) q rest (decide (q * v2 > rest * 4294967296 + u2))) g → Ev (fun m => nat_guess.l0 m u v (k : Int) (n : Int) q rest) g := fun g hg => by
        refine Ev.step (fun m => by simp only [nat_guess.l0]; rfl) (ev_neg n1 ?_)
        rw [ew, ew2]
        refine ev_pos (by omega) (ev_pos (by omega) (ev_pos (by omega) (ev_pos (by omega) ?_)))
        rw [rd_nat, rd_nat, ← e2, ← e3, u64_id (n := v2) gv2.1 (by omega), u64_id (n := u2) gu.1 (by omega), u64_id (n := q * v2) hv2 (by omega), u64_id (n := rest * 4294967296) (by omega) (by omega), or32 (by omega) (by omega) (by omega) gu.1 gu.2]
        exact hg
      by_cases n2 : q * v2 > rest * 4294967296 + u2
      · obtain ⟨g, g1, g2⟩ := hgo
        exact ⟨g, hstep g (by rw [decide_eq_true n2]; exact g1), g2⟩
      · refine ⟨q, hstep q (by rw [decide_eq_false n2]; exact Ev.step (fun m => by simp only [nat_guess.j1]; rfl) (ev_neg (by decide) ev_ret)), by omega, by omega, .inl (by omega)⟩
end Go.Proofs.YtcidmdjhmhkmgaaDoor.Pure
end

-- NatF
section
set_option linter.unusedVariables false
namespace Go.Proofs.YtcidmdjhmhkmgaaDoor.Pure
open Go.RowKit Go.Proofs.YtcidmdjhmhkmgaaDoorW.PrintWords Go.Proofs.YtcidmdjhmhkmgaaDoorW.PrintMore Go.Proofs.YtcidmdjhmhkmgaaDoor.S Go.Proofs.YtcidmdjhmhkmgaaDoor.L
/-- Two top figures, a third one, and what is below. -/
theorem top3 {l : List Int} (hd : D32 l) (k n : Nat) (h2 : 2 ≤ n) (hz : ∀ p, k + n < p → l.getD p 0 = 0) : ∃ low, 0 ≤ low ∧ low < 4294967296 ^ (n - 2) ∧ v32 (l.drop k) = low + 4294967296 ^ (n - 2) * ((l.getD (k + n) 0 * 4294967296 + l.getD (k + n - 1) 0) * 4294967296 + l.getD (k + n - 2) 0) := by
  have hdd := hd.drop k
  refine ⟨dv 4294967296 ((l.drop k).take (n - 2)), dv_nonneg K0 (hdd.take _), dv_take_lt K0 hdd _, ?_⟩
  have e := dv_parts 4294967296 (l.drop k) (n - 2)
  rw [List.drop_drop] at e
  have hz0 : dv 4294967296 (l.drop (k + n + 1)) = 0 := by
    have hall : ∀ x ∈ l.drop (k + n + 1), x = 0 := fun x hx => by
      obtain ⟨j, hj, rfl⟩ := List.getElem_of_mem hx
      have hj' : k + n + 1 + j < l.length := by simpa [List.length_drop] using (by simpa using hj : j < l.length - (k + n + 1)) |> fun h => by omega
      have := hz (k + n + 1 + j) (by omega)
      rw [getD_lt hj'] at this
      rw [List.getElem_drop]; exact this
    have hrep := List.eq_replicate_of_mem hall
    rw [hrep]; exact replicate_zero _ _
  have d1 := dv_drop 4294967296 l (k + n - 2)
  have d2 := dv_drop 4294967296 l (k + n - 1)
  have d3 := dv_drop 4294967296 l (k + n)
  rw [show k + n - 2 + 1 = k + n - 1 by omega] at d1
  rw [show k + n - 1 + 1 = k + n by omega] at d2
  rw [show k + (n - 2) = k + n - 2 by omega, d1, d2, d3, hz0] at e
  show dv _ _ = _
  rw [e]
  grind
theorem guess_ev {u v : List Int} (hu : D32 u) (hv : D32 v) (k n : Nat) (hn : n = v.length) (h2 : 2 ≤ n) (hl : k + n < u.length) (hm : u.length ≤ 100000) (hz : ∀ p, k + n < p → u.getD p 0 = 0)
    (hv1 : 2147483648 ≤ v.getD (n - 1) 0) (hU : v32 (u.drop k) < 4294967296 * v32 v) :
    ∃ g, Ev (fun m => nat_guess.f m u v (k : Int)) g ∧ v32 (u.drop k) / v32 v ≤ g ∧ g ≤ v32 (u.drop k) / v32 v + 1 ∧ g < 4294967296 := by
  obtain ⟨v1, e1⟩ : ∃ v1, v1 = v.getD (n - 1) 0 := ⟨_, rfl⟩
  obtain ⟨v2, e2⟩ : ∃ v2, v2 = v.getD (n - 2) 0 := ⟨_, rfl⟩
  obtain ⟨u0, e0⟩ : ∃ u0, u0 = u.getD (k + n) 0 := ⟨_, rfl⟩
  obtain ⟨u1, e4⟩ : ∃ u1, u1 = u.getD (k + n - 1) 0 := ⟨_, rfl⟩
  obtain ⟨u2, e3⟩ : ∃ u2, u2 = u.getD (k + n - 2) 0 := ⟨_, rfl⟩
  have gv1 := hv.get K0 (n - 1)
  have gv2 := hv.get K0 (n - 2)
  have gu0 := hu.get K0 (k + n)
  have gu1 := hu.get K0 (k + n - 1)
  have gu2 := hu.get K0 (k + n - 2)
  obtain ⟨lu, lu0, lu1, hUe⟩ := top3 hu k n h2 hz
  obtain ⟨lv, lv0, lv1, hVe⟩ := top3 hv 0 n h2 (fun p hp => getD_out (by omega))
  rw [List.drop_zero, Nat.zero_add, getD_out (l := v) (by omega)] at hVe
  rw [← e1, ← e2] at hVe
  rw [← e0, ← e4, ← e3] at hUe
  rw [← e1] at gv1 hv1
  rw [← e2] at gv2
  rw [← e0] at gu0
  rw [← e4] at gu1
  rw [← e3] at gu2
  obtain ⟨W, hW⟩ : ∃ W, W = (4294967296 : Int) ^ (n - 2) := ⟨_, rfl⟩
  have hW0 : 0 < W := by rw [hW]; exact pow_pos_ K0 _
  rw [← hW] at hUe hVe lu1 lv1
  obtain ⟨U, hUd⟩ : ∃ U, U = v32 (u.drop k) := ⟨_, rfl⟩
  obtain ⟨V, hVd⟩ : ∃ V, V = v32 v := ⟨_, rfl⟩
  rw [← hUd] at hUe hU ⊢
  rw [← hVd] at hVe hU ⊢
  obtain ⟨t, ht⟩ : ∃ t, t = u0 * 4294967296 + u1 := ⟨_, rfl⟩
  obtain ⟨z, hzd⟩ : ∃ z, z = v1 * 4294967296 + v2 := ⟨_, rfl⟩
  obtain ⟨y, hy⟩ : ∃ y, y = t * 4294967296 + u2 := ⟨_, rfl⟩
  have hUe' : U = lu + W * y := by rw [hUe, hy, ht]
  have hVe' : V = lv + W * z := by rw [hVe, hzd]; grind
  have hz1 : 1 ≤ z := by omega
  have hV0 : 0 < V := by
    have := Int.mul_pos hW0 (show 0 < z by omega)
    omega
  have hU0 : 0 ≤ U := by
    have := Int.mul_nonneg (Int.le_of_lt hW0) (show 0 ≤ y by omega)
    omega
  obtain ⟨Q, hQd⟩ : ∃ Q, Q = U / V := ⟨_, rfl⟩
  rw [← hQd]
  have hQ0 : 0 ≤ Q := by rw [hQd]; exact Int.ediv_nonneg hU0 (by omega)
  have hQK : Q < 4294967296 := by rw [hQd]; exact Int.ediv_lt_of_lt_mul hV0 hU
  have hQle : Q * V ≤ U := by rw [hQd]; exact Int.ediv_mul_le _ (by omega)
  have hQgt : ∀ q, U < q * V → Q < q := fun q h => by
    refine Int.lt_of_not_ge fun hq => ?_
    have := Int.mul_le_mul_of_nonneg_right hq (show 0 ≤ V by omega)
    omega
  have hQup : ∀ q, q * V ≤ U → q ≤ Q := fun q h => by rw [hQd]; exact (Int.le_ediv_iff_mul_le hV0).2 h
  -- the two top figures: t < v1 * K + K
  have htt : t < v1 * 4294967296 + 4294967296 := by
    refine Int.lt_of_not_ge fun h => ?_
    have hy1 : 4294967296 * (z + 1) ≤ y := by omega
    have h3 : W * (4294967296 * (z + 1)) ≤ W * y := Int.mul_le_mul_of_nonneg_left hy1 (Int.le_of_lt hW0)
    have h4 : W * (4294967296 * (z + 1)) = 4294967296 * (W * z) + 4294967296 * W := by grind
    omega
  have ht0 : 0 ≤ t := by omega
  have hstop : ∀ q, q ≥ 4294967296 ∨ q * (v1 * 4294967296 + v2) > t * 4294967296 + u2 → Q < q := fun q h => by
    rcases h with h | h
    · omega
    · rw [← hzd, ← hy] at h
      refine hQgt q ?_
      have h3 : W * (y + 1) ≤ W * (q * z) := Int.mul_le_mul_of_nonneg_left (by omega) (Int.le_of_lt hW0)
      have h5 : 0 ≤ q := by
        refine Int.le_of_not_gt fun hq => ?_
        have := Int.mul_le_mul_of_nonneg_right (show q ≤ 0 by omega) (show 0 ≤ z by omega)
        omega
      have h6 : 0 ≤ q * lv := Int.mul_nonneg h5 lv0
      have h7 : q * V = q * lv + W * (q * z) := by rw [hVe']; grind
      have h8 : W * (y + 1) = W * y + W := by grind
      omega
  have hem := Int.emod_add_mul_ediv t v1
  have hr0 : 0 ≤ t % v1 := Int.emod_nonneg _ (by omega)
  have hr1 : t % v1 < v1 := Int.emod_lt_of_pos _ (by omega)
  have hq0 : 0 ≤ t / v1 := Int.ediv_nonneg ht0 (by omega)
  have hqb : t / v1 ≤ 4294967298 := by
    have : t / v1 < 4294967298 := Int.ediv_lt_of_lt_mul (by omega) (by omega)
    omega
  have hqQ : Q ≤ t / v1 := by
    refine (Int.le_ediv_iff_mul_le (by omega)).2 (Int.le_of_not_gt fun h => ?_)
    have h3 : (t + 1) * 4294967296 ≤ (Q * v1) * 4294967296 := by omega
    have h4 : Q * z = (Q * v1) * 4294967296 + Q * v2 := by rw [hzd]; grind
    have h5 : 0 ≤ Q * v2 := Int.mul_nonneg hQ0 gv2.1
    have := hstop Q (.inr (by rw [← hzd, ← hy]; omega))
    omega
  obtain ⟨g, g1, g2, g3, g4⟩ := guess_loop hu hv k n hn h2 hl hm e1 e2 e3 htt hQ0 hstop (t / v1 - Q).toNat (t / v1) (t % v1) (by omega) (by rw [Int.mul_comm]; omega) hr0 (by omega) hqb
  refine ⟨g, ?_, g2, ?_, g3⟩
  · unfold nat_guess.f
    rw [← hn, addN (by omega), dec64 (by omega), dec64 (by omega)]
    have c1 : ((k + n : Nat) : Int) - 1 = ((k + n - 1 : Nat) : Int) := by omega
    have c2 : (n : Int) - 1 = ((n - 1 : Nat) : Int) := by omega
    rw [c1, c2]
    refine ev_pos (by omega) (ev_pos (by omega) (ev_pos (by omega) (ev_pos (by omega) (ev_pos (by omega) (ev_pos (by omega) ?_)))))
    rw [rd_nat, rd_nat, rd_nat, ← e1, ← e0, ← e4, u64_id (n := v1) (by omega) (by omega), u64_id (n := u0) (by omega) (by omega), u64_id (n := u1) (by omega) (by omega), u64_id (n := u0 * 4294967296) (by omega) (by omega), or32 (by omega) (by omega) (by omega) gu1.1 gu1.2, ← ht, tdiv_pos ht0, tmod_pos ht0, u64_id hq0 (by omega)]
    exact ev_neg (by omega) g1
  · have hg0 : 0 ≤ g := by omega
    have hgz : g * z ≤ y := by
      rcases g4 with h | h
      · rw [← hzd, ← hy] at h; exact h
      · have h4 : g * z = (g * v1) * 4294967296 + g * v2 := by rw [hzd]; grind
        have h5 : g * v2 ≤ 4294967295 * 4294967295 := Int.mul_le_mul (by omega) (by omega) gv2.1 (by omega)
        omega
    have h3 : W * (g * z) ≤ W * y := Int.mul_le_mul_of_nonneg_left hgz (Int.le_of_lt hW0)
    have h4 : g * lv ≤ 4294967295 * W := Int.mul_le_mul (by omega) (by omega) lv0 (by omega)
    have h5 : g * V = g * lv + W * (g * z) := by rw [hVe']; grind
    have h6 : W * 4294967296 ≤ W * z := Int.mul_le_mul_of_nonneg_left (by omega) (Int.le_of_lt hW0)
    have h7 : (g - 1) * V = g * V - V := by grind
    have := hQup (g - 1) (by omega)
    omega
end Go.Proofs.YtcidmdjhmhkmgaaDoor.Pure
end

-- NatG
section
set_option linter.unusedVariables false
namespace Go.Proofs.YtcidmdjhmhkmgaaDoor.Pure
open Go.RowKit Go.Proofs.YtcidmdjhmhkmgaaDoorW.PrintWords Go.Proofs.YtcidmdjhmhkmgaaDoorW.PrintMore Go.Proofs.YtcidmdjhmhkmgaaDoor.S Go.Proofs.YtcidmdjhmhkmgaaDoor.L
/-! ### shift -/
def shLow (a : List Int) : Nat → Int
  | 0 => 0
  | i + 1 => a.getD i 0
def shC (a : List Int) (P : Int) (i : Nat) : Int := shLow a i * P / 4294967296
def shO (a : List Int) (P : Int) (i : Nat) : Int := (a.getD i 0 * P + shC a P i) % 4294967296
theorem shLow_b {a : List Int} (ha : D32 a) : ∀ i, 0 ≤ shLow a i ∧ shLow a i < 4294967296
  | 0 => by simp [shLow]
  | i + 1 => ha.get K0 i
theorem sh_step {a : List Int} (ha : D32 a) {P R : Int} (hP : 1 ≤ P) (hR : 1 ≤ R) (hPR : P * R = 4294967296) (i : Nat) : shO a P i + 4294967296 * shC a P (i + 1) = a.getD i 0 * P + shC a P i := by
  have g := ha.get K0 i
  have hl := shLow_b ha i
  have hc0 : 0 ≤ shC a P i := Int.ediv_nonneg (Int.mul_nonneg hl.1 (by omega)) (by decide)
  have hc1 : shC a P i < P := by
    refine Int.ediv_lt_of_lt_mul (by decide) ?_
    have := Int.mul_lt_mul_of_pos_right hl.2 (show 0 < P by omega)
    rw [Int.mul_comm P]; exact this
  obtain ⟨c, hc⟩ : ∃ c, c = shC a P i := ⟨_, rfl⟩
  obtain ⟨x, hx⟩ : ∃ x, x = a.getD i 0 := ⟨_, rfl⟩
  have e : shC a P (i + 1) = a.getD i 0 * P / 4294967296 := rfl
  unfold shO
  rw [e, ← hc, ← hx]
  rw [← hc] at hc0 hc1
  -- x * P = K * d + P * m, m < R
  have hem := Int.emod_add_mul_ediv x R
  have hm0 : 0 ≤ x % R := Int.emod_nonneg _ (by omega)
  have hm1 : x % R < R := Int.emod_lt_of_pos _ (by omega)
  obtain ⟨m, hm⟩ : ∃ m, m = x % R := ⟨_, rfl⟩
  obtain ⟨d, hd⟩ : ∃ d, d = x / R := ⟨_, rfl⟩
  rw [← hm, ← hd] at hem
  rw [← hm] at hm0 hm1
  have e1 : x * P = 4294967296 * d + m * P := by rw [← hem, ← hPR]; grind
  have e2 : (m + 1) * P ≤ R * P := Int.mul_le_mul_of_nonneg_right (by omega) (by omega)
  have e3 : (m + 1) * P = m * P + P := by grind
  have e4 : 0 ≤ m * P := Int.mul_nonneg hm0 (by omega)
  have e5 : R * P = 4294967296 := by rw [Int.mul_comm]; exact hPR
  omega
theorem sh_val {a : List Int} (ha : D32 a) {P R : Int} (hP : 1 ≤ P) (hR : 1 ≤ R) (hPR : P * R = 4294967296) (n : Nat) (hn : a.length ≤ n) : dv 4294967296 ((List.range n).map (shO a P)) + 4294967296 ^ n * shC a P n = P * v32 a := by
  have h := carries 4294967296 (fun j => P * a.getD j 0) (shO a P) (shC a P) n (fun j _ => by
    show _ = P * a.getD j 0 + _
    rw [Int.mul_comm P]; exact sh_step ha hP hR hPR j)
  rw [ps_mul, ps_all _ _ hn, ← dv_map_range] at h
  have h0 : shC a P 0 = 0 := by simp [shC, shLow]
  rw [h0, Int.add_zero] at h
  exact h
theorem sh_digit {a : List Int} (ha : D32 a) (by_ : Nat) (hby : by_ ≤ 31) (i : Nat) : shl .u64 (a.getD i 0 * 4294967296 + shLow a i) (by_ : Int) / 4294967296 % 4294967296 = shO a (2 ^ by_) i := by
  have hb : min by_ IntKind.u64.bits = by_ := by have : IntKind.u64.bits = 64 := rfl; omega
  unfold shl
  rw [Int.toNat_natCast, hb, u64_mod]
  unfold shO shC
  obtain ⟨P, hP⟩ : ∃ P : Int, P = 2 ^ by_ := ⟨_, rfl⟩
  rw [← hP]
  have e : (a.getD i 0 * 4294967296 + shLow a i) * P = (a.getD i 0 * P) * 4294967296 + shLow a i * P := by grind
  rw [e]
  omega
theorem shift_loop {a : List Int} (ha : D32 a) (by_ : Nat) (hby : by_ ≤ 31) (n : Nat) (hn : n ≤ 100000) : ∀ i, i ≤ n → ∀ out : List Int, out.length = n → (∀ p, p < i → out.getD p 0 = shO a (2 ^ by_) p) →
    Ev (fun k => nat_shift.l0 k a (by_ : Int) out (n : Int) (i : Int)) ((List.range n).map (shO a (2 ^ by_))) := by
  refine down n ?_ ?_
  · intro out hl h
    refine Ev.step (fun k => by simp only [nat_shift.l0]; rfl) (ev_neg (by omega) (ev_eq ?_))
    refine list_ext 0 (by simp [hl]) fun p hp => ?_
    rw [h p (by omega), getD_lt (by simp; omega)]
    simp
  · intro i hi ih out hl h
    have hg := ha.get K0 i
    have hlow := shLow_b ha i
    have hnext := ih (out.set i (shO a (2 ^ by_) i)) (by simpa using hl) (fun p hp => by
      by_cases e : i = p
      · subst e; rw [gset_same (by omega)]
      · rw [gset_ne e]; exact h p (by omega))
    have hor : Go.bits .or .u64 (IntKind.u64.wrap (a.getD i 0 * 4294967296)) (shLow a i) = a.getD i 0 * 4294967296 + shLow a i := by
      rw [u64_id (n := a.getD i 0 * 4294967296) (by omega) (by omega), or32 (by omega) (by omega) (by omega) hlow.1 hlow.2]
    refine Ev.step (fun k => by simp only [nat_shift.l0]; rfl) (ev_pos (by omega) ?_)
    by_cases h0 : (i : Int) > 0
    · refine ev_pos h0 ?_
      have e1 : wrap64 ((i : Int) - 1) = ((i - 1 : Nat) : Int) := by unfold wrap64; omega
      rw [e1]
      have e2 : a.getD (i - 1) 0 = shLow a i := by
        obtain ⟨j, rfl⟩ : ∃ j, i = j + 1 := ⟨i - 1, by omega⟩
        rfl
      refine ev_pure (nat_at_eq ha (i - 1)) (ev_pure (nat_at_eq ha i) ?_)
      refine ev_pos (by omega) (ev_pos (by omega) (ev_pos (by omega) ?_))
      rw [e2, hor, sh_digit ha by_ hby i, Int.toNat_natCast, inc64 (by omega)]
      exact hnext
    · refine ev_neg h0 ?_
      have hi0 : i = 0 := by omega
      subst hi0
      have e2 : shLow a 0 = 0 := rfl
      rw [e2] at hor
      refine ev_pure (nat_at_eq ha 0) ?_
      refine ev_pos (by omega) (ev_pos (by omega) (ev_pos (by omega) ?_))
      have hd := sh_digit ha by_ hby 0
      rw [e2] at hd
      rw [hor, hd, Int.toNat_natCast, inc64 (by omega)]
      exact hnext
theorem shift_ev {a : List Int} (ha : D32 a) (by_ : Nat) (hby : by_ ≤ 31) (n : Nat) (hn : n ≤ 100000) : Ev (fun k => nat_shift.f k a (by_ : Int) (n : Int)) ((List.range n).map (shO a (2 ^ by_))) := by
  unfold nat_shift.f
  rw [Int.toNat_natCast]
  refine ev_pos (by omega) (ev_pos (by omega) (ev_let ?_))
  rw [List.length_replicate]
  exact shift_loop ha by_ hby n hn 0 (by omega) _ (by simp) (fun p hp => by omega)
end Go.Proofs.YtcidmdjhmhkmgaaDoor.Pure
end

-- NatH
section
set_option linter.unusedVariables false
namespace Go.Proofs.YtcidmdjhmhkmgaaDoor.Pure
open Go.RowKit Go.Proofs.YtcidmdjhmhkmgaaDoorW.PrintWords Go.Proofs.YtcidmdjhmhkmgaaDoorW.PrintMore Go.Proofs.YtcidmdjhmhkmgaaDoor.S Go.Proofs.YtcidmdjhmhkmgaaDoor.L
theorem zero_above {l : List Int} (hd : D32 l) {m : Nat} (h : v32 l < 4294967296 ^ m) (p : Nat) (hp : m ≤ p) : l.getD p 0 = 0 := by
  have g := hd.get K0 p
  refine Int.le_antisymm (Int.le_of_not_gt fun h1 => ?_) g.1
  have e := dv_parts 4294967296 l p
  rw [dv_drop] at e
  have n1 := dv_nonneg K0 (hd.take p)
  have n2 := dv_nonneg K0 (hd.drop (p + 1))
  have hP := pow_pos_ K0 p
  have h2 := pow_mono (B := 4294967296) (by decide) hp
  have h3 : 4294967296 ^ p * 1 ≤ 4294967296 ^ p * (l.getD p 0 + 4294967296 * dv 4294967296 (l.drop (p + 1))) := Int.mul_le_mul_of_nonneg_left (by omega) (Int.le_of_lt hP)
  have h' : dv 4294967296 l < 4294967296 ^ m := h
  omega
theorem lt_of_zero {l : List Int} (hd : D32 l) (m : Nat) (h : ∀ p, m ≤ p → l.getD p 0 = 0) : v32 l < 4294967296 ^ m := by
  have hz0 : dv 4294967296 (l.drop m) = 0 := by
    have hall : ∀ x ∈ l.drop m, x = 0 := fun x hx => by
      obtain ⟨j, hj, rfl⟩ := List.getElem_of_mem hx
      rw [List.length_drop] at hj
      have := h (m + j) (by omega)
      rw [getD_lt (by omega)] at this
      rw [List.getElem_drop]; exact this
    rw [List.eq_replicate_of_mem hall]; exact replicate_zero _ _
  have e := dv_parts 4294967296 l m
  rw [hz0, Int.mul_zero, Int.add_zero] at e
  show dv _ _ < _
  rw [e]
  exact dv_take_lt K0 hd m
theorem div_step {u v : List Int} (hu : D32 u) (hv : D32 v) (k n : Nat) (hn : n = v.length) (h2 : 2 ≤ n) (hl : k + n < u.length) (hm : u.length ≤ 100000) (hv1 : 2147483648 ≤ v.getD (n - 1) 0) (hU : v32 u < 4294967296 ^ (k + 1) * v32 v) (hV0 : 0 < v32 v) :
    ∃ g b u1, Ev (fun m => nat_guess.f m u v (k : Int)) g ∧ Ev (fun m => nat_take.f m u v (k : Int) g) (b, u1) ∧ 0 ≤ g ∧ g < 4294967296 ∧ u1.length = u.length ∧
      ((b = false ∧ D32 u1 ∧ v32 u = 4294967296 ^ k * (g * v32 v) + v32 u1 ∧ v32 u1 < 4294967296 ^ k * v32 v) ∨
       (b = true ∧ 1 ≤ g ∧ ∃ u2, Ev (fun m => nat_back.f m u1 v (k : Int)) u2 ∧ u2.length = u.length ∧ D32 u2 ∧ v32 u = 4294967296 ^ k * ((g - 1) * v32 v) + v32 u2 ∧ v32 u2 < 4294967296 ^ k * v32 v)) := by
  have hVn : v32 v < 4294967296 ^ n := by rw [hn]; exact dv_lt K0 hv
  have hP := pow_pos_ K0 k
  have hN : v32 u < 4294967296 ^ (k + n + 1) := by
    have e : (4294967296 : Int) ^ (k + n + 1) = 4294967296 ^ (k + 1) * 4294967296 ^ n := by rw [← Int.pow_add]; congr 1; omega
    have := Int.mul_lt_mul_of_pos_left hVn (pow_pos_ K0 (k + 1))
    rw [e]; omega
  have hz := zero_above hu hN
  obtain ⟨U, hUd⟩ : ∃ U, U = v32 (u.drop k) := ⟨_, rfl⟩
  have hpart : v32 u = dv 4294967296 (u.take k) + 4294967296 ^ k * U := by rw [hUd]; exact dv_parts _ u k
  have t0 := dv_nonneg K0 (hu.take k)
  have t1 := dv_take_lt K0 hu k
  have hU0 : 0 ≤ U := by rw [hUd]; exact dv_nonneg K0 (hu.drop k)
  obtain ⟨P, hPd⟩ : ∃ P, P = (4294967296 : Int) ^ k := ⟨_, rfl⟩
  obtain ⟨V, hVd⟩ : ∃ V, V = v32 v := ⟨_, rfl⟩
  have hUlt : U < 4294967296 * V := by
    refine Int.lt_of_not_ge fun h => ?_
    have h3 : P * (4294967296 * V) ≤ P * U := Int.mul_le_mul_of_nonneg_left h (by omega)
    rw [Int.pow_succ, ← hPd, ← hVd] at hU
    rw [← hPd] at hpart
    have h4 : P * 4294967296 * V = P * (4294967296 * V) := by grind
    omega
  obtain ⟨g, g1, g2, g3, g4⟩ := guess_ev hu hv k n hn h2 hl hm (fun p hp => hz p (by omega)) hv1 (by rw [← hUd, ← hVd]; exact hUlt)
  rw [← hUd, ← hVd] at g2 g3
  rw [← hVd] at hV0 ⊢
  obtain ⟨Q, hQ⟩ : ∃ Q, Q = U / V := ⟨_, rfl⟩
  rw [← hQ] at g2 g3
  have hQ0 : 0 ≤ Q := by rw [hQ]; exact Int.ediv_nonneg hU0 (by omega)
  have hQ1 : Q * V ≤ U := by rw [hQ]; exact Int.ediv_mul_le _ (by omega)
  have hQ2 : U < Q * V + V := by
    have := Int.lt_ediv_add_one_mul_self U hV0
    rw [← hQ] at this
    have e : (Q + 1) * V = Q * V + V := by grind
    omega
  obtain ⟨b', u1, q1, q2, q3, q4, b, q5, q6, q7, q8⟩ := take_ev hu hv k (by omega : 0 ≤ g) g4 (by omega) hm
  rw [← hn, ← hVd, ← hPd] at q8
  rw [← hPd] at hpart t1 ⊢
  have hu1 : v32 u1 < 4294967296 ^ (k + n + 1) := lt_of_zero q2 _ (fun p hp => by rw [q4 p (by omega)]; exact hz p hp)
  have hu10 : 0 ≤ v32 u1 := dv_nonneg K0 q2
  obtain ⟨T, hT⟩ : ∃ T, T = (4294967296 : Int) ^ (k + n + 1) := ⟨_, rfl⟩
  rw [← hT] at q8 hu1
  -- what is left
  obtain ⟨R, hR⟩ : ∃ R, R = U - Q * V := ⟨_, rfl⟩
  have hPR0 : 0 ≤ P * R := Int.mul_nonneg (by omega) (by omega)
  have hPR1 : P * (R + 1) ≤ P * V := Int.mul_le_mul_of_nonneg_left (by omega) (by omega)
  have e1 : P * (R + 1) = P * R + P := by grind
  have e2 : P * U = P * R + P * (Q * V) := by rw [hR]; grind
  have hbb : b = 0 ∨ b = 1 := by omega
  refine ⟨g, b', u1, g1, q1, by omega, g4, q3, ?_⟩
  rcases (show g = Q ∨ g = Q + 1 by omega) with h | h
  · subst h
    rcases hbb with hb | hb
    · rw [hb] at q8 q7
      exact .inl ⟨by rw [q7]; rfl, q2, by omega, by omega⟩
    · rw [hb] at q8
      omega
  · have e3 : P * (g * V) = P * (Q * V) + P * V := by rw [h]; grind
    rcases hbb with hb | hb
    · rw [hb] at q8
      omega
    · rw [hb] at q8 q7
      obtain ⟨u2, p1, p2, p3, p4, c, p5, p6, p7⟩ := back_ev q2 hv k (by omega) (by omega)
      rw [← hn, ← hVd, ← hPd, ← hT] at p7
      have hu2 : v32 u2 < T := by rw [hT]; exact lt_of_zero p2 _ (fun p hp => by rw [p4 p (by omega), q4 p (by omega)]; exact hz p hp)
      have hc : c = 0 ∨ c = 1 := by omega
      refine .inr ⟨by rw [q7]; rfl, by omega, u2, p1, by omega, p2, ?_⟩
      have e4 : g - 1 = Q := by omega
      rw [e4]
      rcases hc with hc | hc
      · rw [hc] at p7
        omega
      · rw [hc] at p7
        exact ⟨by omega, by omega⟩
end Go.Proofs.YtcidmdjhmhkmgaaDoor.Pure
end

-- NatI
section
set_option linter.unusedVariables false
namespace Go.Proofs.YtcidmdjhmhkmgaaDoor.Pure
open Go.RowKit Go.Proofs.YtcidmdjhmhkmgaaDoorW.PrintWords Go.Proofs.YtcidmdjhmhkmgaaDoorW.PrintMore Go.Proofs.YtcidmdjhmhkmgaaDoor.S Go.Proofs.YtcidmdjhmhkmgaaDoor.L
structure DvSt (u v out : List Int) (A : Int) (L M i : Nat) : Prop where
  du : D32 u
  lu : u.length = L
  dq : D32 out
  lo : out.length = M
  zero : ∀ p, p < i → out.getD p 0 = 0
  lt : v32 u < 4294967296 ^ i * v32 v
  val : A = v32 v * v32 out + v32 u
theorem divide_loop {b v : List Int} (hv : D32 v) (n L M : Nat) (hn : n = v.length) (h2 : 2 ≤ n) (hL : L = M + n) (hm : L ≤ 100000) (hv1 : 2147483648 ≤ v.getD (n - 1) 0) (hV0 : 0 < v32 v) (by_ : Int) {A : Int} {Q : List Int × List Int → Prop}
    (fin : ∀ u out, DvSt u v out A L M 0 → ∃ r, Q r ∧ Ev (fun k => nat_divide.l0 k b by_ u v out (-1)) r) : ∀ i, i ≤ M → ∀ u out, DvSt u v out A L M i → ∃ r, Q r ∧ Ev (fun k => nat_divide.l0 k b by_ u v out ((i : Int) - 1)) r
  | 0, _, u, out, h => by
    have := fin u out h
    exact this
  | k + 1, hi, u, out, h => by
    have hlu := h.lu
    have hlo := h.lo
    have e1 : ((k + 1 : Nat) : Int) - 1 = (k : Int) := by omega
    rw [e1]
    obtain ⟨g, bo, u1, g1, g2, g3, g4, g5, g6⟩ := div_step h.du hv k n hn h2 (by omega) (by omega) hv1 h.lt hV0
    have hval := h.val
    rcases g6 with ⟨rfl, p1, p2, p3⟩ | ⟨rfl, p0, u2, p1, p2, p3, p4, p5⟩
    · obtain ⟨r, hq, hr⟩ := divide_loop hv n L M hn h2 hL hm hv1 hV0 by_ fin k (by omega) u1 (out.set k g) ⟨p1, by omega, h.dq.set _ ⟨g3, g4⟩, by rw [List.length_set]; exact hlo, fun p hp => by rw [gset_ne (by omega)]; exact h.zero p (by omega), p3, by
        show A = _ * dv _ _ + _
        rw [dv_set _ _ _ _ (by omega), h.zero k (by omega)]
        have hval' : A = v32 v * dv 4294967296 out + v32 u := hval
        rw [hval', p2]; grind⟩
      refine ⟨r, hq, Ev.step (fun m => by simp only [nat_divide.l0]; rfl) (ev_pos (by omega) (ev_call g1 (ev_call g2 ?_)))⟩
      refine ev_neg (by simp) ?_
      refine ev_pos (by omega) ?_
      refine ev_pos (by omega) ?_
      rw [Int.toNat_natCast, Int.emod_eq_of_lt g3 g4, dec64 (by omega)]
      exact hr
    · obtain ⟨r, hq, hr⟩ := divide_loop hv n L M hn h2 hL hm hv1 hV0 by_ fin k (by omega) u2 (out.set k (g - 1)) ⟨p3, by omega, h.dq.set _ ⟨by omega, by omega⟩, by rw [List.length_set]; exact hlo, fun p hp => by rw [gset_ne (by omega)]; exact h.zero p (by omega), p5, by
        show A = _ * dv _ _ + _
        rw [dv_set _ _ _ _ (by omega), h.zero k (by omega)]
        have hval' : A = v32 v * dv 4294967296 out + v32 u := hval
        rw [hval', p4]; grind⟩
      refine ⟨r, hq, Ev.step (fun m => by simp only [nat_divide.l0]; rfl) (ev_pos (by omega) (ev_call g1 (ev_call g2 ?_)))⟩
      refine ev_pos (c := true = true) rfl ?_
      refine ev_call p1 ?_
      refine ev_pos (by omega) ?_
      refine ev_pos (by omega) ?_
      rw [Int.toNat_natCast, u64_id (n := g - 1) (by omega) (by omega), Int.emod_eq_of_lt (by omega) (by omega), dec64 (by omega)]
      exact hr
end Go.Proofs.YtcidmdjhmhkmgaaDoor.Pure
end

-- NatJ
section
set_option linter.unusedVariables false
namespace Go.Proofs.YtcidmdjhmhkmgaaDoor.Pure
open Go.RowKit Go.Proofs.YtcidmdjhmhkmgaaDoorW.PrintWords Go.Proofs.YtcidmdjhmhkmgaaDoorW.PrintMore Go.Proofs.YtcidmdjhmhkmgaaDoor.S Go.Proofs.YtcidmdjhmhkmgaaDoor.L
/-! ### what divide leaves, shifted back -/
def rsO (u : List Int) (P : Int) (i : Nat) : Int := (u.getD (i + 1) 0 * 4294967296 + u.getD i 0) / P % 4294967296
theorem rs_step {u : List Int} (hu : D32 u) {P R : Int} (hP : 1 ≤ P) (hR : 1 ≤ R) (hPR : P * R = 4294967296) (i : Nat) : P * rsO u P i + u.getD i 0 % P = u.getD i 0 + 4294967296 * (u.getD (i + 1) 0 % P) := by
  have g0 := hu.get K0 i
  have g1 := hu.get K0 (i + 1)
  obtain ⟨x, hx⟩ : ∃ x, x = u.getD i 0 := ⟨_, rfl⟩
  obtain ⟨y, hy⟩ : ∃ y, y = u.getD (i + 1) 0 := ⟨_, rfl⟩
  unfold rsO
  rw [← hx] at g0 ⊢
  rw [← hy] at g1 ⊢
  have ex := Int.emod_add_mul_ediv x P
  have ey := Int.emod_add_mul_ediv y P
  have mx0 : 0 ≤ x % P := Int.emod_nonneg _ (by omega)
  have mx1 : x % P < P := Int.emod_lt_of_pos _ (by omega)
  have my0 : 0 ≤ y % P := Int.emod_nonneg _ (by omega)
  have my1 : y % P < P := Int.emod_lt_of_pos _ (by omega)
  obtain ⟨a, ha⟩ : ∃ a, a = x / P := ⟨_, rfl⟩
  obtain ⟨m, hm⟩ : ∃ m, m = y % P := ⟨_, rfl⟩
  obtain ⟨d, hd⟩ : ∃ d, d = y / P := ⟨_, rfl⟩
  obtain ⟨w, hw⟩ : ∃ w, w = x % P := ⟨_, rfl⟩
  rw [← ha, ← hw] at ex
  rw [← hm, ← hd] at ey
  rw [← hm] at my0 my1 ⊢
  rw [← hw] at mx0 mx1 ⊢
  have ha0 : 0 ≤ a := by rw [ha]; exact Int.ediv_nonneg g0.1 (by omega)
  have ha1 : a < R := by rw [ha]; exact Int.ediv_lt_of_lt_mul (by omega) (by rw [Int.mul_comm, hPR]; exact g0.2)
  -- (y * K + x) / P = y * R + a
  have e1 : y * 4294967296 + x = w + P * (y * R + a) := by rw [← hPR, ← ex]; grind
  have e2 : (y * 4294967296 + x) / P = y * R + a := by
    rw [e1, Int.add_mul_ediv_left _ _ (by omega), Int.ediv_eq_zero_of_lt mx0 mx1, Int.zero_add]
  -- y * R = m * R + K * d
  have e3 : y * R = m * R + 4294967296 * d := by rw [← ey, ← hPR]; grind
  have e4 : (m + 1) * R ≤ P * R := Int.mul_le_mul_of_nonneg_right (by omega) (by omega)
  have e5 : (m + 1) * R = m * R + R := by grind
  have e6 : 0 ≤ m * R := Int.mul_nonneg my0 (by omega)
  have e7 : (y * 4294967296 + x) / P % 4294967296 = m * R + a := by rw [e2, e3]; omega
  rw [e7]
  have e8 : P * (m * R + a) = 4294967296 * m + P * a := by rw [← hPR]; grind
  omega
theorem rs_digit {u : List Int} (hu : D32 u) (by_ : Nat) (hby : by_ ≤ 31) (i : Nat) : shr .u64 (Go.bits .or .u64 (IntKind.u64.wrap (IntKind.u64.wrap (u.getD (i + 1) 0) * 4294967296)) (IntKind.u64.wrap (u.getD i 0))) (by_ : Int) % 4294967296 = rsO u (2 ^ by_) i := by
  have g0 := hu.get K0 i
  have g1 := hu.get K0 (i + 1)
  have hb : min by_ IntKind.u64.bits = by_ := by have : IntKind.u64.bits = 64 := rfl; omega
  rw [u64_id (n := u.getD (i + 1) 0) g1.1 (by omega), u64_id (n := u.getD i 0) g0.1 (by omega), u64_id (n := u.getD (i + 1) 0 * 4294967296) (by omega) (by omega), or32 (by omega) (by omega) (by omega) g0.1 g0.2]
  unfold shr
  rw [Int.toNat_natCast, hb]
  rfl
theorem rs_loop {u out : List Int} (hu : D32 u) (by_ : Nat) (hby : by_ ≤ 31) (n : Nat) (hn : n < u.length) (hm : n ≤ 100000) {q : List Int} (hq : Ev (fun k => nat_trim.f k out) q) {r : List Int} (hr : Ev (fun k => nat_trim.f k ((List.range n).map (rsO u (2 ^ by_)))) r) : ∀ i, i ≤ n → ∀ l : List Int, l.length = n → (∀ p, p < i → l.getD p 0 = rsO u (2 ^ by_) p) →
    Ev (fun k => nat_divide.l1 k (by_ : Int) u out l (n : Int) (i : Int)) (q, r) := by
  refine down n ?_ ?_
  · intro l hl h
    have e : l = (List.range n).map (rsO u (2 ^ by_)) := by
      refine list_ext 0 (by simp [hl]) fun p hp => ?_
      rw [h p (by omega), getD_lt (by simp; omega)]
      simp
    rw [e]
    refine Ev.step (fun k => by simp only [nat_divide.l1]; rfl) (ev_neg (by omega) ?_)
    refine ev_call hq ?_
    exact ev_call (f := fun _ t211 => some (q, t211)) hr ev_ret
  · intro i hi ih l hl h
    have hnext := ih (l.set i (rsO u (2 ^ by_) i)) (by simpa using hl) (fun p hp => by
      by_cases e : i = p
      · subst e; rw [gset_same (by omega)]
      · rw [gset_ne e]; exact h p (by omega))
    refine Ev.step (fun k => by simp only [nat_divide.l1]; rfl) (ev_pos (by omega) ?_)
    rw [inc64 (by omega)]
    refine ev_pos (by omega) ?_
    refine ev_pos (by omega) ?_
    refine ev_pos (by omega) ?_
    refine ev_pos (by omega) ?_
    refine ev_pos (by omega) ?_
    refine ev_pos (by omega) ?_
    rw [rd_nat, rd_nat, rs_digit hu by_ hby i, Int.toNat_natCast]
    exact hnext
/-- The rest's value: with no figure at n, and P dividing. -/
theorem rs_val {u : List Int} (hu : D32 u) {P R : Int} (hP : 1 ≤ P) (hR : 1 ≤ R) (hPR : P * R = 4294967296) (n : Nat) (hlt : v32 u < 4294967296 ^ n) (hd : v32 u % P = 0) : P * dv 4294967296 ((List.range n).map (rsO u P)) = v32 u := by
  have hz := zero_above hu hlt
  -- carries, the other way round
  have h : ∀ i, P * ps 4294967296 (rsO u P) i + u.getD 0 0 % P = ps 4294967296 (fun j => u.getD j 0) i + 4294967296 ^ i * (u.getD i 0 % P) := by
    intro i
    induction i with
    | zero => simp [ps]
    | succ i ih =>
      have hs := rs_step hu hP hR hPR i
      simp only [ps, Int.pow_succ]
      have e : 4294967296 ^ i * (P * rsO u P i + u.getD i 0 % P) = 4294967296 ^ i * (u.getD i 0 + 4294967296 * (u.getD (i + 1) 0 % P)) := by rw [hs]
      grind
  have hn := h n
  rw [hz n (Nat.le_refl _), ← dv_map_range, ps_getD] at hn
  have htake : dv 4294967296 (u.take n) = v32 u := by
    have e := dv_parts 4294967296 u n
    have hz0 : dv 4294967296 (u.drop n) = 0 := by
      have hall : ∀ x ∈ u.drop n, x = 0 := fun x hx => by
        obtain ⟨j, hj, rfl⟩ := List.getElem_of_mem hx
        rw [List.length_drop] at hj
        have := hz (n + j) (by omega)
        rw [getD_lt (by omega)] at this
        rw [List.getElem_drop]; exact this
      rw [List.eq_replicate_of_mem hall]; exact replicate_zero _ _
    rw [hz0, Int.mul_zero, Int.add_zero] at e
    exact e.symm
  rw [htake] at hn
  have e0 : u.getD 0 0 % P = 0 := by
    have e := dv_drop 4294967296 u 0
    rw [List.drop_zero] at e
    have e' : v32 u = u.getD 0 0 + P * (R * dv 4294967296 (u.drop (0 + 1))) := by
      show dv _ _ = _
      rw [e, ← hPR]; grind
    rw [e', Int.add_mul_emod_self_left] at hd
    exact hd
  rw [e0] at hn
  simpa using hn
end Go.Proofs.YtcidmdjhmhkmgaaDoor.Pure
end

-- NatK
section
set_option linter.unusedVariables false
namespace Go.Proofs.YtcidmdjhmhkmgaaDoor.Pure
open Go.RowKit Go.Proofs.YtcidmdjhmhkmgaaDoorW.PrintWords Go.Proofs.YtcidmdjhmhkmgaaDoorW.PrintMore Go.Proofs.YtcidmdjhmhkmgaaDoor.S Go.Proofs.YtcidmdjhmhkmgaaDoor.L
theorem bitLen_b {x : Nat} (h0 : x ≠ 0) (h1 : x < 4294967296) : 1 ≤ Lib.bitLen x ∧ Lib.bitLen x ≤ 32 ∧ 2 ^ (Lib.bitLen x - 1) ≤ x ∧ x < 2 ^ Lib.bitLen x := by
  obtain ⟨a, b, c⟩ := Lib.bitLenAux_bounds 64 x (by omega) h0
  refine ⟨a, ?_, b, c⟩
  refine Nat.le_of_not_lt fun h => ?_
  have h3 : 32 ≤ Lib.bitLen x - 1 := by omega
  have h4 : 2 ^ 32 ≤ 2 ^ (Lib.bitLen x - 1) := Nat.pow_le_pow_right (by decide) h3
  have h5 : 2 ^ (Lib.bitLen x - 1) ≤ x := b
  omega
theorem lz_eq {x : Int} (h0 : 0 ≤ x) (h1 : x < 4294967296) : bits_LeadingZeros32.f x = some (32 - (Lib.bitLen x.toNat : Int)) := by
  unfold bits_LeadingZeros32.f
  rw [if_pos ⟨h0, by omega⟩]
theorem shO_dg {a : List Int} {P : Int} (n : Nat) : D32 ((List.range n).map (shO a P)) := dg_map_range (fun j _ => by unfold shO; omega)
theorem divide_ev {a b : List Int} (ca : C32 a) (cb : C32 b) (hla : a.length ≤ 10000) (h2 : 2 ≤ b.length) (hab : b.length ≤ a.length) :
    ∃ r : List Int × List Int, (C32 r.1 ∧ C32 r.2 ∧ v32 a = v32 b * v32 r.1 + v32 r.2 ∧ v32 r.2 < v32 b ∧ r.1.length ≤ a.length ∧ r.2.length ≤ b.length) ∧ Ev (fun k => nat_divide.f k a b) r := by
  have hb0 : b ≠ [] := fun e => by rw [e] at h2; simp at h2
  obtain ⟨n, hn⟩ : ∃ n, n = b.length := ⟨_, rfl⟩
  obtain ⟨m, hm⟩ : ∃ m, m = a.length := ⟨_, rfl⟩
  obtain ⟨M, hM⟩ : ∃ M, M = m - n + 1 := ⟨_, rfl⟩
  have ew : wrap64 ((b.length : Int) - 1) = ((n - 1 : Nat) : Int) := by unfold wrap64; omega
  have ew2 : wrap64 ((a.length : Int) + 1) = ((m + 1 : Nat) : Int) := by unfold wrap64; omega
  have ew3 : wrap64 ((a.length : Int) - (b.length : Int)) = (M : Int) - 1 := by unfold wrap64; omega
  have ew4 : wrap64 ((M : Int) - 1 + 1) = (M : Int) := by unfold wrap64; omega
  have b1 : m + 1 ≤ 100000 := by omega
  have b2 : n ≤ 100000 := by omega
  have b3 : M ≤ 70368744177664 := by omega
  have b4 : (0 : Int) ≤ (M : Int) := by omega
  have b5 : (0 : Int) ≤ ((n - 1 : Nat) : Int) := by omega
  have b6 : ((n - 1 : Nat) : Int) < (b.length : Int) := by omega
  have gt := cb.dg.get K0 (n - 1)
  have ht := cb.top hb0
  rw [← hn] at ht
  obtain ⟨top, htop⟩ : ∃ top : Nat, b.getD (n - 1) 0 = (top : Int) := ⟨(b.getD (n - 1) 0).toNat, by omega⟩
  rw [htop] at gt ht
  obtain ⟨bl1, bl2, bl3, bl4⟩ := bitLen_b (x := top) (by omega) (by omega)
  obtain ⟨bl, hbl⟩ : ∃ bl, bl = Lib.bitLen top := ⟨_, rfl⟩
  rw [← hbl] at bl1 bl2 bl3 bl4
  obtain ⟨y, hy⟩ : ∃ y, y = 32 - bl := ⟨_, rfl⟩
  have e32 : (32 : Int) - (bl : Int) = (y : Int) := by omega
  obtain ⟨P, hP⟩ : ∃ P : Int, P = 2 ^ y := ⟨_, rfl⟩
  obtain ⟨R, hR⟩ : ∃ R : Int, R = 2 ^ bl := ⟨_, rfl⟩
  have hP1 : 1 ≤ P := by rw [hP]; have := pow_pos_ (B := 2) (by decide) y; omega
  have hR1 : 1 ≤ R := by rw [hR]; have := pow_pos_ (B := 2) (by decide) bl; omega
  have hPR : P * R = 4294967296 := by rw [hP, hR, ← Int.pow_add, show y + bl = 32 by omega]; rfl
  have htR : (top : Int) + 1 ≤ R := by rw [hR]; have : ((2 ^ bl : Nat) : Int) = 2 ^ bl := by push_cast; rfl
                                       omega
  have htR2 : R ≤ 2 * top := by
    have e : (2 : Nat) ^ bl = 2 * 2 ^ (bl - 1) := by rw [show bl = (bl - 1) + 1 by omega, Nat.pow_succ, Nat.mul_comm]; rfl
    have e2 : ((2 ^ bl : Nat) : Int) = 2 ^ bl := by push_cast; rfl
    rw [hR]; omega
  have hy31 : y ≤ 31 := by omega
  have ht1 : (top : Int) * P + P ≤ 4294967296 := by
    have h := Int.mul_le_mul_of_nonneg_left htR (show 0 ≤ P by omega)
    have e : P * ((top : Int) + 1) = top * P + P := by grind
    omega
  have ht2 : 2147483648 ≤ (top : Int) * P := by
    have h := Int.mul_le_mul_of_nonneg_left htR2 (show 0 ≤ P by omega)
    have e : P * (2 * (top : Int)) = 2 * (top * P) := by grind
    omega
  obtain ⟨u, hu⟩ : ∃ u, u = (List.range (m + 1)).map (shO a P) := ⟨_, rfl⟩
  obtain ⟨v, hv⟩ : ∃ v, v = (List.range n).map (shO b P) := ⟨_, rfl⟩
  have du : D32 u := by rw [hu]; exact shO_dg _
  have dv_ : D32 v := by rw [hv]; exact shO_dg _
  have lu : u.length = m + 1 := by rw [hu]; simp
  have lv : v.length = n := by rw [hv]; simp
  have vu : v32 u = P * v32 a := by
    have h := sh_val ca.dg hP1 hR1 hPR (m + 1) (by omega)
    have e : shC a P (m + 1) = 0 := by
      show a.getD m 0 * P / 4294967296 = 0
      rw [getD_out (by omega)]; simp
    rw [e, ← hu, Int.mul_zero, Int.add_zero] at h
    exact h
  have vv : v32 v = P * v32 b := by
    have h := sh_val cb.dg hP1 hR1 hPR n (by omega)
    have e : shC b P n = 0 := by
      rw [show n = (n - 1) + 1 by omega]
      show b.getD (n - 1) 0 * P / 4294967296 = 0
      rw [htop]; omega
    rw [e, ← hv, Int.mul_zero, Int.add_zero] at h
    exact h
  have hv1 : 2147483648 ≤ v.getD (n - 1) 0 := by
    rw [hv, getD_lt (by simp; omega)]
    simp only [List.getElem_map, List.getElem_range]
    unfold shO
    have hc0 : 0 ≤ shC b P (n - 1) := Int.ediv_nonneg (Int.mul_nonneg (shLow_b cb.dg _).1 (by omega)) (by decide)
    have hc1 : shC b P (n - 1) < P := by
      refine Int.ediv_lt_of_lt_mul (by decide) ?_
      have := Int.mul_lt_mul_of_pos_right (shLow_b cb.dg (n - 1)).2 (show 0 < P by omega)
      rw [Int.mul_comm P]; exact this
    rw [htop, Int.emod_eq_of_lt (by omega) (by omega)]
    omega
  have hb1 := cn_pow_le K0 cb hb0
  rw [← hn] at hb1
  have hbp : 0 < v32 b := by
    have := pow_pos_ K0 (n - 1)
    show 0 < dv _ _
    omega
  have hV0 : 0 < v32 v := by rw [vv]; exact Int.mul_pos (by omega) hbp
  have ha1 : v32 a < 4294967296 ^ m := by rw [hm]; exact dv_lt K0 ca.dg
  have hlt : v32 u < 4294967296 ^ M * v32 v := by
    rw [vu, vv]
    have e : (4294967296 : Int) ^ m = 4294967296 ^ M * 4294967296 ^ (n - 1) := by rw [← Int.pow_add]; congr 1; omega
    have h3 : 4294967296 ^ M * 4294967296 ^ (n - 1) ≤ 4294967296 ^ M * v32 b := Int.mul_le_mul_of_nonneg_left hb1 (Int.le_of_lt (pow_pos_ K0 M))
    have h4 : P * v32 a < P * (4294967296 ^ M * v32 b) := Int.mul_lt_mul_of_pos_left (by omega) (by omega)
    have h5 : P * (4294967296 ^ M * v32 b) = 4294967296 ^ M * (P * v32 b) := by grind
    omega
  have zl : ∀ p, (List.replicate M (0 : Int)).getD p 0 = 0 := fun p => by
    by_cases hp : p < M
    · rw [getD_lt (by simpa using hp)]; simp
    · exact getD_out (by simp; omega)
  obtain ⟨r, hq, hr⟩ := divide_loop (b := b) dv_ n (m + 1) M lv.symm (by omega) (by omega) (by omega) hv1 hV0 (y : Int) (A := P * v32 a)
    (Q := fun r => C32 r.1 ∧ C32 r.2 ∧ v32 a = v32 b * v32 r.1 + v32 r.2 ∧ v32 r.2 < v32 b ∧ r.1.length ≤ a.length ∧ r.2.length ≤ b.length) (fun u' out h => by
      have h0 := h.lt
      rw [Int.pow_zero, Int.one_mul] at h0
      have hlu := h.lu
      have hlo := h.lo
      have hval := h.val
      have hvn : v32 v < 4294967296 ^ n := by rw [← lv]; exact dv_lt K0 dv_
      obtain ⟨t, t1, t2, t3, t4⟩ := trim_ev (l := out) (by omega) h.dq
      have dr : D32 ((List.range n).map (rsO u' P)) := dg_map_range (fun j _ => by unfold rsO; omega)
      obtain ⟨s, s1, s2, s3, s4⟩ := trim_ev (l := (List.range n).map (rsO u' P)) (by simp; omega) dr
      have hmod : v32 u' % P = 0 := by
        have e : v32 u' = P * (v32 a - v32 b * v32 out) := by rw [vv] at hval; grind
        rw [e, Int.mul_emod_right]
      have hrv := rs_val h.du hP1 hR1 hPR n (by omega) hmod
      have hrv' : P * v32 s = v32 u' := by rw [s3]; exact hrv
      refine ⟨(t, s), ⟨t2, s2, ?_, ?_, by simp only; omega, by simpa [hn] using s4⟩, ?_⟩
      · have e : P * v32 a = P * (v32 b * v32 t + v32 s) := by
          rw [t3, hval, vv, ← hrv']; grind
        exact Int.eq_of_mul_eq_mul_left (by omega) e
      · have e : P * v32 s < P * v32 b := by rw [hrv', ← vv]; exact h0
        exact Int.lt_of_mul_lt_mul_left e (by omega)
      · refine Ev.step (fun k => by simp only [nat_divide.l0]; rfl) (ev_neg (by omega) (ev_pos (by omega) (ev_pos (by omega) (ev_let ?_))))
        rw [Int.toNat_natCast, List.length_replicate, ← hn]
        have hl := rs_loop h.du y hy31 n (by omega) (by omega) t1 (r := s) (by rw [← hP]; exact s1) 0 (by omega) (List.replicate n 0) (by simp) (fun p hp => by omega)
        exact hl) M (Nat.le_refl _) u (List.replicate M 0) ⟨du, lu, fun x hx => by rw [List.eq_of_mem_replicate hx]; decide, by simp, fun p _ => zl p, hlt, by
      have e : v32 (List.replicate M 0) = 0 := replicate_zero _ _
      rw [e, vu]; simp⟩
  refine ⟨r, hq, ?_⟩
  unfold nat_divide.f
  rw [ew, ew2, ew3, ew4, rd_nat, htop]
  refine ev_pos b5 (ev_pos b6 (ev_pure (lz_eq gt.1 gt.2) ?_))
  rw [Int.toNat_natCast, ← hbl, e32, Int.toNat_natCast]
  have s1 := shift_ev ca.dg y hy31 (m + 1) b1
  have s2 := shift_ev cb.dg y hy31 n b2
  rw [← hP, ← hu] at s1
  rw [← hP, ← hv, hn] at s2
  exact ev_call s1 (ev_call s2 (ev_pos b4 (ev_pos b3 hr)))
theorem nil_of_v {a : List Int} (ca : C32 a) (h : v32 a = 0) : a = [] := cn_zero K0 ca h
theorem v_pos {a : List Int} (ca : C32 a) (h : a ≠ []) : 0 < v32 a := by
  have h1 := cn_pow_le K0 ca h
  have h2 := pow_pos_ K0 (a.length - 1)
  show 0 < dv _ _
  omega
theorem clone_eq {a : List Int} (h : a.length ≤ 1000000) : api_Nat_uint32_55.f a = some a := by unfold api_Nat_uint32_55.f; rw [if_pos (by omega)]
theorem divmod_ev {a b : List Int} (ca : C32 a) (cb : C32 b) (hla : a.length ≤ 1000) (hlb : b.length ≤ 1000) (h0 : b ≠ []) :
    ∃ q r, Ev (fun k => nat_divmod.f k a b) (q, r) ∧ C32 q ∧ C32 r ∧ v32 a = v32 b * v32 q + v32 r ∧ v32 r < v32 b ∧ q.length ≤ a.length ∧ r.length ≤ b.length := by
  have ho := order_ev ca cb (by omega) (by omega)
  have hbp := v_pos cb h0
  have hlp : 0 < b.length := List.length_pos_iff.2 h0
  by_cases h1 : v32 a < v32 b
  · rw [sgn_lt h1] at ho
    refine ⟨[], a, ?_, cn_nil _, ca, ?_, h1, by simp, ?_⟩
    · unfold nat_divmod.f
      exact ev_call ho (ev_pos (by decide) (ev_pure (clone_eq (by omega)) ev_ret))
    · have e : v32 ([] : List Int) = 0 := rfl
      rw [e]; omega
    · refine Nat.le_of_not_lt fun h => ?_
      have := cn_len_lt K0 cb.dg ca h
      have h1' : dv 4294967296 a < dv 4294967296 b := h1
      omega
  · have hs : ¬ sgn (v32 a) (v32 b) < 0 := by unfold sgn; rw [if_neg h1]; split <;> omega
    by_cases h2 : b.length = 1
    · obtain ⟨x, rfl⟩ : ∃ x, b = [x] := List.length_eq_one_iff.1 h2
      have gx := cb.dg x (List.mem_singleton.2 rfl)
      have e : v32 [x] = x := by show dv _ _ = x; simp [dv]
      rw [e] at hbp h1
      obtain ⟨q, r, q1, q2, q3, q4, q5, q6⟩ := small_ev ca.dg (by omega) (d := x) (by omega) gx.2
      obtain ⟨s, s1, s2, s3, s4⟩ := Of_ev (u := r) q3 (by omega)
      refine ⟨q, s, ?_, q2, s2, by rw [e, s3]; exact q5, by rw [e, s3]; exact q4, q6, ?_⟩
      · unfold nat_divmod.f
        refine ev_call ho (ev_neg hs (ev_pos (by simp) (ev_pos (by simp) ?_)))
        have ex : IntKind.u64.wrap (rd [x] 0) = x := u64_id (n := x) gx.1 (by omega)
        rw [ex]
        exact ev_call q1 (ev_call s1 ev_ret)
      · refine (cn_len_le K1 s2).2 ?_
        have s3' : dv 4294967296 s = r := s3
        rw [s3', List.length_singleton, Int.pow_one]; omega
    · have hlen : b.length ≤ a.length := Nat.le_of_not_lt fun h => by
        have := cn_len_lt K0 ca.dg cb h
        exact h1 this
      obtain ⟨r, ⟨q1, q2, q3, q4, q5, q6⟩, q7⟩ := divide_ev ca cb (by omega) (by omega) hlen
      refine ⟨r.1, r.2, ?_, q1, q2, q3, q4, q5, q6⟩
      unfold nat_divmod.f
      exact ev_call ho (ev_neg hs (ev_neg (by omega) (ev_call q7 ev_ret)))
theorem len_rt {l : List Int} (h : C32 l) (hl : l.length ≤ 256) : rt l := ⟨hl, h.top⟩
theorem DivMod_ev {a b : List Int} (ha : D32 a) (hb : D32 b) (hla : a.length ≤ 1000) (hlb : b.length ≤ 1000) : ∃ q r e, Ev (fun k => nat_DivMod.f k a b) (q, r, e) ∧
    ((¬ (rt a ∧ rt b) ∧ q = [] ∧ r = [] ∧ e = 1) ∨ (rt a ∧ rt b ∧ ((b = [] ∧ q = [] ∧ r = [] ∧ e = 10) ∨ (b ≠ [] ∧ C32 q ∧ C32 r ∧ rt q ∧ rt r ∧ v32 a = v32 b * v32 q + v32 r ∧ 0 ≤ v32 r ∧ v32 r < v32 b ∧ e = 0)))) := by
  by_cases h1 : rt a
  · by_cases h2 : rt b
    · have hE : ∀ p, Ev (fun k => nat_DivMod.j0 k a b false) p → Ev (fun k => nat_DivMod.f k a b) p := fun p hp => by
        unfold nat_DivMod.f
        refine ev_pure (Right_eq (by omega)) (ev_pos (by simpa using h1) (ev_pure (Right_eq (by omega)) ?_))
        rw [decide_eq_true h2]; exact hp
      by_cases h3 : b = []
      · refine ⟨[], [], 10, hE _ ?_, .inr ⟨h1, h2, .inl ⟨h3, rfl, rfl, rfl⟩⟩⟩
        subst h3
        exact Ev.step (fun k => by simp only [nat_DivMod.j0]; rfl) (ev_neg (by decide) (ev_pos (by simp) ev_ret))
      · obtain ⟨q, r, q1, q2, q3, q4, q5, q6, q7⟩ := divmod_ev (rt_cn h1 ha) (rt_cn h2 hb) hla hlb h3
        have hlp : 0 < b.length := List.length_pos_iff.2 h3
        refine ⟨q, r, 0, hE _ ?_, .inr ⟨h1, h2, .inr ⟨h3, q2, q3, len_rt q2 (by have := h1.1; omega), len_rt q3 (by have := h2.1; omega), q4, dv_nonneg K0 q3.dg, q5, rfl⟩⟩⟩
        exact Ev.step (fun k => by simp only [nat_DivMod.j0]; rfl) (ev_neg (by decide) (ev_neg (by omega) (ev_call q1 ev_ret)))
    · refine ⟨[], [], 1, ?_, .inl ⟨fun h => h2 h.2, rfl, rfl, rfl⟩⟩
      unfold nat_DivMod.f
      refine ev_pure (Right_eq (by omega)) (ev_pos (by simpa using h1) (ev_pure (Right_eq (by omega)) ?_))
      rw [decide_eq_false h2]
      show Ev (fun k => nat_DivMod.j0 k a b true) _
      exact Ev.step (fun k => by simp only [nat_DivMod.j0]; rfl) (ev_pos (c := true = true) rfl ev_ret)
  · refine ⟨[], [], 1, ?_, .inl ⟨fun h => h1 h.1, rfl, rfl, rfl⟩⟩
    unfold nat_DivMod.f
    refine ev_pure (Right_eq (by omega)) (ev_neg (by simpa using h1) ?_)
    exact Ev.step (fun k => by simp only [nat_DivMod.j0]; rfl) (ev_pos (c := true = true) rfl ev_ret)
end Go.Proofs.YtcidmdjhmhkmgaaDoor.Pure
end

-- NatL
section
set_option linter.unusedVariables false
namespace Go.Proofs.YtcidmdjhmhkmgaaDoor.Pure
open Go.RowKit Go.Proofs.YtcidmdjhmhkmgaaDoorW.PrintWords Go.Proofs.YtcidmdjhmhkmgaaDoorW.PrintMore Go.Proofs.YtcidmdjhmhkmgaaDoor.S Go.Proofs.YtcidmdjhmhkmgaaDoor.L
def nv (l : List Int) : Nat := (v32 l).toNat
theorem nv_cast {l : List Int} (h : D32 l) : (nv l : Int) = v32 l := Int.toNat_of_nonneg (dv_nonneg K0 h)
theorem gcd_loop : ∀ (n : Nat) (a b : List Int), C32 a → C32 b → a.length ≤ 1000 → b.length ≤ 1000 → nv b ≤ n →
    ∃ r, Ev (fun k => nat_Gcd.l0 k a b) (r, 0) ∧ C32 r ∧ v32 r = (Nat.gcd (nv a) (nv b) : Int) ∧ r.length ≤ max a.length b.length := by
  intro n
  induction n with
  | zero =>
    intro a b ca cb hla hlb hn
    have hb : b = [] := nil_of_v cb (by have := nv_cast cb.dg; omega)
    subst hb
    refine ⟨a, Ev.step (fun k => by simp only [nat_Gcd.l0]; rfl) (ev_neg (by decide) (ev_pure (clone_eq (by omega)) ev_ret)), ca, ?_, by omega⟩
    have e : nv [] = 0 := rfl
    rw [e, Nat.gcd_zero_right, nv_cast ca.dg]
  | succ n ih =>
    intro a b ca cb hla hlb hn
    by_cases h0 : b = []
    · subst h0
      refine ⟨a, Ev.step (fun k => by simp only [nat_Gcd.l0]; rfl) (ev_neg (by decide) (ev_pure (clone_eq (by omega)) ev_ret)), ca, ?_, by omega⟩
      have e : nv [] = 0 := rfl
      rw [e, Nat.gcd_zero_right, nv_cast ca.dg]
    · obtain ⟨q, s, q1, q2, q3, q4, q5, q6, q7⟩ := divmod_ev ca cb hla hlb h0
      have c1 := nv_cast ca.dg
      have c2 := nv_cast cb.dg
      have c3 := nv_cast q2.dg
      have c4 := nv_cast q3.dg
      obtain ⟨r, r1, r2, r3, r4⟩ := ih b s cb q3 hlb (by omega) (by omega)
      have hlp : 0 < b.length := List.length_pos_iff.2 h0
      refine ⟨r, Ev.step (fun k => by simp only [nat_Gcd.l0]; rfl) (ev_pos (by omega) (ev_call q1 r1)), r2, ?_, by omega⟩
      rw [r3]
      have e : nv a = nv q * nv b + nv s := by
        have : (nv a : Int) = ((nv q * nv b + nv s : Nat) : Int) := by
          push_cast
          rw [c1, c2, c3, c4, q4]; grind
        exact Int.ofNat.inj this
      rw [e, Nat.gcd_mul_right_add_left, Nat.gcd_comm]
theorem Gcd_ev {a b : List Int} (ha : D32 a) (hb : D32 b) (hla : a.length ≤ 1000) (hlb : b.length ≤ 1000) : ∃ r e, Ev (fun k => nat_Gcd.f k a b) (r, e) ∧
    ((¬ (rt a ∧ rt b) ∧ r = [] ∧ e = 1) ∨ (rt a ∧ rt b ∧ C32 r ∧ rt r ∧ v32 r = (Nat.gcd (nv a) (nv b) : Int) ∧ r.length ≤ max a.length b.length ∧ e = 0)) := by
  by_cases h1 : rt a
  · by_cases h2 : rt b
    · obtain ⟨r, r1, r2, r3, r4⟩ := gcd_loop (nv b) a b (rt_cn h1 ha) (rt_cn h2 hb) hla hlb (Nat.le_refl _)
      refine ⟨r, 0, ?_, .inr ⟨h1, h2, r2, len_rt r2 (by have := h1.1; have := h2.1; omega), r3, r4, rfl⟩⟩
      unfold nat_Gcd.f
      refine ev_pure (Right_eq (by omega)) (ev_pos (by simpa using h1) (ev_pure (Right_eq (by omega)) ?_))
      rw [decide_eq_true h2]
      exact Ev.step (fun k => by simp only [nat_Gcd.j0]; rfl) (ev_neg (by decide) r1)
    · refine ⟨[], 1, ?_, .inl ⟨fun h => h2 h.2, rfl, rfl⟩⟩
      unfold nat_Gcd.f
      refine ev_pure (Right_eq (by omega)) (ev_pos (by simpa using h1) (ev_pure (Right_eq (by omega)) ?_))
      rw [decide_eq_false h2]
      show Ev (fun k => nat_Gcd.j0 k a b true) _
      exact Ev.step (fun k => by simp only [nat_Gcd.j0]; rfl) (ev_pos (c := true = true) rfl ev_ret)
  · refine ⟨[], 1, ?_, .inl ⟨fun h => h1 h.1, rfl, rfl⟩⟩
    unfold nat_Gcd.f
    refine ev_pure (Right_eq (by omega)) (ev_neg (by simpa using h1) ?_)
    exact Ev.step (fun k => by simp only [nat_Gcd.j0]; rfl) (ev_pos (c := true = true) rfl ev_ret)
end Go.Proofs.YtcidmdjhmhkmgaaDoor.Pure
end

-- Dec
section
/-! NUMERALS OF BASE 10, AS TEXT: plain. -/
set_option linter.unusedVariables false
namespace Go.Proofs.YtcidmdjhmhkmgaaDoor.L
open Go.Lib
theorem dd_small {n : Nat} (h : n < 10) : decDigits n = [UInt8.ofNat (48 + n)] := by rw [decDigits, dif_pos h]
theorem dd_big {n : Nat} (h : ¬ n < 10) : decDigits n = decDigits (n / 10) ++ [UInt8.ofNat (48 + n % 10)] := by rw [decDigits, dif_neg h]
/-- The numeral; nothing for 0. -/
def D0 (n : Nat) : List UInt8 := if n = 0 then [] else decDigits n
theorem D0_zero : D0 0 = [] := rfl
theorem D0_pos {n : Nat} (h : 0 < n) : D0 n = decDigits n := by unfold D0; rw [if_neg (by omega)]
theorem D0_step {n : Nat} (h : 0 < n) : D0 n = D0 (n / 10) ++ [UInt8.ofNat (48 + n % 10)] := by
  rw [D0_pos h]
  by_cases h1 : n < 10
  · rw [dd_small h1, show n / 10 = 0 by omega, D0_zero, show n % 10 = n by omega]; rfl
  · rw [dd_big h1, D0_pos (by omega)]
/-- The k lowest figures. -/
def pad : Nat → Nat → List UInt8
  | 0, _ => []
  | k + 1, r => pad k (r / 10) ++ [UInt8.ofNat (48 + r % 10)]
theorem D0_pad : ∀ (k n : Nat), 0 < n / 10 ^ k → D0 n = D0 (n / 10 ^ k) ++ pad k n
  | 0, n, h => by simp [pad]
  | k + 1, n, h => by
    have e : n / 10 ^ (k + 1) = n / 10 / 10 ^ k := by rw [Nat.div_div_eq_div_mul, Nat.pow_succ, Nat.mul_comm]
    have hn : 0 < n := Nat.pos_of_ne_zero fun e0 => by rw [e0] at h; simp at h
    rw [D0_step hn, e, D0_pad k (n / 10) (by rw [← e]; exact h), List.append_assoc]
    rfl
theorem pad_mod : ∀ (k n : Nat), pad k n = pad k (n % 10 ^ k)
  | 0, n => rfl
  | k + 1, n => by
    have e : n % 10 ^ (k + 1) / 10 = n / 10 % 10 ^ k := by
      rw [Nat.pow_succ, Nat.mul_comm, Nat.mod_mul_right_div_self]
    have e2 : n % 10 ^ (k + 1) % 10 = n % 10 := Nat.mod_mod_of_dvd _ (by rw [Nat.pow_succ]; exact Nat.dvd_mul_left _ _)
    show pad k (n / 10) ++ _ = pad k (n % 10 ^ (k + 1) / 10) ++ _
    rw [e, e2, ← pad_mod k]
theorem pad_zero : ∀ k, pad k 0 = List.replicate k 48
  | 0 => rfl
  | k + 1 => by
    show pad k 0 ++ [UInt8.ofNat 48] = _
    rw [pad_zero k, List.replicate_succ']; rfl
theorem nd_le : ∀ (k r : Nat), r < 10 ^ (k + 1) → nDigits r ≤ k + 1
  | k, r, h => by
    by_cases h1 : r < 10
    · rw [nDigits_small h1]; omega
    · match k with
      | 0 => simp at h; omega
      | k + 1 =>
        rw [nDigits_big h1]
        have := nd_le k (r / 10) (by rw [Nat.pow_succ] at h; omega)
        omega
theorem pad_eq : ∀ (k r : Nat), r < 10 ^ (k + 1) → pad (k + 1) r = List.replicate (k + 1 - nDigits r) 48 ++ decDigits r
  | k, r, h => by
    show pad k (r / 10) ++ [UInt8.ofNat (48 + r % 10)] = _
    by_cases h1 : r < 10
    · rw [show r / 10 = 0 by omega, pad_zero, nDigits_small h1, dd_small h1, show r % 10 = r by omega]; rfl
    · match k with
      | 0 => simp at h; omega
      | k + 1 =>
        rw [pad_eq k (r / 10) (by rw [Nat.pow_succ] at h; omega), nDigits_big h1, dd_big h1, List.append_assoc]
        congr 2
        omega
theorem b8 {d : Nat} (h : d < 10) : (UInt8.ofNat (48 + d)).toNat = 48 + d := by
  show (48 + d) % 256 = _
  omega
/-- The number of figures. -/
def dval (l : List UInt8) : Nat := l.foldl (fun n c => 10 * n + (c.toNat - 48)) 0
theorem dval_nil : dval [] = 0 := rfl
theorem dval_snoc (l : List UInt8) (c : UInt8) : dval (l ++ [c]) = 10 * dval l + (c.toNat - 48) := by unfold dval; rw [List.foldl_append]; rfl
theorem dval_dd (n : Nat) : dval (decDigits n) = n := by
  induction n using Nat.strongRecOn with
  | _ n ih =>
    by_cases h : n < 10
    · rw [dd_small h]
      show 10 * 0 + ((UInt8.ofNat (48 + n)).toNat - 48) = n
      rw [b8 h]; omega
    · rw [dd_big h, dval_snoc, ih (n / 10) (by omega), b8 (by omega)]; omega
def isd (c : UInt8) : Prop := 48 ≤ c.toNat ∧ c.toNat ≤ 57
structure figL (l : List UInt8) : Prop where
  ne : l ≠ []
  all : ∀ c ∈ l, isd c
  head : 1 < l.length → l.getD 0 0 ≠ 48
theorem dd_ne (n : Nat) : decDigits n ≠ [] := by
  by_cases h : n < 10
  · rw [dd_small h]; simp
  · rw [dd_big h]; simp
theorem dd_all (n : Nat) : ∀ c ∈ decDigits n, isd c := by
  induction n using Nat.strongRecOn with
  | _ n ih =>
    by_cases h : n < 10
    · rw [dd_small h]
      intro c hc
      rw [List.mem_singleton.1 hc]
      unfold isd
      rw [b8 h]; omega
    · rw [dd_big h]
      intro c hc
      rcases List.mem_append.1 hc with hc | hc
      · exact ih (n / 10) (by omega) c hc
      · rw [List.mem_singleton.1 hc]
        unfold isd
        rw [b8 (by omega)]; omega
theorem getD_app {l m : List UInt8} (h : l ≠ []) : (l ++ m).getD 0 0 = l.getD 0 0 := by
  cases l with
  | nil => exact absurd rfl h
  | cons a l => rfl
theorem dd_head (n : Nat) (h0 : 1 ≤ n) : (decDigits n).getD 0 0 ≠ 48 := by
  induction n using Nat.strongRecOn with
  | _ n ih =>
    by_cases h : n < 10
    · rw [dd_small h]
      show UInt8.ofNat (48 + n) ≠ 48
      intro e
      have := congrArg UInt8.toNat e
      rw [b8 h] at this
      have e48 : (48 : UInt8).toNat = 48 := rfl
      omega
    · rw [dd_big h, getD_app (dd_ne _)]
      exact ih (n / 10) (by omega) (by omega)
theorem dd_fig (n : Nat) : figL (decDigits n) := ⟨dd_ne n, dd_all n, fun h => dd_head n (by
  rcases Nat.eq_zero_or_pos n with e | e
  · rw [e, dd_small (by decide)] at h; simp at h
  · exact e)⟩
theorem snoc_ind {P : List UInt8 → Prop} (h0 : P []) (h1 : ∀ l c, P l → P (l ++ [c])) (l : List UInt8) : P l := by
  have : ∀ (n : Nat) (l : List UInt8), l.length = n → P l := by
    intro n
    induction n with
    | zero => intro l hl; rw [List.eq_nil_of_length_eq_zero hl]; exact h0
    | succ n ih =>
      intro l hl
      have hne : l ≠ [] := fun e => by rw [e] at hl; simp at hl
      rw [← List.dropLast_concat_getLast hne]
      exact h1 _ _ (ih _ (by simp [hl]))
  exact this _ l rfl
theorem fig_dd (l : List UInt8) : figL l → decDigits (dval l) = l := by
  refine snoc_ind (P := fun l => figL l → decDigits (dval l) = l) (fun h => absurd rfl h.ne) ?_ l
  intro l c ih h
  have hc : isd c := h.all c (by simp)
  unfold isd at hc
  have hb : UInt8.ofNat (48 + (c.toNat - 48)) = c := by
    rw [show 48 + (c.toNat - 48) = c.toNat by omega]; exact UInt8.ofNat_toNat
  rw [dval_snoc]
  by_cases h0 : l = []
  · subst h0
    rw [dval_nil, dd_small (by omega), show 48 + (10 * 0 + (c.toNat - 48)) = 48 + (c.toNat - 48) by omega, hb]; rfl
  · have hlp : 0 < l.length := List.length_pos_iff.2 h0
    have hh := h.head (by simp; omega)
    rw [getD_app h0] at hh
    have e := ih ⟨h0, fun x hx => h.all x (by simp [hx]), fun _ => hh⟩
    have hp : 1 ≤ dval l := Nat.pos_of_ne_zero fun e0 => by
      rw [e0, dd_small (by decide)] at e
      rw [← e] at hh
      exact hh rfl
    rw [dd_big (by omega), show (10 * dval l + (c.toNat - 48)) / 10 = dval l by omega, show (10 * dval l + (c.toNat - 48)) % 10 = c.toNat - 48 by omega, e, hb]
theorem dval_from (l : List UInt8) : ∀ n, l.foldl (fun n c => 10 * n + (c.toNat - 48)) n = n * 10 ^ l.length + dval l := by
  induction l with
  | nil => intro n; simp [dval]
  | cons c l ih =>
    intro n
    have e1 := ih (10 * n + (c.toNat - 48))
    have e2 := ih (10 * 0 + (c.toNat - 48))
    show l.foldl _ (10 * n + (c.toNat - 48)) = _ + l.foldl _ (10 * 0 + (c.toNat - 48))
    rw [e1, e2, List.length_cons, Nat.pow_succ]
    grind
theorem dval_cons (c : UInt8) (l : List UInt8) : dval (c :: l) = (c.toNat - 48) * 10 ^ l.length + dval l := by
  have := dval_from l (10 * 0 + (c.toNat - 48))
  show l.foldl _ (10 * 0 + (c.toNat - 48)) = _
  rw [this, Nat.mul_zero, Nat.zero_add]
theorem dval_lt : ∀ (l : List UInt8), (∀ c ∈ l, isd c) → dval l < 10 ^ l.length
  | [], _ => by simp [dval]
  | c :: l, h => by
    have hc := h c (List.mem_cons_self ..)
    unfold isd at hc
    have ih := dval_lt l (fun x hx => h x (List.mem_cons_of_mem _ hx))
    rw [dval_cons, List.length_cons, Nat.pow_succ]
    have : (c.toNat - 48) * 10 ^ l.length ≤ 9 * 10 ^ l.length := Nat.mul_le_mul_right _ (by omega)
    omega
/-- Of two texts of one length the greater one has the greater number. -/
theorem less_dval : ∀ (a b : List UInt8), (∀ c ∈ a, isd c) → (∀ c ∈ b, isd c) → a.length = b.length → Op.bytesLess a b = decide (dval a < dval b)
  | [], [], _, _, _ => by simp [Op.bytesLess]
  | [], _ :: _, _, _, h => by simp at h
  | _ :: _, [], _, _, h => by simp at h
  | x :: a, y :: b, ha, hb, hl => by
    have hx := ha x (List.mem_cons_self ..)
    have hy := hb y (List.mem_cons_self ..)
    unfold isd at hx hy
    have ha' : ∀ c ∈ a, isd c := fun c hc => ha c (List.mem_cons_of_mem _ hc)
    have hb' : ∀ c ∈ b, isd c := fun c hc => hb c (List.mem_cons_of_mem _ hc)
    have hl' : a.length = b.length := by simpa using hl
    have ih := less_dval a b ha' hb' hl'
    have la := dval_lt a ha'
    have lb := dval_lt b hb'
    rw [hl'] at la
    show (decide (x < y) || (x == y && Op.bytesLess a b)) = _
    rw [dval_cons, dval_cons, hl', ih]
    rcases Nat.lt_trichotomy x.toNat y.toNat with h | h | h
    · have h1 : (x.toNat - 48 + 1) * 10 ^ b.length ≤ (y.toNat - 48) * 10 ^ b.length := Nat.mul_le_mul_right _ (by omega)
      rw [Nat.add_mul, Nat.one_mul] at h1
      have e1 : decide (x < y) = true := decide_eq_true (UInt8.lt_iff_toNat_lt.2 h)
      rw [e1, Bool.true_or]
      exact (decide_eq_true (by omega)).symm
    · have e : x = y := UInt8.toNat_inj.1 h
      subst e
      have e1 : decide (x < x) = false := decide_eq_false (fun h => Nat.lt_irrefl _ (UInt8.lt_iff_toNat_lt.1 h))
      rw [e1, Bool.false_or, beq_self_eq_true, Bool.true_and]
      exact decide_eq_decide.2 (by omega)
    · have h1 : (y.toNat - 48 + 1) * 10 ^ b.length ≤ (x.toNat - 48) * 10 ^ b.length := Nat.mul_le_mul_right _ (by omega)
      rw [Nat.add_mul, Nat.one_mul] at h1
      have e1 : decide (x < y) = false := decide_eq_false (fun h2 => by have := UInt8.lt_iff_toNat_lt.1 h2; omega)
      have e2 : (x == y) = false := by
        rw [beq_eq_false_iff_ne]; intro e; rw [e] at h; omega
      rw [e1, e2, Bool.false_or, Bool.false_and]
      exact (decide_eq_false (by omega)).symm
theorem join_flat (xs : List (List UInt8)) : join xs [] = xs.flatten := by
  cases xs with
  | nil => rfl
  | cons x r => rw [join_cons]; unfold joinTail; simp
theorem repeat_nought (n : Nat) : repeatL [48] n = List.replicate n 48 := by
  have := repeatL_replicate 48 1 n
  simpa using this
end Go.Proofs.YtcidmdjhmhkmgaaDoor.L
end

-- NatM
section
set_option linter.unusedVariables false
namespace Go.Proofs.YtcidmdjhmhkmgaaDoor.Pure
open Go.RowKit Go.Proofs.YtcidmdjhmhkmgaaDoorW.PrintWords Go.Proofs.YtcidmdjhmhkmgaaDoorW.PrintMore Go.Proofs.YtcidmdjhmhkmgaaDoor.S Go.Proofs.YtcidmdjhmhkmgaaDoor.L
def tl (s : ByteArray) : List UInt8 := s.data.toList
theorem tl_append (a b : ByteArray) : tl (a ++ b) = tl a ++ tl b := by unfold tl; rw [ByteArray.data_append, Array.toList_append]
def flat (l : List ByteArray) : List UInt8 := (l.map tl).flatten
theorem flat_snoc (l : List ByteArray) (s : ByteArray) : flat (l ++ [s]) = flat l ++ tl s := by simp [flat]
theorem flat_app (l m : List ByteArray) : flat (l ++ m) = flat l ++ flat m := by simp [flat]
theorem rev_loop (x0 : List ByteArray) (hl : x0.length ≤ 1000000) : ∀ (d i : Nat) (l : List ByteArray), 2 * i + d = x0.length → l.length = x0.length →
    (∀ j, l.getD j ByteArray.empty = if j < i ∨ x0.length ≤ j + i then x0.reverse.getD j ByteArray.empty else x0.getD j ByteArray.empty) →
    Ev (fun k => slices_Reverse_string_string.l0 k l (i : Int) ((x0.length : Int) - 1 - (i : Int))) x0.reverse := by
  intro d
  induction d using Nat.strongRecOn with
  | _ d ih =>
    intro i l hd hll h
    by_cases h2 : 2 ≤ d
    · refine Ev.step (fun k => by simp only [slices_Reverse_string_string.l0]; rfl) ?_
      have e1 : (x0.length : Int) - 1 - (i : Int) = ((x0.length - 1 - i : Nat) : Int) := by omega
      rw [e1]
      refine ev_pos (by omega) (ev_pos (by omega) (ev_pos (by omega) (ev_pos (by omega) (ev_pos (by omega) ?_))))
      have e2 : wrap64 (((x0.length - 1 - i : Nat) : Int) - 1) = (x0.length : Int) - 1 - ((i + 1 : Nat) : Int) := by unfold wrap64; omega
      have e3 : wrap64 ((i : Int) + 1) = ((i + 1 : Nat) : Int) := by unfold wrap64; omega
      rw [e2, e3, Int.toNat_natCast, Int.toNat_natCast]
      refine ih (d - 2) (by omega) (i + 1) _ (by omega) (by simp [hll]) ?_
      intro j
      have r1 : rdOf ByteArray.empty l ((x0.length - 1 - i : Nat) : Int) = x0.getD (x0.length - 1 - i) ByteArray.empty := by
        show l.getD _ _ = _
        rw [Int.toNat_natCast, h, if_neg (by omega)]
      have r2 : rdOf ByteArray.empty l (i : Int) = x0.getD i ByteArray.empty := by
        show l.getD _ _ = _
        rw [Int.toNat_natCast, h, if_neg (by omega)]
      rw [r1, r2]
      have rv : ∀ j, j < x0.length → x0.reverse.getD j ByteArray.empty = x0.getD (x0.length - 1 - j) ByteArray.empty := fun j hj => by
        rw [getD_lt (by simpa using hj), getD_lt (by omega), List.getElem_reverse]
      by_cases j1 : x0.length - 1 - i = j
      · subst j1
        rw [gset_same (by simp; omega), if_pos (by omega), rv _ (by omega)]
        congr 1; omega
      · rw [gset_ne j1]
        by_cases j2 : i = j
        · subst j2
          rw [gset_same (by omega), if_pos (by omega), rv _ (by omega)]
        · rw [gset_ne j2, h]
          by_cases j3 : j < i ∨ x0.length ≤ j + i
          · rw [if_pos j3, if_pos (by omega)]
          · rw [if_neg j3, if_neg (by omega)]
    · refine Ev.step (fun k => by simp only [slices_Reverse_string_string.l0]; rfl) (ev_neg (by omega) (ev_eq ?_))
      refine list_ext ByteArray.empty (by simp [hll]) fun j hj => ?_
      rw [h]
      by_cases j3 : j < i ∨ x0.length ≤ j + i
      · rw [if_pos j3]
      · rw [if_neg j3, getD_lt (by omega), getD_lt (by simp; omega), List.getElem_reverse]
        congr 1; omega
theorem rev_ev (x0 : List ByteArray) (hl : x0.length ≤ 1000000) : Ev (fun k => slices_Reverse_string_string.f k x0) x0.reverse := by
  have h := rev_loop x0 hl x0.length 0 x0 (by omega) rfl (fun j => by
    by_cases hj : x0.length ≤ j + 0
    · have e1 : x0.getD j ByteArray.empty = ByteArray.empty := by rw [List.getD_eq_getElem?_getD, List.getElem?_eq_none (by omega)]; rfl
      have e2 : x0.reverse.getD j ByteArray.empty = ByteArray.empty := by rw [List.getD_eq_getElem?_getD, List.getElem?_eq_none (by rw [List.length_reverse]; omega)]; rfl
      rw [if_pos (.inr hj), e1, e2]
    · rw [if_neg (by omega)])
  unfold slices_Reverse_string_string.f
  have e : wrap64 ((x0.length : Int) - 1) = (x0.length : Int) - 1 - ((0 : Nat) : Int) := by unfold wrap64; omega
  rw [e]; exact h
theorem fmtu_eq {u : Int} (h0 : 0 ≤ u) (h1 : u < 18446744073709551616) : strconv_FormatUint_62.f u 10 = some ⟨(Lib.decDigits u.toNat).toArray⟩ := by
  unfold strconv_FormatUint_62.f; rw [if_pos ⟨rfl, h0, h1⟩]
theorem ba_eq {s : ByteArray} {l : List UInt8} (h : tl s = l) : s = ⟨l.toArray⟩ := by
  cases s with
  | mk d => rw [← h]; rfl
theorem tl_mk (l : List UInt8) : tl ⟨l.toArray⟩ = l := rfl
theorem size_mk (l : List UInt8) : (⟨l.toArray⟩ : ByteArray).size = l.length := by show l.toArray.size = _; simp
theorem size_tl (s : ByteArray) : (tl s).length = s.size := by show s.data.toList.length = s.data.size; simp
theorem nd_eq (u : Nat) : (Lib.decDigits u).length = Lib.nDigits u := Lib.decDigits_length u
/-- The text's loop. -/
theorem text_loop (n0 : Nat) (hB : (D0 n0).length ≤ 10000) : ∀ (n : Nat) (a : List Int) (l : List ByteArray), C32 a → a.length ≤ 1000 → nv a ≤ n → l.length ≤ (flat l.reverse).length → D0 n0 = D0 (nv a) ++ flat l.reverse →
    Ev (fun k => nat_Text.l0 k a l) ⟨(D0 n0).toArray⟩ := by
  intro n
  have hlb : ∀ (m : Nat) (l : List ByteArray), l.length ≤ (flat l.reverse).length → D0 n0 = D0 m ++ flat l.reverse → l.length ≤ 10000 := fun m l h1 h2 => by
    rw [h2, List.length_append] at hB; omega
  have hnil : ∀ (l : List ByteArray), l.length ≤ (flat l.reverse).length → D0 n0 = D0 (nv []) ++ flat l.reverse → Ev (fun k => nat_Text.l0 k [] l) ⟨(D0 n0).toArray⟩ := by
    intro l hl hv
    have hl1 := hlb _ l hl hv
    have e0 : D0 (nv []) = [] := rfl
    rw [e0, List.nil_append] at hv
    have hj : joined l.reverse ⟨#[]⟩ = D0 n0 := by
      unfold joined
      show Lib.join _ [] = _
      rw [join_flat, hv]; rfl
    refine Ev.step (fun k => by simp only [nat_Text.l0]; rfl) (ev_neg (by simp) (ev_call (rev_ev l (by omega)) ?_))
    have hjf : strings_Join.f l.reverse ⟨#[]⟩ = some (⟨(joined l.reverse ⟨#[]⟩).toArray⟩, l.reverse) := by
      unfold strings_Join.f
      rw [if_pos ⟨by rw [List.length_reverse]; omega, by rw [hj]; omega⟩]
    rw [hj] at hjf
    exact ev_pure hjf ev_ret
  induction n with
  | zero =>
    intro a l ca hla hn hl hv
    have hb : a = [] := nil_of_v ca (by have := nv_cast ca.dg; omega)
    subst hb
    exact hnil l hl hv
  | succ n ih =>
    intro a l ca hla hn hl hv
    have hl1 := hlb _ l hl hv
    by_cases h0 : a = []
    · subst h0
      exact hnil l hl hv
    · have hlp : 0 < a.length := List.length_pos_iff.2 h0
      have hap := v_pos ca h0
      have c1 := nv_cast ca.dg
      obtain ⟨q, r, q1, q2, q3, q4, q5, q6⟩ := small_ev ca.dg hla (d := 1000000000) (by decide) (by decide)
      have c2 := nv_cast q2.dg
      obtain ⟨w, rfl⟩ := Int.eq_ofNat_of_zero_le q3
      have eq : nv q = nv a / 1000000000 := by omega
      have er : w = nv a % 1000000000 := by omega
      have hf := fmtu_eq (u := (w : Int)) (by omega) (by omega)
      rw [Int.toNat_natCast] at hf
      have hnd := nd_le 8 w (by omega)
      have hnd1 := Lib.nDigits_pos w
      obtain ⟨t, ht⟩ : ∃ t : ByteArray, t = ⟨(Lib.decDigits w).toArray⟩ := ⟨_, rfl⟩
      have htl : tl t = Lib.decDigits w := by rw [ht]; rfl
      have hts : t.size = Lib.nDigits w := by rw [← size_tl, htl, nd_eq]
      rw [← ht] at hf
      refine Ev.step (fun k => by simp only [nat_Text.l0]; rfl) ?_
      refine ev_pos (by omega) ?_
      refine ev_call q1 ?_
      refine ev_pure hf ?_
      have hone : ∀ p : ByteArray, flat (l ++ [p]).reverse = tl p ++ flat l.reverse := fun p => by
        rw [List.reverse_append, List.reverse_singleton, flat_app]; simp [flat]
      have hln : ∀ p : ByteArray, 1 ≤ p.size → (l ++ [p]).length ≤ (flat (l ++ [p]).reverse).length := fun p hp => by
        rw [hone, List.length_append, List.length_append, size_tl, List.length_singleton]; omega
      by_cases hq : q = []
      · subst hq
        have e0 : nv [] = 0 := rfl
        rw [e0] at eq
        refine ev_neg (by simp) (ev_pos (by omega) ?_)
        refine ih [] (l ++ [t]) (cn_nil _) (by simp) (by rw [e0]; omega) (hln t (by omega)) ?_
        have ew : nv a = w := by omega
        rw [hv, e0, D0_zero, List.nil_append, hone, htl, ← ew, D0_pos (by omega)]
      · have hqp := v_pos q2 hq
        have hlq : 0 < q.length := List.length_pos_iff.2 hq
        have ew : wrap64 (9 - (t.size : Int)) = ((9 - Lib.nDigits w : Nat) : Int) := by unfold wrap64; omega
        have hr : strings_Repeat.f ⟨#[48]⟩ ((9 - Lib.nDigits w : Nat) : Int) = some ⟨(Lib.repeatL [48] (9 - Lib.nDigits w)).toArray⟩ := by
          unfold strings_Repeat.f
          rw [Int.toNat_natCast]
          have e1 : (⟨#[48]⟩ : ByteArray).size = 1 := rfl
          rw [e1, if_pos ⟨by omega, by omega, by omega⟩]
        obtain ⟨z, hz⟩ : ∃ z : ByteArray, z = ⟨(Lib.repeatL [48] (9 - Lib.nDigits w)).toArray⟩ := ⟨_, rfl⟩
        have hzl : tl z = List.replicate (9 - Lib.nDigits w) 48 := by rw [hz, tl_mk, repeat_nought]
        have hzs : z.size = 9 - Lib.nDigits w := by rw [← size_tl, hzl, List.length_replicate]
        rw [← hz] at hr
        have hzt : tl (z ++ t) = pad 9 w := by
          rw [show tl (z ++ t) = tl z ++ tl t from tl_append z t, hzl, htl, pad_eq 8 w (by omega)]
        refine ev_pos (show (q.length : Int) > 0 by omega) ?_
        rw [ew]
        refine ev_pure hr ?_
        refine ev_pos (show z.size + t.size ≤ 9223372036854775807 by omega) ?_
        refine ev_pos (by omega) ?_
        have hzts : (z ++ t).size = 9 := by rw [← size_tl, show tl (z ++ t) = tl z ++ tl t from tl_append z t, List.length_append, size_tl, size_tl]; omega
        refine ih q (l ++ [z ++ t]) q2 (by omega) (by omega) (hln _ (by omega)) ?_
        have e9 : (10 : Nat) ^ 9 = 1000000000 := rfl
        have hp := D0_pad 9 (nv a) (by rw [e9, ← eq]; omega)
        rw [pad_mod, e9, ← er, ← eq] at hp
        rw [hv, hp, hone, hzt, List.append_assoc]
theorem nv_lt {a : List Int} (ha : D32 a) (h : a.length ≤ 256) (E : Nat) (hE : E = 2560) : nv a < 10 ^ E := by
  have h1 := dv_lt K0 ha
  have h2 := pow_mono (B := 4294967296) (by decide) h
  obtain ⟨F, hF⟩ : ∃ F : Nat, F = 256 := ⟨_, rfl⟩
  rw [← hF] at h2
  have h3 : nv a < 4294967296 ^ F := by
    have e : ((4294967296 ^ F : Nat) : Int) = 4294967296 ^ F := by rw [Int.natCast_pow]; rfl
    have c := nv_cast ha
    have h1' : v32 a < 4294967296 ^ a.length := h1
    omega
  have h4 : (4294967296 : Nat) ^ F ≤ (10 ^ 10) ^ F := Nat.pow_le_pow_left (by decide) _
  rw [← Nat.pow_mul, show 10 * F = E by omega] at h4
  exact Nat.lt_of_lt_of_le h3 h4
theorem nv_nd {a : List Int} (ha : D32 a) (h : a.length ≤ 256) : (Lib.decDigits (nv a)).length ≤ 2560 := by
  obtain ⟨E, hE⟩ : ∃ E : Nat, E = 2560 := ⟨_, rfl⟩
  have h1 := nv_lt ha h E hE
  rw [show E = (E - 1) + 1 by omega] at h1
  rw [nd_eq]
  have := nd_le (E - 1) _ h1
  omega
theorem Text_ev {a : List Int} (ha : D32 a) (hl : a.length ≤ 1000) : Ev (fun k => nat_Text.f k a) ⟨(if rt a then Lib.decDigits (nv a) else []).toArray⟩ := by
  unfold nat_Text.f
  refine ev_pure (Right_eq (by omega)) ?_
  by_cases h : rt a
  · rw [if_pos h]
    refine ev_pos (by simpa using h) ?_
    by_cases h0 : a = []
    · subst h0
      exact ev_pos (by simp) (ev_eq (by
        have e : nv [] = 0 := rfl
        rw [e, dd_small (by decide)]; rfl))
    · have hlp : 0 < a.length := List.length_pos_iff.2 h0
      have ca := rt_cn h ha
      have hap := v_pos ca h0
      have c1 := nv_cast ca.dg
      refine ev_neg (by omega) ?_
      have hB := nv_nd ha h.1
      rw [← D0_pos (by omega)] at hB
      have ht := text_loop (nv a) (by omega) (nv a) a [] ca (by omega) (Nat.le_refl _) (by simp) (by simp [flat])
      rw [D0_pos (by omega)] at ht
      exact ht
  · rw [if_neg h]
    exact ev_neg (by simpa using h) ev_ret
end Go.Proofs.YtcidmdjhmhkmgaaDoor.Pure
end

-- NatN
section
set_option linter.unusedVariables false
namespace Go.Proofs.YtcidmdjhmhkmgaaDoor.Pure
open Go.RowKit Go.Proofs.YtcidmdjhmhkmgaaDoorW.PrintWords Go.Proofs.YtcidmdjhmhkmgaaDoorW.PrintMore Go.Proofs.YtcidmdjhmhkmgaaDoor.S Go.Proofs.YtcidmdjhmhkmgaaDoor.L
theorem bt_get {s : ByteArray} {i : Nat} (h : i < s.size) : bt s (i : Int) = (((tl s).getD i 0).toNat : Int) := by
  unfold bt
  rw [dif_pos (by rw [Int.toNat_natCast]; exact h)]
  have hl : i < (tl s).length := by rw [size_tl]; exact h
  have e : (tl s).getD i 0 = s[i]'h := by
    rw [List.getD_eq_getElem?_getD, List.getElem?_eq_getElem hl]; rfl
  rw [e]; rfl
theorem get_tl {s : ByteArray} {i : Nat} (h : i < s.size) : s[i]'h = (tl s).getD i 0 := by
  have hl : i < (tl s).length := by rw [size_tl]; exact h
  rw [List.getD_eq_getElem?_getD, List.getElem?_eq_getElem hl]; rfl
theorem decode_fig {s : ByteArray} {i : Nat} (h : i < s.size) (hd : isd ((tl s).getD i 0)) : Utf8.decode s i = (((tl s).getD i 0).toNat, 1) := by
  have e := get_tl h
  unfold isd at hd
  have h2 := decode_ascii s i h (by rw [e]; omega)
  rw [h2, e]
theorem odd_false {c : UInt8} (h : isd c) : oddRune c.toNat = false := by
  unfold isd at h
  unfold oddRune
  rw [decide_eq_false (by omega), decide_eq_false (by omega)]; rfl
theorem odd_at_bad {s : ByteArray} {i : Nat} (h : i < s.size) (hd : ¬ isd ((tl s).getD i 0)) : oddRune (Utf8.decode s i).1 = true := by
  have e := get_tl h
  unfold isd at hd
  unfold oddRune
  by_cases h1 : ((tl s).getD i 0).toNat < 128
  · rw [decode_ascii s i h (by rw [e]; exact h1), e]
    rcases (by omega : ((tl s).getD i 0).toNat < 48 ∨ 57 < ((tl s).getD i 0).toNat) with h2 | h2
    · rw [decide_eq_true h2]; rfl
    · rw [decide_eq_true h2, Bool.or_true]
  · have := (decode_high s i h (by rw [e]; omega)).1
    rw [decide_eq_true (p := 57 < _) (by omega), Bool.or_true]
theorem idx_all {s : ByteArray} (hall : ∀ i, i < s.size → isd ((tl s).getD i 0)) : ∀ (f pos : Nat), Lib.idxFuncFrom oddRune true s f pos = -1
  | 0, _ => rfl
  | f + 1, pos => by
    unfold Lib.idxFuncFrom
    by_cases h : pos < s.size
    · rw [if_pos h, decode_fig h (hall pos h), odd_false (hall pos h), if_neg (by decide)]
      exact idx_all hall f _
    · rw [if_neg h]
theorem idx_bad {s : ByteArray} (i : Nat) (h : i < s.size) (hb : ¬ isd ((tl s).getD i 0)) (hall : ∀ j, j < i → isd ((tl s).getD j 0)) : ∀ (f pos : Nat), pos ≤ i → i < pos + f → Lib.idxFuncFrom oddRune true s f pos = (i : Int)
  | 0, pos, h1, h2 => by omega
  | f + 1, pos, h1, h2 => by
    unfold Lib.idxFuncFrom
    rw [if_pos (by omega)]
    by_cases e : pos = i
    · subst e
      rw [if_pos (odd_at_bad h hb)]
    · rw [decode_fig (by omega) (hall pos (by omega)), odd_false (hall pos (by omega)), if_neg (by decide)]
      exact idx_bad i h hb hall f _ (by show pos + 1 ≤ i; omega) (by show i < pos + 1 + f; omega)
theorem first_bad (P : Nat → Prop) [DecidablePred P] : ∀ n, (∀ i, i < n → P i) ∨ ∃ i, i < n ∧ ¬ P i ∧ ∀ j, j < i → P j
  | 0 => .inl fun i h => by omega
  | n + 1 => by
    rcases first_bad P n with h | ⟨i, h1, h2, h3⟩
    · by_cases hn : P n
      · exact .inl fun i hi => by
          by_cases e : i = n
          · exact e ▸ hn
          · exact h i (by omega)
      · exact .inr ⟨n, by omega, hn, h⟩
    · exact .inr ⟨i, by omega, h2, h3⟩
instance (c : UInt8) : Decidable (isd c) := by unfold isd; infer_instance
theorem all_iff {s : ByteArray} : (∀ i, i < s.size → isd ((tl s).getD i 0)) ↔ ∀ c ∈ tl s, isd c := by
  constructor
  · intro h c hc
    obtain ⟨i, hi, rfl⟩ := List.getElem_of_mem hc
    have := h i (by rw [← size_tl]; exact hi)
    rwa [getD_lt hi] at this
  · intro h i hi
    exact h _ (getD_mem (by rw [size_tl]; exact hi) 0)
instance (l : List UInt8) : Decidable (figL l) := decidable_of_iff (l ≠ [] ∧ (∀ c ∈ l, isd c) ∧ (1 < l.length → l.getD 0 0 ≠ 48)) ⟨fun h => ⟨h.1, h.2.1, h.2.2⟩, fun h => ⟨h.ne, h.all, h.head⟩⟩
theorem figb_eq (s : ByteArray) : figb s = decide (figL (tl s)) := by
  have htl : s.toList = tl s := ByteArray.toList_eq s
  unfold figb
  rw [htl]
  by_cases h0 : tl s = []
  · rw [h0]
    exact (decide_eq_false (fun h => h.ne rfl)).symm
  · have e1 : (!(tl s).isEmpty) = true := by rw [Bool.not_eq_true', List.isEmpty_eq_false_iff]; exact h0
    have hsz : 0 < s.size := by rw [← size_tl]; exact List.length_pos_iff.2 h0
    rw [e1, Bool.true_and]
    rcases first_bad (fun i => isd ((tl s).getD i 0)) s.size with h | ⟨i, h1, h2, h3⟩
    · have e2 : Lib.idxFunc oddRune true s = -1 := idx_all h _ _
      rw [e2]
      have e3 : (!decide ((0 : Int) ≤ -1)) = true := rfl
      rw [e3, Bool.true_and]
      have hb : bt s 0 = (((tl s).getD 0 0).toNat : Int) := bt_get (i := 0) hsz
      rw [hb]
      by_cases hc : (tl s).getD 0 0 = 48
      · rw [hc]
        have e4 : ((((48 : UInt8).toNat : Nat) : Int) != 48) = false := rfl
        rw [e4, Bool.false_or]
        by_cases h1 : tl s = [48]
        · rw [h1, beq_self_eq_true]
          exact (decide_eq_true ⟨by simp, fun c hc => by rw [List.mem_singleton.1 hc]; decide, fun h => by simp at h⟩).symm
        · rw [beq_eq_false_iff_ne.2 h1]
          refine (decide_eq_false fun hf => h1 ?_).symm
          have hl : (tl s).length = 1 := by
            rcases Nat.lt_or_ge 1 (tl s).length with h5 | h5
            · exact absurd hc (hf.head h5)
            · have := List.length_pos_iff.2 h0; omega
          obtain ⟨x, hx⟩ := List.length_eq_one_iff.1 hl
          rw [hx] at hc ⊢
          rw [show x = 48 from hc]
      · have e4 : (((((tl s).getD 0 0).toNat : Nat) : Int) != 48) = true := by
          rw [bne_iff_ne]
          intro e
          exact hc (UInt8.toNat_inj.1 (by rw [show (48 : UInt8).toNat = 48 from rfl]; omega))
        rw [e4, Bool.true_or]
        exact (decide_eq_true ⟨h0, all_iff.1 h, fun _ => hc⟩).symm
    · have e2 : Lib.idxFunc oddRune true s = (i : Int) := idx_bad i h1 h2 h3 _ _ (by omega) (by omega)
      rw [e2, decide_eq_true (by omega)]
      exact (decide_eq_false fun hf => h2 (hf.all _ (getD_mem (by rw [size_tl]; exact h1) 0))).symm
/-! ### a step: times ten, and a figure -/
theorem parS_eq {l : List Int} (hd : D32 l) {c : Int} (h0 : 0 ≤ c) (h1 : c ≤ 9) (i : Nat) : parS l c i = c + 10 * l.getD i 0 := by
  have g := hd.get K0 i
  unfold parS
  rw [atv_eq hd, u64_id (n := l.getD i 0 * 10) (by omega) (by omega), u64_id (by omega) (by omega)]
  omega
theorem parC_le {l : List Int} (hd : D32 l) {c0 : Int} (h0 : 0 ≤ c0) (h1 : c0 ≤ 9) : ∀ i, 0 ≤ parC l c0 i ∧ parC l c0 i ≤ 9
  | 0 => ⟨h0, h1⟩
  | i + 1 => by
    have ih := parC_le hd h0 h1 i
    have g := hd.get K0 i
    simp only [parC]
    rw [parS_eq hd ih.1 ih.2]
    omega
theorem parStep_ev {l : List Int} (hd : D32 l) (hl : l.length ≤ 10000) {c0 : Int} (h0 : 0 ≤ c0) (h1 : c0 ≤ 9) : ∃ r, Ev (fun k => parStep k l c0) r ∧ C32 r ∧ v32 r = 10 * v32 l + c0 ∧ r.length ≤ l.length + 1 := by
  have hS := fun j => parS_eq hd (parC_le hd h0 h1 j).1 (parC_le hd h0 h1 j).2 j
  have hV : ∀ j, parV l c0 j % 4294967296 = parS l (parC l c0 j) j % 4294967296 := fun j => by
    have g := hd.get K0 j
    have h4 := parC_le hd h0 h1 j
    unfold parV
    rw [and32 (by rw [hS]; omega) (by rw [hS]; omega)]
    omega
  obtain ⟨m, hm⟩ : ∃ m, m = l.length + 1 := ⟨_, rfl⟩
  have dd : D32 ((List.range m).map fun j => parV l c0 j % 4294967296) := dg_map_range (fun j _ => by omega)
  obtain ⟨r, r1, r2, r3, r4⟩ := trim_ev (l := (List.range m).map fun j => parV l c0 j % 4294967296) (by simp; omega) dd
  refine ⟨r, ?_, r2, ?_, by simpa [hm] using r4⟩
  · unfold parStep
    rw [← hm]
    exact ev_pos (by omega) r1
  · rw [r3]
    have hc := carries 4294967296 (fun j => 10 * l.getD j 0) (fun j => parV l c0 j % 4294967296) (parC l c0) m (fun j _ => by
      show parV l c0 j % 4294967296 + 4294967296 * (parS l (parC l c0 j) j / 4294967296) = _
      rw [hV, hS]
      omega)
    rw [ps_mul, ps_all _ _ (by omega), ← dv_map_range] at hc
    simp only [parC] at hc
    have hz : parC l c0 m = 0 := by
      rw [hm]
      simp only [parC]
      rw [hS, getD_out (Nat.le_refl _)]
      have := parC_le hd h0 h1 l.length
      omega
    rw [hz, Int.mul_zero, Int.add_zero] at hc
    show dv _ _ = 10 * dv _ _ + _
    exact hc
theorem take_dval {s : List UInt8} {i : Nat} (h : i < s.length) : dval (s.take (i + 1)) = 10 * dval (s.take i) + ((s.getD i 0).toNat - 48) := by
  rw [take_snoc h 0, dval_snoc]
theorem parse_loop {s : ByteArray} (hall : ∀ i, i < s.size → isd ((tl s).getD i 0)) (hs : s.size ≤ 2500) {p : List Int × Int} : ∀ i, i ≤ s.size → ∀ l, C32 l → l.length ≤ i → v32 l = (dval ((tl s).take i) : Int) →
    ∃ l', C32 l' ∧ l'.length ≤ 2500 ∧ v32 l' = (dval (tl s) : Int) ∧ (nat_fit.f l' = some p → Ev (fun k => nat_Parse.l0 k s i l) p) := by
  refine down s.size ?_ ?_
  · intro l cl hl hv
    refine ⟨l, cl, by omega, ?_, fun hf => Ev.step (fun k => by simp only [nat_Parse.l0]; rfl) (ev_neg (by omega) (ev_const hf))⟩
    rw [hv, List.take_of_length_le (by rw [size_tl]; omega)]
  · intro i hi ih l cl hl hv
    have hd := hall i hi
    have hdec := decode_fig hi hd
    unfold isd at hd
    obtain ⟨c, hc⟩ : ∃ c : Nat, c = ((tl s).getD i 0).toNat := ⟨_, rfl⟩
    rw [← hc] at hd hdec
    obtain ⟨r, r1, r2, r3, r4⟩ := parStep_ev cl.dg (by omega) (c0 := (c : Int) - 48) (by omega) (by omega)
    obtain ⟨l', q1, q2, q3, q4⟩ := ih r r2 (by omega) (by
      rw [r3, hv, take_dval (by rw [size_tl]; exact hi), ← hc]; omega)
    refine ⟨l', q1, q2, q3, fun hf => Ev.step (fun k => by simp only [nat_Parse.l0]; rfl) (ev_pos hi ?_)⟩
    have e : IntKind.u64.wrap (wrap32 (((Utf8.decode s i).1 : Int) - 48)) = (c : Int) - 48 := by
      rw [hdec]
      have e1 : wrap32 ((c : Int) - 48) = (c : Int) - 48 := by unfold wrap32; omega
      show IntKind.u64.wrap (wrap32 ((c : Int) - 48)) = _
      rw [e1, u64_id (by omega) (by omega)]
    rw [e, hdec]
    exact ev_call r1 (q4 hf)
theorem Parse_ev (s : ByteArray) : ∃ r e, Ev (fun k => nat_Parse.f k s) (r, e) ∧
    ((¬ figL (tl s) ∧ r = [] ∧ e = 3) ∨ (figL (tl s) ∧ ((2500 < s.size ∧ r = [] ∧ e = 4) ∨ (s.size ≤ 2500 ∧ (((dval (tl s) : Int) < 4294967296 ^ 256 ∧ C32 r ∧ rt r ∧ v32 r = (dval (tl s) : Int) ∧ e = 0) ∨ (4294967296 ^ 256 ≤ (dval (tl s) : Int) ∧ r = [] ∧ e = 4)))))) := by
  have hf : nat_figures.f s = some (decide (figL (tl s))) := by unfold nat_figures.f; rw [figb_eq]
  by_cases h : figL (tl s)
  · by_cases h2 : 2500 < s.size
    · refine ⟨[], 4, ?_, .inr ⟨h, .inl ⟨h2, rfl, rfl⟩⟩⟩
      unfold nat_Parse.f
      exact ev_pure hf (ev_pos (decide_eq_true h) (ev_pos (by omega) ev_ret))
    · have hall := all_iff.2 h.all
      have hE : ∀ p, Ev (fun k => nat_Parse.l0 k s 0 []) p → Ev (fun k => nat_Parse.f k s) p := fun p hp => by
        unfold nat_Parse.f
        exact ev_pure hf (ev_pos (decide_eq_true h) (ev_neg (by omega) hp))
      obtain ⟨l, l1, l2, l3, _⟩ := parse_loop (p := ([], 0)) hall (by omega) 0 (by omega) [] (cn_nil _) (by simp) rfl
      have hfit := fit_eq (l := l) (by omega)
      have hgo : ∀ p, nat_fit.f l = some p → Ev (fun k => nat_Parse.f k s) p := fun p hp => by
        obtain ⟨m, m1, m2, m3, m4⟩ := parse_loop (p := p) hall (by omega) 0 (by omega) [] (cn_nil _) (by simp) rfl
        have em : m = l := cn_unique K0 m1 l1 (by
          show v32 m = v32 l
          rw [m3, l3])
        subst em
        exact hE _ (m4 hp)
      by_cases hr : rt l
      · rw [if_pos hr] at hfit
        refine ⟨l, 0, hgo _ hfit, .inr ⟨h, .inr ⟨by omega, .inl ⟨?_, l1, hr, l3, rfl⟩⟩⟩⟩
        rw [← l3]; exact (cn_rt' l1).1 hr
      · rw [if_neg hr] at hfit
        refine ⟨[], 4, hgo _ hfit, .inr ⟨h, .inr ⟨by omega, .inr ⟨?_, rfl, rfl⟩⟩⟩⟩
        rw [← l3]
        exact Int.not_lt.1 fun h3 => hr ((cn_rt' l1).2 h3)
  · refine ⟨[], 3, ?_, .inl ⟨h, rfl, rfl⟩⟩
    unfold nat_Parse.f
    exact ev_pure hf (ev_neg (by rw [decide_eq_false h]; decide) ev_ret)
end Go.Proofs.YtcidmdjhmhkmgaaDoor.Pure
end

-- PureNatBack
section
set_option linter.unusedVariables false
namespace Go.Proofs.YtcidmdjhmhkmgaaDoor.Pure
open Go.RowKit Go.Proofs.YtcidmdjhmhkmgaaDoorW.PrintWords Go.Proofs.YtcidmdjhmhkmgaaDoorW.PrintMore Go.Proofs.YtcidmdjhmhkmgaaDoor.S Go.Proofs.YtcidmdjhmhkmgaaDoor.L
theorem alive_ev : Ev (fun k => cashbooklaw01_alive.f k) true := ev_some cashbooklaw01_alive.mono ⟨_, cashbooklaw01_alive.now⟩
theorem short_eq (l : List Int) (n : Nat) : cashbooklaw01_short.f l (n : Int) = some (decide (l.length ≤ n)) := congrArg some (decide_eq_decide.2 (by omega))
theorem same32 {a b : List Int} (ha : C32 a) (hb : C32 b) (h : v32 a = v32 b) : a = b := cn_unique K0 ha hb h
theorem fitS_eq {s x : Int} (s0 : 0 ≤ s) (s1 : s < 4294967296) (x0 : 0 ≤ x) (x1 : x < 4294967296) : fitS s x = s * 4294967296 + x := by
  unfold fitS
  rw [u64_id (n := s * 4294967296) (by omega) (by omega), u64_id (n := x) x0 (by omega), or32 (by omega) (by omega) (by omega) x0 x1]
theorem Fits_ok {a : List Int} (ca : C32 a) (hl : a.length ≤ 2) : nat_Fits.f a = some (v32 a, true) := by
  have ha := ca.dg
  unfold nat_Fits.f
  rw [Right_eq (by omega), Option.bind_some, if_pos (decide_eq_true ((cn_rt ca).2 (by omega))), if_neg (by omega)]
  match a, ha, hl with
  | [], _, _ => rfl
  | [x], ha, _ =>
    have g := ha x (by simp)
    show some (fitS 0 x, true) = some (v32 [x], true)
    rw [fitS_eq (by decide) (by decide) g.1 g.2]
    have e : v32 [x] = x := by show dv _ _ = x; simp [dv]
    rw [e]; simp
  | [x, y], ha, _ =>
    have g := ha x (by simp)
    have g2 := ha y (by simp)
    show some (fitS (fitS 0 y) x, true) = some (v32 [x, y], true)
    rw [fitS_eq (s := 0) (by decide) (by decide) g2.1 g2.2, fitS_eq (by omega) (by omega) g.1 g.2]
    have e : v32 [x, y] = x + 4294967296 * y := by show dv _ _ = _; simp [dv]
    rw [e]
    congr 2; omega
  | _ :: _ :: _ :: _, _, h2 => simp at h2
theorem Compare_ev {a b : List Int} (ha : C32 a) (hb : C32 b) (h1 : a.length ≤ 256) (h2 : b.length ≤ 256) : Ev (fun k => nat_Compare.f k a b) (sgn (v32 a) (v32 b)) := by
  unfold nat_Compare.f
  refine ev_pure (Right_eq (by omega)) (ev_pos (by simpa using (cn_rt ha).2 h1) (ev_pure (Right_eq (by omega)) (ev_pos (by simpa using (cn_rt hb).2 h2) ?_)))
  exact ev_call (order_ev ha hb (by omega) (by omega)) ev_ret
theorem toL (l : List UInt8) : (⟨l.toArray⟩ : ByteArray).toList = l := by
  rw [ByteArray.toList_eq]
theorem toL' (s : ByteArray) : s.toList = tl s := ByteArray.toList_eq s
/-- The second half: a text s, a number u of 64 bits, and t, the first number's text. -/
theorem back_j1 {a : List Int} (ha : D32 a) (hl : a.length ≤ 10) (s t : ByteArray) (hs : s.size ≤ 3000) {u : Int} (h0 : 0 ≤ u) (h1 : u < 18446744073709551616) (ht : tl t = if rt a then Lib.decDigits (nv a) else []) :
    Ev (fun k => cashbooklaw01_NatBack.j1 k a s u t) true := by
  obtain ⟨o, o1, o2, o3, o4⟩ := Of_ev h0 h1
  have hf := Fits_ok o2 o4
  rw [o3] at hf
  obtain ⟨r, e, p1, p2⟩ := Parse_ev s
  have hbad : e ≠ 0 → r = [] → Ev (fun k => cashbooklaw01_NatBack.j1 k a s u t) true := fun he hr => by
    subst hr
    refine Ev.step (fun k => by simp only [cashbooklaw01_NatBack.j1]; rfl) (ev_call p1 (ev_call o1 (ev_pure hf ?_)))
    refine ev_pos (c := true = true) rfl (ev_pos (c := u = u) rfl ?_)
    rw [show (e != 0) = true from bne_iff_ne.2 he]
    refine Ev.step (fun k => by simp only [cashbooklaw01_NatBack.j2]; rfl) (ev_pos (c := true = true) rfl (ev_call alive_ev ?_))
    exact ev_pos (c := true = true) rfl (ev_pos (c := True) trivial (ev_pos (c := True) trivial (ev_eq rfl)))
  rcases p2 with ⟨n, hr, he⟩ | ⟨fg, ⟨b, hr, he⟩ | ⟨b, ⟨c, c1, c2, c3, rfl⟩ | ⟨c, hr, he⟩⟩⟩
  · exact hbad (by omega) hr
  · exact hbad (by omega) hr
  · have nr := nv_cast c1.dg
    have hv : nv r = dval (tl s) := by omega
    have hT := Text_ev c1.dg (show r.length ≤ 1000 by have := c2.1; omega)
    rw [if_pos c2, hv, fig_dd _ fg] at hT
    have es : (⟨(tl s).toArray⟩ : ByteArray) = s := (ba_eq rfl).symm
    rw [es] at hT
    refine Ev.step (fun k => by simp only [cashbooklaw01_NatBack.j1]; rfl) (ev_call p1 (ev_call o1 (ev_pure hf ?_)))
    refine ev_pos (c := true = true) rfl (ev_pos (c := u = u) rfl ?_)
    refine Ev.step (fun k => by simp only [cashbooklaw01_NatBack.j2]; rfl) (ev_neg (by decide) (ev_call alive_ev (ev_pos (c := true = true) rfl (ev_call hT (ev_pos rfl ?_)))))
    by_cases hsz : (s.size : Int) = (t.size : Int)
    · refine ev_pos hsz ?_
      by_cases hst : s.toList = t.toList
      · exact ev_pos hst ev_ret
      · refine ev_neg hst ?_
        have hlen : (tl s).length = (tl t).length := by rw [size_tl, size_tl]; omega
        have hsp : 0 < (tl s).length := List.length_pos_iff.2 fg.ne
        by_cases hr : rt a
        · rw [if_pos hr] at ht
          have ca := rt_cn hr ha
          have na := nv_cast ha
          refine ev_call (Compare_ev c1 ca c2.1 (by omega)) (ev_eq ?_)
          have hl2 := less_dval (tl s) (tl t) fg.all (by rw [ht]; exact dd_all _) hlen
          rw [ht, dval_dd] at hl2
          rw [toL', toL', ht, hl2]
          have e1 : (sgn (v32 r) (v32 a) == -1) = decide (dval (tl s) < nv a) := by
            unfold sgn
            by_cases hlt : v32 r < v32 a
            · rw [if_pos hlt, decide_eq_true (by omega)]; rfl
            · rw [if_neg hlt, decide_eq_false (by omega)]
              split <;> rfl
          rw [e1, beq_self_eq_true]
        · rw [if_neg hr] at ht
          rw [ht] at hlen
          simp only [List.length_nil] at hlen
          omega
    · exact ev_neg hsz ev_ret
  · exact hbad (by omega) hr
theorem NatBack : cashbooklaw01_NatBack.Pure := by
  intro a s u _ _ wa _ wu
  refine ev_rounds ?_
  have da := d32_of wa
  have hu : 0 ≤ u ∧ u < 18446744073709551616 := by
    simp [Lit.wf, IntKind.min, IntKind.max, IntKind.signed, IntKind.bits] at wu
    omega
  have hA : Ev (fun k => cashbooklaw01_NatBack.j0 k a s u true) true :=
    Ev.step (fun k => by simp only [cashbooklaw01_NatBack.j0]; rfl) (ev_pos (c := true = true) rfl (ev_call alive_ev ev_ret))
  unfold cashbooklaw01_NatBack.f
  refine ev_pure (short_eq a 10) ?_
  by_cases h0 : a.length ≤ 10
  · refine ev_pos (decide_eq_true h0) ?_
    by_cases h1 : s.size ≤ 3000
    · rw [decide_eq_false (p := (s.size : Int) > 3000) (by omega)]
      have hT := Text_ev da (show a.length ≤ 1000 by omega)
      obtain ⟨t, ht⟩ : ∃ t : ByteArray, t = ⟨(if rt a then Lib.decDigits (nv a) else []).toArray⟩ := ⟨_, rfl⟩
      have htl : tl t = if rt a then Lib.decDigits (nv a) else [] := by rw [ht]; rfl
      rw [← ht] at hT
      have hj := back_j1 da h0 s t h1 hu.1 hu.2 htl
      refine Ev.step (fun k => by simp only [cashbooklaw01_NatBack.j0]; rfl) (ev_neg (by decide) (ev_call hT (ev_pure (Right_eq (l := a) (by omega)) ?_)))
      rw [toL']
      by_cases hr : rt a
      · rw [if_pos hr] at htl
        have hne : tl t ≠ [] := by rw [htl]; exact dd_ne _
        have ca := rt_cn hr da
        have na := nv_cast da
        rw [decide_eq_true hr, show (tl t != []) = true from bne_iff_ne.2 hne]
        refine ev_neg (by decide) (ev_neg hne ?_)
        obtain ⟨r, e, p1, p2⟩ := Parse_ev t
        have hfg : figL (tl t) := by rw [htl]; exact dd_fig _
        have hnd := nv_nd da (show a.length ≤ 256 by omega)
        have hsz : t.size ≤ 2560 := by rw [← size_tl, htl]; exact hnd
        have hnd2 : t.size ≤ 2500 := by
          have h1 := dv_lt K0 da
          have h2 := pow_mono (B := 4294967296) (by decide) h0
          have h3 : v32 a < 4294967296 ^ 10 := by
            have h1' : v32 a < 4294967296 ^ a.length := h1
            omega
          have h4 : nv a < 10 ^ (99 + 1) := by
            have e1 : (4294967296 : Int) ^ 10 = 2135987035920910082395021706169552114602704522356652769947041607822219725780640550022962086936576 := by decide
            rw [e1] at h3
            omega
          rw [← size_tl, htl, nd_eq]
          have := nd_le 99 _ h4
          omega
        rcases p2 with ⟨n, _⟩ | ⟨_, ⟨b, _⟩ | ⟨b, ⟨c, c1, c2, c3, rfl⟩ | ⟨c, _⟩⟩⟩
        · exact absurd hfg n
        · exact absurd b (by omega)
        · have er : r = a := same32 c1 ca (by rw [c3, htl, dval_dd, na])
          subst er
          refine ev_call p1 ?_
          refine ev_call (Same_ev (a := r) (by omega)) ?_
          refine ev_pos (c := (0 : Int) = 0) rfl (ev_pos (c := true = true) rfl ?_)
          by_cases hb : (t.size : Int) > 1
          · refine ev_pos hb (ev_pos (by omega) (ev_neg ?_ hj))
            have hb0 : bt t 0 = (((tl t).getD 0 0).toNat : Int) := bt_get (i := 0) (by omega)
            rw [hb0]
            intro e
            refine hfg.head (by rw [size_tl]; omega) (UInt8.toNat_inj.1 ?_)
            rw [show (48 : UInt8).toNat = 48 from rfl]; omega
          · exact ev_neg hb hj
        · exfalso
          rw [htl, dval_dd, na] at c
          have h5 := (cn_rt' ca).1 hr
          omega
      · rw [if_neg hr] at htl
        rw [decide_eq_false hr, htl]
        exact ev_neg (by decide) (ev_pos rfl hj)
    · rw [decide_eq_true (p := (s.size : Int) > 3000) (by omega)]
      exact hA
  · exact ev_neg (by rw [decide_eq_false h0]; decide) hA
end Go.Proofs.YtcidmdjhmhkmgaaDoor.Pure
end
