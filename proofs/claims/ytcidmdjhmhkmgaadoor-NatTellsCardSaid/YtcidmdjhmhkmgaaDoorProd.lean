import Derived.Test.YtcidmdjhmhkmgaaDoorS1
import Derived.Test.YtcidmdjhmhkmgaaDoorRefB
set_option linter.unusedVariables false
namespace Go.Proofs.YtcidmdjhmhkmgaaDoor.L
open Go.RowKit
theorem dv_set (B : Int) : ∀ (l : List Int) (i : Nat) (v : Int), i < l.length → dv B (l.set i v) = dv B l + B ^ i * (v - l.getD i 0)
  | [], i, v, h => by simp at h
  | a :: l, 0, v, _ => by
    have e : (a :: l).getD 0 0 = a := rfl
    rw [e]; simp only [List.set_cons_zero, dv, Int.pow_zero]; omega
  | a :: l, i + 1, v, h => by
    have ih := dv_set B l i v (by simpa using h)
    have e : (a :: l).getD (i + 1) 0 = l.getD i 0 := rfl
    rw [e]
    simp only [List.set_cons_succ, dv, ih, Int.pow_succ]
    grind
theorem Dg.set {B : Int} {l : List Int} (h : Dg B l) (i : Nat) {v : Int} (hv : 0 ≤ v ∧ v < B) : Dg B (l.set i v) := fun x hx => by
  rcases List.mem_or_eq_of_mem_set hx with h1 | rfl
  · exact h x h1
  · exact hv
/-- A product, row by row: i rows are in. -/
structure MO (B : Int) (x y o : List Int) (L i : Nat) : Prop where
  dg : Dg B o
  len : o.length = L
  zero : ∀ p, i + y.length ≤ p → o.getD p 0 = 0
  val : dv B o = dv B (x.take i) * dv B y
/-- .. and of the next row j places, c being carried on. -/
structure MI (B xi : Int) (y o : List Int) (V0 : Int) (L i j : Nat) (c : Int) : Prop where
  dg : Dg B o
  len : o.length = L
  c0 : 0 ≤ c
  c1 : c < B
  zero : ∀ p, i + y.length ≤ p → o.getD p 0 = 0
  val : dv B o + B ^ (i + j) * c = V0 + B ^ i * (xi * dv B (y.take j))
theorem MI.start {B : Int} (hB : 0 < B) {x y o : List Int} {L i : Nat} (h : MO B x y o L i) (xi : Int) : MI B xi y o (dv B (x.take i) * dv B y) L i 0 0 :=
  ⟨h.dg, h.len, Int.le_refl _, hB, h.zero, by rw [h.val]; simp [dv]⟩
theorem MI.bound {B xi : Int} {y o : List Int} {V0 : Int} {L i j : Nat} {c : Int} (hB : 0 < B) (h : MI B xi y o V0 L i j c) (hx : 0 ≤ xi ∧ xi < B) (hy : Dg B y) :
    0 ≤ xi * y.getD j 0 ∧ 0 ≤ o.getD (i + j) 0 ∧ xi * y.getD j 0 ≤ (B - 1) * (B - 1) ∧ o.getD (i + j) 0 < B := by
  have g1 := hy.get hB j
  have g2 := h.dg.get hB (i + j)
  refine ⟨Int.mul_nonneg hx.1 g1.1, g2.1, ?_, g2.2⟩
  exact Int.mul_le_mul (by omega) (by omega) g1.1 (by omega)
theorem MI.step {B xi : Int} {y o : List Int} {V0 : Int} {L i j : Nat} {c : Int} (hB : 0 < B) (h : MI B xi y o V0 L i j c) (hx : 0 ≤ xi ∧ xi < B) (hy : Dg B y) (hj : j < y.length) (hL : i + y.length ≤ L) {s : Int} (hs : s = o.getD (i + j) 0 + xi * y.getD j 0 + c) :
    MI B xi y (o.set (i + j) (s % B)) V0 L i (j + 1) (s / B) := by
  obtain ⟨b1, b2, b3, b4⟩ := h.bound hB hx hy
  have c0 := h.c0
  have c1 := h.c1
  have e : (B - 1) * (B - 1) = B * B - 2 * B + 1 := by grind
  have hs0 : 0 ≤ s := by omega
  have hs1 : s < B * B := by omega
  refine ⟨h.dg.set _ ⟨Int.emod_nonneg _ (by omega), Int.emod_lt_of_pos _ hB⟩, by rw [List.length_set]; exact h.len, Int.ediv_nonneg hs0 (by omega), Int.ediv_lt_of_lt_mul hB hs1, fun p hp => ?_, ?_⟩
  · rw [gset_ne (by omega)]; exact h.zero p hp
  · have hv := h.val
    rw [dv_set B o _ _ (by have := h.len; omega), dv_take_succ, show i + (j + 1) = (i + j) + 1 by omega, Int.pow_succ, Int.pow_add]
    rw [Int.pow_add] at hv
    have e2 := Int.emod_add_mul_ediv s B
    obtain ⟨P, hP⟩ : ∃ P, P = B ^ i := ⟨_, rfl⟩
    obtain ⟨Q, hQ⟩ : ∃ Q, Q = B ^ j := ⟨_, rfl⟩
    rw [← hP, ← hQ] at hv ⊢
    obtain ⟨m, hm⟩ : ∃ m, m = s % B := ⟨_, rfl⟩
    obtain ⟨q, hq⟩ : ∃ q, q = s / B := ⟨_, rfl⟩
    rw [← hm, ← hq] at e2 ⊢
    obtain ⟨oj, hoj⟩ : ∃ z, z = o.getD (i + j) 0 := ⟨_, rfl⟩
    obtain ⟨yj, hyj⟩ : ∃ z, z = y.getD j 0 := ⟨_, rfl⟩
    rw [← hoj, ← hyj] at hs
    rw [← hoj, ← hyj]
    have e3 : m = oj + xi * yj + c - B * q := by omega
    rw [e3]
    grind
theorem MI.end_ {B : Int} {x y o : List Int} {L i : Nat} {c : Int} (hB : 0 < B) (h : MI B (x.getD i 0) y o (dv B (x.take i) * dv B y) L i y.length c) (hL : i + y.length < L) : MO B x y (o.set (i + y.length) c) L (i + 1) := by
  refine ⟨h.dg.set _ ⟨h.c0, h.c1⟩, by rw [List.length_set]; exact h.len, fun p hp => ?_, ?_⟩
  · rw [gset_ne (by omega)]; exact h.zero p (by omega)
  · have hv := h.val
    rw [List.take_length] at hv
    rw [dv_set B o _ _ (by have := h.len; omega), h.zero _ (Nat.le_refl _), dv_take_succ]
    grind
theorem MO.start {B : Int} (hB : 0 < B) (x y : List Int) (L : Nat) : MO B x y (List.replicate L 0) L 0 := by
  have hz : ∀ n, dv B (List.replicate n 0) = 0 := by
    intro n
    induction n with
    | zero => rfl
    | succ n ih => rw [List.replicate_succ]; simp [dv, ih]
  refine ⟨fun z hz => ?_, List.length_replicate, fun p _ => ?_, by rw [hz]; simp [dv]⟩
  · rw [List.eq_of_mem_replicate hz]; exact ⟨Int.le_refl _, hB⟩
  · by_cases hp : p < L
    · rw [getD_lt (by simpa using hp)]; simp
    · rw [List.getD_eq_getElem?_getD, List.getElem?_eq_none (by simp; omega)]; rfl
end Go.Proofs.YtcidmdjhmhkmgaaDoor.L
namespace Go.Proofs.YtcidmdjhmhkmgaaDoor.Pure
open Go.RowKit Go.Proofs.YtcidmdjhmhkmgaaDoorW.PrintWords Go.Proofs.YtcidmdjhmhkmgaaDoorW.PrintMore Go.Proofs.YtcidmdjhmhkmgaaDoor.S Go.Proofs.YtcidmdjhmhkmgaaDoor.L
theorem addN {i j : Nat} (h : i + j ≤ 1000000000) : wrap64 ((i : Int) + (j : Int)) = ((i + j : Nat) : Int) := by unfold wrap64; omega
theorem mulIn {a b : List Int} (ha : D32 a) (hb : D32 b) (hla : a.length ≤ 1000) (hlb : b.length ≤ 1000) (i : Nat) (hi : i < a.length) {Q : List Int × Int → Prop}
    (next : ∀ o, MO 4294967296 a b o (a.length + b.length) (i + 1) → ∃ r, Q r ∧ Ev (fun k => nat_Mul.l0 k b o a (a.length : Int) ((i + 1 : Nat) : Int)) r) :
    ∀ j, j ≤ b.length → ∀ o c, MI 4294967296 (a.getD i 0) b o (v32 (a.take i) * v32 b) (a.length + b.length) i j c → ∃ r, Q r ∧ Ev (fun k => nat_Mul.l1 k b o (i : Int) (a.getD i 0) c a (a.length : Int) (i : Int) b (b.length : Int) (j : Int)) r := by
  have gx := ha.get K0 i
  refine down b.length ?_ ?_
  · intro o c h
    obtain ⟨r, hq, hr⟩ := next _ (h.end_ K0 (by omega))
    refine ⟨r, hq, Ev.step (fun k => by simp only [nat_Mul.l1]; rfl) (ev_neg (by omega) ?_)⟩
    rw [addN (by omega), inc64 (by omega), Int.toNat_natCast, Int.emod_eq_of_lt h.c0 h.c1]
    have hl := h.len
    exact ev_pos (by omega) (ev_pos (by omega) hr)
  · intro j hj ih o c h
    have hl := h.len
    have hb1 := h.bound K0 gx hb
    have gy := hb.get K0 j
    have h0 := h.c0
    have h1 := h.c1
    obtain ⟨r, hq, hr⟩ := ih _ _ (h.step K0 gx hb hj (by omega) rfl)
    refine ⟨r, hq, Ev.step (fun k => by simp only [nat_Mul.l1]; rfl) ?_⟩
    refine ev_pos (by omega) ?_
    refine ev_pos (by omega) ?_
    refine ev_pos (by omega) ?_
    rw [addN (by omega)]
    refine ev_pos (by omega) ?_
    refine ev_pos (by omega) ?_
    rw [rd_nat, rd_nat, Int.toNat_natCast, inc64 (by omega)]
    rw [u64_id (n := a.getD i 0) gx.1 (by omega), u64_id (n := b.getD j 0) gy.1 (by omega), u64_id (n := o.getD (i + j) 0) hb1.2.1 (by omega), u64_id (n := a.getD i 0 * b.getD j 0) hb1.1 (by omega), u64_id (n := a.getD i 0 * b.getD j 0 + o.getD (i + j) 0) (by omega) (by omega), u64_id (by omega) (by omega)]
    rw [show c + (a.getD i 0 * b.getD j 0 + o.getD (i + j) 0) = o.getD (i + j) 0 + a.getD i 0 * b.getD j 0 + c by omega]
    exact hr
theorem mul_loop {a b : List Int} (ha : D32 a) (hb : D32 b) (hla : a.length ≤ 1000) (hlb : b.length ≤ 1000) {Q : List Int × Int → Prop}
    (fin : ∀ o, D32 o → o.length = a.length + b.length → v32 o = v32 a * v32 b → ∃ r, Q r ∧ Ev (fun k => (nat_trim.f k o).bind fun t137 => ((nat_fit.f t137).bind fun bt140 => (some (bt140.1, bt140.2)))) r) :
    ∀ i, i ≤ a.length → ∀ o, MO 4294967296 a b o (a.length + b.length) i → ∃ r, Q r ∧ Ev (fun k => nat_Mul.l0 k b o a (a.length : Int) (i : Int)) r := by
  refine down a.length ?_ ?_
  · intro o h
    obtain ⟨r, hq, hr⟩ := fin o h.dg h.len (by have := h.val; rwa [List.take_length] at this)
    exact ⟨r, hq, Ev.step (fun k => by simp only [nat_Mul.l0]; rfl) (ev_neg (by omega) hr)⟩
  · intro i hi ih o h
    obtain ⟨r, hq, hr⟩ := mulIn ha hb hla hlb i hi ih 0 (by omega) o 0 (MI.start K0 h _)
    refine ⟨r, hq, Ev.step (fun k => by simp only [nat_Mul.l0]; rfl) (ev_pos (by omega) (ev_pos (by omega) (ev_pos (by omega) ?_)))⟩
    rw [rd_nat]
    exact hr
theorem Mul_ev {a b : List Int} (ha : D32 a) (hb : D32 b) (hla : a.length ≤ 1000) (hlb : b.length ≤ 1000) : ∃ r e, Ev (fun k => nat_Mul.f k a b) (r, e) ∧
    ((¬ (rt a ∧ rt b) ∧ r = [] ∧ e = 1) ∨ (rt a ∧ rt b ∧ ((v32 a * v32 b < 4294967296 ^ 256 ∧ C32 r ∧ v32 r = v32 a * v32 b ∧ e = 0) ∨ (4294967296 ^ 256 ≤ v32 a * v32 b ∧ r = [] ∧ e = 4)))) := by
  by_cases h1 : rt a
  · by_cases h2 : rt b
    · obtain ⟨⟨r, e⟩, hq, hr⟩ := mul_loop ha hb hla hlb (Q := fun p => (v32 a * v32 b < 4294967296 ^ 256 ∧ C32 p.1 ∧ v32 p.1 = v32 a * v32 b ∧ p.2 = 0) ∨ (4294967296 ^ 256 ≤ v32 a * v32 b ∧ p.1 = [] ∧ p.2 = 4)) (fun o od ol ov => by
        obtain ⟨t, t1, t2, t3, t4⟩ := trim_ev (l := o) (by omega) od
        have hf := fit_eq (l := t) (by omega)
        by_cases h3 : rt t
        · rw [if_pos h3] at hf
          have := (cn_rt' t2).1 h3
          exact ⟨(t, 0), .inl ⟨by omega, t2, by show v32 t = _; omega, rfl⟩, ev_call t1 (ev_pure hf ev_ret)⟩
        · rw [if_neg h3] at hf
          have : ¬ v32 t < 4294967296 ^ 256 := fun h => h3 ((cn_rt' t2).2 h)
          exact ⟨([], 4), .inr ⟨by omega, rfl, rfl⟩, ev_call t1 (ev_pure hf ev_ret)⟩) 0 (by omega) _ (MO.start K0 a b _)
      refine ⟨r, e, ?_, .inr ⟨h1, h2, hq⟩⟩
      unfold nat_Mul.f
      refine ev_pure (Right_eq (by omega)) (ev_pos (by simpa using h1) (ev_pure (Right_eq (by omega)) ?_))
      refine Ev.step (fun k => by simp only [nat_Mul.j0]; rfl) (ev_neg (by simpa using h2) ?_)
      rw [addN (by omega), Int.toNat_natCast]
      exact ev_pos (by omega) (ev_pos (by omega) hr)
    · refine ⟨[], 1, ?_, .inl ⟨fun h => h2 h.2, rfl, rfl⟩⟩
      unfold nat_Mul.f
      refine ev_pure (Right_eq (by omega)) (ev_pos (by simpa using h1) (ev_pure (Right_eq (by omega)) ?_))
      exact Ev.step (fun k => by simp only [nat_Mul.j0]; rfl) (ev_pos (by simpa using h2) ev_ret)
  · refine ⟨[], 1, ?_, .inl ⟨fun h => h1 h.1, rfl, rfl⟩⟩
    unfold nat_Mul.f
    refine ev_pure (Right_eq (by omega)) (ev_neg (by simpa using h1) ?_)
    exact Ev.step (fun k => by simp only [nat_Mul.j0]; rfl) (ev_pos (c := true = true) rfl ev_ret)
end Go.Proofs.YtcidmdjhmhkmgaaDoor.Pure
