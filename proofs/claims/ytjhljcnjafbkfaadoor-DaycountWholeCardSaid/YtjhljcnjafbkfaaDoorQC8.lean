import Derived.Test.YtjhljcnjafbkfaaDoorQC3
import Derived.Test.YtjhljcnjafbkfaaDoorQC7
import Derived.Lib.VarintBits
import Derived.Lib.Zigzag
set_option linter.unusedSimpArgs false
set_option linter.unusedVariables false
section
set_option linter.unusedVariables false
namespace Go.Proofs.YtjhljcnjafbkfaaDoor.Pure
open Go.RowKit Go.Proofs.YtjhljcnjafbkfaaDoor.X Go.Proofs.YtjhljcnjafbkfaaDoor.L
theorem u64_id {n : Int} (h0 : 0 ≤ n) (h1 : n < 18446744073709551616) : IntKind.u64.wrap n = n := by rw [IntKind.wrap_u64]; omega
theorem u64_mod (n : Int) : IntKind.u64.wrap n = n % 18446744073709551616 := IntKind.wrap_u64 n
theorem u32_mod (n : Int) : IntKind.u32.wrap n = n % 4294967296 := IntKind.wrap_u32 n
theorem and32 {x : Int} (h0 : 0 ≤ x) (h1 : x < 18446744073709551616) : Go.bits .and .u64 x 4294967295 = x % 4294967296 := bits_mask .u64 64 (by decide) wraps_u64 32 (by decide) x h0 h1
theorem sh32 : (2 : Int) ^ min (32 : Int).toNat (IntKind.bits .u64) = 4294967296 := by decide
theorem sh33 : (2 : Int) ^ min (33 : Int).toNat (IntKind.bits .u64) = 8589934592 := by decide
theorem fdiv_pos {a b : Int} (hb : 0 < b) : Int.fdiv a b = a / b := Int.fdiv_eq_ediv_of_nonneg a (Int.le_of_lt hb)
abbrev D32 (l : List Int) : Prop := Dg 4294967296 l
abbrev C32 (l : List Int) : Prop := Cn 4294967296 l
abbrev v32 (l : List Int) : Int := dv 4294967296 l
theorem K0 : (0 : Int) < 4294967296 := by decide
theorem K1 : (1 : Int) < 4294967296 := by decide
def rt (l : List Int) : Prop := l.length ≤ 256 ∧ (l ≠ [] → l.getD (l.length - 1) 0 ≠ 0)
instance (l : List Int) : Decidable (rt l) := by unfold rt; infer_instance
theorem rt_cn {l : List Int} (h : rt l) (hd : D32 l) : C32 l := ⟨hd, h.2⟩
theorem cn_rt {l : List Int} (h : C32 l) : rt l ↔ l.length ≤ 256 := ⟨fun x => x.1, fun x => ⟨x, h.top⟩⟩
theorem cn_rt' {l : List Int} (h : C32 l) : rt l ↔ v32 l < 4294967296 ^ 256 := (cn_rt h).trans (cn_len_le K1 h)
theorem last_wrap {l : List Int} (h0 : l ≠ []) (hl : l.length ≤ 1000000000) : wrap64 ((l.length : Int) - 1) = ((l.length - 1 : Nat) : Int) := by
  have : 0 < l.length := List.length_pos_iff.2 h0
  unfold wrap64; omega
theorem Right_eq {l : List Int} (hl : l.length ≤ 1000000000) : nat_Right.f l = some (decide (rt l)) := by
  unfold nat_Right.f
  by_cases h1 : (l.length : Int) ≤ 256
  · rw [if_pos h1]
    by_cases h2 : (l.length : Int) = 0
    · have : l = [] := List.eq_nil_of_length_eq_zero (by omega)
      subst this
      rfl
    · have h0 : l ≠ [] := fun e => h2 (by rw [e]; rfl)
      have hp : 0 < l.length := List.length_pos_iff.2 h0
      rw [if_neg h2, last_wrap h0 hl, if_pos (by omega), if_pos (by omega), Int.toNat_natCast]
      congr 1
      rw [Bool.eq_iff_iff]
      simp only [Bool.not_eq_true', decide_eq_false_iff_not, decide_eq_true_eq]
      exact ⟨fun h => ⟨by omega, fun _ => h⟩, fun h => h.2 h0⟩
  · rw [if_neg h1]
    exact congrArg some (decide_eq_false (fun h => h1 (by have := h.1; omega))).symm
theorem fit_eq {l : List Int} (hl : l.length ≤ 1000000000) : nat_fit.f l = some (if rt l then (l, 0) else ([], 4)) := by
  unfold nat_fit.f
  rw [Right_eq hl, Option.bind_some]
  by_cases h : rt l
  · rw [if_pos (by simpa using h), if_pos h]
  · rw [if_neg (by simpa using h), if_neg h]
theorem take_last {l : List Int} (h0 : l ≠ []) : l = l.take (l.length - 1) ++ [l.getD (l.length - 1) 0] := by
  have hp : 0 < l.length := List.length_pos_iff.2 h0
  rw [← take_snoc (by omega) 0, show l.length - 1 + 1 = l.length by omega, List.take_length]
theorem trim_loop : ∀ (n : Nat) (l : List Int), l.length = n → n ≤ 1000000000 → D32 l → ∃ r, Ev (fun k => nat_trim.l0 k l) r ∧ C32 r ∧ v32 r = v32 l ∧ r.length ≤ l.length
  | 0, l, hn, _, hd => by
    have : l = [] := List.eq_nil_of_length_eq_zero hn
    subst this
    exact ⟨[], Ev.step (fun k => by simp only [nat_trim.l0]; rfl) (ev_neg (by decide) (Ev.step (fun k => by simp only [nat_trim.j0]; rfl) (ev_neg (by decide) ev_ret))), cn_nil _, rfl, Nat.le_refl _⟩
  | n + 1, l, hn, hb, hd => by
    have h0 : l ≠ [] := fun e => by rw [e] at hn; simp at hn
    have hw := last_wrap h0 (by omega)
    by_cases hz : l.getD (l.length - 1) 0 = 0
    · have hl : (l.take (l.length - 1)).length = n := by rw [List.length_take]; omega
      obtain ⟨r, h1, h2, h3, h4⟩ := trim_loop n (l.take (l.length - 1)) hl (by omega) (hd.take _)
      refine ⟨r, Ev.step (fun k => by simp only [nat_trim.l0]; rfl) ?_, h2, ?_, by omega⟩
      · rw [hw]
        refine ev_pos (by omega) (ev_pos (by omega) (ev_pos (by omega) ?_))
        rw [Int.toNat_natCast]
        refine Ev.step (fun k => by simp only [nat_trim.j0]; rfl) ?_
        rw [hw, Int.toNat_natCast]
        exact ev_pos (by rw [hz]; rfl) (ev_pos (by omega) (ev_pos (by omega) h1))
      · rw [h3]
        have e := dv_append 4294967296 (l.take (l.length - 1)) [l.getD (l.length - 1) 0]
        rw [← take_last h0, hz] at e
        show dv _ _ = dv _ _
        rw [e]
        simp [dv]
    · refine ⟨l, Ev.step (fun k => by simp only [nat_trim.l0]; rfl) ?_, ⟨hd, fun _ => hz⟩, rfl, Nat.le_refl _⟩
      rw [hw]
      refine ev_pos (by omega) (ev_pos (by omega) (ev_pos (by omega) ?_))
      rw [Int.toNat_natCast]
      exact Ev.step (fun k => by simp only [nat_trim.j0]; rfl) (ev_neg (by simpa using hz) ev_ret)
theorem trim_ev {l : List Int} (hl : l.length ≤ 1000000000) (hd : D32 l) : ∃ r, Ev (fun k => nat_trim.f k l) r ∧ C32 r ∧ v32 r = v32 l ∧ r.length ≤ l.length := trim_loop _ l rfl hl hd
def fill (o : Nat → Int) (m i : Nat) : List Int := (List.range m).map fun j => if j < i then o j else 0
theorem fill_length (o : Nat → Int) (m i : Nat) : (fill o m i).length = m := by simp [fill]
theorem fill_get (o : Nat → Int) (m i : Nat) {j : Nat} (h : j < m) : (fill o m i).getD j 0 = if j < i then o j else 0 := by
  rw [getD_lt (by rw [fill_length]; exact h)]; simp [fill]
theorem fill_zero (o : Nat → Int) (m : Nat) : fill o m 0 = List.replicate m 0 := by
  refine list_ext 0 (by rw [fill_length]; simp) fun i hi => ?_
  rw [fill_length] at hi
  rw [fill_get o m 0 hi, getD_lt (by simpa using hi)]; simp
theorem fill_all (o : Nat → Int) (m : Nat) : fill o m m = (List.range m).map o := by
  refine list_ext 0 (by rw [fill_length]; simp) fun i hi => ?_
  rw [fill_length] at hi
  rw [fill_get o m m hi, getD_lt (by simpa using hi), if_pos hi]; simp
theorem fill_set (o : Nat → Int) (m i : Nat) {v : Int} (hv : v = o i) : (fill o m i).set i v = fill o m (i + 1) := by
  refine list_ext 0 (by rw [List.length_set, fill_length, fill_length]) fun j hj => ?_
  rw [List.length_set, fill_length] at hj
  rw [fill_get o m (i + 1) hj]
  by_cases e : i = j
  · subst e
    rw [gset_same (by rw [fill_length]; exact hj), if_pos (by omega), hv]
  · rw [gset_ne e, fill_get o m i hj]
    by_cases h : j < i
    · rw [if_pos h, if_pos (by omega)]
    · rw [if_neg h, if_neg (by omega)]
theorem nat_at_eq {l : List Int} (hd : D32 l) (i : Nat) : nat_at.f l (i : Int) = some (l.getD i 0) := by
  unfold nat_at.f
  have h := hd.get K0 i
  by_cases hi : (l.length : Int) ≤ (i : Int)
  · rw [if_pos hi, List.getD_eq_getElem?_getD, List.getElem?_eq_none (by omega)]; rfl
  · rw [if_neg hi, if_pos (by omega), if_pos (by omega), Int.toNat_natCast, u64_id h.1 (by omega)]
def addC (a b : List Int) : Nat → Int
  | 0 => 0
  | i + 1 => (a.getD i 0 + b.getD i 0 + addC a b i) / 4294967296
def addO (a b : List Int) (i : Nat) : Int := (a.getD i 0 + b.getD i 0 + addC a b i) % 4294967296
theorem addC_le {a b : List Int} (ha : D32 a) (hb : D32 b) : ∀ i, 0 ≤ addC a b i ∧ addC a b i ≤ 1
  | 0 => by simp [addC]
  | i + 1 => by
    have ih := addC_le ha hb i
    have h2 := ha.get K0 i
    have h3 := hb.get K0 i
    simp only [addC]
    omega
theorem add1_eq {a b : List Int} (ha : D32 a) (hb : D32 b) (i : Nat) : nat_add_1_s2.f (i : Int) (addC a b i) a b = some (addO a b i, addC a b (i + 1), a, b) := by
  have h1 := addC_le ha hb i
  have h2 := ha.get K0 i
  have h3 := hb.get K0 i
  unfold nat_add_1_s2.f
  rw [nat_at_eq ha, nat_at_eq hb, Option.bind_some, Option.bind_some, u64_id (n := a.getD i 0 + b.getD i 0) (by omega) (by omega), u64_id (by omega) (by omega), and32 (by omega) (by omega), sh32, fdiv_pos (by omega)]
  simp only [addO, addC]
  rw [Int.add_comm (addC a b i)]
theorem addO_b (a b : List Int) (i : Nat) : 0 ≤ addO a b i ∧ addO a b i < 4294967296 := by unfold addO; omega
theorem add_loop {a b : List Int} (ha : D32 a) (hb : D32 b) (m : Nat) (hm : m ≤ 1000000) {r : List Int} (hr : Ev (fun k => nat_trim.f k ((List.range m).map (addO a b))) r) :
    ∀ i, i ≤ m → Ev (fun k => nat_limbs_s1.l0 k (m : Int) (i : Int) (fill (addO a b) m i) (addC a b i) a b) (r, addC a b m, a, b) := by
  refine down m ?_ fun i hi ih => ?_
  · refine Ev.step (fun k => by simp only [nat_limbs_s1.l0]; rfl) (ev_neg (by omega) ?_)
    rw [fill_all]
    exact ev_call hr ev_ret
  · refine Ev.step (fun k => by simp only [nat_limbs_s1.l0]; rfl) (ev_pos (by omega) (ev_pure (add1_eq ha hb i) ?_))
    refine ev_pos (by omega) (ev_pos (by rw [fill_length]; omega) ?_)
    have hb := addO_b a b i
    rw [inc64 (by omega), Int.toNat_natCast, fill_set _ _ _ (by show IntKind.u32.wrap (addO a b i) = addO a b i; rw [u32_mod]; omega)]
    exact ih
theorem add_ev {a b : List Int} (ha : D32 a) (hb : D32 b) (hla : a.length ≤ 1000) (hlb : b.length ≤ 1000) : ∃ r, Ev (fun k => nat_add.f k a b) r ∧ C32 r ∧ v32 r = v32 a + v32 b ∧ r.length ≤ max a.length b.length + 1 := by
  obtain ⟨m, hm⟩ : ∃ m, m = max a.length b.length + 1 := ⟨_, rfl⟩
  have hd : D32 ((List.range m).map (addO a b)) := dg_map_range (fun j _ => addO_b a b j)
  obtain ⟨r, h1, h2, h3, h4⟩ := trim_ev (l := (List.range m).map (addO a b)) (by simp; omega) hd
  refine ⟨r, ?_, h2, ?_, by simpa [hm] using h4⟩
  · unfold nat_add.f
    have e : wrap64 ((max (a.length : Int) (b.length : Int)) + 1) = (m : Int) := by unfold wrap64; omega
    rw [e]
    have hl := add_loop ha hb m (by omega) h1 0 (Nat.zero_le _)
    rw [fill_zero] at hl
    refine ev_call (a := (r, addC a b m, a, b)) ?_ ev_ret
    unfold nat_limbs_s1.f
    refine ev_pos (by omega) (ev_pos (by omega) ?_)
    rw [Int.toNat_natCast, List.length_replicate]
    exact hl
  · rw [h3]
    have hc := carries 4294967296 (fun j => a.getD j 0 + b.getD j 0) (addO a b) (addC a b) m (fun j _ => by
      show addO a b j + 4294967296 * addC a b (j + 1) = _
      simp only [addO, addC]
      omega)
    rw [ps_add, ps_all _ _ (by omega), ps_all _ _ (by omega), ← dv_map_range] at hc
    simp only [addC] at hc
    have hlt : dv 4294967296 a + dv 4294967296 b < 4294967296 ^ m := by
      have e1 := dv_lt K0 ha
      have e2 := dv_lt K0 hb
      have e3 := pow_mono (B := 4294967296) (by decide) (show a.length ≤ m - 1 by omega)
      have e4 := pow_mono (B := 4294967296) (by decide) (show b.length ≤ m - 1 by omega)
      have e6 := pow_pos_ K0 (m - 1)
      have e5 : (4294967296 : Int) ^ m = 4294967296 * 4294967296 ^ (m - 1) := by
        rw [show m = (m - 1) + 1 by omega, Int.pow_succ, Int.mul_comm]; rfl
      omega
    have hn := dv_nonneg K0 hd
    have hcm := addC_le ha hb m
    have : addC a b m = 0 := by
      rcases Int.lt_or_le 0 (addC a b m) with h | h
      · have e : addC a b m = 1 := by omega
        rw [e] at hc
        omega
      · omega
    rw [this] at hc
    show dv _ _ = dv _ _ + dv _ _
    omega
theorem Add_ev {a b : List Int} (ha : D32 a) (hb : D32 b) (hla : a.length ≤ 1000) (hlb : b.length ≤ 1000) : ∃ r e, Ev (fun k => nat_Add.f k a b) (r, e) ∧
    ((¬ (rt a ∧ rt b) ∧ r = [] ∧ e = 1) ∨ (rt a ∧ rt b ∧ ((v32 a + v32 b < 4294967296 ^ 256 ∧ C32 r ∧ v32 r = v32 a + v32 b ∧ e = 0) ∨ (4294967296 ^ 256 ≤ v32 a + v32 b ∧ r = [] ∧ e = 4)))) := by
  by_cases h1 : rt a
  · by_cases h2 : rt b
    · obtain ⟨s, hs, hc, hv, hl⟩ := add_ev ha hb hla hlb
      have hf := fit_eq (l := s) (by omega)
      have hE : ∀ p, nat_fit.f s = some p → Ev (fun k => nat_Add.f k a b) p := fun p hp => by
        unfold nat_Add.f
        refine ev_pure (Right_eq (by omega)) (ev_pos (by simpa using h1) (ev_pure (Right_eq (by omega)) ?_))
        exact Ev.step (fun k => by simp only [nat_Add.j0]; rfl) (ev_neg (by simpa using h2) (ev_call hs (ev_pure hp ev_ret)))
      by_cases h3 : rt s
      · rw [if_pos h3] at hf
        have := (cn_rt' hc).1 h3
        exact ⟨_, _, hE _ hf, .inr ⟨h1, h2, .inl ⟨by omega, hc, hv, rfl⟩⟩⟩
      · rw [if_neg h3] at hf
        have : ¬ v32 s < 4294967296 ^ 256 := fun h => h3 ((cn_rt' hc).2 h)
        exact ⟨_, _, hE _ hf, .inr ⟨h1, h2, .inr ⟨by omega, rfl, rfl⟩⟩⟩
    · refine ⟨[], 1, ?_, .inl ⟨fun h => h2 h.2, rfl, rfl⟩⟩
      unfold nat_Add.f
      refine ev_pure (Right_eq (by omega)) (ev_pos (by simpa using h1) (ev_pure (Right_eq (by omega)) ?_))
      exact Ev.step (fun k => by simp only [nat_Add.j0]; rfl) (ev_pos (by simpa using h2) ev_ret)
  · refine ⟨[], 1, ?_, .inl ⟨fun h => h1 h.1, rfl, rfl⟩⟩
    unfold nat_Add.f
    refine ev_pure (Right_eq (by omega)) (ev_neg (by simpa using h1) ?_)
    exact Ev.step (fun k => by simp only [nat_Add.j0]; rfl) (ev_pos (c := true = true) rfl ev_ret)
theorem cmpi_eq (a b : Int) : cmp_Compare_int.f a b = some (if a < b then -1 else if a > b then 1 else 0) := by
  unfold cmp_Compare_int.f cmp_isNaN_int.f
  simp only [Option.bind_some, decide_true, Bool.not_true]
  by_cases h : a < b
  · simp [h]
  · by_cases h' : a > b <;> simp [h, h']
theorem cmpu_eq (a b : Int) : cmp_Compare_uint32.f a b = some (if a < b then -1 else if a > b then 1 else 0) := by
  unfold cmp_Compare_uint32.f cmp_isNaN_uint32.f
  simp only [Option.bind_some, decide_true, Bool.not_true]
  by_cases h : a < b
  · simp [h]
  · by_cases h' : a > b <;> simp [h, h']
def sgn (a b : Int) : Int := if a < b then -1 else if a > b then 1 else 0
theorem sgn_lt {a b : Int} (h : a < b) : sgn a b = -1 := by simp [sgn, h]
theorem sgn_gt {a b : Int} (h : b < a) : sgn a b = 1 := by unfold sgn; rw [if_neg (by omega), if_pos (by omega)]
theorem sgn_eq (a : Int) : sgn a a = 0 := by simp [sgn]
theorem dec64 {i : Nat} (h : i ≤ 1000000000) : wrap64 ((i : Int) - 1) = (i : Int) - 1 := by unfold wrap64; omega
theorem order_loop {a b : List Int} (ha : D32 a) (hb : D32 b) (hl : a.length = b.length) (hm : a.length ≤ 1000000000) : ∀ i, i ≤ a.length → a.drop i = b.drop i → Ev (fun k => nat_order.l0 k a b ((i : Int) - 1)) (sgn (v32 a) (v32 b))
  | 0, _, he => by
    have : a = b := he
    subst this
    rw [sgn_eq]
    exact Ev.step (fun k => by simp only [nat_order.l0]; rfl) (ev_neg (by omega) ev_ret)
  | i + 1, hi, he => by
    have e1 : ((i + 1 : Nat) : Int) - 1 = (i : Int) := by omega
    rw [e1]
    refine Ev.step (fun k => by simp only [nat_order.l0]; rfl) ?_
    refine ev_pos (by omega) (ev_pos (by omega) (ev_pos (by omega) ?_))
    rw [Int.toNat_natCast]
    refine ev_pure (cmpu_eq _ _) ?_
    have hdv : dv 4294967296 (a.drop (i + 1)) = dv 4294967296 (b.drop (i + 1)) := by rw [he]
    by_cases h1 : a.getD i 0 < b.getD i 0
    · rw [if_pos h1]
      rw [sgn_lt (dv_lt_of K0 ha hb i (by omega) (by omega) hdv h1)]
      exact ev_neg (by decide) ev_ret
    · rw [if_neg h1]
      by_cases h2 : a.getD i 0 > b.getD i 0
      · rw [if_pos h2]
        rw [sgn_gt (dv_lt_of K0 hb ha i (by omega) (by omega) hdv.symm h2)]
        exact ev_neg (by decide) ev_ret
      · rw [if_neg h2]
        refine ev_pos rfl ?_
        rw [dec64 (by omega)]
        refine order_loop ha hb hl hm i (by omega) ?_
        rw [drop_cons (show i < a.length by omega) 0, drop_cons (show i < b.length by omega) 0, he, show a.getD i 0 = b.getD i 0 by omega]
theorem order_ev {a b : List Int} (ha : C32 a) (hb : C32 b) (hla : a.length ≤ 1000000) (hlb : b.length ≤ 1000000) : Ev (fun k => nat_order.f k a b) (sgn (v32 a) (v32 b)) := by
  unfold nat_order.f
  refine ev_pure (cmpi_eq _ _) ?_
  rcases Nat.lt_trichotomy a.length b.length with h | h | h
  · rw [if_pos (by omega), sgn_lt (cn_len_lt K0 ha.dg hb h)]
    exact ev_neg (by decide) ev_ret
  · rw [if_neg (by omega), if_neg (by omega)]
    refine ev_pos rfl ?_
    rw [dec64 (by omega)]
    exact order_loop ha.dg hb.dg h (by omega) a.length (Nat.le_refl _) (by rw [List.drop_length, h, List.drop_length])
  · rw [if_neg (by omega), if_pos (by omega), sgn_gt (cn_len_lt K0 hb.dg ha h)]
    exact ev_neg (by decide) ev_ret
theorem Compare_ev {a b : List Int} (ha : C32 a) (hb : C32 b) (hla : a.length ≤ 256) (hlb : b.length ≤ 256) : Ev (fun k => nat_Compare.f k a b) (sgn (v32 a) (v32 b)) := by
  unfold nat_Compare.f
  refine ev_pure (Right_eq (by omega)) (ev_pos (by simpa using (cn_rt ha).2 hla) (ev_pure (Right_eq (by omega)) ?_))
  exact Ev.step (fun k => by simp only [nat_Compare.j0]; rfl) (ev_neg (by simpa using (cn_rt hb).2 hlb) (ev_call (order_ev ha hb (by omega) (by omega)) ev_ret))
def sb (n : Int) : Int := if n < 0 then 1 else 0
def subB (a b : List Int) : Nat → Int
  | 0 => 0
  | i + 1 => sb (a.getD i 0 - b.getD i 0 - subB a b i)
def subO (a b : List Int) (i : Nat) : Int := (a.getD i 0 - b.getD i 0 - subB a b i) % 4294967296
theorem subB_le (a b : List Int) : ∀ i, 0 ≤ subB a b i ∧ subB a b i ≤ 1
  | 0 => by simp [subB]
  | i + 1 => by
    simp only [subB]
    unfold sb
    split <;> omega
theorem sub1_eq {a b : List Int} (ha : D32 a) (hb : D32 b) (i : Nat) : nat_sub_1_s1.f (i : Int) a b (subB a b i) = some (subO a b i, a, b, subB a b (i + 1)) := by
  have h1 := subB_le a b i
  have h2 := ha.get K0 i
  have h3 := hb.get K0 i
  unfold nat_sub_1_s1.f
  rw [nat_at_eq ha, nat_at_eq hb, Option.bind_some, Option.bind_some, u64_mod, u64_mod]
  have e : ((a.getD i 0 - b.getD i 0) % 18446744073709551616 - subB a b i) % 18446744073709551616 = (a.getD i 0 - b.getD i 0 - subB a b i) % 18446744073709551616 := by omega
  rw [e, and32 (by omega) (by omega), sh33, fdiv_pos (by omega), Go.Lib.u64_and1 _ (by omega) (by omega)]
  have e2 : (a.getD i 0 - b.getD i 0 - subB a b i) % 18446744073709551616 / 8589934592 % 2 = sb (a.getD i 0 - b.getD i 0 - subB a b i) := by unfold sb; split <;> omega
  rw [e2]
  simp only [subO, subB, Option.some.injEq, Prod.mk.injEq, and_true, true_and]
  omega
theorem subO_b (a b : List Int) (i : Nat) : 0 ≤ subO a b i ∧ subO a b i < 4294967296 := by unfold subO; omega
theorem sub_loop {a b : List Int} (ha : D32 a) (hb : D32 b) (m : Nat) (hm : m ≤ 1000000) {r : List Int} (hr : Ev (fun k => nat_trim.f k ((List.range m).map (subO a b))) r) :
    ∀ i, i ≤ m → Ev (fun k => nat_limbs_s3.l0 k (m : Int) (i : Int) (fill (subO a b) m i) a b (subB a b i)) (r, a, b, subB a b m) := by
  refine down m ?_ fun i hi ih => ?_
  · refine Ev.step (fun k => by simp only [nat_limbs_s3.l0]; rfl) (ev_neg (by omega) ?_)
    rw [fill_all]
    exact ev_call hr ev_ret
  · refine Ev.step (fun k => by simp only [nat_limbs_s3.l0]; rfl) (ev_pos (by omega) (ev_pure (sub1_eq ha hb i) ?_))
    refine ev_pos (by omega) (ev_pos (by rw [fill_length]; omega) ?_)
    have hb := subO_b a b i
    rw [inc64 (by omega), Int.toNat_natCast, fill_set _ _ _ (by show IntKind.u32.wrap (subO a b i) = subO a b i; rw [u32_mod]; omega)]
    exact ih
theorem sub_ev {a b : List Int} (ha : C32 a) (hb : C32 b) (hla : a.length ≤ 1000) (hle : v32 b ≤ v32 a) : ∃ r, Ev (fun k => nat_sub.f k a b) r ∧ C32 r ∧ v32 r = v32 a - v32 b ∧ r.length ≤ a.length := by
  have hlb : b.length ≤ a.length := Nat.le_of_not_lt fun h => by have := cn_len_lt K0 ha.dg hb h; show False; have h2 : dv 4294967296 b ≤ dv 4294967296 a := hle; omega
  have hd : D32 ((List.range a.length).map (subO a b)) := dg_map_range (fun j _ => subO_b a b j)
  obtain ⟨r, h1, h2, h3, h4⟩ := trim_ev (l := (List.range a.length).map (subO a b)) (by simp; omega) hd
  refine ⟨r, ?_, h2, ?_, by simpa using h4⟩
  · unfold nat_sub.f
    have hl := sub_loop ha.dg hb.dg a.length (by omega) h1 0 (Nat.zero_le _)
    rw [fill_zero] at hl
    refine ev_call (a := (r, a, b, subB a b a.length)) ?_ ev_ret
    unfold nat_limbs_s3.f
    refine ev_pos (by omega) (ev_pos (by omega) ?_)
    rw [Int.toNat_natCast, List.length_replicate]
    exact hl
  · rw [h3]
    have hc := carries 4294967296 (fun j => a.getD j 0 - b.getD j 0) (subO a b) (fun j => - subB a b j) a.length (fun j _ => by
      show subO a b j + 4294967296 * (- subB a b (j + 1)) = _
      have g1 := ha.dg.get K0 j
      have g2 := hb.dg.get K0 j
      have g3 := subB_le a b j
      simp only [subO, subB]
      unfold sb
      split <;> omega)
    rw [ps_sub, ps_all _ _ (Nat.le_refl _), ps_all _ _ hlb, ← dv_map_range] at hc
    simp only [subB] at hc
    have hlt := dv_lt K0 hd
    rw [List.length_map, List.length_range] at hlt
    have hcm := subB_le a b a.length
    have h2 : dv 4294967296 b ≤ dv 4294967296 a := hle
    have : subB a b a.length = 0 := by
      rcases Int.lt_or_le 0 (subB a b a.length) with h | h
      · have e : subB a b a.length = 1 := by omega
        rw [e] at hc
        omega
      · omega
    rw [this] at hc
    show dv _ _ = dv _ _ - dv _ _
    omega
theorem Sub_ev {a b : List Int} (ha : D32 a) (hb : D32 b) (hla : a.length ≤ 1000) (hlb : b.length ≤ 1000) : ∃ r e, Ev (fun k => nat_Sub.f k a b) (r, e) ∧
    ((¬ (rt a ∧ rt b) ∧ r = [] ∧ e = 1) ∨ (rt a ∧ rt b ∧ ((v32 a < v32 b ∧ r = [] ∧ e = 2) ∨ (v32 b ≤ v32 a ∧ C32 r ∧ rt r ∧ v32 r = v32 a - v32 b ∧ e = 0)))) := by
  by_cases h1 : rt a
  · by_cases h2 : rt b
    · have ca := rt_cn h1 ha
      have cb := rt_cn h2 hb
      have ho := order_ev ca cb (by omega) (by omega)
      have hE : ∀ p, Ev (fun k => (nat_order.f k a b).bind fun t128 => (if t128 < 0 then (some (([] : List Int), (2 : Int))) else ((nat_sub.f k a b).bind fun t129 => (some (t129, 0))))) p → Ev (fun k => nat_Sub.f k a b) p := fun p hp => by
        unfold nat_Sub.f
        refine ev_pure (Right_eq (by omega)) (ev_pos (by simpa using h1) (ev_pure (Right_eq (by omega)) ?_))
        exact Ev.step (fun k => by simp only [nat_Sub.j0]; rfl) (ev_neg (by simpa using h2) hp)
      by_cases h3 : v32 a < v32 b
      · rw [sgn_lt h3] at ho
        exact ⟨[], 2, hE _ (ev_call ho (ev_pos (by decide) ev_ret)), .inr ⟨h1, h2, .inl ⟨h3, rfl, rfl⟩⟩⟩
      · obtain ⟨r, hr, hc, hv, hl⟩ := sub_ev ca cb hla (by omega)
        refine ⟨r, 0, hE _ (ev_call ho (ev_neg ?_ (ev_call hr ev_ret))), .inr ⟨h1, h2, .inr ⟨by omega, hc, ⟨by have := h1.1; omega, hc.top⟩, hv, rfl⟩⟩⟩
        unfold sgn
        rw [if_neg h3]
        split <;> omega
    · refine ⟨[], 1, ?_, .inl ⟨fun h => h2 h.2, rfl, rfl⟩⟩
      unfold nat_Sub.f
      refine ev_pure (Right_eq (by omega)) (ev_pos (by simpa using h1) (ev_pure (Right_eq (by omega)) ?_))
      exact Ev.step (fun k => by simp only [nat_Sub.j0]; rfl) (ev_pos (by simpa using h2) ev_ret)
  · refine ⟨[], 1, ?_, .inl ⟨fun h => h1 h.1, rfl, rfl⟩⟩
    unfold nat_Sub.f
    refine ev_pure (Right_eq (by omega)) (ev_neg (by simpa using h1) ?_)
    exact Ev.step (fun k => by simp only [nat_Sub.j0]; rfl) (ev_pos (c := true = true) rfl ev_ret)
end Go.Proofs.YtjhljcnjafbkfaaDoor.Pure
end
section
set_option linter.unusedVariables false
namespace Go.Proofs.YtjhljcnjafbkfaaDoor.L
open Go.RowKit
theorem dv_set (B : Int) : ∀ (l : List Int) (i : Nat) (v : Int), i < l.length → dv B (l.set i v) = dv B l + B ^ i * (v - l.getD i 0)
  | [], i, v, h => by simp at h
  | a :: l, 0, v, _ => by
    have e : (a :: l).getD 0 0 = a := rfl
    rw [e]; simp only [List.set_cons_zero, dv, Int.pow_zero]; omega
  | a :: l, i + 1, v, h => by
    have ih := dv_set B l i v (by simpa using h)
    have e : (a :: l).getD (i + 1) 0 = l.getD i 0 := rfl
    rw [e]
    simp only [List.set_cons_succ, dv, ih, Int.pow_succ]
    grind
theorem Dg.set {B : Int} {l : List Int} (h : Dg B l) (i : Nat) {v : Int} (hv : 0 ≤ v ∧ v < B) : Dg B (l.set i v) := fun x hx => by
  rcases List.mem_or_eq_of_mem_set hx with h1 | rfl
  · exact h x h1
  · exact hv
structure MO (B : Int) (x y o : List Int) (L i : Nat) : Prop where
  dg : Dg B o
  len : o.length = L
  zero : ∀ p, i + y.length ≤ p → o.getD p 0 = 0
  val : dv B o = dv B (x.take i) * dv B y
structure MI (B xi : Int) (y o : List Int) (V0 : Int) (L i j : Nat) (c : Int) : Prop where
  dg : Dg B o
  len : o.length = L
  c0 : 0 ≤ c
  c1 : c < B
  zero : ∀ p, i + y.length ≤ p → o.getD p 0 = 0
  val : dv B o + B ^ (i + j) * c = V0 + B ^ i * (xi * dv B (y.take j))
theorem MI.start {B : Int} (hB : 0 < B) {x y o : List Int} {L i : Nat} (h : MO B x y o L i) (xi : Int) : MI B xi y o (dv B (x.take i) * dv B y) L i 0 0 :=
  ⟨h.dg, h.len, Int.le_refl _, hB, h.zero, by rw [h.val]; simp [dv]⟩
theorem MI.bound {B xi : Int} {y o : List Int} {V0 : Int} {L i j : Nat} {c : Int} (hB : 0 < B) (h : MI B xi y o V0 L i j c) (hx : 0 ≤ xi ∧ xi < B) (hy : Dg B y) :
    0 ≤ xi * y.getD j 0 ∧ 0 ≤ o.getD (i + j) 0 ∧ xi * y.getD j 0 ≤ (B - 1) * (B - 1) ∧ o.getD (i + j) 0 < B := by
  have g1 := hy.get hB j
  have g2 := h.dg.get hB (i + j)
  refine ⟨Int.mul_nonneg hx.1 g1.1, g2.1, ?_, g2.2⟩
  exact Int.mul_le_mul (by omega) (by omega) g1.1 (by omega)
theorem MI.step {B xi : Int} {y o : List Int} {V0 : Int} {L i j : Nat} {c : Int} (hB : 0 < B) (h : MI B xi y o V0 L i j c) (hx : 0 ≤ xi ∧ xi < B) (hy : Dg B y) (hj : j < y.length) (hL : i + y.length ≤ L) {s : Int} (hs : s = o.getD (i + j) 0 + xi * y.getD j 0 + c) :
    MI B xi y (o.set (i + j) (s % B)) V0 L i (j + 1) (s / B) := by
  obtain ⟨b1, b2, b3, b4⟩ := h.bound hB hx hy
  have c0 := h.c0
  have c1 := h.c1
  have e : (B - 1) * (B - 1) = B * B - 2 * B + 1 := by grind
  have hs0 : 0 ≤ s := by omega
  have hs1 : s < B * B := by omega
  refine ⟨h.dg.set _ ⟨Int.emod_nonneg _ (by omega), Int.emod_lt_of_pos _ hB⟩, by rw [List.length_set]; exact h.len, Int.ediv_nonneg hs0 (by omega), Int.ediv_lt_of_lt_mul hB hs1, fun p hp => ?_, ?_⟩
  · rw [gset_ne (by omega)]; exact h.zero p hp
  · have hv := h.val
    rw [dv_set B o _ _ (by have := h.len; omega), dv_take_succ, show i + (j + 1) = (i + j) + 1 by omega, Int.pow_succ, Int.pow_add]
    rw [Int.pow_add] at hv
    have e2 := Int.emod_add_mul_ediv s B
    obtain ⟨P, hP⟩ : ∃ P, P = B ^ i := ⟨_, rfl⟩
    obtain ⟨Q, hQ⟩ : ∃ Q, Q = B ^ j := ⟨_, rfl⟩
    rw [← hP, ← hQ] at hv ⊢
    obtain ⟨m, hm⟩ : ∃ m, m = s % B := ⟨_, rfl⟩
    obtain ⟨q, hq⟩ : ∃ q, q = s / B := ⟨_, rfl⟩
    rw [← hm, ← hq] at e2 ⊢
    obtain ⟨oj, hoj⟩ : ∃ z, z = o.getD (i + j) 0 := ⟨_, rfl⟩
    obtain ⟨yj, hyj⟩ : ∃ z, z = y.getD j 0 := ⟨_, rfl⟩
    rw [← hoj, ← hyj] at hs
    rw [← hoj, ← hyj]
    have e3 : m = oj + xi * yj + c - B * q := by omega
    rw [e3]
    grind
theorem MI.end_ {B : Int} {x y o : List Int} {L i : Nat} {c : Int} (hB : 0 < B) (h : MI B (x.getD i 0) y o (dv B (x.take i) * dv B y) L i y.length c) (hL : i + y.length < L) : MO B x y (o.set (i + y.length) c) L (i + 1) := by
  refine ⟨h.dg.set _ ⟨h.c0, h.c1⟩, by rw [List.length_set]; exact h.len, fun p hp => ?_, ?_⟩
  · rw [gset_ne (by omega)]; exact h.zero p (by omega)
  · have hv := h.val
    rw [List.take_length] at hv
    rw [dv_set B o _ _ (by have := h.len; omega), h.zero _ (Nat.le_refl _), dv_take_succ]
    grind
theorem MO.start {B : Int} (hB : 0 < B) (x y : List Int) (L : Nat) : MO B x y (List.replicate L 0) L 0 := by
  have hz : ∀ n, dv B (List.replicate n 0) = 0 := by
    intro n
    induction n with
    | zero => rfl
    | succ n ih => rw [List.replicate_succ]; simp [dv, ih]
  refine ⟨fun z hz => ?_, List.length_replicate, fun p _ => ?_, by rw [hz]; simp [dv]⟩
  · rw [List.eq_of_mem_replicate hz]; exact ⟨Int.le_refl _, hB⟩
  · by_cases hp : p < L
    · rw [getD_lt (by simpa using hp)]; simp
    · rw [List.getD_eq_getElem?_getD, List.getElem?_eq_none (by simp; omega)]; rfl
end Go.Proofs.YtjhljcnjafbkfaaDoor.L
namespace Go.Proofs.YtjhljcnjafbkfaaDoor.Pure
open Go.RowKit Go.Proofs.YtjhljcnjafbkfaaDoor.X Go.Proofs.YtjhljcnjafbkfaaDoor.L
theorem addN {i j : Nat} (h : i + j ≤ 1000000000) : wrap64 ((i : Int) + (j : Int)) = ((i + j : Nat) : Int) := by unfold wrap64; omega
theorem mulIn {a b : List Int} (ha : D32 a) (hb : D32 b) (hla : a.length ≤ 1000) (hlb : b.length ≤ 1000) (i : Nat) (hi : i < a.length) {Q : List Int × Int → Prop}
    (next : ∀ o, MO 4294967296 a b o (a.length + b.length) (i + 1) → ∃ r, Q r ∧ Ev (fun k => nat_Mul.l0 k b a (a.length : Int) ((i + 1 : Nat) : Int) o) r) :
    ∀ j, j ≤ b.length → ∀ o c, MI 4294967296 (a.getD i 0) b o (v32 (a.take i) * v32 b) (a.length + b.length) i j c → ∃ r, Q r ∧ Ev (fun k => nat_Mul.l1 k b (i : Int) (a.getD i 0) c a (a.length : Int) (i : Int) b (b.length : Int) (j : Int) o) r := by
  have gx := ha.get K0 i
  refine down b.length ?_ ?_
  · intro o c h
    obtain ⟨r, hq, hr⟩ := next _ (h.end_ K0 (by omega))
    refine ⟨r, hq, Ev.step (fun k => by simp only [nat_Mul.l1]; rfl) (ev_neg (by omega) ?_)⟩
    rw [addN (by omega), inc64 (by omega), Int.toNat_natCast, u32_mod, Int.emod_eq_of_lt h.c0 h.c1]
    have hl := h.len
    exact ev_pos (by omega) (ev_pos (by omega) hr)
  · intro j hj ih o c h
    have hl := h.len
    have hb1 := h.bound K0 gx hb
    have gy := hb.get K0 j
    have h0 := h.c0
    have h1 := h.c1
    obtain ⟨r, hq, hr⟩ := ih _ _ (h.step K0 gx hb hj (by omega) rfl)
    refine ⟨r, hq, Ev.step (fun k => by simp only [nat_Mul.l1]; rfl) ?_⟩
    refine ev_pos (by omega) ?_
    refine ev_pos (by omega) ?_
    refine ev_pos (by omega) ?_
    rw [addN (by omega)]
    refine ev_pos (by omega) ?_
    refine ev_pos (by omega) ?_
    refine ev_pos (by omega) ?_
    rw [Int.toNat_natCast, Int.toNat_natCast, inc64 (by omega), sh32, fdiv_pos (by decide), u32_mod]
    rw [u64_id (n := a.getD i 0) gx.1 (by omega), u64_id (n := b.getD j 0) gy.1 (by omega), u64_id (n := o.getD (i + j) 0) hb1.2.1 (by omega), u64_id (n := a.getD i 0 * b.getD j 0) hb1.1 (by omega), u64_id (n := a.getD i 0 * b.getD j 0 + o.getD (i + j) 0) (by omega) (by omega), u64_id (by omega) (by omega)]
    rw [show c + (a.getD i 0 * b.getD j 0 + o.getD (i + j) 0) = o.getD (i + j) 0 + a.getD i 0 * b.getD j 0 + c by omega]
    exact hr
theorem mul_loop {a b : List Int} (ha : D32 a) (hb : D32 b) (hla : a.length ≤ 1000) (hlb : b.length ≤ 1000) {Q : List Int × Int → Prop}
    (fin : ∀ o, D32 o → o.length = a.length + b.length → v32 o = v32 a * v32 b → ∃ r, Q r ∧ Ev (fun k => (nat_trim.f k o).bind fun t137 => ((nat_fit.f t137).bind fun bt140 => (some (bt140.1, bt140.2)))) r) :
    ∀ i, i ≤ a.length → ∀ o, MO 4294967296 a b o (a.length + b.length) i → ∃ r, Q r ∧ Ev (fun k => nat_Mul.l0 k b a (a.length : Int) (i : Int) o) r := by
  refine down a.length ?_ ?_
  · intro o h
    obtain ⟨r, hq, hr⟩ := fin o h.dg h.len (by have := h.val; rwa [List.take_length] at this)
    exact ⟨r, hq, Ev.step (fun k => by simp only [nat_Mul.l0]; rfl) (ev_neg (by omega) hr)⟩
  · intro i hi ih o h
    obtain ⟨r, hq, hr⟩ := mulIn ha hb hla hlb i hi ih 0 (by omega) o 0 (MI.start K0 h _)
    refine ⟨r, hq, Ev.step (fun k => by simp only [nat_Mul.l0]; rfl) (ev_pos (by omega) (ev_pos (by omega) (ev_pos (by omega) ?_)))⟩
    rw [Int.toNat_natCast]
    exact hr
theorem Mul_ev {a b : List Int} (ha : D32 a) (hb : D32 b) (hla : a.length ≤ 1000) (hlb : b.length ≤ 1000) : ∃ r e, Ev (fun k => nat_Mul.f k a b) (r, e) ∧
    ((¬ (rt a ∧ rt b) ∧ r = [] ∧ e = 1) ∨ (rt a ∧ rt b ∧ ((v32 a * v32 b < 4294967296 ^ 256 ∧ C32 r ∧ v32 r = v32 a * v32 b ∧ e = 0) ∨ (4294967296 ^ 256 ≤ v32 a * v32 b ∧ r = [] ∧ e = 4)))) := by
  by_cases h1 : rt a
  · by_cases h2 : rt b
    · obtain ⟨⟨r, e⟩, hq, hr⟩ := mul_loop ha hb hla hlb (Q := fun p => (v32 a * v32 b < 4294967296 ^ 256 ∧ C32 p.1 ∧ v32 p.1 = v32 a * v32 b ∧ p.2 = 0) ∨ (4294967296 ^ 256 ≤ v32 a * v32 b ∧ p.1 = [] ∧ p.2 = 4)) (fun o od ol ov => by
        obtain ⟨t, t1, t2, t3, t4⟩ := trim_ev (l := o) (by omega) od
        have hf := fit_eq (l := t) (by omega)
        by_cases h3 : rt t
        · rw [if_pos h3] at hf
          have := (cn_rt' t2).1 h3
          exact ⟨(t, 0), .inl ⟨by omega, t2, by show v32 t = _; omega, rfl⟩, ev_call t1 (ev_pure hf ev_ret)⟩
        · rw [if_neg h3] at hf
          have : ¬ v32 t < 4294967296 ^ 256 := fun h => h3 ((cn_rt' t2).2 h)
          exact ⟨([], 4), .inr ⟨by omega, rfl, rfl⟩, ev_call t1 (ev_pure hf ev_ret)⟩) 0 (by omega) _ (MO.start K0 a b _)
      refine ⟨r, e, ?_, .inr ⟨h1, h2, hq⟩⟩
      unfold nat_Mul.f
      refine ev_pure (Right_eq (by omega)) (ev_pos (by simpa using h1) (ev_pure (Right_eq (by omega)) ?_))
      refine Ev.step (fun k => by simp only [nat_Mul.j0]; rfl) (ev_neg (by simpa using h2) ?_)
      rw [addN (by omega), Int.toNat_natCast]
      exact ev_pos (by omega) (ev_pos (by omega) hr)
    · refine ⟨[], 1, ?_, .inl ⟨fun h => h2 h.2, rfl, rfl⟩⟩
      unfold nat_Mul.f
      refine ev_pure (Right_eq (by omega)) (ev_pos (by simpa using h1) (ev_pure (Right_eq (by omega)) ?_))
      exact Ev.step (fun k => by simp only [nat_Mul.j0]; rfl) (ev_pos (by simpa using h2) ev_ret)
  · refine ⟨[], 1, ?_, .inl ⟨fun h => h1 h.1, rfl, rfl⟩⟩
    unfold nat_Mul.f
    refine ev_pure (Right_eq (by omega)) (ev_neg (by simpa using h1) ?_)
    exact Ev.step (fun k => by simp only [nat_Mul.j0]; rfl) (ev_pos (c := true = true) rfl ev_ret)
theorem getD_out {l : List Int} {i : Nat} (h : l.length ≤ i) : l.getD i 0 = 0 := by rw [List.getD_eq_getElem?_getD, List.getElem?_eq_none h]; rfl
theorem tmod_pos {a b : Int} (ha : 0 ≤ a) : Int.tmod a b = a % b := Int.tmod_eq_emod_of_nonneg ha
theorem tdiv_pos {a b : Int} (ha : 0 ≤ a) : Int.tdiv a b = a / b := Int.tdiv_eq_ediv_of_nonneg ha
theorem w64_id {x : Int} (h1 : 0 ≤ x) (h2 : x ≤ 9223372036854775807) : wrap64 x = x := wrap_id (by omega) h2
theorem or32 {x y : Int} (hx₀ : 0 ≤ x) (hx : x % 4294967296 = 0) (hx₁ : x < 18446744073709551616) (h₀ : 0 ≤ y) (h₁ : y < 4294967296) : Go.bits .or .u64 x y = x + y :=
  bits_join .u64 64 (by decide) wraps_u64 32 x y hx₀ hx hx₁ h₀ h₁ (by omega)
structure SmSt (a out : List Int) (d rest : Int) (i : Nat) : Prop where
  dg : D32 out
  len : out.length = a.length
  r0 : 0 ≤ rest
  r1 : rest < d
  zero : ∀ p, p < i → out.getD p 0 = 0
  val : v32 a = d * v32 out + rest * 4294967296 ^ i + v32 (a.take i)
theorem small_loop {a : List Int} (ha : D32 a) (hl : a.length ≤ 1000) {d : Int} (d1 : 1 ≤ d) (d2 : d < 4294967296) : ∀ (i : Nat), i ≤ a.length → ∀ out rest, SmSt a out d rest i →
    ∃ q r, Ev (fun k => nat_small.l0 k a d rest ((i : Int) - 1) out) (q, r) ∧ C32 q ∧ 0 ≤ r ∧ r < d ∧ v32 a = d * v32 q + r ∧ q.length ≤ a.length
  | 0, _, out, rest, h => by
    have hlen := h.len
    obtain ⟨t, t1, t2, t3, t4⟩ := trim_ev (l := out) (by omega) h.dg
    refine ⟨t, rest, Ev.step (fun k => by simp only [nat_small.l0]; rfl) (ev_neg (by omega) (ev_call t1 ev_ret)), t2, h.r0, h.r1, ?_, by omega⟩
    have hv := h.val
    rw [List.take_zero, Int.pow_zero, Int.mul_one] at hv
    have e : v32 [] = 0 := rfl
    rw [e] at hv
    rw [t3]; omega
  | i + 1, hi, out, rest, h => by
    have hlen := h.len
    have g := ha.get K0 i
    have r0 := h.r0
    have r1 := h.r1
    have e1 : ((i + 1 : Nat) : Int) - 1 = (i : Int) := by omega
    rw [e1]
    obtain ⟨cur, hcur⟩ : ∃ cur, cur = rest * 4294967296 + a.getD i 0 := ⟨_, rfl⟩
    have hc0 : 0 ≤ cur := by omega
    have hc1 : cur < d * 4294967296 := by omega
    have hc2 : cur < 18446744073709551616 := by omega
    have hq0 : 0 ≤ cur / d := Int.ediv_nonneg hc0 (by omega)
    have hq1 : cur / d < 4294967296 := Int.ediv_lt_of_lt_mul (by omega) (by rw [Int.mul_comm]; exact hc1)
    have hm0 : 0 ≤ cur % d := Int.emod_nonneg _ (by omega)
    have hm1 : cur % d < d := Int.emod_lt_of_pos _ (by omega)
    have hem := Int.emod_add_mul_ediv cur d
    obtain ⟨q, r, q1, q2, q3, q4, q5, q6⟩ := small_loop ha hl d1 d2 i (by omega) (out.set i (cur / d)) (cur % d) ⟨h.dg.set _ ⟨hq0, hq1⟩, by rw [List.length_set]; exact hlen, hm0, hm1, fun p hp => by rw [gset_ne (by omega)]; exact h.zero p (by omega), by
      have hv := h.val
      show dv _ _ = _ * dv _ _ + _ + dv _ _
      have hv' : dv 4294967296 a = d * dv 4294967296 out + rest * 4294967296 ^ (i + 1) + dv 4294967296 (a.take (i + 1)) := hv
      rw [dv_set _ _ _ _ (by omega), h.zero i (by omega), hv', dv_take_succ, Int.pow_succ]
      obtain ⟨m, hm⟩ : ∃ m, m = cur % d := ⟨_, rfl⟩
      obtain ⟨z, hz⟩ : ∃ z, z = cur / d := ⟨_, rfl⟩
      rw [← hm, ← hz] at hem ⊢
      have e3 : m = rest * 4294967296 + a.getD i 0 - d * z := by omega
      rw [e3]
      grind⟩
    refine ⟨q, r, Ev.step (fun k => by simp only [nat_small.l0]; rfl) ?_, q2, q3, q4, q5, q6⟩
    refine ev_pos (by omega) ?_
    refine ev_pos (by omega) ?_
    refine ev_neg (by omega) ?_
    refine ev_pos (by omega) ?_
    refine ev_neg (by omega) ?_
    rw [Int.toNat_natCast, sh32, u64_id (n := a.getD i 0) (by omega) (by omega), u64_id (n := rest * 4294967296) (by omega) (by omega), or32 (by omega) (by omega) (by omega) (by omega) (by omega), ← hcur, tdiv_pos hc0, tmod_pos hc0, u64_id hq0 (by omega), u32_mod, Int.emod_eq_of_lt hq0 hq1, dec64 (by omega)]
    exact q1
theorem replicate_zero (B : Int) (n : Nat) : dv B (List.replicate n 0) = 0 := by
  induction n with
  | zero => rfl
  | succ n ih => rw [List.replicate_succ]; simp [dv, ih]
theorem small_ev {a : List Int} (ha : D32 a) (hl : a.length ≤ 1000) {d : Int} (d1 : 1 ≤ d) (d2 : d < 4294967296) :
    ∃ q r, Ev (fun k => nat_small.f k a d) (q, r) ∧ C32 q ∧ 0 ≤ r ∧ r < d ∧ v32 a = d * v32 q + r ∧ q.length ≤ a.length := by
  have hs := MO.start K0 a [] a.length
  obtain ⟨q, r, q1, h⟩ := small_loop ha hl d1 d2 a.length (Nat.le_refl _) (List.replicate a.length 0) 0 ⟨hs.dg, hs.len, Int.le_refl _, by omega, fun p _ => by
    by_cases hp : p < a.length
    · rw [getD_lt (by simpa using hp)]; simp
    · exact getD_out (by simp; omega), by
    show dv _ _ = _ * dv _ _ + _ + dv _ _
    rw [replicate_zero, List.take_length]; simp⟩
  refine ⟨q, r, ?_, h⟩
  unfold nat_small.f
  rw [Int.toNat_natCast, dec64 (by omega)]
  exact ev_pos (by omega) (ev_pos (by omega) q1)
theorem Of_ev {u : Int} (h0 : 0 ≤ u) (h1 : u < 18446744073709551616) : ∃ r, Ev (fun k => nat_Of.f k u) r ∧ C32 r ∧ v32 r = u ∧ r.length ≤ 2 := by
  obtain ⟨r, r1, r2, r3, r4⟩ := trim_ev (l := [u % 4294967296, (u / 4294967296) % 4294967296]) (by simp) (Dg.cons (by omega) (Dg.cons (by omega) (Dg.nil _)))
  refine ⟨r, ?_, r2, ?_, r4⟩
  · unfold nat_Of.f
    rw [sh32, fdiv_pos (by decide), u32_mod, u32_mod]
    exact ev_call r1 ev_ret
  rw [r3]
  show dv _ _ = _
  simp only [dv]
  omega
end Go.Proofs.YtjhljcnjafbkfaaDoor.Pure
end
section
set_option linter.unusedVariables false
namespace Go.Proofs.YtjhljcnjafbkfaaDoor.Pure
open Go.RowKit Go.Proofs.YtjhljcnjafbkfaaDoor.X Go.Proofs.YtjhljcnjafbkfaaDoor.L
structure TkSt (u v x : List Int) (k : Nat) (q b c : Int) (i : Nat) : Prop where
  dg : D32 x
  len : x.length = u.length
  b0 : 0 ≤ b
  b1 : b ≤ 1
  c0 : 0 ≤ c
  c1 : c < 4294967296
  high : ∀ p, k + v.length < p → x.getD p 0 = u.getD p 0
  val : v32 x = v32 u - 4294967296 ^ k * (q * v32 (v.take i)) + 4294967296 ^ (k + i) * (c + b)
theorem take_loop {u v : List Int} (hu : D32 u) (hv : D32 v) (k : Nat) {q : Int} (q0 : 0 ≤ q) (q1 : q < 4294967296) (hl : k + v.length < u.length) (hm : u.length ≤ 100000) : ∀ i, i ≤ v.length + 1 → ∀ x b c, TkSt u v x k q b c i → (i = v.length + 1 → c = 0) →
    ∃ b' x', Ev (fun n => nat_take_s1.l0 n v (k : Int) q b c ((v.length : Int) + 1) (i : Int) x) (b', x') ∧ D32 x' ∧ x'.length = u.length ∧ (∀ p, k + v.length < p → x'.getD p 0 = u.getD p 0) ∧ ∃ b : Int, 0 ≤ b ∧ b ≤ 1 ∧ b' = decide (b = 1) ∧ v32 x' = v32 u - 4294967296 ^ k * (q * v32 v) + 4294967296 ^ (k + v.length + 1) * b := by
  refine down (v.length + 1) ?_ ?_
  · intro x b c h hc
    have hc0 := hc rfl
    subst hc0
    refine ⟨decide (b = 1), x, Ev.step (fun n => by simp only [nat_take_s1.l0]; rfl) (ev_neg (by omega) ev_ret), h.dg, h.len, h.high, b, h.b0, h.b1, rfl, ?_⟩
    have e := h.val
    rw [List.take_of_length_le (by omega), Int.zero_add] at e
    exact e
  · intro i hi ih x b c h _
    have hx := h.dg.get K0 (k + i)
    have gv := hv.get K0 i
    have hlen := h.len
    have b0 := h.b0
    have b1 := h.b1
    have c0 := h.c0
    have c1 := h.c1
    have hqv0 : 0 ≤ q * v.getD i 0 := Int.mul_nonneg q0 gv.1
    have hqv1 : q * v.getD i 0 ≤ 4294967295 * 4294967295 := Int.mul_le_mul (by omega) (by omega) gv.1 (by omega)
    obtain ⟨s, hs⟩ : ∃ s, s = c + q * v.getD i 0 := ⟨_, rfl⟩
    obtain ⟨n, hn⟩ : ∃ n, n = x.getD (k + i) 0 - s % 4294967296 - b := ⟨_, rfl⟩
    have hs0 : 0 ≤ s := by omega
    have hs1 : s ≤ 18446744069414584320 := by omega
    obtain ⟨b', x', r1, r2, r3, rh, bb, r4, r5, r6, r7⟩ := ih (x.set (k + i) (n % 4294967296)) (sb n) (s / 4294967296) ⟨h.dg.set _ ⟨by omega, by omega⟩, by rw [List.length_set]; exact hlen, by unfold sb; split <;> omega, by unfold sb; split <;> omega, by omega, by omega, fun p hp => by rw [gset_ne (by omega)]; exact h.high p hp, by
      have hv := h.val
      show dv _ _ = dv _ _ - _ * (_ * dv _ _) + _
      have hv' : dv 4294967296 x = dv 4294967296 u - 4294967296 ^ k * (q * dv 4294967296 (v.take i)) + 4294967296 ^ (k + i) * (c + b) := hv
      rw [dv_set _ _ _ _ (by omega), dv_take_succ, hv', show k + (i + 1) = (k + i) + 1 by omega, Int.pow_succ, Int.pow_add]
      have e1 : n % 4294967296 = n + 4294967296 * sb n := by unfold sb; split <;> omega
      have e2 : s % 4294967296 = s - 4294967296 * (s / 4294967296) := by omega
      rw [e1, hn, e2, hs]
      grind⟩ (fun hE => by
        have hil : i = v.length := by omega
        rw [hil, getD_out (l := v) (Nat.le_refl _), Int.mul_zero] at hs
        omega)
    refine ⟨b', x', Ev.step (fun n => by simp only [nat_take_s1.l0]; rfl) ?_, r2, r3, rh, bb, r4, r5, r6, r7⟩
    refine ev_pos (by omega) (ev_pure (nat_at_eq hv i) ?_)
    rw [addN (by omega), Int.toNat_natCast, sh32, sh33, fdiv_pos (by decide), fdiv_pos (by decide)]
    refine ev_pos (by omega) (ev_pos (by omega) (ev_pos (by omega) ?_))
    have es : IntKind.u64.wrap (c + IntKind.u64.wrap (q * v.getD i 0)) = s := by
      rw [u64_id (n := q * v.getD i 0) hqv0 (by omega), u64_id (by omega) (by omega), hs]
    have en : IntKind.u64.wrap (IntKind.u64.wrap (IntKind.u64.wrap (x.getD (k + i) 0) - Go.bits .and .u64 s 4294967295) - b) = n % 18446744073709551616 := by
      rw [u64_id (n := x.getD (k + i) 0) hx.1 (by omega), and32 hs0 (by omega), u64_mod, u64_mod, hn]
      omega
    rw [es, en, Lib.u64_and1 _ (by omega) (by omega), inc64 (by omega), u32_mod]
    have e3 : n % 18446744073709551616 % 4294967296 = n % 4294967296 := by omega
    have e4 : n % 18446744073709551616 / 8589934592 % 2 = sb n := by unfold sb; split <;> omega
    rw [e3, e4]
    exact r1
theorem take_ev {u v : List Int} (hu : D32 u) (hv : D32 v) (k : Nat) {q : Int} (q0 : 0 ≤ q) (q1 : q < 4294967296) (hl : k + v.length < u.length) (hm : u.length ≤ 100000) :
    ∃ b' x', Ev (fun n => nat_take_s1.f n v (k : Int) q u) (b', x') ∧ D32 x' ∧ x'.length = u.length ∧ (∀ p, k + v.length < p → x'.getD p 0 = u.getD p 0) ∧ ∃ b : Int, 0 ≤ b ∧ b ≤ 1 ∧ b' = decide (b = 1) ∧ v32 x' = v32 u - 4294967296 ^ k * (q * v32 v) + 4294967296 ^ (k + v.length + 1) * b := by
  obtain ⟨b', x', r1, r⟩ := take_loop hu hv k q0 q1 hl hm 0 (by omega) u 0 0 ⟨hu, rfl, by decide, by decide, by decide, by decide, fun _ _ => rfl, by
    show dv _ _ = dv _ _ - _ * (_ * dv _ _) + _
    simp [dv]⟩ (fun h => by omega)
  refine ⟨b', x', ?_, r⟩
  unfold nat_take_s1.f
  rw [show wrap64 ((v.length : Int) + 1) = (v.length : Int) + 1 by unfold wrap64; omega]
  exact r1
structure BkSt (u v x : List Int) (k : Nat) (c : Int) (i : Nat) : Prop where
  dg : D32 x
  len : x.length = u.length
  c0 : 0 ≤ c
  c1 : c ≤ 1
  high : ∀ p, k + v.length < p → x.getD p 0 = u.getD p 0
  val : v32 x + 4294967296 ^ (k + i) * c = v32 u + 4294967296 ^ k * v32 (v.take i)
theorem back_loop {u v : List Int} (hu : D32 u) (hv : D32 v) (k : Nat) (hl : k + v.length < u.length) (hm : u.length ≤ 100000) : ∀ i, i ≤ v.length + 1 → ∀ x c, BkSt u v x k c i →
    ∃ x', Ev (fun n => nat_back_s0.l0 n v (k : Int) c ((v.length : Int) + 1) (i : Int) x) x' ∧ D32 x' ∧ x'.length = u.length ∧ (∀ p, k + v.length < p → x'.getD p 0 = u.getD p 0) ∧ ∃ c : Int, 0 ≤ c ∧ c ≤ 1 ∧ v32 x' + 4294967296 ^ (k + v.length + 1) * c = v32 u + 4294967296 ^ k * v32 v := by
  refine down (v.length + 1) ?_ ?_
  · intro x c h
    refine ⟨x, Ev.step (fun n => by simp only [nat_back_s0.l0]; rfl) (ev_neg (by omega) ev_ret), h.dg, h.len, h.high, c, h.c0, h.c1, ?_⟩
    have e := h.val
    rw [List.take_of_length_le (by omega)] at e
    exact e
  · intro i hi ih x c h
    have hx := h.dg.get K0 (k + i)
    have gv := hv.get K0 i
    have hlen := h.len
    have c0 := h.c0
    have c1 := h.c1
    obtain ⟨s, hs⟩ : ∃ s, s = c + (x.getD (k + i) 0 + v.getD i 0) := ⟨_, rfl⟩
    obtain ⟨x', r1, r⟩ := ih (x.set (k + i) (s % 4294967296)) (s / 4294967296) ⟨h.dg.set _ ⟨by omega, by omega⟩, by rw [List.length_set]; exact hlen, by omega, by omega, fun p hp => by rw [gset_ne (by omega)]; exact h.high p hp, by
      have hv := h.val
      show dv _ _ + _ = dv _ _ + _ * dv _ _
      have hv' : dv 4294967296 x + 4294967296 ^ (k + i) * c = dv 4294967296 u + 4294967296 ^ k * dv 4294967296 (v.take i) := hv
      rw [dv_set _ _ _ _ (by omega), dv_take_succ, show k + (i + 1) = (k + i) + 1 by omega, Int.pow_succ, Int.pow_add]
      rw [Int.pow_add] at hv'
      have e2 : s % 4294967296 = s - 4294967296 * (s / 4294967296) := by omega
      rw [e2, hs]
      grind⟩
    refine ⟨x', Ev.step (fun n => by simp only [nat_back_s0.l0]; rfl) ?_, r⟩
    refine ev_pos (by omega) ?_
    rw [addN (by omega), Int.toNat_natCast, sh32]
    refine ev_pos (by omega) (ev_pos (by omega) (ev_pure (nat_at_eq hv i) (ev_pos (by omega) ?_)))
    rw [fdiv_pos (by decide), u32_mod, u64_id (n := x.getD (k + i) 0) hx.1 (by omega), u64_id (n := x.getD (k + i) 0 + v.getD i 0) (by omega) (by omega), u64_id (by omega) (by omega), ← hs, inc64 (by omega)]
    exact r1
theorem back_ev {u v : List Int} (hu : D32 u) (hv : D32 v) (k : Nat) (hl : k + v.length < u.length) (hm : u.length ≤ 100000) :
    ∃ x', Ev (fun n => nat_back_s0.f n v (k : Int) u) x' ∧ D32 x' ∧ x'.length = u.length ∧ (∀ p, k + v.length < p → x'.getD p 0 = u.getD p 0) ∧ ∃ c : Int, 0 ≤ c ∧ c ≤ 1 ∧ v32 x' + 4294967296 ^ (k + v.length + 1) * c = v32 u + 4294967296 ^ k * v32 v := by
  obtain ⟨x', r1, r⟩ := back_loop hu hv k hl hm 0 (by omega) u 0 ⟨hu, rfl, by decide, by decide, fun _ _ => rfl, by
    show dv _ _ + _ = dv _ _ + _ * dv _ _
    simp [dv]⟩
  refine ⟨x', ?_, r⟩
  unfold nat_back_s0.f
  rw [show wrap64 ((v.length : Int) + 1) = (v.length : Int) + 1 by unfold wrap64; omega]
  exact r1
theorem guess_j1 {u v : List Int} (hv : D32 v) (k n : Nat) (hn : n = v.length) (h2 : 2 ≤ n) (hm : n ≤ 100000) {v1 q rest : Int} (e1 : v1 = v.getD (n - 1) 0) (q0 : 1 ≤ q) (q1 : q ≤ 4294967298) (r0 : 0 ≤ rest) (r1 : rest < 4294967296) {g : Int}
    (hb : rest + v1 ≥ 4294967296 → g = q - 1) (hc : rest + v1 < 4294967296 → Ev (fun m => nat_guess.l0 m u v (k : Int) (n : Int) (q - 1) (rest + v1)) g) : Ev (fun m => nat_guess.j0 m u v (k : Int) (n : Int) q rest true) g := by
  have gv := hv.get K0 (n - 1)
  rw [← e1] at gv
  have ew : wrap64 ((n : Int) - 1) = ((n - 1 : Nat) : Int) := by unfold wrap64; omega
  refine Ev.step (fun m => by simp only [nat_guess.j0]; rfl) (ev_pos (c := true = true) rfl ?_)
  rw [ew]
  refine ev_pos (by omega) (ev_pos (by omega) ?_)
  rw [Int.toNat_natCast, ← e1, u64_id (n := v1) gv.1 (by omega), u64_id (n := rest + v1) (by omega) (by omega), u64_id (n := q - 1) (by omega) (by omega)]
  by_cases h : rest + v1 ≥ 4294967296
  · rw [hb h]; exact ev_pos h (Ev.step (fun m => by simp only [nat_guess.j1]) ev_ret)
  · exact ev_neg h (hc (by omega))
theorem guess_loop {u v : List Int} (hu : D32 u) (hv : D32 v) (k n : Nat) (hn : n = v.length) (h2 : 2 ≤ n) (hl : k + n < u.length) (hm : u.length ≤ 100000) {v1 v2 t u2 Q : Int} (e1 : v1 = v.getD (n - 1) 0) (e2 : v2 = v.getD (n - 2) 0) (e3 : u2 = u.getD (k + n - 2) 0)
    (ht : t < v1 * 4294967296 + 4294967296) (hQ0 : 0 ≤ Q) (hstop : ∀ q, q ≥ 4294967296 ∨ q * (v1 * 4294967296 + v2) > t * 4294967296 + u2 → Q < q) : ∀ (d : Nat) (q rest : Int), q - Q = (d : Int) → t = q * v1 + rest → 0 ≤ rest → rest < 4294967296 → q ≤ 4294967298 →
    ∃ g, Ev (fun m => nat_guess.l0 m u v (k : Int) (n : Int) q rest) g ∧ Q ≤ g ∧ g < 4294967296 ∧ (g * (v1 * 4294967296 + v2) ≤ t * 4294967296 + u2 ∨ t - g * v1 ≥ 4294967296) := by
  have gv1 := hv.get K0 (n - 1)
  rw [← e1] at gv1
  have gv2 := hv.get K0 (n - 2)
  rw [← e2] at gv2
  have gu := hu.get K0 (k + n - 2)
  rw [← e3] at gu
  have ew : wrap64 ((n : Int) - 2) = ((n - 2 : Nat) : Int) := by unfold wrap64; omega
  have ew2 : wrap64 (wrap64 ((k : Int) + (n : Int)) - 2) = ((k + n - 2 : Nat) : Int) := by rw [addN (by omega)]; unfold wrap64; omega
  have down1 : ∀ q : Int, Q < q → ∀ rest, t = q * v1 + rest → t - (q - 1) * v1 = rest + v1 := fun q _ rest e => by rw [e]; grind
  have lt1 : ∀ q rest : Int, t = q * v1 + rest → rest + v1 ≥ 4294967296 → q - 1 < 4294967296 := fun q rest e h => by
    refine Int.lt_of_not_ge fun hq => ?_
    have m1 : 4294967296 * v1 ≤ (q - 1) * v1 := Int.mul_le_mul_of_nonneg_right hq gv1.1
    have m2 : (q - 1) * v1 = q * v1 - v1 := by grind
    omega
  intro d
  induction d with
  | zero =>
    intro q rest hd he r0 r1 hq
    have hqe : q = Q := by omega
    have n1 : ¬ q ≥ 4294967296 := fun h => by have := hstop q (.inl h); omega
    have n2 : ¬ q * (v1 * 4294967296 + v2) > t * 4294967296 + u2 := fun h => by have := hstop q (.inr h); omega
    have hv2 : 0 ≤ q * v2 := Int.mul_nonneg (by omega) gv2.1
    have hv2b : q * v2 ≤ 4294967295 * 4294967295 := Int.mul_le_mul (by omega) (by omega) gv2.1 (by omega)
    have hx : q * (v1 * 4294967296 + v2) = (q * v1) * 4294967296 + q * v2 := by grind
    refine ⟨q, Ev.step (fun m => by simp only [nat_guess.l0]; rfl) (ev_neg n1 ?_), by omega, by omega, .inl (by omega)⟩
    rw [ew, ew2]
    refine ev_pos (by omega) (ev_pos (by omega) (ev_pos (by omega) (ev_pos (by omega) ?_)))
    rw [Int.toNat_natCast, Int.toNat_natCast, sh32, ← e2, ← e3, u64_id (n := v2) gv2.1 (by omega), u64_id (n := u2) gu.1 (by omega), u64_id (n := q * v2) hv2 (by omega), u64_id (n := rest * 4294967296) (by omega) (by omega), or32 (by omega) (by omega) (by omega) gu.1 gu.2]
    rw [decide_eq_false (by omega)]
    exact Ev.step (fun m => by simp only [nat_guess.j0]; rfl) (ev_neg (by decide) (Ev.step (fun m => by simp only [nat_guess.j1]) ev_ret))
  | succ d ih =>
    intro q rest hd he r0 r1 hq
    have hlow : Q < q := by omega
    have hgo : ∃ g, Ev (fun m => nat_guess.j0 m u v (k : Int) (n : Int) q rest true) g ∧ Q ≤ g ∧ g < 4294967296 ∧ (g * (v1 * 4294967296 + v2) ≤ t * 4294967296 + u2 ∨ t - g * v1 ≥ 4294967296) := by
      have hdn := down1 q hlow rest he
      by_cases h : rest + v1 ≥ 4294967296
      · exact ⟨q - 1, guess_j1 hv k n hn h2 (by omega) e1 (by omega) hq r0 r1 (fun _ => rfl) (fun h' => absurd h (by omega)), by omega, lt1 q rest he h, .inr (by omega)⟩
      · obtain ⟨g, g1, g2⟩ := ih (q - 1) (rest + v1) (by omega) (by omega) (by omega) (by omega) (by omega)
        exact ⟨g, guess_j1 hv k n hn h2 (by omega) e1 (by omega) hq r0 r1 (fun h' => absurd h' h) (fun _ => g1), g2⟩
    by_cases n1 : q ≥ 4294967296
    · obtain ⟨g, g1, g2⟩ := hgo
      exact ⟨g, Ev.step (fun m => by simp only [nat_guess.l0]; rfl) (ev_pos n1 g1), g2⟩
    · have hv2 : 0 ≤ q * v2 := Int.mul_nonneg (by omega) gv2.1
      have hv2b : q * v2 ≤ 4294967295 * 4294967295 := Int.mul_le_mul (by omega) (by omega) gv2.1 (by omega)
      have hx : q * (v1 * 4294967296 + v2) = (q * v1) * 4294967296 + q * v2 := by grind
      have hstep : ∀ g, Ev (fun m => nat_guess.j0 m u v (k : Int) (n : Int) q rest (decide (q * v2 > rest * 4294967296 + u2))) g → Ev (fun m => nat_guess.l0 m u v (k : Int) (n : Int) q rest) g := fun g hg => by
        refine Ev.step (fun m => by simp only [nat_guess.l0]; rfl) (ev_neg n1 ?_)
        rw [ew, ew2]
        refine ev_pos (by omega) (ev_pos (by omega) (ev_pos (by omega) (ev_pos (by omega) ?_)))
        rw [Int.toNat_natCast, Int.toNat_natCast, sh32, ← e2, ← e3, u64_id (n := v2) gv2.1 (by omega), u64_id (n := u2) gu.1 (by omega), u64_id (n := q * v2) hv2 (by omega), u64_id (n := rest * 4294967296) (by omega) (by omega), or32 (by omega) (by omega) (by omega) gu.1 gu.2]
        exact hg
      by_cases n2 : q * v2 > rest * 4294967296 + u2
      · obtain ⟨g, g1, g2⟩ := hgo
        exact ⟨g, hstep g (by rw [decide_eq_true n2]; exact g1), g2⟩
      · refine ⟨q, hstep q (by rw [decide_eq_false n2]; exact Ev.step (fun m => by simp only [nat_guess.j0]; rfl) (ev_neg (by decide) (Ev.step (fun m => by simp only [nat_guess.j1]) ev_ret))), by omega, by omega, .inl (by omega)⟩
end Go.Proofs.YtjhljcnjafbkfaaDoor.Pure
end
section
set_option linter.unusedVariables false
namespace Go.Proofs.YtjhljcnjafbkfaaDoor.Pure
open Go.RowKit Go.Proofs.YtjhljcnjafbkfaaDoor.X Go.Proofs.YtjhljcnjafbkfaaDoor.L
theorem top3 {l : List Int} (hd : D32 l) (k n : Nat) (h2 : 2 ≤ n) (hz : ∀ p, k + n < p → l.getD p 0 = 0) : ∃ low, 0 ≤ low ∧ low < 4294967296 ^ (n - 2) ∧ v32 (l.drop k) = low + 4294967296 ^ (n - 2) * ((l.getD (k + n) 0 * 4294967296 + l.getD (k + n - 1) 0) * 4294967296 + l.getD (k + n - 2) 0) := by
  have hdd := hd.drop k
  refine ⟨dv 4294967296 ((l.drop k).take (n - 2)), dv_nonneg K0 (hdd.take _), dv_take_lt K0 hdd _, ?_⟩
  have e := dv_parts 4294967296 (l.drop k) (n - 2)
  rw [List.drop_drop] at e
  have hz0 : dv 4294967296 (l.drop (k + n + 1)) = 0 := by
    have hall : ∀ x ∈ l.drop (k + n + 1), x = 0 := fun x hx => by
      obtain ⟨j, hj, rfl⟩ := List.getElem_of_mem hx
      have hj' : k + n + 1 + j < l.length := by simpa [List.length_drop] using (by simpa using hj : j < l.length - (k + n + 1)) |> fun h => by omega
      have := hz (k + n + 1 + j) (by omega)
      rw [getD_lt hj'] at this
      rw [List.getElem_drop]; exact this
    have hrep := List.eq_replicate_of_mem hall
    rw [hrep]; exact replicate_zero _ _
  have d1 := dv_drop 4294967296 l (k + n - 2)
  have d2 := dv_drop 4294967296 l (k + n - 1)
  have d3 := dv_drop 4294967296 l (k + n)
  rw [show k + n - 2 + 1 = k + n - 1 by omega] at d1
  rw [show k + n - 1 + 1 = k + n by omega] at d2
  rw [show k + (n - 2) = k + n - 2 by omega, d1, d2, d3, hz0] at e
  show dv _ _ = _
  rw [e]
  grind
theorem guess_ev {u v : List Int} (hu : D32 u) (hv : D32 v) (k n : Nat) (hn : n = v.length) (h2 : 2 ≤ n) (hl : k + n < u.length) (hm : u.length ≤ 100000) (hz : ∀ p, k + n < p → u.getD p 0 = 0)
    (hv1 : 2147483648 ≤ v.getD (n - 1) 0) (hU : v32 (u.drop k) < 4294967296 * v32 v) :
    ∃ g, Ev (fun m => nat_guess.f m u v (k : Int)) g ∧ v32 (u.drop k) / v32 v ≤ g ∧ g ≤ v32 (u.drop k) / v32 v + 1 ∧ g < 4294967296 := by
  obtain ⟨v1, e1⟩ : ∃ v1, v1 = v.getD (n - 1) 0 := ⟨_, rfl⟩
  obtain ⟨v2, e2⟩ : ∃ v2, v2 = v.getD (n - 2) 0 := ⟨_, rfl⟩
  obtain ⟨u0, e0⟩ : ∃ u0, u0 = u.getD (k + n) 0 := ⟨_, rfl⟩
  obtain ⟨u1, e4⟩ : ∃ u1, u1 = u.getD (k + n - 1) 0 := ⟨_, rfl⟩
  obtain ⟨u2, e3⟩ : ∃ u2, u2 = u.getD (k + n - 2) 0 := ⟨_, rfl⟩
  have gv1 := hv.get K0 (n - 1)
  have gv2 := hv.get K0 (n - 2)
  have gu0 := hu.get K0 (k + n)
  have gu1 := hu.get K0 (k + n - 1)
  have gu2 := hu.get K0 (k + n - 2)
  obtain ⟨lu, lu0, lu1, hUe⟩ := top3 hu k n h2 hz
  obtain ⟨lv, lv0, lv1, hVe⟩ := top3 hv 0 n h2 (fun p hp => getD_out (by omega))
  rw [List.drop_zero, Nat.zero_add, getD_out (l := v) (by omega)] at hVe
  rw [← e1, ← e2] at hVe
  rw [← e0, ← e4, ← e3] at hUe
  rw [← e1] at gv1 hv1
  rw [← e2] at gv2
  rw [← e0] at gu0
  rw [← e4] at gu1
  rw [← e3] at gu2
  obtain ⟨W, hW⟩ : ∃ W, W = (4294967296 : Int) ^ (n - 2) := ⟨_, rfl⟩
  have hW0 : 0 < W := by rw [hW]; exact pow_pos_ K0 _
  rw [← hW] at hUe hVe lu1 lv1
  obtain ⟨U, hUd⟩ : ∃ U, U = v32 (u.drop k) := ⟨_, rfl⟩
  obtain ⟨V, hVd⟩ : ∃ V, V = v32 v := ⟨_, rfl⟩
  rw [← hUd] at hUe hU ⊢
  rw [← hVd] at hVe hU ⊢
  obtain ⟨t, ht⟩ : ∃ t, t = u0 * 4294967296 + u1 := ⟨_, rfl⟩
  obtain ⟨z, hzd⟩ : ∃ z, z = v1 * 4294967296 + v2 := ⟨_, rfl⟩
  obtain ⟨y, hy⟩ : ∃ y, y = t * 4294967296 + u2 := ⟨_, rfl⟩
  have hUe' : U = lu + W * y := by rw [hUe, hy, ht]
  have hVe' : V = lv + W * z := by rw [hVe, hzd]; grind
  have hz1 : 1 ≤ z := by omega
  have hV0 : 0 < V := by
    have := Int.mul_pos hW0 (show 0 < z by omega)
    omega
  have hU0 : 0 ≤ U := by
    have := Int.mul_nonneg (Int.le_of_lt hW0) (show 0 ≤ y by omega)
    omega
  obtain ⟨Q, hQd⟩ : ∃ Q, Q = U / V := ⟨_, rfl⟩
  rw [← hQd]
  have hQ0 : 0 ≤ Q := by rw [hQd]; exact Int.ediv_nonneg hU0 (by omega)
  have hQK : Q < 4294967296 := by rw [hQd]; exact Int.ediv_lt_of_lt_mul hV0 hU
  have hQle : Q * V ≤ U := by rw [hQd]; exact Int.ediv_mul_le _ (by omega)
  have hQgt : ∀ q, U < q * V → Q < q := fun q h => by
    refine Int.lt_of_not_ge fun hq => ?_
    have := Int.mul_le_mul_of_nonneg_right hq (show 0 ≤ V by omega)
    omega
  have hQup : ∀ q, q * V ≤ U → q ≤ Q := fun q h => by rw [hQd]; exact (Int.le_ediv_iff_mul_le hV0).2 h
  -- the two top figures: t < v1 * K + K
  have htt : t < v1 * 4294967296 + 4294967296 := by
    refine Int.lt_of_not_ge fun h => ?_
    have hy1 : 4294967296 * (z + 1) ≤ y := by omega
    have h3 : W * (4294967296 * (z + 1)) ≤ W * y := Int.mul_le_mul_of_nonneg_left hy1 (Int.le_of_lt hW0)
    have h4 : W * (4294967296 * (z + 1)) = 4294967296 * (W * z) + 4294967296 * W := by grind
    omega
  have ht0 : 0 ≤ t := by omega
  have hstop : ∀ q, q ≥ 4294967296 ∨ q * (v1 * 4294967296 + v2) > t * 4294967296 + u2 → Q < q := fun q h => by
    rcases h with h | h
    · omega
    · rw [← hzd, ← hy] at h
      refine hQgt q ?_
      have h3 : W * (y + 1) ≤ W * (q * z) := Int.mul_le_mul_of_nonneg_left (by omega) (Int.le_of_lt hW0)
      have h5 : 0 ≤ q := by
        refine Int.le_of_not_gt fun hq => ?_
        have := Int.mul_le_mul_of_nonneg_right (show q ≤ 0 by omega) (show 0 ≤ z by omega)
        omega
      have h6 : 0 ≤ q * lv := Int.mul_nonneg h5 lv0
      have h7 : q * V = q * lv + W * (q * z) := by rw [hVe']; grind
      have h8 : W * (y + 1) = W * y + W := by grind
      omega
  have hem := Int.emod_add_mul_ediv t v1
  have hr0 : 0 ≤ t % v1 := Int.emod_nonneg _ (by omega)
  have hr1 : t % v1 < v1 := Int.emod_lt_of_pos _ (by omega)
  have hq0 : 0 ≤ t / v1 := Int.ediv_nonneg ht0 (by omega)
  have hqb : t / v1 ≤ 4294967298 := by
    have : t / v1 < 4294967298 := Int.ediv_lt_of_lt_mul (by omega) (by omega)
    omega
  have hqQ : Q ≤ t / v1 := by
    refine (Int.le_ediv_iff_mul_le (by omega)).2 (Int.le_of_not_gt fun h => ?_)
    have h3 : (t + 1) * 4294967296 ≤ (Q * v1) * 4294967296 := by omega
    have h4 : Q * z = (Q * v1) * 4294967296 + Q * v2 := by rw [hzd]; grind
    have h5 : 0 ≤ Q * v2 := Int.mul_nonneg hQ0 gv2.1
    have := hstop Q (.inr (by rw [← hzd, ← hy]; omega))
    omega
  obtain ⟨g, g1, g2, g3, g4⟩ := guess_loop hu hv k n hn h2 hl hm e1 e2 e3 htt hQ0 hstop (t / v1 - Q).toNat (t / v1) (t % v1) (by omega) (by rw [Int.mul_comm]; omega) hr0 (by omega) hqb
  refine ⟨g, ?_, g2, ?_, g3⟩
  · unfold nat_guess.f
    rw [← hn, addN (by omega), dec64 (by omega), dec64 (by omega)]
    have c1 : ((k + n : Nat) : Int) - 1 = ((k + n - 1 : Nat) : Int) := by omega
    have c2 : (n : Int) - 1 = ((n - 1 : Nat) : Int) := by omega
    rw [c1, c2]
    refine ev_pos (by omega) (ev_pos (by omega) (ev_pos (by omega) (ev_pos (by omega) (ev_pos (by omega) (ev_pos (by omega) ?_)))))
    rw [Int.toNat_natCast, Int.toNat_natCast, Int.toNat_natCast, sh32, ← e1, ← e0, ← e4, u64_id (n := v1) (by omega) (by omega), u64_id (n := u0) (by omega) (by omega), u64_id (n := u1) (by omega) (by omega), u64_id (n := u0 * 4294967296) (by omega) (by omega), or32 (by omega) (by omega) (by omega) gu1.1 gu1.2, ← ht, tdiv_pos ht0, tmod_pos ht0, u64_id hq0 (by omega)]
    exact ev_neg (by omega) (ev_pos (by omega) (ev_neg (by omega) g1))
  · have hg0 : 0 ≤ g := by omega
    have hgz : g * z ≤ y := by
      rcases g4 with h | h
      · rw [← hzd, ← hy] at h; exact h
      · have h4 : g * z = (g * v1) * 4294967296 + g * v2 := by rw [hzd]; grind
        have h5 : g * v2 ≤ 4294967295 * 4294967295 := Int.mul_le_mul (by omega) (by omega) gv2.1 (by omega)
        omega
    have h3 : W * (g * z) ≤ W * y := Int.mul_le_mul_of_nonneg_left hgz (Int.le_of_lt hW0)
    have h4 : g * lv ≤ 4294967295 * W := Int.mul_le_mul (by omega) (by omega) lv0 (by omega)
    have h5 : g * V = g * lv + W * (g * z) := by rw [hVe']; grind
    have h6 : W * 4294967296 ≤ W * z := Int.mul_le_mul_of_nonneg_left (by omega) (Int.le_of_lt hW0)
    have h7 : (g - 1) * V = g * V - V := by grind
    have := hQup (g - 1) (by omega)
    omega
def shLow (a : List Int) : Nat → Int
  | 0 => 0
  | i + 1 => a.getD i 0
def shC (a : List Int) (P : Int) (i : Nat) : Int := shLow a i * P / 4294967296
def shO (a : List Int) (P : Int) (i : Nat) : Int := (a.getD i 0 * P + shC a P i) % 4294967296
theorem shLow_b {a : List Int} (ha : D32 a) : ∀ i, 0 ≤ shLow a i ∧ shLow a i < 4294967296
  | 0 => by simp [shLow]
  | i + 1 => ha.get K0 i
theorem sh_step {a : List Int} (ha : D32 a) {P R : Int} (hP : 1 ≤ P) (hR : 1 ≤ R) (hPR : P * R = 4294967296) (i : Nat) : shO a P i + 4294967296 * shC a P (i + 1) = a.getD i 0 * P + shC a P i := by
  have g := ha.get K0 i
  have hl := shLow_b ha i
  have hc0 : 0 ≤ shC a P i := Int.ediv_nonneg (Int.mul_nonneg hl.1 (by omega)) (by decide)
  have hc1 : shC a P i < P := by
    refine Int.ediv_lt_of_lt_mul (by decide) ?_
    have := Int.mul_lt_mul_of_pos_right hl.2 (show 0 < P by omega)
    rw [Int.mul_comm P]; exact this
  obtain ⟨c, hc⟩ : ∃ c, c = shC a P i := ⟨_, rfl⟩
  obtain ⟨x, hx⟩ : ∃ x, x = a.getD i 0 := ⟨_, rfl⟩
  have e : shC a P (i + 1) = a.getD i 0 * P / 4294967296 := rfl
  unfold shO
  rw [e, ← hc, ← hx]
  rw [← hc] at hc0 hc1
  -- x * P = K * d + P * m, m < R
  have hem := Int.emod_add_mul_ediv x R
  have hm0 : 0 ≤ x % R := Int.emod_nonneg _ (by omega)
  have hm1 : x % R < R := Int.emod_lt_of_pos _ (by omega)
  obtain ⟨m, hm⟩ : ∃ m, m = x % R := ⟨_, rfl⟩
  obtain ⟨d, hd⟩ : ∃ d, d = x / R := ⟨_, rfl⟩
  rw [← hm, ← hd] at hem
  rw [← hm] at hm0 hm1
  have e1 : x * P = 4294967296 * d + m * P := by rw [← hem, ← hPR]; grind
  have e2 : (m + 1) * P ≤ R * P := Int.mul_le_mul_of_nonneg_right (by omega) (by omega)
  have e3 : (m + 1) * P = m * P + P := by grind
  have e4 : 0 ≤ m * P := Int.mul_nonneg hm0 (by omega)
  have e5 : R * P = 4294967296 := by rw [Int.mul_comm]; exact hPR
  omega
theorem sh_val {a : List Int} (ha : D32 a) {P R : Int} (hP : 1 ≤ P) (hR : 1 ≤ R) (hPR : P * R = 4294967296) (n : Nat) (hn : a.length ≤ n) : dv 4294967296 ((List.range n).map (shO a P)) + 4294967296 ^ n * shC a P n = P * v32 a := by
  have h := carries 4294967296 (fun j => P * a.getD j 0) (shO a P) (shC a P) n (fun j _ => by
    show _ = P * a.getD j 0 + _
    rw [Int.mul_comm P]; exact sh_step ha hP hR hPR j)
  rw [ps_mul, ps_all _ _ hn, ← dv_map_range] at h
  have h0 : shC a P 0 = 0 := by simp [shC, shLow]
  rw [h0, Int.add_zero] at h
  exact h
theorem sh_digit {a : List Int} (ha : D32 a) (by_ : Nat) (hby : by_ ≤ 31) (i : Nat) : IntKind.u64.wrap ((a.getD i 0 * 4294967296 + shLow a i) * 2 ^ min ((by_ : Nat) : Int).toNat (IntKind.bits .u64)) / 4294967296 % 4294967296 = shO a (2 ^ by_) i := by
  have hb : min by_ IntKind.u64.bits = by_ := by have : IntKind.u64.bits = 64 := rfl; omega
  rw [Int.toNat_natCast, hb, u64_mod]
  unfold shO shC
  obtain ⟨P, hP⟩ : ∃ P : Int, P = 2 ^ by_ := ⟨_, rfl⟩
  rw [← hP]
  have e : (a.getD i 0 * 4294967296 + shLow a i) * P = (a.getD i 0 * P) * 4294967296 + shLow a i * P := by grind
  rw [e]
  omega
theorem shift_loop {a : List Int} (ha : D32 a) (by_ : Nat) (hby : by_ ≤ 31) (n : Nat) (hn : n ≤ 100000) : ∀ i, i ≤ n → ∀ out : List Int, out.length = n → (∀ p, p < i → out.getD p 0 = shO a (2 ^ by_) p) →
    Ev (fun k => nat_shift.l0 k a (by_ : Int) (n : Int) (i : Int) out) ((List.range n).map (shO a (2 ^ by_))) := by
  refine down n ?_ ?_
  · intro out hl h
    refine Ev.step (fun k => by simp only [nat_shift.l0]; rfl) (ev_neg (by omega) (ev_eq ?_))
    refine list_ext 0 (by simp [hl]) fun p hp => ?_
    rw [h p (by omega), getD_lt (by simp; omega)]
    simp
  · intro i hi ih out hl h
    have hg := ha.get K0 i
    have hlow := shLow_b ha i
    have hnext := ih (out.set i (shO a (2 ^ by_) i)) (by simpa using hl) (fun p hp => by
      by_cases e : i = p
      · subst e; rw [gset_same (by omega)]
      · rw [gset_ne e]; exact h p (by omega))
    have hor : Go.bits .or .u64 (IntKind.u64.wrap (a.getD i 0 * 4294967296)) (shLow a i) = a.getD i 0 * 4294967296 + shLow a i := by
      rw [u64_id (n := a.getD i 0 * 4294967296) (by omega) (by omega), or32 (by omega) (by omega) (by omega) hlow.1 hlow.2]
    refine Ev.step (fun k => by simp only [nat_shift.l0]; rfl) (ev_pos (by omega) ?_)
    by_cases h0 : (i : Int) > 0
    · refine ev_pos h0 ?_
      have e1 : wrap64 ((i : Int) - 1) = ((i - 1 : Nat) : Int) := by unfold wrap64; omega
      rw [e1]
      have e2 : a.getD (i - 1) 0 = shLow a i := by
        obtain ⟨j, rfl⟩ : ∃ j, i = j + 1 := ⟨i - 1, by omega⟩
        rfl
      refine ev_pure (nat_at_eq ha (i - 1)) (Ev.step (fun k => by simp only [nat_shift.j0]; rfl) (ev_pure (nat_at_eq ha i) ?_))
      refine ev_neg (by omega) (ev_pos (by omega) (ev_pos (by omega) ?_))
      rw [e2, sh32, hor, fdiv_pos (by decide), u32_mod, sh_digit ha by_ hby i, Int.toNat_natCast, inc64 (by omega)]
      exact hnext
    · refine ev_neg h0 ?_
      have hi0 : i = 0 := by omega
      subst hi0
      have e2 : shLow a 0 = 0 := rfl
      rw [e2] at hor
      refine Ev.step (fun k => by simp only [nat_shift.j0]; rfl) (ev_pure (nat_at_eq ha 0) ?_)
      refine ev_neg (by omega) (ev_pos (by omega) (ev_pos (by omega) ?_))
      have hd := sh_digit ha by_ hby 0
      rw [e2] at hd
      rw [sh32, hor, fdiv_pos (by decide), u32_mod, hd, Int.toNat_natCast, inc64 (by omega)]
      exact hnext
theorem shift_ev {a : List Int} (ha : D32 a) (by_ : Nat) (hby : by_ ≤ 31) (n : Nat) (hn : n ≤ 100000) : Ev (fun k => nat_shift.f k a (by_ : Int) (n : Int)) ((List.range n).map (shO a (2 ^ by_))) := by
  unfold nat_shift.f
  rw [Int.toNat_natCast]
  refine ev_pos (by omega) (ev_pos (by omega) ?_)
  rw [List.length_replicate]
  exact shift_loop ha by_ hby n hn 0 (by omega) _ (by simp) (fun p hp => by omega)
end Go.Proofs.YtjhljcnjafbkfaaDoor.Pure
end
section
set_option linter.unusedVariables false
namespace Go.Proofs.YtjhljcnjafbkfaaDoor.Pure
open Go.RowKit Go.Proofs.YtjhljcnjafbkfaaDoor.X Go.Proofs.YtjhljcnjafbkfaaDoor.L
theorem zero_above {l : List Int} (hd : D32 l) {m : Nat} (h : v32 l < 4294967296 ^ m) (p : Nat) (hp : m ≤ p) : l.getD p 0 = 0 := by
  have g := hd.get K0 p
  refine Int.le_antisymm (Int.le_of_not_gt fun h1 => ?_) g.1
  have e := dv_parts 4294967296 l p
  rw [dv_drop] at e
  have n1 := dv_nonneg K0 (hd.take p)
  have n2 := dv_nonneg K0 (hd.drop (p + 1))
  have hP := pow_pos_ K0 p
  have h2 := pow_mono (B := 4294967296) (by decide) hp
  have h3 : 4294967296 ^ p * 1 ≤ 4294967296 ^ p * (l.getD p 0 + 4294967296 * dv 4294967296 (l.drop (p + 1))) := Int.mul_le_mul_of_nonneg_left (by omega) (Int.le_of_lt hP)
  have h' : dv 4294967296 l < 4294967296 ^ m := h
  omega
theorem lt_of_zero {l : List Int} (hd : D32 l) (m : Nat) (h : ∀ p, m ≤ p → l.getD p 0 = 0) : v32 l < 4294967296 ^ m := by
  have hz0 : dv 4294967296 (l.drop m) = 0 := by
    have hall : ∀ x ∈ l.drop m, x = 0 := fun x hx => by
      obtain ⟨j, hj, rfl⟩ := List.getElem_of_mem hx
      rw [List.length_drop] at hj
      have := h (m + j) (by omega)
      rw [getD_lt (by omega)] at this
      rw [List.getElem_drop]; exact this
    rw [List.eq_replicate_of_mem hall]; exact replicate_zero _ _
  have e := dv_parts 4294967296 l m
  rw [hz0, Int.mul_zero, Int.add_zero] at e
  show dv _ _ < _
  rw [e]
  exact dv_take_lt K0 hd m
theorem div_step {u v : List Int} (hu : D32 u) (hv : D32 v) (k n : Nat) (hn : n = v.length) (h2 : 2 ≤ n) (hl : k + n < u.length) (hm : u.length ≤ 100000) (hv1 : 2147483648 ≤ v.getD (n - 1) 0) (hU : v32 u < 4294967296 ^ (k + 1) * v32 v) (hV0 : 0 < v32 v) :
    ∃ g b u1, Ev (fun m => nat_guess.f m u v (k : Int)) g ∧ Ev (fun m => nat_take_s1.f m v (k : Int) g u) (b, u1) ∧ 0 ≤ g ∧ g < 4294967296 ∧ u1.length = u.length ∧
      ((b = false ∧ D32 u1 ∧ v32 u = 4294967296 ^ k * (g * v32 v) + v32 u1 ∧ v32 u1 < 4294967296 ^ k * v32 v) ∨
       (b = true ∧ 1 ≤ g ∧ ∃ u2, Ev (fun m => nat_back_s0.f m v (k : Int) u1) u2 ∧ u2.length = u.length ∧ D32 u2 ∧ v32 u = 4294967296 ^ k * ((g - 1) * v32 v) + v32 u2 ∧ v32 u2 < 4294967296 ^ k * v32 v)) := by
  have hVn : v32 v < 4294967296 ^ n := by rw [hn]; exact dv_lt K0 hv
  have hP := pow_pos_ K0 k
  have hN : v32 u < 4294967296 ^ (k + n + 1) := by
    have e : (4294967296 : Int) ^ (k + n + 1) = 4294967296 ^ (k + 1) * 4294967296 ^ n := by rw [← Int.pow_add]; congr 1; omega
    have := Int.mul_lt_mul_of_pos_left hVn (pow_pos_ K0 (k + 1))
    rw [e]; omega
  have hz := zero_above hu hN
  obtain ⟨U, hUd⟩ : ∃ U, U = v32 (u.drop k) := ⟨_, rfl⟩
  have hpart : v32 u = dv 4294967296 (u.take k) + 4294967296 ^ k * U := by rw [hUd]; exact dv_parts _ u k
  have t0 := dv_nonneg K0 (hu.take k)
  have t1 := dv_take_lt K0 hu k
  have hU0 : 0 ≤ U := by rw [hUd]; exact dv_nonneg K0 (hu.drop k)
  obtain ⟨P, hPd⟩ : ∃ P, P = (4294967296 : Int) ^ k := ⟨_, rfl⟩
  obtain ⟨V, hVd⟩ : ∃ V, V = v32 v := ⟨_, rfl⟩
  have hUlt : U < 4294967296 * V := by
    refine Int.lt_of_not_ge fun h => ?_
    have h3 : P * (4294967296 * V) ≤ P * U := Int.mul_le_mul_of_nonneg_left h (by omega)
    rw [Int.pow_succ, ← hPd, ← hVd] at hU
    rw [← hPd] at hpart
    have h4 : P * 4294967296 * V = P * (4294967296 * V) := by grind
    omega
  obtain ⟨g, g1, g2, g3, g4⟩ := guess_ev hu hv k n hn h2 hl hm (fun p hp => hz p (by omega)) hv1 (by rw [← hUd, ← hVd]; exact hUlt)
  rw [← hUd, ← hVd] at g2 g3
  rw [← hVd] at hV0 ⊢
  obtain ⟨Q, hQ⟩ : ∃ Q, Q = U / V := ⟨_, rfl⟩
  rw [← hQ] at g2 g3
  have hQ0 : 0 ≤ Q := by rw [hQ]; exact Int.ediv_nonneg hU0 (by omega)
  have hQ1 : Q * V ≤ U := by rw [hQ]; exact Int.ediv_mul_le _ (by omega)
  have hQ2 : U < Q * V + V := by
    have := Int.lt_ediv_add_one_mul_self U hV0
    rw [← hQ] at this
    have e : (Q + 1) * V = Q * V + V := by grind
    omega
  obtain ⟨b', u1, q1, q2, q3, q4, b, q5, q6, q7, q8⟩ := take_ev hu hv k (by omega : 0 ≤ g) g4 (by omega) hm
  rw [← hn, ← hVd, ← hPd] at q8
  rw [← hPd] at hpart t1 ⊢
  have hu1 : v32 u1 < 4294967296 ^ (k + n + 1) := lt_of_zero q2 _ (fun p hp => by rw [q4 p (by omega)]; exact hz p hp)
  have hu10 : 0 ≤ v32 u1 := dv_nonneg K0 q2
  obtain ⟨T, hT⟩ : ∃ T, T = (4294967296 : Int) ^ (k + n + 1) := ⟨_, rfl⟩
  rw [← hT] at q8 hu1
  -- what is left
  obtain ⟨R, hR⟩ : ∃ R, R = U - Q * V := ⟨_, rfl⟩
  have hPR0 : 0 ≤ P * R := Int.mul_nonneg (by omega) (by omega)
  have hPR1 : P * (R + 1) ≤ P * V := Int.mul_le_mul_of_nonneg_left (by omega) (by omega)
  have e1 : P * (R + 1) = P * R + P := by grind
  have e2 : P * U = P * R + P * (Q * V) := by rw [hR]; grind
  have hbb : b = 0 ∨ b = 1 := by omega
  refine ⟨g, b', u1, g1, q1, by omega, g4, q3, ?_⟩
  rcases (show g = Q ∨ g = Q + 1 by omega) with h | h
  · subst h
    rcases hbb with hb | hb
    · rw [hb] at q8 q7
      exact .inl ⟨by rw [q7]; rfl, q2, by omega, by omega⟩
    · rw [hb] at q8
      omega
  · have e3 : P * (g * V) = P * (Q * V) + P * V := by rw [h]; grind
    rcases hbb with hb | hb
    · rw [hb] at q8
      omega
    · rw [hb] at q8 q7
      obtain ⟨u2, p1, p2, p3, p4, c, p5, p6, p7⟩ := back_ev q2 hv k (by omega) (by omega)
      rw [← hn, ← hVd, ← hPd, ← hT] at p7
      have hu2 : v32 u2 < T := by rw [hT]; exact lt_of_zero p2 _ (fun p hp => by rw [p4 p (by omega), q4 p (by omega)]; exact hz p hp)
      have hc : c = 0 ∨ c = 1 := by omega
      refine .inr ⟨by rw [q7]; rfl, by omega, u2, p1, by omega, p2, ?_⟩
      have e4 : g - 1 = Q := by omega
      rw [e4]
      rcases hc with hc | hc
      · rw [hc] at p7
        omega
      · rw [hc] at p7
        exact ⟨by omega, by omega⟩
structure DvSt (u v out : List Int) (A : Int) (L M i : Nat) : Prop where
  du : D32 u
  lu : u.length = L
  dq : D32 out
  lo : out.length = M
  zero : ∀ p, p < i → out.getD p 0 = 0
  lt : v32 u < 4294967296 ^ i * v32 v
  val : A = v32 v * v32 out + v32 u
theorem divide_loop {b v : List Int} (hv : D32 v) (n L M : Nat) (hn : n = v.length) (h2 : 2 ≤ n) (hL : L = M + n) (hm : L ≤ 100000) (hv1 : 2147483648 ≤ v.getD (n - 1) 0) (hV0 : 0 < v32 v) (by_ : Int) {A : Int} {Q : List Int × List Int → Prop}
    (fin : ∀ u out, DvSt u v out A L M 0 → ∃ r, Q r ∧ Ev (fun k => nat_divide.l0 k b by_ v (-1) out u) r) : ∀ i, i ≤ M → ∀ u out, DvSt u v out A L M i → ∃ r, Q r ∧ Ev (fun k => nat_divide.l0 k b by_ v ((i : Int) - 1) out u) r
  | 0, _, u, out, h => by
    have := fin u out h
    exact this
  | k + 1, hi, u, out, h => by
    have hlu := h.lu
    have hlo := h.lo
    have e1 : ((k + 1 : Nat) : Int) - 1 = (k : Int) := by omega
    rw [e1]
    obtain ⟨g, bo, u1, g1, g2, g3, g4, g5, g6⟩ := div_step h.du hv k n hn h2 (by omega) (by omega) hv1 h.lt hV0
    have hval := h.val
    rcases g6 with ⟨rfl, p1, p2, p3⟩ | ⟨rfl, p0, u2, p1, p2, p3, p4, p5⟩
    · obtain ⟨r, hq, hr⟩ := divide_loop hv n L M hn h2 hL hm hv1 hV0 by_ fin k (by omega) u1 (out.set k g) ⟨p1, by omega, h.dq.set _ ⟨g3, g4⟩, by rw [List.length_set]; exact hlo, fun p hp => by rw [gset_ne (by omega)]; exact h.zero p (by omega), p3, by
        show A = _ * dv _ _ + _
        rw [dv_set _ _ _ _ (by omega), h.zero k (by omega)]
        have hval' : A = v32 v * dv 4294967296 out + v32 u := hval
        rw [hval', p2]; grind⟩
      refine ⟨r, hq, Ev.step (fun m => by simp only [nat_divide.l0]; rfl) (ev_pos (by omega) (ev_call g1 (ev_call g2 ?_)))⟩
      refine ev_neg (by simp) (ev_pos g5 (Ev.step (fun m => by simp only [nat_divide.j0]; rfl) ?_))
      refine ev_pos (by omega) ?_
      refine ev_pos (by omega) ?_
      rw [Int.toNat_natCast, u32_mod, Int.emod_eq_of_lt g3 g4, dec64 (by omega)]
      exact hr
    · obtain ⟨r, hq, hr⟩ := divide_loop hv n L M hn h2 hL hm hv1 hV0 by_ fin k (by omega) u2 (out.set k (g - 1)) ⟨p3, by omega, h.dq.set _ ⟨by omega, by omega⟩, by rw [List.length_set]; exact hlo, fun p hp => by rw [gset_ne (by omega)]; exact h.zero p (by omega), p5, by
        show A = _ * dv _ _ + _
        rw [dv_set _ _ _ _ (by omega), h.zero k (by omega)]
        have hval' : A = v32 v * dv 4294967296 out + v32 u := hval
        rw [hval', p4]; grind⟩
      refine ⟨r, hq, Ev.step (fun m => by simp only [nat_divide.l0]; rfl) (ev_pos (by omega) (ev_call g1 (ev_call g2 ?_)))⟩
      refine ev_pos (c := true = true) rfl (ev_pos g5 ?_)
      refine ev_call p1 (ev_pos (by rw [p2, g5]) (Ev.step (fun m => by simp only [nat_divide.j0]; rfl) ?_))
      refine ev_pos (by omega) ?_
      refine ev_pos (by omega) ?_
      rw [Int.toNat_natCast, u64_id (n := g - 1) (by omega) (by omega), u32_mod, Int.emod_eq_of_lt (by omega) (by omega), dec64 (by omega)]
      exact hr
def rsO (u : List Int) (P : Int) (i : Nat) : Int := (u.getD (i + 1) 0 * 4294967296 + u.getD i 0) / P % 4294967296
theorem rs_step {u : List Int} (hu : D32 u) {P R : Int} (hP : 1 ≤ P) (hR : 1 ≤ R) (hPR : P * R = 4294967296) (i : Nat) : P * rsO u P i + u.getD i 0 % P = u.getD i 0 + 4294967296 * (u.getD (i + 1) 0 % P) := by
  have g0 := hu.get K0 i
  have g1 := hu.get K0 (i + 1)
  obtain ⟨x, hx⟩ : ∃ x, x = u.getD i 0 := ⟨_, rfl⟩
  obtain ⟨y, hy⟩ : ∃ y, y = u.getD (i + 1) 0 := ⟨_, rfl⟩
  unfold rsO
  rw [← hx] at g0 ⊢
  rw [← hy] at g1 ⊢
  have ex := Int.emod_add_mul_ediv x P
  have ey := Int.emod_add_mul_ediv y P
  have mx0 : 0 ≤ x % P := Int.emod_nonneg _ (by omega)
  have mx1 : x % P < P := Int.emod_lt_of_pos _ (by omega)
  have my0 : 0 ≤ y % P := Int.emod_nonneg _ (by omega)
  have my1 : y % P < P := Int.emod_lt_of_pos _ (by omega)
  obtain ⟨a, ha⟩ : ∃ a, a = x / P := ⟨_, rfl⟩
  obtain ⟨m, hm⟩ : ∃ m, m = y % P := ⟨_, rfl⟩
  obtain ⟨d, hd⟩ : ∃ d, d = y / P := ⟨_, rfl⟩
  obtain ⟨w, hw⟩ : ∃ w, w = x % P := ⟨_, rfl⟩
  rw [← ha, ← hw] at ex
  rw [← hm, ← hd] at ey
  rw [← hm] at my0 my1 ⊢
  rw [← hw] at mx0 mx1 ⊢
  have ha0 : 0 ≤ a := by rw [ha]; exact Int.ediv_nonneg g0.1 (by omega)
  have ha1 : a < R := by rw [ha]; exact Int.ediv_lt_of_lt_mul (by omega) (by rw [Int.mul_comm, hPR]; exact g0.2)
  -- (y * K + x) / P = y * R + a
  have e1 : y * 4294967296 + x = w + P * (y * R + a) := by rw [← hPR, ← ex]; grind
  have e2 : (y * 4294967296 + x) / P = y * R + a := by
    rw [e1, Int.add_mul_ediv_left _ _ (by omega), Int.ediv_eq_zero_of_lt mx0 mx1, Int.zero_add]
  -- y * R = m * R + K * d
  have e3 : y * R = m * R + 4294967296 * d := by rw [← ey, ← hPR]; grind
  have e4 : (m + 1) * R ≤ P * R := Int.mul_le_mul_of_nonneg_right (by omega) (by omega)
  have e5 : (m + 1) * R = m * R + R := by grind
  have e6 : 0 ≤ m * R := Int.mul_nonneg my0 (by omega)
  have e7 : (y * 4294967296 + x) / P % 4294967296 = m * R + a := by rw [e2, e3]; omega
  rw [e7]
  have e8 : P * (m * R + a) = 4294967296 * m + P * a := by rw [← hPR]; grind
  omega
theorem rs_digit {u : List Int} (hu : D32 u) (by_ : Nat) (hby : by_ ≤ 31) (i : Nat) : Int.fdiv (Go.bits .or .u64 (IntKind.u64.wrap (IntKind.u64.wrap (u.getD (i + 1) 0) * 4294967296)) (IntKind.u64.wrap (u.getD i 0))) (2 ^ min ((by_ : Nat) : Int).toNat (IntKind.bits .u64)) % 4294967296 = rsO u (2 ^ by_) i := by
  have g0 := hu.get K0 i
  have g1 := hu.get K0 (i + 1)
  have hb : min by_ IntKind.u64.bits = by_ := by have : IntKind.u64.bits = 64 := rfl; omega
  rw [u64_id (n := u.getD (i + 1) 0) g1.1 (by omega), u64_id (n := u.getD i 0) g0.1 (by omega), u64_id (n := u.getD (i + 1) 0 * 4294967296) (by omega) (by omega), or32 (by omega) (by omega) (by omega) g0.1 g0.2]
  rw [Int.toNat_natCast, hb, fdiv_pos (Int.pow_pos (by decide))]
  rfl
theorem rs_loop {u out : List Int} (hu : D32 u) (by_ : Nat) (hby : by_ ≤ 31) (n : Nat) (hn : n < u.length) (hm : n ≤ 100000) {q : List Int} (hq : Ev (fun k => nat_trim.f k out) q) {r : List Int} (hr : Ev (fun k => nat_trim.f k ((List.range n).map (rsO u (2 ^ by_)))) r) : ∀ i, i ≤ n → ∀ l : List Int, l.length = n → (∀ p, p < i → l.getD p 0 = rsO u (2 ^ by_) p) →
    Ev (fun k => nat_divide.l1 k (by_ : Int) (n : Int) (i : Int) l out u) (q, r) := by
  refine down n ?_ ?_
  · intro l hl h
    have e : l = (List.range n).map (rsO u (2 ^ by_)) := by
      refine list_ext 0 (by simp [hl]) fun p hp => ?_
      rw [h p (by omega), getD_lt (by simp; omega)]
      simp
    rw [e]
    refine Ev.step (fun k => by simp only [nat_divide.l1]; rfl) (ev_neg (by omega) ?_)
    refine ev_call hq ?_
    exact ev_call (f := fun _ t211 => some (q, t211)) hr ev_ret
  · intro i hi ih l hl h
    have hnext := ih (l.set i (rsO u (2 ^ by_) i)) (by simpa using hl) (fun p hp => by
      by_cases e : i = p
      · subst e; rw [gset_same (by omega)]
      · rw [gset_ne e]; exact h p (by omega))
    refine Ev.step (fun k => by simp only [nat_divide.l1]; rfl) (ev_pos (by omega) ?_)
    rw [inc64 (by omega)]
    refine ev_pos (by omega) ?_
    refine ev_pos (by omega) ?_
    refine ev_pos (by omega) ?_
    refine ev_pos (by omega) ?_
    refine ev_neg (by omega) ?_
    refine ev_pos (by omega) ?_
    rw [Int.toNat_natCast, Int.toNat_natCast, sh32, u32_mod, rs_digit hu by_ hby i]
    exact hnext
theorem rs_val {u : List Int} (hu : D32 u) {P R : Int} (hP : 1 ≤ P) (hR : 1 ≤ R) (hPR : P * R = 4294967296) (n : Nat) (hlt : v32 u < 4294967296 ^ n) (hd : v32 u % P = 0) : P * dv 4294967296 ((List.range n).map (rsO u P)) = v32 u := by
  have hz := zero_above hu hlt
  -- carries, the other way round
  have h : ∀ i, P * ps 4294967296 (rsO u P) i + u.getD 0 0 % P = ps 4294967296 (fun j => u.getD j 0) i + 4294967296 ^ i * (u.getD i 0 % P) := by
    intro i
    induction i with
    | zero => simp [ps]
    | succ i ih =>
      have hs := rs_step hu hP hR hPR i
      simp only [ps, Int.pow_succ]
      have e : 4294967296 ^ i * (P * rsO u P i + u.getD i 0 % P) = 4294967296 ^ i * (u.getD i 0 + 4294967296 * (u.getD (i + 1) 0 % P)) := by rw [hs]
      grind
  have hn := h n
  rw [hz n (Nat.le_refl _), ← dv_map_range, ps_getD] at hn
  have htake : dv 4294967296 (u.take n) = v32 u := by
    have e := dv_parts 4294967296 u n
    have hz0 : dv 4294967296 (u.drop n) = 0 := by
      have hall : ∀ x ∈ u.drop n, x = 0 := fun x hx => by
        obtain ⟨j, hj, rfl⟩ := List.getElem_of_mem hx
        rw [List.length_drop] at hj
        have := hz (n + j) (by omega)
        rw [getD_lt (by omega)] at this
        rw [List.getElem_drop]; exact this
      rw [List.eq_replicate_of_mem hall]; exact replicate_zero _ _
    rw [hz0, Int.mul_zero, Int.add_zero] at e
    exact e.symm
  rw [htake] at hn
  have e0 : u.getD 0 0 % P = 0 := by
    have e := dv_drop 4294967296 u 0
    rw [List.drop_zero] at e
    have e' : v32 u = u.getD 0 0 + P * (R * dv 4294967296 (u.drop (0 + 1))) := by
      show dv _ _ = _
      rw [e, ← hPR]; grind
    rw [e', Int.add_mul_emod_self_left] at hd
    exact hd
  rw [e0] at hn
  simpa using hn
end Go.Proofs.YtjhljcnjafbkfaaDoor.Pure
end
section
set_option linter.unusedVariables false
namespace Go.Proofs.YtjhljcnjafbkfaaDoor.Pure
open Go.RowKit Go.Proofs.YtjhljcnjafbkfaaDoor.X Go.Proofs.YtjhljcnjafbkfaaDoor.L
theorem len_tab : ∀ n ∈ [(0 : Int), 8, 16, 24], ∀ i : Fin 256, i.val ≠ 0 → ∃ b : Fin 9, math_bits_Len32.j1 1 (i.val : Int) n = some (n + (b.val : Int)) ∧ 1 ≤ b.val ∧ 2 ^ (b.val - 1) ≤ i.val ∧ i.val < 2 ^ b.val := by decide +kernel
theorem len_end {n : Nat} (hn : (n : Int) ∈ [(0 : Int), 8, 16, 24]) {x : Nat} (h0 : x ≠ 0) (h1 : x < 256) : ∃ b : Nat, Ev (fun k => math_bits_Len32.j1 k (x : Int) (n : Int)) ((n + b : Nat) : Int) ∧ 1 ≤ b ∧ b ≤ 8 ∧ 2 ^ (b - 1) ≤ x ∧ x < 2 ^ b := by
  obtain ⟨b, h2, h3, h4, h5⟩ := len_tab _ hn ⟨x, h1⟩ h0
  refine ⟨b.val, ?_, h3, by have := b.isLt; omega, h4, h5⟩
  rw [show ((n + b.val : Nat) : Int) = (n : Int) + (b.val : Int) by omega]
  exact Ev.step (fun k => show math_bits_Len32.j1 (k + 1) (x : Int) (n : Int) = some ((n : Int) + (b.val : Int)) from h2) ev_ret
theorem sh16 : (2 : Int) ^ min (16 : Int).toNat (IntKind.bits .u32) = 65536 := by decide
theorem sh8 : (2 : Int) ^ min (8 : Int).toNat (IntKind.bits .u32) = 256 := by decide
theorem pow_split (b c : Nat) (hb : 1 ≤ b) : 2 ^ (b + c - 1) = 2 ^ (b - 1) * 2 ^ c ∧ 2 ^ (b + c) = 2 * 2 ^ (b - 1) * 2 ^ c ∧ 2 ^ b = 2 * 2 ^ (b - 1) := by
  obtain ⟨d, rfl⟩ : ∃ d, b = d + 1 := ⟨b - 1, by omega⟩
  refine ⟨?_, ?_, ?_⟩
  · rw [show d + 1 + c - 1 = d + c by omega, show d + 1 - 1 = d by omega, Nat.pow_add]
  · rw [show d + 1 + c = d + c + 1 by omega, show d + 1 - 1 = d by omega, Nat.pow_succ, Nat.pow_add]; grind
  · rw [show d + 1 - 1 = d by omega, Nat.pow_succ, Nat.mul_comm]
theorem len_mid {n : Nat} (hn : n = 0 ∨ n = 16) {x : Nat} (h0 : x ≠ 0) (h1 : x < 65536) : ∃ b : Nat, Ev (fun k => math_bits_Len32.j0 k (x : Int) (n : Int)) ((n + b : Nat) : Int) ∧ 1 ≤ b ∧ b ≤ 16 ∧ 2 ^ (b - 1) ≤ x ∧ x < 2 ^ b := by
  by_cases h : 256 ≤ x
  · obtain ⟨b, b1, b2, b3, b4, b5⟩ := len_end (n := n + 8) (by rcases hn with rfl | rfl <;> simp) (x := x / 256) (by omega) (by omega)
    obtain ⟨p1, p2, p3⟩ := pow_split b 8 b2
    refine ⟨b + 8, ?_, by omega, by omega, by rw [p1]; omega, by rw [p2]; rw [p3] at b5; omega⟩
    refine Ev.step (fun k => by simp only [math_bits_Len32.j0]; rfl) (ev_pos (by omega) ?_)
    rw [sh8, fdiv_pos (by decide), show (x : Int) / 256 = ((x / 256 : Nat) : Int) by omega, show wrap64 ((n : Int) + 8) = ((n + 8 : Nat) : Int) by unfold wrap64; omega, show n + (b + 8) = n + 8 + b by omega]
    exact b1
  · obtain ⟨b, b1, b2, b3, b4, b5⟩ := len_end (n := n) (by rcases hn with rfl | rfl <;> simp) h0 (show x < 256 by omega)
    exact ⟨b, Ev.step (fun k => by simp only [math_bits_Len32.j0]; rfl) (ev_neg (by omega) b1), b2, by omega, b4, b5⟩
theorem lz_ev {x : Nat} (h0 : x ≠ 0) (h1 : x < 4294967296) : ∃ b : Nat, Ev (fun k => math_bits_LeadingZeros32.f k (x : Int)) (32 - (b : Int)) ∧ 1 ≤ b ∧ b ≤ 32 ∧ 2 ^ (b - 1) ≤ x ∧ x < 2 ^ b := by
  have key : ∃ b : Nat, Ev (fun k => math_bits_Len32.f k (x : Int)) (b : Int) ∧ 1 ≤ b ∧ b ≤ 32 ∧ 2 ^ (b - 1) ≤ x ∧ x < 2 ^ b := by
    by_cases h : 65536 ≤ x
    · obtain ⟨b, b1, b2, b3, b4, b5⟩ := len_mid (n := 16) (.inr rfl) (x := x / 65536) (by omega) (by omega)
      obtain ⟨p1, p2, p3⟩ := pow_split b 16 b2
      refine ⟨b + 16, ?_, by omega, by omega, by rw [p1]; omega, by rw [p2]; rw [p3] at b5; omega⟩
      unfold math_bits_Len32.f
      rw [sh16, fdiv_pos (by decide), show (x : Int) / 65536 = ((x / 65536 : Nat) : Int) by omega, show b + 16 = 16 + b by omega]
      exact ev_pos (by omega) b1
    · obtain ⟨b, b1, b2, b3, b4, b5⟩ := len_mid (n := 0) (.inl rfl) h0 (show x < 65536 by omega)
      refine ⟨b, ?_, b2, by omega, b4, b5⟩
      unfold math_bits_Len32.f
      rw [Nat.zero_add] at b1
      exact ev_neg (by omega) b1
  obtain ⟨b, b1, b2, b3, b4, b5⟩ := key
  refine ⟨b, ?_, b2, b3, b4, b5⟩
  unfold math_bits_LeadingZeros32.f
  refine ev_call b1 (ev_eq ?_)
  unfold wrap64; omega
theorem shiftD_loop {a : List Int} (ha : D32 a) (by_ : Nat) (hby : by_ ≤ 31) (n : Nat) (hn : n ≤ 100000) : ∀ i, i ≤ n → ∀ out : List Int, out.length = n → (∀ p, p < i → out.getD p 0 = shO a (2 ^ by_) p) →
    Ev (fun k => nat_shift_s0.l0 k a (by_ : Int) (n : Int) (i : Int) out) ((List.range n).map (shO a (2 ^ by_))) := by
  refine down n ?_ ?_
  · intro out hl h
    refine Ev.step (fun k => by simp only [nat_shift_s0.l0]; rfl) (ev_neg (by omega) (ev_eq ?_))
    refine list_ext 0 (by simp [hl]) fun p hp => ?_
    rw [h p (by omega), getD_lt (by simp; omega)]
    simp
  · intro i hi ih out hl h
    have hg := ha.get K0 i
    have hlow := shLow_b ha i
    have hnext := ih (out.set i (shO a (2 ^ by_) i)) (by simpa using hl) (fun p hp => by
      by_cases e : i = p
      · subst e; rw [gset_same (by omega)]
      · rw [gset_ne e]; exact h p (by omega))
    have hor : Go.bits .or .u64 (IntKind.u64.wrap (a.getD i 0 * 4294967296)) (shLow a i) = a.getD i 0 * 4294967296 + shLow a i := by
      rw [u64_id (n := a.getD i 0 * 4294967296) (by omega) (by omega), or32 (by omega) (by omega) (by omega) hlow.1 hlow.2]
    refine Ev.step (fun k => by simp only [nat_shift_s0.l0]; rfl) (ev_pos (by omega) ?_)
    by_cases h0 : (i : Int) > 0
    · refine ev_pos h0 ?_
      have e1 : wrap64 ((i : Int) - 1) = ((i - 1 : Nat) : Int) := by unfold wrap64; omega
      rw [e1]
      have e2 : a.getD (i - 1) 0 = shLow a i := by
        obtain ⟨j, rfl⟩ : ∃ j, i = j + 1 := ⟨i - 1, by omega⟩
        rfl
      refine ev_pure (nat_at_eq ha (i - 1)) (Ev.step (fun k => by simp only [nat_shift_s0.j0]; rfl) (ev_pure (nat_at_eq ha i) ?_))
      refine ev_neg (by omega) (ev_pos (by omega) (ev_pos (by omega) ?_))
      rw [e2, sh32, hor, fdiv_pos (by decide), u32_mod, sh_digit ha by_ hby i, Int.toNat_natCast, inc64 (by omega)]
      exact hnext
    · refine ev_neg h0 ?_
      have hi0 : i = 0 := by omega
      subst hi0
      have e2 : shLow a 0 = 0 := rfl
      rw [e2] at hor
      refine Ev.step (fun k => by simp only [nat_shift_s0.j0]; rfl) (ev_pure (nat_at_eq ha 0) ?_)
      refine ev_neg (by omega) (ev_pos (by omega) (ev_pos (by omega) ?_))
      have hd := sh_digit ha by_ hby 0
      rw [e2] at hd
      rw [sh32, hor, fdiv_pos (by decide), u32_mod, hd, Int.toNat_natCast, inc64 (by omega)]
      exact hnext
theorem shiftD_ev {a : List Int} (ha : D32 a) (by_ : Nat) (hby : by_ ≤ 31) (n : Nat) (hn : n ≤ 100000) : Ev (fun k => nat_shift_s0.f k a (by_ : Int) (n : Int)) ((List.range n).map (shO a (2 ^ by_))) := by
  unfold nat_shift_s0.f
  rw [Int.toNat_natCast]
  refine ev_pos (by omega) (ev_pos (by omega) ?_)
  rw [List.length_replicate]
  exact shiftD_loop ha by_ hby n hn 0 (by omega) _ (by simp) (fun p hp => by omega)
theorem shO_dg {a : List Int} {P : Int} (n : Nat) : D32 ((List.range n).map (shO a P)) := dg_map_range (fun j _ => by unfold shO; omega)
theorem divide_ev {a b : List Int} (ca : C32 a) (cb : C32 b) (hla : a.length ≤ 10000) (h2 : 2 ≤ b.length) (hab : b.length ≤ a.length) :
    ∃ r : List Int × List Int, (C32 r.1 ∧ C32 r.2 ∧ v32 a = v32 b * v32 r.1 + v32 r.2 ∧ v32 r.2 < v32 b ∧ r.1.length ≤ a.length ∧ r.2.length ≤ b.length) ∧ Ev (fun k => nat_divide.f k a b) r := by
  have hb0 : b ≠ [] := fun e => by rw [e] at h2; simp at h2
  obtain ⟨n, hn⟩ : ∃ n, n = b.length := ⟨_, rfl⟩
  obtain ⟨m, hm⟩ : ∃ m, m = a.length := ⟨_, rfl⟩
  obtain ⟨M, hM⟩ : ∃ M, M = m - n + 1 := ⟨_, rfl⟩
  have ew : wrap64 ((b.length : Int) - 1) = ((n - 1 : Nat) : Int) := by unfold wrap64; omega
  have ew2 : wrap64 ((a.length : Int) + 1) = ((m + 1 : Nat) : Int) := by unfold wrap64; omega
  have ew3 : wrap64 ((a.length : Int) - (b.length : Int)) = (M : Int) - 1 := by unfold wrap64; omega
  have ew4 : wrap64 ((M : Int) - 1 + 1) = (M : Int) := by unfold wrap64; omega
  have b1 : m + 1 ≤ 100000 := by omega
  have b2 : n ≤ 100000 := by omega
  have b3 : (M : Int) ≤ 16777216 := by omega
  have b4 : (0 : Int) ≤ (M : Int) := by omega
  have b5 : (0 : Int) ≤ ((n - 1 : Nat) : Int) := by omega
  have b6 : ((n - 1 : Nat) : Int) < (b.length : Int) := by omega
  have gt := cb.dg.get K0 (n - 1)
  have ht := cb.top hb0
  rw [← hn] at ht
  obtain ⟨top, htop⟩ : ∃ top : Nat, b.getD (n - 1) 0 = (top : Int) := ⟨(b.getD (n - 1) 0).toNat, by omega⟩
  rw [htop] at gt ht
  obtain ⟨bl, hlz, bl1, bl2, bl3, bl4⟩ := lz_ev (x := top) (by omega) (by omega)
  obtain ⟨y, hy⟩ : ∃ y, y = 32 - bl := ⟨_, rfl⟩
  have e32 : (32 : Int) - (bl : Int) = (y : Int) := by omega
  obtain ⟨P, hP⟩ : ∃ P : Int, P = 2 ^ y := ⟨_, rfl⟩
  obtain ⟨R, hR⟩ : ∃ R : Int, R = 2 ^ bl := ⟨_, rfl⟩
  have hP1 : 1 ≤ P := by rw [hP]; have := pow_pos_ (B := 2) (by decide) y; omega
  have hR1 : 1 ≤ R := by rw [hR]; have := pow_pos_ (B := 2) (by decide) bl; omega
  have hPR : P * R = 4294967296 := by rw [hP, hR, ← Int.pow_add, show y + bl = 32 by omega]; rfl
  have htR : (top : Int) + 1 ≤ R := by rw [hR]; have : ((2 ^ bl : Nat) : Int) = 2 ^ bl := by push_cast; rfl
                                       omega
  have htR2 : R ≤ 2 * top := by
    have e : (2 : Nat) ^ bl = 2 * 2 ^ (bl - 1) := by rw [show bl = (bl - 1) + 1 by omega, Nat.pow_succ, Nat.mul_comm]; rfl
    have e2 : ((2 ^ bl : Nat) : Int) = 2 ^ bl := by push_cast; rfl
    rw [hR]; omega
  have hy31 : y ≤ 31 := by omega
  have ht1 : (top : Int) * P + P ≤ 4294967296 := by
    have h := Int.mul_le_mul_of_nonneg_left htR (show 0 ≤ P by omega)
    have e : P * ((top : Int) + 1) = top * P + P := by grind
    omega
  have ht2 : 2147483648 ≤ (top : Int) * P := by
    have h := Int.mul_le_mul_of_nonneg_left htR2 (show 0 ≤ P by omega)
    have e : P * (2 * (top : Int)) = 2 * (top * P) := by grind
    omega
  obtain ⟨u, hu⟩ : ∃ u, u = (List.range (m + 1)).map (shO a P) := ⟨_, rfl⟩
  obtain ⟨v, hv⟩ : ∃ v, v = (List.range n).map (shO b P) := ⟨_, rfl⟩
  have du : D32 u := by rw [hu]; exact shO_dg _
  have dv_ : D32 v := by rw [hv]; exact shO_dg _
  have lu : u.length = m + 1 := by rw [hu]; simp
  have lv : v.length = n := by rw [hv]; simp
  have vu : v32 u = P * v32 a := by
    have h := sh_val ca.dg hP1 hR1 hPR (m + 1) (by omega)
    have e : shC a P (m + 1) = 0 := by
      show a.getD m 0 * P / 4294967296 = 0
      rw [getD_out (by omega)]; simp
    rw [e, ← hu, Int.mul_zero, Int.add_zero] at h
    exact h
  have vv : v32 v = P * v32 b := by
    have h := sh_val cb.dg hP1 hR1 hPR n (by omega)
    have e : shC b P n = 0 := by
      rw [show n = (n - 1) + 1 by omega]
      show b.getD (n - 1) 0 * P / 4294967296 = 0
      rw [htop]; omega
    rw [e, ← hv, Int.mul_zero, Int.add_zero] at h
    exact h
  have hv1 : 2147483648 ≤ v.getD (n - 1) 0 := by
    rw [hv, getD_lt (by simp; omega)]
    simp only [List.getElem_map, List.getElem_range]
    unfold shO
    have hc0 : 0 ≤ shC b P (n - 1) := Int.ediv_nonneg (Int.mul_nonneg (shLow_b cb.dg _).1 (by omega)) (by decide)
    have hc1 : shC b P (n - 1) < P := by
      refine Int.ediv_lt_of_lt_mul (by decide) ?_
      have := Int.mul_lt_mul_of_pos_right (shLow_b cb.dg (n - 1)).2 (show 0 < P by omega)
      rw [Int.mul_comm P]; exact this
    rw [htop, Int.emod_eq_of_lt (by omega) (by omega)]
    omega
  have hb1 := cn_pow_le K0 cb hb0
  rw [← hn] at hb1
  have hbp : 0 < v32 b := by
    have := pow_pos_ K0 (n - 1)
    show 0 < dv _ _
    omega
  have hV0 : 0 < v32 v := by rw [vv]; exact Int.mul_pos (by omega) hbp
  have ha1 : v32 a < 4294967296 ^ m := by rw [hm]; exact dv_lt K0 ca.dg
  have hlt : v32 u < 4294967296 ^ M * v32 v := by
    rw [vu, vv]
    have e : (4294967296 : Int) ^ m = 4294967296 ^ M * 4294967296 ^ (n - 1) := by rw [← Int.pow_add]; congr 1; omega
    have h3 : 4294967296 ^ M * 4294967296 ^ (n - 1) ≤ 4294967296 ^ M * v32 b := Int.mul_le_mul_of_nonneg_left hb1 (Int.le_of_lt (pow_pos_ K0 M))
    have h4 : P * v32 a < P * (4294967296 ^ M * v32 b) := Int.mul_lt_mul_of_pos_left (by omega) (by omega)
    have h5 : P * (4294967296 ^ M * v32 b) = 4294967296 ^ M * (P * v32 b) := by grind
    omega
  have zl : ∀ p, (List.replicate M (0 : Int)).getD p 0 = 0 := fun p => by
    by_cases hp : p < M
    · rw [getD_lt (by simpa using hp)]; simp
    · exact getD_out (by simp; omega)
  obtain ⟨r, hq, hr⟩ := divide_loop (b := b) dv_ n (m + 1) M lv.symm (by omega) (by omega) (by omega) hv1 hV0 (y : Int) (A := P * v32 a)
    (Q := fun r => C32 r.1 ∧ C32 r.2 ∧ v32 a = v32 b * v32 r.1 + v32 r.2 ∧ v32 r.2 < v32 b ∧ r.1.length ≤ a.length ∧ r.2.length ≤ b.length) (fun u' out h => by
      have h0 := h.lt
      rw [Int.pow_zero, Int.one_mul] at h0
      have hlu := h.lu
      have hlo := h.lo
      have hval := h.val
      have hvn : v32 v < 4294967296 ^ n := by rw [← lv]; exact dv_lt K0 dv_
      obtain ⟨t, t1, t2, t3, t4⟩ := trim_ev (l := out) (by omega) h.dq
      have dr : D32 ((List.range n).map (rsO u' P)) := dg_map_range (fun j _ => by unfold rsO; omega)
      obtain ⟨s, s1, s2, s3, s4⟩ := trim_ev (l := (List.range n).map (rsO u' P)) (by simp; omega) dr
      have hmod : v32 u' % P = 0 := by
        have e : v32 u' = P * (v32 a - v32 b * v32 out) := by rw [vv] at hval; grind
        rw [e, Int.mul_emod_right]
      have hrv := rs_val h.du hP1 hR1 hPR n (by omega) hmod
      have hrv' : P * v32 s = v32 u' := by rw [s3]; exact hrv
      refine ⟨(t, s), ⟨t2, s2, ?_, ?_, by simp only; omega, by simpa [hn] using s4⟩, ?_⟩
      · have e : P * v32 a = P * (v32 b * v32 t + v32 s) := by
          rw [t3, hval, vv, ← hrv']; grind
        exact Int.eq_of_mul_eq_mul_left (by omega) e
      · have e : P * v32 s < P * v32 b := by rw [hrv', ← vv]; exact h0
        exact Int.lt_of_mul_lt_mul_left e (by omega)
      · refine Ev.step (fun k => by simp only [nat_divide.l0]; rfl) (ev_neg (by omega) (ev_pos (by omega) (ev_pos (by omega) ?_)))
        rw [Int.toNat_natCast, List.length_replicate, ← hn]
        have hl := rs_loop h.du y hy31 n (by omega) (by omega) t1 (r := s) (by rw [← hP]; exact s1) 0 (by omega) (List.replicate n 0) (by simp) (fun p hp => by omega)
        exact hl) M (Nat.le_refl _) u (List.replicate M 0) ⟨du, lu, fun x hx => by rw [List.eq_of_mem_replicate hx]; decide, by simp, fun p _ => zl p, hlt, by
      have e : v32 (List.replicate M 0) = 0 := replicate_zero _ _
      rw [e, vu]; simp⟩
  refine ⟨r, hq, ?_⟩
  unfold nat_divide.f
  rw [ew, ew2, ew3, ew4, Int.toNat_natCast, htop]
  rw [e32] at hlz
  refine ev_pos b5 (ev_pos b6 (ev_call hlz ?_))
  rw [Int.toNat_natCast]
  have s1 := shiftD_ev ca.dg y hy31 (m + 1) b1
  have s2 := shift_ev cb.dg y hy31 n b2
  rw [← hP, ← hu] at s1
  rw [← hP, ← hv, hn] at s2
  exact ev_call s1 (ev_call s2 (ev_pos b4 (ev_pos b3 hr)))
theorem nil_of_v {a : List Int} (ca : C32 a) (h : v32 a = 0) : a = [] := cn_zero K0 ca h
theorem v_pos {a : List Int} (ca : C32 a) (h : a ≠ []) : 0 < v32 a := by
  have h1 := cn_pow_le K0 ca h
  have h2 := pow_pos_ K0 (a.length - 1)
  show 0 < dv _ _
  omega
theorem clone_eq {a : List Int} (h : a.length ≤ 1000000) : slices_Clone_api_Nat_uint32.f a = some a := by unfold slices_Clone_api_Nat_uint32.f; rw [if_pos (by omega)]
theorem divmod_ev {a b : List Int} (ca : C32 a) (cb : C32 b) (hla : a.length ≤ 1000) (hlb : b.length ≤ 1000) (h0 : b ≠ []) :
    ∃ q r, Ev (fun k => nat_divmod.f k a b) (q, r) ∧ C32 q ∧ C32 r ∧ v32 a = v32 b * v32 q + v32 r ∧ v32 r < v32 b ∧ q.length ≤ a.length ∧ r.length ≤ b.length := by
  have ho := order_ev ca cb (by omega) (by omega)
  have hbp := v_pos cb h0
  have hlp : 0 < b.length := List.length_pos_iff.2 h0
  by_cases h1 : v32 a < v32 b
  · rw [sgn_lt h1] at ho
    refine ⟨[], a, ?_, cn_nil _, ca, ?_, h1, by simp, ?_⟩
    · unfold nat_divmod.f
      exact ev_call ho (ev_pos (by decide) (ev_pure (clone_eq (by omega)) ev_ret))
    · have e : v32 ([] : List Int) = 0 := rfl
      rw [e]; omega
    · refine Nat.le_of_not_lt fun h => ?_
      have := cn_len_lt K0 cb.dg ca h
      have h1' : dv 4294967296 a < dv 4294967296 b := h1
      omega
  · have hs : ¬ sgn (v32 a) (v32 b) < 0 := by unfold sgn; rw [if_neg h1]; split <;> omega
    by_cases h2 : b.length = 1
    · obtain ⟨x, rfl⟩ : ∃ x, b = [x] := List.length_eq_one_iff.1 h2
      have gx := cb.dg x (List.mem_singleton.2 rfl)
      have e : v32 [x] = x := by show dv _ _ = x; simp [dv]
      rw [e] at hbp h1
      obtain ⟨q, r, q1, q2, q3, q4, q5, q6⟩ := small_ev ca.dg (by omega) (d := x) (by omega) gx.2
      obtain ⟨s, s1, s2, s3, s4⟩ := Of_ev (u := r) q3 (by omega)
      refine ⟨q, s, ?_, q2, s2, by rw [e, s3]; exact q5, by rw [e, s3]; exact q4, q6, ?_⟩
      · unfold nat_divmod.f
        refine ev_call ho (ev_neg hs (ev_pos (by simp) (ev_pos (by simp) ?_)))
        have ex : IntKind.u64.wrap ([x].getD 0 0) = x := u64_id (n := x) gx.1 (by omega)
        rw [ex]
        exact ev_call q1 (ev_call s1 ev_ret)
      · refine (cn_len_le K1 s2).2 ?_
        have s3' : dv 4294967296 s = r := s3
        rw [s3', List.length_singleton, Int.pow_one]; omega
    · have hlen : b.length ≤ a.length := Nat.le_of_not_lt fun h => by
        have := cn_len_lt K0 ca.dg cb h
        exact h1 this
      obtain ⟨r, ⟨q1, q2, q3, q4, q5, q6⟩, q7⟩ := divide_ev ca cb (by omega) (by omega) hlen
      refine ⟨r.1, r.2, ?_, q1, q2, q3, q4, q5, q6⟩
      unfold nat_divmod.f
      exact ev_call ho (ev_neg hs (ev_neg (by omega) (ev_call q7 ev_ret)))
theorem len_rt {l : List Int} (h : C32 l) (hl : l.length ≤ 256) : rt l := ⟨hl, h.top⟩
theorem DivMod_ev {a b : List Int} (ha : D32 a) (hb : D32 b) (hla : a.length ≤ 1000) (hlb : b.length ≤ 1000) : ∃ q r e, Ev (fun k => nat_DivMod.f k a b) (q, r, e) ∧
    ((¬ (rt a ∧ rt b) ∧ q = [] ∧ r = [] ∧ e = 1) ∨ (rt a ∧ rt b ∧ ((b = [] ∧ q = [] ∧ r = [] ∧ e = 10) ∨ (b ≠ [] ∧ C32 q ∧ C32 r ∧ rt q ∧ rt r ∧ v32 a = v32 b * v32 q + v32 r ∧ 0 ≤ v32 r ∧ v32 r < v32 b ∧ e = 0)))) := by
  by_cases h1 : rt a
  · by_cases h2 : rt b
    · have hE : ∀ p, Ev (fun k => nat_DivMod.j0 k a b false) p → Ev (fun k => nat_DivMod.f k a b) p := fun p hp => by
        unfold nat_DivMod.f
        refine ev_pure (Right_eq (by omega)) (ev_pos (by simpa using h1) (ev_pure (Right_eq (by omega)) ?_))
        rw [decide_eq_true h2]; exact hp
      by_cases h3 : b = []
      · refine ⟨[], [], 10, hE _ ?_, .inr ⟨h1, h2, .inl ⟨h3, rfl, rfl, rfl⟩⟩⟩
        subst h3
        exact Ev.step (fun k => by simp only [nat_DivMod.j0]; rfl) (ev_neg (by decide) (ev_pos (by simp) ev_ret))
      · obtain ⟨q, r, q1, q2, q3, q4, q5, q6, q7⟩ := divmod_ev (rt_cn h1 ha) (rt_cn h2 hb) hla hlb h3
        have hlp : 0 < b.length := List.length_pos_iff.2 h3
        refine ⟨q, r, 0, hE _ ?_, .inr ⟨h1, h2, .inr ⟨h3, q2, q3, len_rt q2 (by have := h1.1; omega), len_rt q3 (by have := h2.1; omega), q4, dv_nonneg K0 q3.dg, q5, rfl⟩⟩⟩
        exact Ev.step (fun k => by simp only [nat_DivMod.j0]; rfl) (ev_neg (by decide) (ev_neg (by omega) (ev_call q1 ev_ret)))
    · refine ⟨[], [], 1, ?_, .inl ⟨fun h => h2 h.2, rfl, rfl, rfl⟩⟩
      unfold nat_DivMod.f
      refine ev_pure (Right_eq (by omega)) (ev_pos (by simpa using h1) (ev_pure (Right_eq (by omega)) ?_))
      rw [decide_eq_false h2]
      show Ev (fun k => nat_DivMod.j0 k a b true) _
      exact Ev.step (fun k => by simp only [nat_DivMod.j0]; rfl) (ev_pos (c := true = true) rfl ev_ret)
  · refine ⟨[], [], 1, ?_, .inl ⟨fun h => h1 h.1, rfl, rfl, rfl⟩⟩
    unfold nat_DivMod.f
    refine ev_pure (Right_eq (by omega)) (ev_neg (by simpa using h1) ?_)
    exact Ev.step (fun k => by simp only [nat_DivMod.j0]; rfl) (ev_pos (c := true = true) rfl ev_ret)
def nv (l : List Int) : Nat := (v32 l).toNat
theorem nv_cast {l : List Int} (h : D32 l) : (nv l : Int) = v32 l := Int.toNat_of_nonneg (dv_nonneg K0 h)
theorem gcd_loop : ∀ (n : Nat) (a b : List Int), C32 a → C32 b → a.length ≤ 1000 → b.length ≤ 1000 → nv b ≤ n →
    ∃ r, Ev (fun k => nat_Gcd.l0 k a b) (r, 0) ∧ C32 r ∧ v32 r = (Nat.gcd (nv a) (nv b) : Int) ∧ r.length ≤ max a.length b.length := by
  intro n
  induction n with
  | zero =>
    intro a b ca cb hla hlb hn
    have hb : b = [] := nil_of_v cb (by have := nv_cast cb.dg; omega)
    subst hb
    refine ⟨a, Ev.step (fun k => by simp only [nat_Gcd.l0]; rfl) (ev_neg (by decide) (ev_pure (clone_eq (by omega)) ev_ret)), ca, ?_, by omega⟩
    have e : nv [] = 0 := rfl
    rw [e, Nat.gcd_zero_right, nv_cast ca.dg]
  | succ n ih =>
    intro a b ca cb hla hlb hn
    by_cases h0 : b = []
    · subst h0
      refine ⟨a, Ev.step (fun k => by simp only [nat_Gcd.l0]; rfl) (ev_neg (by decide) (ev_pure (clone_eq (by omega)) ev_ret)), ca, ?_, by omega⟩
      have e : nv [] = 0 := rfl
      rw [e, Nat.gcd_zero_right, nv_cast ca.dg]
    · obtain ⟨q, s, q1, q2, q3, q4, q5, q6, q7⟩ := divmod_ev ca cb hla hlb h0
      have c1 := nv_cast ca.dg
      have c2 := nv_cast cb.dg
      have c3 := nv_cast q2.dg
      have c4 := nv_cast q3.dg
      obtain ⟨r, r1, r2, r3, r4⟩ := ih b s cb q3 hlb (by omega) (by omega)
      have hlp : 0 < b.length := List.length_pos_iff.2 h0
      refine ⟨r, Ev.step (fun k => by simp only [nat_Gcd.l0]; rfl) (ev_pos (by omega) (ev_call q1 r1)), r2, ?_, by omega⟩
      rw [r3]
      have e : nv a = nv q * nv b + nv s := by
        have : (nv a : Int) = ((nv q * nv b + nv s : Nat) : Int) := by
          push_cast
          rw [c1, c2, c3, c4, q4]; grind
        exact Int.ofNat.inj this
      rw [e, Nat.gcd_mul_right_add_left, Nat.gcd_comm]
theorem Gcd_ev {a b : List Int} (ha : D32 a) (hb : D32 b) (hla : a.length ≤ 1000) (hlb : b.length ≤ 1000) : ∃ r e, Ev (fun k => nat_Gcd.f k a b) (r, e) ∧
    ((¬ (rt a ∧ rt b) ∧ r = [] ∧ e = 1) ∨ (rt a ∧ rt b ∧ C32 r ∧ rt r ∧ v32 r = (Nat.gcd (nv a) (nv b) : Int) ∧ r.length ≤ max a.length b.length ∧ e = 0)) := by
  by_cases h1 : rt a
  · by_cases h2 : rt b
    · obtain ⟨r, r1, r2, r3, r4⟩ := gcd_loop (nv b) a b (rt_cn h1 ha) (rt_cn h2 hb) hla hlb (Nat.le_refl _)
      refine ⟨r, 0, ?_, .inr ⟨h1, h2, r2, len_rt r2 (by have := h1.1; have := h2.1; omega), r3, r4, rfl⟩⟩
      unfold nat_Gcd.f
      refine ev_pure (Right_eq (by omega)) (ev_pos (by simpa using h1) (ev_pure (Right_eq (by omega)) ?_))
      rw [decide_eq_true h2]
      exact Ev.step (fun k => by simp only [nat_Gcd.j0]; rfl) (ev_neg (by decide) r1)
    · refine ⟨[], 1, ?_, .inl ⟨fun h => h2 h.2, rfl, rfl⟩⟩
      unfold nat_Gcd.f
      refine ev_pure (Right_eq (by omega)) (ev_pos (by simpa using h1) (ev_pure (Right_eq (by omega)) ?_))
      rw [decide_eq_false h2]
      show Ev (fun k => nat_Gcd.j0 k a b true) _
      exact Ev.step (fun k => by simp only [nat_Gcd.j0]; rfl) (ev_pos (c := true = true) rfl ev_ret)
  · refine ⟨[], 1, ?_, .inl ⟨fun h => h1 h.1, rfl, rfl⟩⟩
    unfold nat_Gcd.f
    refine ev_pure (Right_eq (by omega)) (ev_neg (by simpa using h1) ?_)
    exact Ev.step (fun k => by simp only [nat_Gcd.j0]; rfl) (ev_pos (c := true = true) rfl ev_ret)
end Go.Proofs.YtjhljcnjafbkfaaDoor.Pure
end
section
set_option linter.unusedVariables false
namespace Go.Proofs.YtjhljcnjafbkfaaDoor.Pure
open Go.RowKit Go.Proofs.YtjhljcnjafbkfaaDoor.X Go.Proofs.YtjhljcnjafbkfaaDoor.L
abbrev RatT := S31
abbrev SgT := S62
def sv (s : SgT) : Int := if s.f0 = true then -(nv s.f1 : Int) else nv s.f1
theorem sv_abs (s : SgT) : (sv s).natAbs = nv s.f1 := by unfold sv; split <;> omega
structure Rp (a : RatT) (q : Rat) : Prop where
  cn : C32 a.f1
  cd : C32 a.f2
  ln : a.f1.length ≤ 64
  ld : a.f2.length ≤ 64
  vn : nv a.f1 = q.num.natAbs
  vd : nv a.f2 = q.den
  sg : a.f0 = decide (q.num < 0)
theorem c_unique {a b : List Int} (ha : C32 a) (hb : C32 b) (h : nv a = nv b) : a = b := cn_unique K0 ha hb (by
  have h1 := nv_cast ha.dg
  have h2 := nv_cast hb.dg
  show v32 a = v32 b
  omega)
theorem Rp.inj {a b : RatT} {q : Rat} (ha : Rp a q) (hb : Rp b q) : a = b := by
  have h1 := c_unique ha.cn hb.cn (ha.vn.trans hb.vn.symm)
  have h2 := c_unique ha.cd hb.cd (ha.vd.trans hb.vd.symm)
  have h3 := ha.sg.trans hb.sg.symm
  cases a; cases b; simp_all
theorem Rp.val {a : RatT} {p q : Rat} (h : Rp a p) (k : Rp a q) : p = q := by
  have h1 := h.vn.symm.trans k.vn
  have h2 := h.vd.symm.trans k.vd
  have h3 := h.sg.symm.trans k.sg
  refine Rat.ext ?_ h2
  simp only [decide_eq_decide] at h3
  omega
def Fits (q : Rat) : Prop := ((q.num.natAbs : Nat) : Int) < 4294967296 ^ 64 ∧ ((q.den : Nat) : Int) < 4294967296 ^ 64
theorem Rp.den {a : RatT} {q : Rat} (h : Rp a q) : a.f2 ≠ [] := fun e => by
  have := h.vd
  rw [e] at this
  exact q.den_nz this.symm
theorem Rp.num0 {a : RatT} {q : Rat} (h : Rp a q) : a.f1 = [] ↔ q = 0 := by
  rw [← Rat.num_eq_zero]
  have := h.vn
  constructor
  · intro e
    rw [e] at this
    have e0 : nv ([] : List Int) = 0 := rfl
    omega
  · intro e
    refine cn_zero K0 h.cn ?_
    have h3 := nv_cast h.cn.dg
    show v32 a.f1 = 0
    omega
def none31 : RatT := ⟨false, [], []⟩
theorem rtl {l : List Int} (h : C32 l) (hl : l.length ≤ 256) : rt l := ⟨hl, h.top⟩
theorem len_lt {l : List Int} (h : C32 l) {n : Nat} (hl : l.length ≤ n) : v32 l < 4294967296 ^ n := (cn_len_le K1 h).1 hl
theorem lt_len {l : List Int} (h : C32 l) {n : Nat} (hl : v32 l < 4294967296 ^ n) : l.length ≤ n := (cn_len_le K1 h).2 hl
theorem vnn {l : List Int} (h : C32 l) : 0 ≤ v32 l := dv_nonneg K0 h.dg
theorem mul_lt_pow {x y : Int} {m n : Nat} (hx0 : 0 ≤ x) (hx : x < 4294967296 ^ m) (hy0 : 0 ≤ y) (hy : y < 4294967296 ^ n) : x * y < 4294967296 ^ (m + n) := by
  rw [Int.pow_add]
  rcases Int.lt_or_le 0 y with h | h
  · have h1 := Int.mul_lt_mul_of_pos_right hx h
    have h2 := Int.mul_le_mul_of_nonneg_left (Int.le_of_lt hy) (Int.le_of_lt (pow_pos_ K0 m))
    omega
  · have : y = 0 := by omega
    subst this
    rw [Int.mul_zero]
    exact Int.mul_pos (pow_pos_ K0 m) (pow_pos_ K0 n)
theorem times_ev {a b : SgT} (ca : C32 a.f1) (cb : C32 b.f1) (la : a.f1.length ≤ 128) (lb : b.f1.length ≤ 128) :
    ∃ r, Ev (fun k => ratio_signed_times.f k a b) r ∧ C32 r.f1 ∧ v32 r.f1 = v32 a.f1 * v32 b.f1 ∧ sv r = sv a * sv b := by
  obtain ⟨m, e, hm, h⟩ := Mul_ev ca.dg cb.dg (by omega) (by omega)
  have hlt := mul_lt_pow (vnn ca) (len_lt ca la) (vnn cb) (len_lt cb lb)
  rcases h with ⟨h1, _⟩ | ⟨_, _, h | ⟨h1, _⟩⟩
  · exact absurd ⟨rtl ca (by omega), rtl cb (by omega)⟩ h1
  · obtain ⟨h1, h2, h3, h4⟩ := h
    refine ⟨⟨!(a.f0 == b.f0), m⟩, ?_, h2, h3, ?_⟩
    · unfold ratio_signed_times.f
      exact ev_call hm ev_ret
    · have n1 := nv_cast ca.dg
      have n2 := nv_cast cb.dg
      have n3 := nv_cast h2.dg
      have e3 : (nv m : Int) = nv a.f1 * nv b.f1 := by rw [n1, n2, n3]; exact h3
      unfold sv
      simp only
      rw [e3]
      cases a.f0 <;> cases b.f0 <;> simp [Int.mul_neg, Int.neg_mul]
  · have : (4294967296 : Int) ^ (128 + 128) = 4294967296 ^ 256 := rfl
    omega
theorem plus_ev {a b : SgT} (ca : C32 a.f1) (cb : C32 b.f1) (la : a.f1.length ≤ 200) (lb : b.f1.length ≤ 200) :
    ∃ r, Ev (fun k => ratio_signed_plus.f k a b) r ∧ C32 r.f1 ∧ v32 r.f1 ≤ v32 a.f1 + v32 b.f1 ∧ sv r = sv a + sv b := by
  have n1 := nv_cast ca.dg
  have n2 := nv_cast cb.dg
  have p1 := vnn ca
  have p2 := vnn cb
  by_cases hs : a.f0 = b.f0
  · obtain ⟨m, e, hm, h⟩ := Add_ev ca.dg cb.dg (by omega) (by omega)
    have h1 := len_lt ca la
    have h2 := len_lt cb lb
    have h3 : (4294967296 : Int) ^ 200 + 4294967296 ^ 200 ≤ 4294967296 ^ 256 := by decide
    rcases h with ⟨h0, _⟩ | ⟨_, _, h | ⟨h0, _⟩⟩
    · exact absurd ⟨rtl ca (by omega), rtl cb (by omega)⟩ h0
    · obtain ⟨_, g2, g3, g4⟩ := h
      have n3 := nv_cast g2.dg
      refine ⟨⟨a.f0, m⟩, ?_, g2, by show v32 m ≤ _; omega, ?_⟩
      · unfold ratio_signed_plus.f
        exact ev_pos (by rw [hs]; simp) (ev_call hm ev_ret)
      · unfold sv
        simp only
        rw [hs]
        split <;> omega
    · omega
  · have hb : ¬ (a.f0 == b.f0) = true := by simpa using hs
    have hc := Compare_ev ca cb (by omega) (by omega)
    by_cases hlt : v32 a.f1 < v32 b.f1
    · rw [sgn_lt hlt] at hc
      obtain ⟨m, e, hm, h⟩ := Sub_ev cb.dg ca.dg (by omega) (by omega)
      rcases h with ⟨h0, _⟩ | ⟨_, _, ⟨h0, _⟩ | h⟩
      · exact absurd ⟨rtl cb (by omega), rtl ca (by omega)⟩ h0
      · omega
      · obtain ⟨_, g2, _, g3, g4⟩ := h
        have n3 := nv_cast g2.dg
        refine ⟨⟨b.f0, m⟩, ?_, g2, by show v32 m ≤ _; omega, ?_⟩
        · unfold ratio_signed_plus.f
          refine ev_neg hb (ev_call hc (ev_pos (by decide) (Ev.step (fun k => by simp only [ratio_signed_plus.j0]; rfl) (ev_call hm ev_ret))))
        · unfold sv
          simp only
          cases h1 : a.f0 <;> cases h2 : b.f0 <;> simp_all <;> omega
    · have hc' : ¬ sgn (v32 a.f1) (v32 b.f1) < 0 := by unfold sgn; rw [if_neg hlt]; split <;> omega
      obtain ⟨m, e, hm, h⟩ := Sub_ev ca.dg cb.dg (by omega) (by omega)
      rcases h with ⟨h0, _⟩ | ⟨_, _, ⟨h0, _⟩ | h⟩
      · exact absurd ⟨rtl ca (by omega), rtl cb (by omega)⟩ h0
      · omega
      · obtain ⟨_, g2, _, g3, g4⟩ := h
        have n3 := nv_cast g2.dg
        refine ⟨⟨a.f0, m⟩, ?_, g2, by show v32 m ≤ _; omega, ?_⟩
        · unfold ratio_signed_plus.f
          refine ev_neg hb (ev_call hc (ev_neg hc' (Ev.step (fun k => by simp only [ratio_signed_plus.j0]; rfl) (ev_call hm ev_ret))))
        · unfold sv
          simp only
          cases h1 : a.f0 <;> cases h2 : b.f0 <;> simp_all <;> omega
theorem part_ev {n g : List Int} (cn : C32 n) (cg : C32 g) (ln : n.length ≤ 256) (lg : g.length ≤ 256) (hg : g ≠ []) (hd : nv g ∣ nv n) :
    ∃ q r, Ev (fun k => nat_DivMod.f k n g) (q, r, 0) ∧ C32 q ∧ nv n = nv g * nv q := by
  obtain ⟨q, r, e, hq, h⟩ := DivMod_ev cn.dg cg.dg (by omega) (by omega)
  rcases h with ⟨h0, _⟩ | ⟨_, _, ⟨h0, _⟩ | h⟩
  · exact absurd ⟨rtl cn ln, rtl cg lg⟩ h0
  · exact absurd h0 hg
  · obtain ⟨_, c1, c2, _, _, h1, h2, h3, rfl⟩ := h
    refine ⟨q, r, hq, c1, ?_⟩
    have n1 := nv_cast cn.dg
    have n2 := nv_cast cg.dg
    have n3 := nv_cast c1.dg
    have n4 := nv_cast c2.dg
    have e1 : nv n = nv g * nv q + nv r := by
      have : (nv n : Int) = ((nv g * nv q + nv r : Nat) : Int) := by push_cast; rw [n1, n2, n3, n4]; exact h1
      exact Int.ofNat.inj this
    have e2 : nv g ∣ nv r := by
      rw [e1] at hd
      exact (Nat.dvd_add_right (Nat.dvd_mul_right _ _)).1 hd
    have e3 : nv r = 0 := Nat.eq_zero_of_dvd_of_lt e2 (by omega)
    omega
theorem nv_pos {l : List Int} (h : C32 l) (h0 : l ≠ []) : 0 < nv l := by
  have := v_pos h h0
  have := nv_cast h.dg
  omega
theorem made_ev {n : SgT} {d : List Int} (cn : C32 n.f1) (cd : C32 d) (ln : n.f1.length ≤ 256) (ld : d.length ≤ 256) (hd : d ≠ []) :
    ∃ r e, Ev (fun k => ratio_made.f k n d) (r, e) ∧ ((Fits (mkRat (sv n) (nv d)) ∧ Rp r (mkRat (sv n) (nv d)) ∧ e = 0) ∨ (¬ Fits (mkRat (sv n) (nv d)) ∧ r = none31 ∧ e = 4)) := by
  obtain ⟨g, e0, hg, h⟩ := Gcd_ev cn.dg cd.dg (by omega) (by omega)
  rcases h with ⟨h0, _⟩ | ⟨_, _, cg, rg, vg, lg, _⟩
  · exact absurd ⟨rtl cn ln, rtl cd ld⟩ h0
  · have hdp := nv_pos cd hd
    have hgn : nv g = Nat.gcd (nv n.f1) (nv d) := by have := nv_cast cg.dg; omega
    have hgp : 0 < nv g := by rw [hgn]; exact Nat.gcd_pos_of_pos_right _ hdp
    have hg0 : g ≠ [] := fun e => by rw [e] at hgp; exact absurd hgp (by decide)
    obtain ⟨x, xr, hx, cx, ex⟩ := part_ev cn cg ln rg.1 hg0 (by rw [hgn]; exact Nat.gcd_dvd_left _ _)
    obtain ⟨y, yr, hy, cy, ey⟩ := part_ev cd cg ld rg.1 hg0 (by rw [hgn]; exact Nat.gcd_dvd_right _ _)
    obtain ⟨q, hq⟩ : ∃ q, q = mkRat (sv n) (nv d) := ⟨_, rfl⟩
    rw [← hq]
    have hgc : Nat.gcd (nv d) (sv n).natAbs = nv g := by rw [sv_abs, Nat.gcd_comm, hgn]
    have qn : q.num = (if n.f0 = true then -(nv x : Int) else nv x) := by
      rw [hq, Rat.num_mkRat, if_neg (by omega), hgc]
      unfold sv
      split
      · rw [ex, show (-((nv g * nv x : Nat) : Int)) = (nv g : Int) * (-(nv x : Int)) by push_cast; rw [Int.mul_neg], Int.mul_ediv_cancel_left _ (by omega)]
      · rw [ex, show (((nv g * nv x : Nat) : Int)) = (nv g : Int) * ((nv x : Int)) by push_cast; rfl, Int.mul_ediv_cancel_left _ (by omega)]
    have qd : q.den = nv y := by
      rw [hq, Rat.den_mkRat, if_neg (by omega), hgc, ey, Nat.mul_div_cancel_left _ hgp]
    have qa : q.num.natAbs = nv x := by rw [qn]; split <;> omega
    have nx := nv_cast cx.dg
    have ny := nv_cast cy.dg
    have fx : x.length ≤ 64 ↔ ((q.num.natAbs : Nat) : Int) < 4294967296 ^ 64 := by rw [qa, nx]; exact cn_len_le K1 cx
    have fy : y.length ≤ 64 ↔ ((q.den : Nat) : Int) < 4294967296 ^ 64 := by rw [qd, ny]; exact cn_len_le K1 cy
    have hE : ∀ p, Ev (fun k => if 64 < (x.length : Int) then ratio_made.j0 k x y true ⟨false, [], []⟩ n else ratio_made.j0 k x y (decide (64 < (y.length : Int))) ⟨false, [], []⟩ n) p → Ev (fun k => ratio_made.f k n d) p := fun p hp => by
      unfold ratio_made.f
      exact ev_call hg (ev_call hx (ev_call hy hp))
    by_cases h1 : x.length ≤ 64
    · by_cases h2 : y.length ≤ 64
      · have hsg : ∀ b : Bool, (b = (if n.f0 = true then decide (0 < (x.length : Int)) else false)) → b = decide (q.num < 0) := fun b hb => by
          rw [hb, qn]
          cases n.f0 with
          | false => simp only [Bool.false_eq_true, if_false]; exact (decide_eq_false (by omega)).symm
          | true =>
            simp only [if_true, decide_eq_decide]
            constructor
            · intro h
              have := nv_pos cx (fun e => by rw [e] at h; exact absurd h (by decide))
              omega
            · intro h
              refine Int.lt_of_not_ge fun h' => ?_
              have : x = [] := List.eq_nil_of_length_eq_zero (by omega)
              rw [this] at h
              exact absurd h (by decide)
        refine ⟨⟨if n.f0 = true then decide (0 < (x.length : Int)) else false, x, y⟩, 0, hE _ (ev_neg (by omega) (Ev.step (fun k => by simp only [ratio_made.j0]; rfl) (ev_neg (by simp; omega) ?_))), .inl ⟨⟨fx.1 h1, fy.1 h2⟩, ⟨cx, cy, h1, h2, qa.symm, qd.symm, hsg _ rfl⟩, rfl⟩⟩
        by_cases hn : n.f0 = true
        · rw [hn]
          exact ev_pos (c := true = true) rfl ev_ret
        · rw [Bool.not_eq_true] at hn
          rw [hn]
          exact ev_neg (by decide) ev_ret
      · exact ⟨none31, 4, hE _ (ev_neg (by omega) (Ev.step (fun k => by simp only [ratio_made.j0]; rfl) (ev_pos (by simp; omega) ev_ret))), .inr ⟨fun f => h2 (fy.2 f.2), rfl, rfl⟩⟩
    · exact ⟨none31, 4, hE _ (ev_pos (by omega) (Ev.step (fun k => by simp only [ratio_made.j0]; rfl) (ev_pos (c := true = true) rfl ev_ret))), .inr ⟨fun f => h1 (fx.2 f.1), rfl, rfl⟩⟩
theorem one_ev : ∃ r, Ev (fun k => ratio_one.f k) r ∧ C32 r ∧ v32 r = 1 ∧ r.length ≤ 2 := by
  obtain ⟨r, h1, h2⟩ := Of_ev (u := 1) (by decide) (by decide)
  exact ⟨r, by unfold ratio_one.f; exact ev_call h1 ev_ret, h2⟩
theorem Right_ev {a : RatT} (d1 : D32 a.f1) (d2 : D32 a.f2) (l1 : a.f1.length ≤ 1000000) (l2 : a.f2.length ≤ 1000000) : ∃ b, Ev (fun k => ratio_Right.f k a) b ∧ (b = true ↔ ∃ q, Rp a q) := by
  have e1 := Right_eq (l := a.f1) (by omega)
  have e2 := Right_eq (l := a.f2) (by omega)
  have hno : Ev (fun k => ratio_Right.j0 k true a) false := Ev.step (fun k => by simp only [ratio_Right.j0]; rfl) (ev_pos (c := true = true) rfl ev_ret)
  by_cases h1 : rt a.f1
  · by_cases h2 : rt a.f2
    · have c1 := rt_cn h1 d1
      have c2 := rt_cn h2 d2
      have hE : ∀ b, Ev (fun k => if 64 < (a.f1.length : Int) then ratio_Right.j0 k true a else if 64 < (a.f2.length : Int) then ratio_Right.j0 k true a else if (a.f2.length : Int) = 0 then ratio_Right.j0 k true a else if a.f0 = true then ratio_Right.j0 k (decide ((a.f1.length : Int) = 0)) a else ratio_Right.j0 k false a) b → Ev (fun k => ratio_Right.f k a) b := fun b hb => by
        unfold ratio_Right.f
        exact ev_pure e1 (ev_pos (by simpa using h1) (ev_pure e2 (ev_pos (by simpa using h2) hb)))
      by_cases h3 : a.f1.length ≤ 64
      · by_cases h4 : a.f2.length ≤ 64
        · by_cases h5 : a.f2 = []
          · exact ⟨false, hE _ (ev_neg (by omega) (ev_neg (by omega) (ev_pos (by rw [h5]; rfl) hno))), (fun h => by cases h), fun ⟨q, k⟩ => absurd h5 k.den⟩
          · have h5' : ¬ (a.f2.length : Int) = 0 := fun h => h5 (List.eq_nil_of_length_eq_zero (by omega))
            by_cases h6 : a.f0 = true ∧ a.f1 = []
            · refine ⟨false, hE _ (ev_neg (by omega) (ev_neg (by omega) (ev_neg h5' (ev_pos h6.1 ?_)))), (fun h => by cases h), fun ⟨q, k⟩ => ?_⟩
              · rw [h6.2]; exact Ev.step (fun k => by simp only [ratio_Right.j0]; rfl) (ev_pos (by decide) ev_ret)
              · have := k.sg
                rw [h6.1] at this
                have e0 := k.num0.1 h6.2
                rw [e0] at this
                exact absurd this (by decide)
            · obtain ⟨g, e0, hg, h⟩ := Gcd_ev d1 d2 (by omega) (by omega)
              rcases h with ⟨h0, _⟩ | ⟨_, _, cg, rg, vg, lg, _⟩
              · exact absurd ⟨h1, h2⟩ h0
              · obtain ⟨o, ho, co, vo, lo⟩ := one_ev
                have hc := Compare_ev cg co rg.1 (by omega)
                have hgn : nv g = Nat.gcd (nv a.f1) (nv a.f2) := by have := nv_cast cg.dg; omega
                have hgc := nv_cast cg.dg
                have hj : Ev (fun k => ratio_Right.j0 k false a) (decide (sgn (v32 g) (v32 o) = 0)) := Ev.step (fun k => by simp only [ratio_Right.j0]; rfl) (ev_neg (by decide) (ev_call hg (ev_call ho (ev_call (f := fun _ t => some (decide (t = 0))) hc ev_ret))))
                refine ⟨decide (sgn (v32 g) (v32 o) = 0), hE _ (ev_neg (by omega) (ev_neg (by omega) (ev_neg h5' ?_))), ?_⟩
                · by_cases h7 : a.f0 = true
                  · refine ev_pos h7 ?_
                    have h8 : ¬ a.f1 = [] := fun h => h6 ⟨h7, h⟩
                    have h9 : ¬ (a.f1.length : Int) = 0 := fun h => h8 (List.eq_nil_of_length_eq_zero (by omega))
                    rw [decide_eq_false h9]
                    exact hj
                  · exact ev_neg h7 hj
                · have hs : sgn (v32 g) (v32 o) = 0 ↔ nv g = 1 := by
                    rw [vo]
                    unfold sgn
                    split
                    · constructor <;> intro h <;> omega
                    · split
                      · constructor <;> intro h <;> omega
                      · constructor <;> intro h <;> omega
                  simp only [decide_eq_true_eq, hs]
                  constructor
                  · intro h
                    have hz : nv a.f2 ≠ 0 := Nat.ne_of_gt (nv_pos c2 h5)
                    have hco : (if a.f0 = true then -(nv a.f1 : Int) else (nv a.f1 : Int)).natAbs.Coprime (nv a.f2) := by
                      have : (if a.f0 = true then -(nv a.f1 : Int) else (nv a.f1 : Int)).natAbs = nv a.f1 := by split <;> omega
                      rw [this]
                      exact hgn.symm.trans h
                    refine ⟨⟨if a.f0 = true then -(nv a.f1 : Int) else (nv a.f1 : Int), nv a.f2, hz, hco⟩, c1, c2, h3, h4, ?_, rfl, ?_⟩
                    · show nv a.f1 = (if a.f0 = true then -(nv a.f1 : Int) else (nv a.f1 : Int)).natAbs
                      split <;> omega
                    · show a.f0 = decide ((if a.f0 = true then -(nv a.f1 : Int) else (nv a.f1 : Int)) < 0)
                      cases h7 : a.f0 with
                      | false => simp only [Bool.false_eq_true, if_false]; exact (decide_eq_false (by omega)).symm
                      | true =>
                        have := nv_pos c1 (fun h => h6 ⟨h7, h⟩)
                        simp only [if_true]
                        exact (decide_eq_true (by omega)).symm
                  · rintro ⟨q, k⟩
                    rw [hgn, k.vn, k.vd]
                    exact q.reduced
        · exact ⟨false, hE _ (ev_neg (by omega) (ev_pos (by omega) hno)), (fun h => by cases h), fun ⟨q, k⟩ => absurd k.ld h4⟩
      · exact ⟨false, hE _ (ev_pos (by omega) hno), (fun h => by cases h), fun ⟨q, k⟩ => absurd k.ln h3⟩
    · refine ⟨false, ?_, (fun h => by cases h), fun ⟨q, k⟩ => absurd (rtl k.cd (by have := k.ld; omega)) h2⟩
      unfold ratio_Right.f
      exact ev_pure e1 (ev_pos (by simpa using h1) (ev_pure e2 (ev_neg (by simpa using h2) hno)))
  · refine ⟨false, ?_, (fun h => by cases h), fun ⟨q, k⟩ => absurd (rtl k.cn (by have := k.ln; omega)) h1⟩
    unfold ratio_Right.f
    exact ev_pure e1 (ev_neg (by simpa using h1) hno)
theorem Rp.right {a : RatT} {q : Rat} (h : Rp a q) : Ev (fun k => ratio_Right.f k a) true := by
  obtain ⟨b, h1, h2⟩ := Right_ev h.cn.dg h.cd.dg (by have := h.ln; omega) (by have := h.ld; omega)
  rw [h2.2 ⟨q, h⟩] at h1
  exact h1
def Out (q : Rat) (r : RatT) (e : Int) : Prop := (Fits q ∧ Rp r q ∧ e = 0) ∨ (¬ Fits q ∧ r = none31 ∧ e = 4)
theorem folded1_ev {a b r : SgT} (h : Ev (fun k => ratio_signed_plus.f k a b) r) : Ev (fun k => ratio_folded_ratio_signed_s0.f k a [b]) r := by
  unfold ratio_folded_ratio_signed_s0.f
  refine Ev.step (fun k => by simp only [ratio_folded_ratio_signed_s0.l0]; rfl) (ev_pos (by simp) (ev_pos (by decide) (ev_pos (by simp) ?_)))
  exact ev_call h (Ev.step (fun k => by simp only [ratio_folded_ratio_signed_s0.l0]; rfl) (ev_neg (by simp [wrap64]) ev_ret))
theorem folded2_ev {a b r : SgT} (h : Ev (fun k => ratio_signed_times.f k a b) r) : Ev (fun k => ratio_folded_ratio_signed_s1.f k a [b]) r := by
  unfold ratio_folded_ratio_signed_s1.f
  refine Ev.step (fun k => by simp only [ratio_folded_ratio_signed_s1.l0]; rfl) (ev_pos (by simp) (ev_pos (by decide) (ev_pos (by simp) ?_)))
  exact ev_call h (Ev.step (fun k => by simp only [ratio_folded_ratio_signed_s1.l0]; rfl) (ev_neg (by simp [wrap64]) ev_ret))
theorem product_ev {a b : List Int} (ca : C32 a) (cb : C32 b) (la : a.length ≤ 128) (lb : b.length ≤ 128) : ∃ r, Ev (fun k => ratio_product.f k a [b]) r ∧ C32 r ∧ v32 r = v32 a * v32 b := by
  obtain ⟨r, h1, h2, h3, _⟩ := times_ev (a := ⟨false, a⟩) (b := ⟨false, b⟩) ca cb la lb
  refine ⟨r.f1, ?_, h2, h3⟩
  unfold ratio_product.f
  refine Ev.step (fun k => by simp only [ratio_product.l0]; rfl) (ev_pos (by simp) (ev_pos (by decide) (ev_pos (by simp) (ev_pos (by decide) ?_))))
  exact Ev.step (fun k => by simp only [ratio_product.l0]; rfl) (ev_neg (by simp [wrap64]) (ev_call (folded2_ev h1) ev_ret))
theorem prod_len {l : List Int} (h : C32 l) {x y : Int} (hv : v32 l = x * y) (hx0 : 0 ≤ x) (hx : x < 4294967296 ^ 64) (hy0 : 0 ≤ y) (hy : y < 4294967296 ^ 64) : l.length ≤ 128 := lt_len h (by
  rw [hv]
  exact mul_lt_pow (m := 64) (n := 64) hx0 hx hy0 hy)
theorem sv_num {a : RatT} {q : Rat} (h : Rp a q) : sv ⟨a.f0, a.f1⟩ = q.num := by
  unfold sv
  simp only
  rw [h.vn, h.sg]
  by_cases h0 : q.num < 0
  · rw [decide_eq_true h0, if_pos rfl]; omega
  · rw [decide_eq_false h0, if_neg (by decide)]; omega
theorem nv_mul {r a b : List Int} (cr : C32 r) (ca : C32 a) (cb : C32 b) (h : v32 r = v32 a * v32 b) : nv r = nv a * nv b := by
  have h1 := nv_cast cr.dg
  have h2 := nv_cast ca.dg
  have h3 := nv_cast cb.dg
  have : (nv r : Int) = ((nv a * nv b : Nat) : Int) := by push_cast; rw [h1, h2, h3]; exact h
  exact Int.ofNat.inj this
theorem Add_out {a b : RatT} {p q : Rat} (ha : Rp a p) (hb : Rp b q) : ∃ r e, Ev (fun k => ratio_Add.f k a b) (r, e) ∧ Out (p + q) r e := by
  have l1 := len_lt ha.cn ha.ln
  have l2 := len_lt ha.cd ha.ld
  have l3 := len_lt hb.cn hb.ln
  have l4 := len_lt hb.cd hb.ld
  have ln1 := ha.ln
  have ln2 := ha.ld
  have ln3 := hb.ln
  have ln4 := hb.ld
  obtain ⟨x, x1, x2, x3, x4⟩ := times_ev (a := ⟨a.f0, a.f1⟩) (b := ⟨false, b.f2⟩) ha.cn hb.cd (by show a.f1.length ≤ _; omega) (by show b.f2.length ≤ _; omega)
  obtain ⟨y, y1, y2, y3, y4⟩ := times_ev (a := ⟨b.f0, b.f1⟩) (b := ⟨false, a.f2⟩) hb.cn ha.cd (by show b.f1.length ≤ _; omega) (by show a.f2.length ≤ _; omega)
  have lx := prod_len x2 x3 (vnn ha.cn) l1 (vnn hb.cd) l4
  have ly := prod_len y2 y3 (vnn hb.cn) l3 (vnn ha.cd) l2
  obtain ⟨z, z1, z2, z3, z4⟩ := plus_ev x2 y2 (by omega) (by omega)
  obtain ⟨d, d1, d2, d3⟩ := product_ev ha.cd hb.cd (by omega) (by omega)
  have ld := prod_len d2 d3 (vnn ha.cd) l2 (vnn hb.cd) l4
  have lz : z.f1.length ≤ 256 := lt_len z2 (by
    have h1 := len_lt x2 lx
    have h2 := len_lt y2 ly
    have h3 : (4294967296 : Int) ^ 128 + 4294967296 ^ 128 ≤ 4294967296 ^ 256 := by decide
    omega)
  have hd0 : d ≠ [] := fun e => by
    have h1 := v_pos ha.cd ha.den
    have h2 := v_pos hb.cd hb.den
    have h3 := Int.mul_pos h1 h2
    have h4 : v32 ([] : List Int) = 0 := rfl
    rw [e] at d3
    omega
  obtain ⟨r, e, hr, h⟩ := made_ev z2 d2 lz (by omega) hd0
  have hz : mkRat (sv z) (nv d) = p + q := by
    rw [Rat.add_def', z4, x4, y4, sv_num ha, sv_num hb, nv_mul d2 ha.cd hb.cd d3, ha.vd, hb.vd]
    have s1 : sv (⟨false, b.f2⟩ : SgT) = (q.den : Int) := by show (nv b.f2 : Int) = _; rw [hb.vd]
    have s2 : sv (⟨false, a.f2⟩ : SgT) = (p.den : Int) := by show (nv a.f2 : Int) = _; rw [ha.vd]
    rw [s1, s2]
  rw [hz] at h
  refine ⟨r, e, ?_, h⟩
  unfold ratio_Add.f
  refine ev_call ha.right (ev_pos (c := true = true) rfl (ev_call hb.right (Ev.step (fun k => by simp only [ratio_Add.j0]; rfl) (ev_neg (by decide) ?_))))
  refine ev_pure (a := (⟨a.f0, a.f1⟩ : SgT)) rfl (ev_call x1 (ev_pure (a := (⟨b.f0, b.f1⟩ : SgT)) rfl (ev_call y1 (ev_call (folded1_ev z1) (ev_call d1 (ev_call hr ev_ret))))))
theorem size_ev {n : Int} (h1 : -9223372036854775808 ≤ n) (h2 : n ≤ 9223372036854775807) : ∃ r, Ev (fun k => ratio_size.f k n) r ∧ C32 r ∧ v32 r = (n.natAbs : Int) ∧ r.length ≤ 2 := by
  unfold ratio_size.f
  by_cases hn : n < 0
  · obtain ⟨r, r1, r2, r3, r4⟩ := Of_ev (u := (n.natAbs : Int)) (by omega) (by omega)
    refine ⟨r, ?_, r2, r3, r4⟩
    have e : IntKind.u64.wrap (0 - IntKind.u64.wrap n) = (n.natAbs : Int) := by rw [u64_mod, u64_mod]; omega
    rw [e]
    exact ev_pos hn (Ev.step (fun k => by simp only [ratio_size.j0]) (ev_call r1 ev_ret))
  · obtain ⟨r, r1, r2, r3, r4⟩ := Of_ev (u := (n.natAbs : Int)) (by omega) (by omega)
    refine ⟨r, ?_, r2, r3, r4⟩
    have e : IntKind.u64.wrap n = (n.natAbs : Int) := by rw [u64_mod]; omega
    rw [e]
    exact ev_neg hn (Ev.step (fun k => by simp only [ratio_size.j0]) (ev_call r1 ev_ret))
theorem divInt_abs (n d : Int) : mkRat (if (!((decide (n < 0)) == (decide (d < 0)))) = true then -((n.natAbs : Nat) : Int) else (n.natAbs : Int)) d.natAbs = Rat.divInt n d := by
  have key : ∀ a b : Bool, (!(a == b)) = true ↔ a ≠ b := fun a b => by cases a <;> cases b <;> decide
  rcases Int.lt_or_le d 0 with hd | hd
  · obtain ⟨m, rfl⟩ : ∃ m : Nat, d = -(m : Int) := ⟨d.natAbs, by omega⟩
    rw [Rat.divInt_neg', Rat.divInt_ofNat]
    have e : (-(m : Int)).natAbs = m := by omega
    rw [e, decide_eq_true hd]
    by_cases hn : n < 0
    · rw [decide_eq_true hn, if_neg (by decide)]; congr 1; omega
    · rw [decide_eq_false hn, if_pos (by decide)]; congr 1; omega
  · obtain ⟨m, rfl⟩ : ∃ m : Nat, d = (m : Int) := ⟨d.natAbs, by omega⟩
    rw [Rat.divInt_ofNat, Int.natAbs_natCast, decide_eq_false (show ¬ (m : Int) < 0 by omega)]
    by_cases hn : n < 0
    · rw [decide_eq_true hn, if_pos (by decide)]; congr 1; omega
    · rw [decide_eq_false hn, if_neg (by decide)]; congr 1; omega
theorem small_fits {n : Int} {d : Nat} (h1 : n.natAbs < 18446744073709551616) (h2 : d < 18446744073709551616) (h0 : d ≠ 0) : Fits (mkRat n d) := by
  have hp : (18446744073709551616 : Int) ≤ 4294967296 ^ 64 := by decide
  obtain ⟨m, hm, e1, e2⟩ := Rat.mkRat_num_den (n := n) (n' := (mkRat n d).num) (d' := (mkRat n d).den) (z' := (mkRat n d).den_nz) (c := (mkRat n d).reduced) h0 rfl
  have a1 : (mkRat n d).num.natAbs ≤ n.natAbs := by
    have : n.natAbs = (mkRat n d).num.natAbs * m := by
      have := congrArg Int.natAbs e1
      rw [Int.natAbs_mul, Int.natAbs_natCast] at this
      exact this
    rw [this]
    exact Nat.le_mul_of_pos_right _ (by omega)
  have a2 : (mkRat n d).den ≤ d := by
    have : (mkRat n d).den ≤ (mkRat n d).den * m := Nat.le_mul_of_pos_right _ (by omega)
    omega
  exact ⟨by omega, by omega⟩
theorem Of_out {n d : Int} (n1 : -9223372036854775808 ≤ n) (n2 : n ≤ 9223372036854775807) (d1 : -9223372036854775808 ≤ d) (d2 : d ≤ 9223372036854775807) (hd : d ≠ 0) : ∃ r, Ev (fun k => ratio_Of.f k n d) (r, 0) ∧ Rp r (Rat.divInt n d) := by
  obtain ⟨x, x1, x2, x3, x4⟩ := size_ev n1 n2
  obtain ⟨y, y1, y2, y3, y4⟩ := size_ev d1 d2
  have ny := nv_cast y2.dg
  have nx := nv_cast x2.dg
  have hy : y ≠ [] := fun e => by
    rw [e] at y3
    have h4 : v32 ([] : List Int) = 0 := rfl
    omega
  obtain ⟨r, e, hr, h⟩ := made_ev (n := ⟨!((decide (n < 0)) == (decide (d < 0))), x⟩) x2 y2 (by show x.length ≤ _; omega) (by omega) hy
  have hq : mkRat (sv (⟨!((decide (n < 0)) == (decide (d < 0))), x⟩ : SgT)) (nv y) = Rat.divInt n d := by
    rw [← divInt_abs]
    have e1 : nv y = d.natAbs := by omega
    have e2 : nv x = n.natAbs := by omega
    rw [e1]
    unfold sv
    simp only
    rw [e2]
  have hf : Fits (mkRat (sv (⟨!((decide (n < 0)) == (decide (d < 0))), x⟩ : SgT)) (nv y)) := small_fits (by rw [sv_abs]; show nv x < _; omega) (by omega) (by omega)
  rw [hq] at h hf
  rcases h with ⟨_, h, rfl⟩ | ⟨h, _⟩
  · refine ⟨r, ?_, h⟩
    unfold ratio_Of.f
    exact ev_neg hd (ev_call x1 (ev_call y1 (ev_call hr ev_ret)))
  · exact absurd hf h
end Go.Proofs.YtjhljcnjafbkfaaDoor.Pure
end
section
set_option linter.unusedVariables false
namespace Go.Proofs.YtjhljcnjafbkfaaDoor.Pure
open Go.RowKit Go.Proofs.YtjhljcnjafbkfaaDoor.X Go.Proofs.YtjhljcnjafbkfaaDoor.L
abbrev D16 (l : List Int) : Prop := Dg 65536 l
abbrev C16 (l : List Int) : Prop := Cn 65536 l
abbrev v16 (l : List Int) : Int := dv 65536 l
theorem G0 : (0 : Int) < 65536 := by decide
theorem trimR_loop {l : List Int} (hd : D16 l) (hb : l.length ≤ 1000000000) : ∀ n : Nat, n ≤ l.length → v16 (l.take n) = v16 l → ∃ r, Ev (fun k => cashbookref01_trim.l0 k l (n : Int)) r ∧ C16 r ∧ v16 r = v16 l ∧ r.length ≤ l.length
  | 0, hn, hv => by
    refine ⟨[], Ev.step (fun k => by simp only [cashbookref01_trim.l0]; rfl) (ev_neg (by decide) (Ev.step (fun k => by simp only [cashbookref01_trim.j0]; rfl) (ev_neg (by decide) (ev_pos (by decide) (ev_pos (by omega) (ev_eq (by simp))))))), cn_nil _, ?_, by simp⟩
    rw [← hv]; simp
  | n + 1, hn, hv => by
    have e1 : wrap64 (((n + 1 : Nat) : Int) - 1) = (n : Int) := by unfold wrap64; omega
    by_cases hz : l.getD n 0 = 0
    · have hv2 : v16 (l.take n) = v16 l := by
        have e := dv_take_succ 65536 l n
        rw [hz, Int.mul_zero, Int.add_zero] at e
        show dv _ _ = _
        rw [← e]; exact hv
      obtain ⟨r, h1, h2, h3, h4⟩ := trimR_loop hd hb n (by omega) hv2
      refine ⟨r, Ev.step (fun k => by simp only [cashbookref01_trim.l0]; rfl) ?_, h2, h3, h4⟩
      rw [e1]
      refine ev_pos (by omega) (ev_pos (by omega) (ev_pos (by omega) ?_))
      rw [Int.toNat_natCast]
      refine Ev.step (fun k => by simp only [cashbookref01_trim.j0]; rfl) (ev_pos (by simpa using hz) ?_)
      rw [e1]
      exact h1
    · refine ⟨l.take (n + 1), Ev.step (fun k => by simp only [cashbookref01_trim.l0]; rfl) ?_, ⟨hd.take _, fun _ => ?_⟩, hv, by rw [List.length_take]; omega⟩
      · rw [e1]
        refine ev_pos (by omega) (ev_pos (by omega) (ev_pos (by omega) ?_))
        rw [Int.toNat_natCast]
        refine Ev.step (fun k => by simp only [cashbookref01_trim.j0]; rfl) (ev_neg (by simpa using hz) (ev_pos (by omega) (ev_pos (by omega) ?_)))
        rw [Int.toNat_natCast]
        exact ev_ret
      · rw [List.length_take, Nat.min_eq_left hn, Nat.add_sub_cancel, List.getD_eq_getElem?_getD, List.getElem?_take, if_pos (by omega), ← List.getD_eq_getElem?_getD]
        exact hz
theorem trimR_ev {l : List Int} (hd : D16 l) (hb : l.length ≤ 1000000000) : ∃ r, Ev (fun k => cashbookref01_trim.f k l) r ∧ C16 r ∧ v16 r = v16 l ∧ r.length ≤ l.length :=
  trimR_loop hd hb l.length (Nat.le_refl _) (by rw [List.take_length])
theorem pow_pair (i : Nat) : (65536 : Int) ^ (2 * i) = 4294967296 ^ i := by rw [Int.pow_mul]; rfl
theorem nat_loop {l : List Int} (hd : D16 l) (hl : l.length ≤ 1000000) : ∀ (d j : Nat), l.length + 1 - 2 * j ≤ d → 2 * j ≤ l.length + 1 → ∀ x3 : List Int, D32 x3 → x3.length = j → v32 x3 = v16 (l.take (2 * j)) → ∃ r, Ev (fun k => cashbookref01_nat.l0 k l x3 ((2 * j : Nat) : Int)) r ∧ D32 r ∧ v32 r = v16 l ∧ 2 * r.length ≤ l.length + 1
  | d, j, hdj, hj, x3, h3, hn, hv => by
    by_cases hlt : 2 * j < l.length
    · match d, hdj with
      | 0, hdj => omega
      | d + 1, hdj =>
        have g1 := hd.get G0 (2 * j)
        have g2 := hd.get G0 (2 * j + 1)
        have ew : wrap64 (((2 * j : Nat) : Int) + 1) = ((2 * j + 1 : Nat) : Int) := by unfold wrap64; omega
        have ew2 : wrap64 (((2 * j : Nat) : Int) + 2) = ((2 * (j + 1) : Nat) : Int) := by unfold wrap64; omega
        have hstep : ∀ n : Int, n = l.getD (2 * j) 0 + 65536 * l.getD (2 * j + 1) 0 → ∃ r, Ev (fun k => cashbookref01_nat.l0 k l (x3 ++ [n]) ((2 * (j + 1) : Nat) : Int)) r ∧ D32 r ∧ v32 r = v16 l ∧ 2 * r.length ≤ l.length + 1 := by
          intro n e
          refine nat_loop hd hl d (j + 1) (by omega) (by omega) (x3 ++ [n]) (h3.append (Dg.cons (by omega) (Dg.nil _))) (by simp; omega) ?_
          show dv _ _ = dv _ _
          have hv' : dv 4294967296 x3 = dv 65536 (l.take (2 * j)) := hv
          rw [dv_append, hn, hv', show 2 * (j + 1) = 2 * j + 1 + 1 by omega, dv_take_succ, dv_take_succ, Int.pow_succ, pow_pair, e]
          simp only [dv]
          grind
        by_cases hlt2 : 2 * j + 1 < l.length
        · obtain ⟨r, q1, q2, q3, q4⟩ := hstep _ rfl
          refine ⟨r, Ev.step (fun k => by simp only [cashbookref01_nat.l0]; rfl) ?_, q2, q3, q4⟩
          rw [ew]
          refine ev_pos (by omega) (ev_pos (by omega) (ev_pos (by omega) (ev_pos (by omega) (ev_pos (by omega) (ev_pos (by omega) ?_)))))
          refine Ev.step (fun k => by simp only [cashbookref01_nat.j0]; rfl) (ev_pos (by omega) ?_)
          rw [ew2, Int.toNat_natCast, Int.toNat_natCast, u32_mod, w64_id (x := 65536 * l.getD (2 * j + 1) 0) (by omega) (by omega), w64_id (by omega) (by omega), Int.emod_eq_of_lt (by omega) (by omega)]
          exact q1
        · have hz : l.getD (2 * j + 1) 0 = 0 := by rw [List.getD_eq_getElem?_getD, List.getElem?_eq_none (by omega)]; rfl
          obtain ⟨r, q1, q2, q3, q4⟩ := hstep (l.getD (2 * j) 0) (by rw [hz]; omega)
          refine ⟨r, Ev.step (fun k => by simp only [cashbookref01_nat.l0]; rfl) ?_, q2, q3, q4⟩
          rw [ew]
          refine ev_pos (by omega) (ev_pos (by omega) (ev_pos (by omega) (ev_neg (by omega) ?_)))
          refine Ev.step (fun k => by simp only [cashbookref01_nat.j0]; rfl) (ev_pos (by omega) ?_)
          rw [ew2, Int.toNat_natCast, u32_mod, Int.emod_eq_of_lt (by omega) (by omega)]
          exact q1
    · refine ⟨x3, Ev.step (fun k => by simp only [cashbookref01_nat.l0]; rfl) (ev_neg (by omega) ev_ret), h3, ?_, by omega⟩
      rw [hv, List.take_of_length_le (by omega)]
theorem nat_ev {l : List Int} (hc : C16 l) (hl : l.length ≤ 1000000) : ∃ r, Ev (fun k => cashbookref01_nat.f k l) r ∧ C32 r ∧ v32 r = v16 l ∧ 2 * r.length ≤ l.length + 1 := by
  obtain ⟨r, h1, h2, h3, h4⟩ := nat_loop hc.dg hl (l.length + 1) 0 (by omega) (by omega) [] (Dg.nil _) rfl rfl
  refine ⟨r, h1, ⟨h2, fun h0 hz => ?_⟩, h3, h4⟩
  have e1 := top_zero_lt K0 h2 h0 hz
  have hp : 0 < r.length := List.length_pos_iff.2 h0
  have hl0 : l ≠ [] := fun e => by
    subst e
    simp at h4; omega
  have e2 := cn_pow_le G0 hc hl0
  have e3 := pow_mono (B := 65536) (by decide) (show 2 * (r.length - 1) ≤ l.length - 1 by omega)
  rw [pow_pair] at e3
  have h3' : dv 4294967296 r = dv 65536 l := h3
  omega
theorem Same_ev {a b : List Int} (hl : a.length ≤ 1000000000) : Ev (fun k => cashbookref01_Same.f k a b) (decide (a = b)) := by
  unfold cashbookref01_Same.f
  by_cases he : a.length = b.length
  · have h : ∀ i, i ≤ a.length → Ev (fun k => cashbookref01_Same.l0 k a b (i : Int)) (decide (a.drop i = b.drop i)) := by
      refine down a.length ?_ ?_
      · rw [List.drop_length, he, List.drop_length]
        exact Ev.step (fun k => by simp only [cashbookref01_Same.l0]; rfl) (ev_neg (by omega) (ev_eq (by simp)))
      · intro i hi ih
        refine Ev.step (fun k => by simp only [cashbookref01_Same.l0]; rfl) (ev_pos (by omega) (ev_pos (by omega) (ev_pos (by omega) (ev_pos (by omega) ?_))))
        rw [Int.toNat_natCast, inc64 (by omega), drop_cons (show i < a.length from hi) 0, drop_cons (show i < b.length by omega) 0]
        by_cases hg : a.getD i 0 = b.getD i 0
        · refine ev_pos hg ?_
          rw [hg]
          simpa using ih
        · exact ev_neg hg (ev_eq (by rw [decide_eq_false (fun h => hg (List.cons.inj h).1)]))
    have := h 0 (by omega)
    rw [List.drop_zero, List.drop_zero] at this
    exact ev_pos (by omega) this
  · refine ev_neg (by omega) (ev_eq ?_)
    exact (decide_eq_false (fun h => he (by rw [h]))).symm
theorem OfR_ev {u : Int} (h0 : 0 ≤ u) (h1 : u < 18446744073709551616) : ∃ r, Ev (fun k => cashbookref01_Of.f k u) r ∧ C32 r ∧ v32 r = u ∧ r.length ≤ 2 := by
  have e : u / 65536 / 65536 = u / 4294967296 := by omega
  obtain ⟨t, t1, t2, t3, t4⟩ := trimR_ev (l := [u % 65536, (u / 65536) % 65536, (u / 4294967296) % 65536, u / 281474976710656]) (Dg.cons (by omega) (Dg.cons (by omega) (Dg.cons (by omega) (Dg.cons (by omega) (Dg.nil _))))) (by simp)
  obtain ⟨r, r1, r2, r3, r4⟩ := nat_ev t2 (by simp at t4; omega)
  refine ⟨r, ?_, r2, ?_, by simp at t4; omega⟩
  · unfold cashbookref01_Of.f
    rw [tmod_pos h0, tdiv_pos h0, tdiv_pos h0, tdiv_pos h0, u64_id (n := u / 65536) (by omega) (by omega), u64_id (n := u / 4294967296) (by omega) (by omega), u64_id (n := u / 281474976710656) (by omega) (by omega), tmod_pos (by omega), tmod_pos (by omega), w64_id (by omega) (by omega), w64_id (by omega) (by omega), w64_id (by omega) (by omega), w64_id (by omega) (by omega)]
    exact ev_call t1 (ev_call r1 ev_ret)
  · rw [r3, t3]
    show dv _ _ = _
    simp only [dv]
    omega
end Go.Proofs.YtjhljcnjafbkfaaDoor.Pure
end
section
set_option linter.unusedVariables false
namespace Go.Proofs.YtjhljcnjafbkfaaDoor.Pure
open Go.RowKit Go.Proofs.YtjhljcnjafbkfaaDoor.X Go.Proofs.YtjhljcnjafbkfaaDoor.L
def isL (y : Int) : Prop := y % 4 = 0 ∧ (y % 100 ≠ 0 ∨ y % 400 = 0)
instance (y : Int) : Decidable (isL y) := by unfold isL; infer_instance
def lp (y : Int) : Int := if isL y then 1 else 0
theorem lp_cases (y : Int) : (isL y ∧ lp y = 1) ∨ (¬ isL y ∧ lp y = 0) := by
  unfold lp
  by_cases h : isL y
  · exact .inl ⟨h, if_pos h⟩
  · exact .inr ⟨h, if_neg h⟩
def ys (y : Int) : Int := 365 * y + (y - 1) / 4 - (y - 1) / 100 + (y - 1) / 400 - 730484
def cum (m : Int) : Int := if m = 1 then 0 else if m = 2 then 31 else if m = 3 then 59 else if m = 4 then 90 else if m = 5 then 120 else if m = 6 then 151 else if m = 7 then 181 else if m = 8 then 212 else if m = 9 then 243 else if m = 10 then 273 else if m = 11 then 304 else if m = 12 then 334 else 365
def cm (y m : Int) : Int := cum m + if 2 < m then lp y else 0
theorem month_cases {m : Int} (h1 : 1 ≤ m) (h2 : m ≤ 12) : m = 1 ∨ m = 2 ∨ m = 3 ∨ m = 4 ∨ m = 5 ∨ m = 6 ∨ m = 7 ∨ m = 8 ∨ m = 9 ∨ m = 10 ∨ m = 11 ∨ m = 12 := by omega
theorem ys_succ (y : Int) : ys (y + 1) = ys y + 365 + lp y := by
  unfold ys
  rcases lp_cases y with ⟨h, e⟩ | ⟨h, e⟩ <;> rw [e] <;> unfold isL at h <;> omega
theorem ys_mono {y z : Int} (h : y ≤ z) : ys y ≤ ys z := by unfold ys; omega
theorem lp_b (y : Int) : 0 ≤ lp y ∧ lp y ≤ 1 := by rcases lp_cases y with ⟨_, e⟩ | ⟨_, e⟩ <;> omega
structure V (y m d : Int) : Prop where
  m1 : 1 ≤ m
  m2 : m ≤ 12
  d1 : 1 ≤ d
  d2 : d ≤ cm y (m + 1) - cm y m
def dn (y m d : Int) : Int := ys y + cm y m + d - 1
theorem cm_one (y : Int) : cm y 1 = 0 := by simp [cm, cum]
theorem cm_end (y : Int) : cm y 13 = 365 + lp y := by simp [cm, cum]
theorem ml_eq (y m : Int) (h1 : 1 ≤ m) (h2 : m ≤ 12) : cm y (m + 1) - cm y m = if m = 2 then 28 + lp y else if m = 4 ∨ m = 6 ∨ m = 9 ∨ m = 11 then 30 else 31 := by
  rcases month_cases h1 h2 with h | h | h | h | h | h | h | h | h | h | h | h <;> subst h <;> simp [cm, cum] <;> omega
theorem cm_step (y m : Int) (h1 : 1 ≤ m) (h2 : m ≤ 12) : cm y m + 28 ≤ cm y (m + 1) := by
  have h := ml_eq y m h1 h2
  have hl := lp_b y
  split at h
  · omega
  · split at h <;> omega
theorem cm_mono {y m n : Int} (h1 : 1 ≤ m) (h : m ≤ n) (h2 : n ≤ 13) : cm y m ≤ cm y n := by
  obtain ⟨k, rfl⟩ : ∃ k : Nat, n = m + (k : Int) := ⟨(n - m).toNat, by omega⟩
  clear h
  induction k with
  | zero => rw [show m + ((0 : Nat) : Int) = m by omega]; exact Int.le_refl _
  | succ k ih =>
    have h3 := ih (by omega)
    have h4 := cm_step y (m + (k : Int)) (by omega) (by omega)
    rw [show m + ((k + 1 : Nat) : Int) = m + (k : Int) + 1 by omega]
    omega
theorem V.year {y m d : Int} (h : V y m d) : ys y ≤ dn y m d ∧ dn y m d < ys (y + 1) := by
  have h1 := cm_mono (y := y) (m := 1) (n := m) (Int.le_refl _) h.m1 (by have := h.m2; omega)
  have h2 := cm_mono (y := y) (m := m + 1) (n := 13) (by have := h.m1; omega) (by have := h.m2; omega) (Int.le_refl _)
  rw [cm_one] at h1
  rw [cm_end] at h2
  have h3 := h.d1
  have h4 := h.d2
  rw [ys_succ]
  unfold dn
  omega
theorem yr_one {x y z : Int} (h1 : ys y ≤ x) (h2 : x < ys (y + 1)) (h3 : ys z ≤ x) (h4 : x < ys (z + 1)) : y = z := by
  rcases Int.lt_trichotomy y z with h | h | h
  · have := ys_mono (show y + 1 ≤ z by omega); omega
  · exact h
  · have := ys_mono (show z + 1 ≤ y by omega); omega
theorem V.one {y m d z n e : Int} (h : V y m d) (k : V z n e) (he : dn y m d = dn z n e) : y = z ∧ m = n ∧ d = e := by
  have h1 := h.year
  have k1 := k.year
  rw [he] at h1
  obtain rfl := yr_one h1.1 h1.2 k1.1 k1.2
  have d1 := h.d1
  have d2 := h.d2
  have e1 := k.d1
  have e2 := k.d2
  have m1 := h.m1
  have m2 := h.m2
  have n1 := k.m1
  have n2 := k.m2
  unfold dn at he
  rcases Int.lt_trichotomy m n with hl | hl | hl
  · have := cm_mono (y := y) (m := m + 1) (n := n) (by omega) (by omega) (by omega); omega
  · subst hl; exact ⟨rfl, rfl, by omega⟩
  · have := cm_mono (y := y) (m := n + 1) (n := m) (by omega) (by omega) (by omega); omega
theorem yr_b {x y : Int} (h1 : -50000 ≤ x) (h2 : x ≤ 50000) (h3 : ys y ≤ x) (h4 : x < ys (y + 1)) : 1860 ≤ y ∧ y ≤ 2140 := by
  constructor
  · refine Int.le_of_not_gt fun h => ?_
    have := ys_mono (show y + 1 ≤ 1860 by omega)
    have e : ys 1860 = -51134 := by decide
    omega
  · refine Int.le_of_not_gt fun h => ?_
    have := ys_mono (show 2141 ≤ y by omega)
    have e : ys 2141 = 51500 := by decide
    omega
theorem isL_iff (y : Int) : isL y ↔ (y % 4 = 0 ∧ (y % 100 ≠ 0 ∨ y % 400 = 0)) := Iff.rfl
theorem Leap_eq {y : Int} (h : 0 ≤ y) : date_Leap.f y = some (decide (isL y)) := by
  have hi := isL_iff y
  unfold date_Leap.f
  rw [tmod_pos h, tmod_pos h, tmod_pos h]
  by_cases h1 : y % 4 = 0
  · rw [if_pos h1]
    by_cases h2 : y % 100 = 0
    · rw [if_pos h2]; exact congrArg some (decide_eq_decide.2 (by rw [hi]; omega))
    · rw [if_neg h2]; exact congrArg some (decide_eq_true (hi.2 ⟨h1, .inl h2⟩)).symm
  · rw [if_neg h1]; exact congrArg some (decide_eq_false (fun h => h1 (hi.1 h).1)).symm
theorem Long_eq {y : Int} (h : 0 ≤ y) : cashbookref04_Long.f y = some (decide (isL y)) := by
  have hi := isL_iff y
  unfold cashbookref04_Long.f
  rw [tmod_pos h, tmod_pos h, tmod_pos h]
  by_cases h1 : y % 4 = 0
  · rw [if_pos h1]
    by_cases h2 : y % 100 = 0
    · rw [if_pos h2]; exact congrArg some (decide_eq_decide.2 (by rw [hi]; omega))
    · rw [if_neg h2]; exact congrArg some (decide_eq_true (hi.2 ⟨h1, .inl h2⟩)).symm
  · rw [if_neg h1]; exact congrArg some (decide_eq_decide.2 (by rw [hi]; omega))
theorem year_eq {y : Int} (h : 0 ≤ y) : cashbookref04_year.f y = some (365 + lp y) := by
  unfold cashbookref04_year.f
  rw [Long_eq h, Option.bind_some]
  rcases lp_cases y with ⟨h1, e⟩ | ⟨h1, e⟩
  · rw [if_pos (decide_eq_true h1), e]; rfl
  · rw [if_neg (by simpa using h1), e]; rfl
theorem length_eq {y m : Int} (h : 0 ≤ y) (h1 : 1 ≤ m) (h2 : m ≤ 12) : date_length.f y m = some (cm y (m + 1) - cm y m) := by
  rw [ml_eq y m h1 h2]
  unfold date_length.f
  rw [Leap_eq h]
  rcases lp_cases y with ⟨h3, e⟩ | ⟨h3, e⟩ <;> rw [e] <;>
    rcases month_cases h1 h2 with h | h | h | h | h | h | h | h | h | h | h | h <;> subst h <;> simp [h3]
theorem Days_ev {y m : Int} (h : 0 ≤ y) (h1 : 1 ≤ m) (h2 : m ≤ 12) : Ev (fun k => cashbookref04_Days.f k y m) (cm y (m + 1) - cm y m) := by
  rw [ml_eq y m h1 h2]
  unfold cashbookref04_Days.f
  have j : ∀ b : Bool, Ev (fun k => cashbookref04_Days.j0 k b) (if b = true then 30 else 31) := fun b => by
    cases b with
    | true => exact Ev.step (fun k => by simp only [cashbookref04_Days.j0]; rfl) (ev_pos (c := true = true) rfl ev_ret)
    | false => exact Ev.step (fun k => by simp only [cashbookref04_Days.j0]; rfl) (ev_neg (by decide) ev_ret)
  by_cases e2 : m = 2
  · subst e2
    refine ev_pos rfl (ev_pure (Long_eq h) ?_)
    rcases lp_cases y with ⟨h3, e⟩ | ⟨h3, e⟩ <;> rw [e]
    · exact ev_pos (decide_eq_true h3) ev_ret
    · exact ev_neg (by simpa using h3) ev_ret
  · rw [if_neg e2]
    refine ev_neg e2 ?_
    by_cases e4 : m = 4
    · subst e4; exact ev_pos rfl (j true)
    · refine ev_neg e4 ?_
      by_cases e6 : m = 6
      · subst e6; exact ev_pos rfl (j true)
      · refine ev_neg e6 ?_
        by_cases e9 : m = 9
        · subst e9; exact ev_pos rfl (j true)
        · refine ev_neg e9 ?_
          by_cases e11 : m = 11
          · subst e11; exact j true
          · have := j (decide (m = 11))
            rw [decide_eq_false e11, if_neg (by decide)] at this
            rw [decide_eq_false e11, if_neg (by omega)]
            exact this
theorem civ_end {r3 t S : Int} (hS : S = (r3 - t) / 365) (h0 : 0 ≤ r3) (h1 : r3 ≤ 1460) (ht : (t = 0 ∧ r3 ≤ 1459) ∨ (t = 1 ∧ 1364 ≤ r3)) : 0 ≤ S ∧ S ≤ 3 ∧ 0 ≤ r3 - 365 * S ∧ r3 - 365 * S ≤ 365 ∧ (r3 - 365 * S = 365 → S = 3 ∧ r3 = 1460) := by omega
theorem civ_a {r : Int} (h0 : 0 ≤ r) (h1 : r < 146097) : ∃ C Q r3 t e : Int, 0 ≤ C ∧ C ≤ 3 ∧ 0 ≤ Q ∧ Q ≤ 24 ∧ 0 ≤ r3 ∧ r3 ≤ 1460 ∧ r = 36524 * C + 1461 * Q + r3 ∧ r / 1460 = 25 * C + Q + t ∧ r / 36524 = C + e ∧ r / 146096 = e ∧
    ((t = 0 ∧ r3 ≤ 1459) ∨ (t = 1 ∧ 1364 ≤ r3)) ∧ (Q = 24 → r3 = 1460 → C = 3) := by
  by_cases h : r = 146096
  · subst h; exact ⟨3, 24, 1460, 1, 1, by decide⟩
  · have e0 : r / 146096 = 0 := by omega
    obtain ⟨C, hC⟩ : ∃ C, C = r / 36524 := ⟨_, rfl⟩
    obtain ⟨r2, hr2⟩ : ∃ r2, r2 = r - 36524 * C := ⟨_, rfl⟩
    have c1 : 0 ≤ C ∧ C ≤ 3 ∧ 0 ≤ r2 ∧ r2 ≤ 36523 := by omega
    obtain ⟨Q, hQ⟩ : ∃ Q, Q = r2 / 1461 := ⟨_, rfl⟩
    obtain ⟨r3, hr3⟩ : ∃ r3, r3 = r2 - 1461 * Q := ⟨_, rfl⟩
    have q1 : 0 ≤ Q ∧ Q ≤ 24 ∧ 0 ≤ r3 ∧ r3 ≤ 1460 := by omega
    have hr : r = 36524 * C + 1461 * Q + r3 := by omega
    clear hC hQ hr3
    refine ⟨C, Q, r3, r / 1460 - 25 * C - Q, 0, c1.1, c1.2.1, q1.1, q1.2.1, q1.2.2.1, q1.2.2.2, hr, by omega, by omega, e0, ?_, fun a b => by omega⟩
    clear e0
    omega
theorem civ {r Y : Int} (h0 : 0 ≤ r) (h1 : r < 146097) (hY : Y = (r - r / 1460 + r / 36524 - r / 146096) / 365) :
    0 ≤ Y ∧ Y ≤ 399 ∧ 0 ≤ r - (365 * Y + Y / 4 - Y / 100) ∧ r - (365 * Y + Y / 4 - Y / 100) ≤ 365 ∧ (r - (365 * Y + Y / 4 - Y / 100) = 365 → isL (Y + 1)) := by
  obtain ⟨C, Q, r3, t, e, c1, c2, q1, q2, r1, r2, hr, a1, a2, a3, ht, hq⟩ := civ_a h0 h1
  rw [a1, a2, a3] at hY
  clear a1 a2 a3
  obtain ⟨S, hS⟩ : ∃ S, S = (r3 - t) / 365 := ⟨_, rfl⟩
  have hY2 : Y = 100 * C + 4 * Q + S := by
    rw [hY, show r - (25 * C + Q + t) + (C + e) - e = (r3 - t) + 365 * (100 * C + 4 * Q) by omega, Int.add_mul_ediv_left _ _ (by decide), ← hS]
    omega
  obtain ⟨s1, s2, s3, s4, s5⟩ := civ_end hS r1 r2 ht
  clear hS hY ht
  have hY4 : Y / 4 = 25 * C + Q := by omega
  have hY100 : Y / 100 = C := by omega
  have hd : r - (365 * Y + Y / 4 - Y / 100) = r3 - 365 * S := by rw [hY4, hY100, hY2, hr]; omega
  rw [hd]
  refine ⟨by omega, by omega, s3, s4, fun h => ?_⟩
  obtain ⟨h3, h4⟩ := s5 h
  clear hd s5 s3 s4 h
  unfold isL
  by_cases h24 : Q = 24
  · have := hq h24 h4
    exact ⟨by omega, .inr (by omega)⟩
  · exact ⟨by omega, .inl (by omega)⟩
def bef (i : Int) : Int := gt1.getD i.toNat 0
theorem bef_tab : ∀ i : Fin 11, bef i.val + 59 = cum (i.val + 3) ∧ 0 ≤ bef i.val ∧ bef i.val ≤ 306 := by decide
theorem bef_c {i : Int} (y : Int) (h0 : 0 ≤ i) (h1 : i ≤ 10) : bef i + 59 + lp y = cm y (i + 3) ∧ 0 ≤ bef i ∧ bef i ≤ 306 := by
  obtain ⟨k, rfl⟩ := Int.eq_ofNat_of_zero_le h0
  have h := bef_tab ⟨k, by omega⟩
  refine ⟨?_, h.2⟩
  unfold cm
  rw [if_pos (by omega)]
  have := h.1
  simp only at this
  omega
theorem bef_0 : bef 0 = 0 := by decide
theorem bef_10 : bef 10 = 306 := by decide
theorem bef_11 : bef 11 = 337 := by decide
theorem split_end {c Y d i : Int} {n : Int} (hi0 : 0 ≤ i) (hi1 : i ≤ 11) (hc : 4 ≤ c ∧ c ≤ 5) (hY : 0 ≤ Y ∧ Y ≤ 399) (hd : 0 ≤ d ∧ d ≤ 365) (h1 : bef i ≤ d) (h2 : i < 11 → d < bef (i + 1)) (hl : d = 365 → isL (Y + 1))
    (hn : n + 730425 = 146097 * c + (365 * Y + Y / 4 - Y / 100) + d) :
    ∃ y m e, V y m e ∧ dn y m e = n ∧ Ev (fun k => if i < 12 then (if 12 < wrap64 (i + 3) then date_Split.j0 k (wrap64 (wrap64 (Y + wrap64 (400 * c)) + 1)) (wrap64 (wrap64 (i + 3) - 12)) (wrap64 (wrap64 (d - bef i) + 1)) else date_Split.j0 k (wrap64 (Y + wrap64 (400 * c))) (wrap64 (i + 3)) (wrap64 (wrap64 (d - bef i) + 1))) else none) (y, m, e, 0) := by
  have hb : 0 ≤ bef i ∧ bef i ≤ 337 := by
    by_cases h : i = 11
    · subst h; rw [bef_11]; decide
    · have := bef_c 0 hi0 (by omega); omega
  obtain ⟨b, hbe⟩ : ∃ b, b = bef i := ⟨_, rfl⟩
  obtain ⟨y, hy⟩ : ∃ y, y = Y + 400 * c := ⟨_, rfl⟩
  have w1 : wrap64 (i + 3) = i + 3 := wrap_id (by omega) (by omega)
  have w2 : wrap64 (400 * c) = 400 * c := wrap_id (by omega) (by omega)
  have w3 : wrap64 (Y + 400 * c) = y := by rw [wrap_id (by omega) (by omega), hy]
  have w4 : wrap64 (y + 1) = y + 1 := wrap_id (by omega) (by omega)
  have w5 : wrap64 (i + 3 - 12) = i - 9 := by rw [wrap_id (by omega) (by omega)]; omega
  have w6 : wrap64 (d - bef i) = d - bef i := wrap_id (by omega) (by omega)
  have w7 : wrap64 (d - bef i + 1) = d - bef i + 1 := wrap_id (by omega) (by omega)
  rw [w1, w2, w3, w4, w5, w6, w7]
  have jj : ∀ a b e : Int, Ev (fun k => date_Split.j0 k a b e) (a, b, e, 0) := fun a b e => Ev.step (fun k => by simp only [date_Split.j0]) ev_ret
  have hk : ys y + lp y = 365 * y + y / 4 - y / 100 + y / 400 - 730484 := by
    have := ys_succ y
    have e : ys (y + 1) = 365 * y + 365 + y / 4 - y / 100 + y / 400 - 730484 := by unfold ys; omega
    omega
  have hn2 : n = ys y + lp y + 59 + d := by
    have h4 : y / 4 = Y / 4 + 100 * c := by omega
    have h5 : y / 100 = Y / 100 + 4 * c := by omega
    have h6 : y / 400 = c := by omega
    rw [hk, h4, h5, h6]
    omega
  clear hn hk
  by_cases hg : 12 < i + 3
  · have hys := ys_succ y
    have hlz := lp_b (y + 1)
    by_cases h : i = 10
    · subst h
      have h3 := h2 (by omega)
      rw [show (10 : Int) + 1 = 11 from rfl, bef_11] at h3
      rw [bef_10] at h1 ⊢
      refine ⟨y + 1, 10 - 9, d - 306 + 1, ⟨by omega, by omega, by omega, ?_⟩, ?_, ev_pos (by omega) (ev_pos hg (jj _ _ _))⟩
      · have := ml_eq (y + 1) (10 - 9) (by omega) (by omega)
        simp at this ⊢
        omega
      · have := cm_one (y + 1)
        unfold dn
        rw [show (10 : Int) - 9 = 1 from rfl, this]
        omega
    · obtain rfl : i = 11 := by omega
      rw [bef_11] at h1 ⊢
      have hc2 : cm (y + 1) 2 = 31 := by simp [cm, cum]
      refine ⟨y + 1, 11 - 9, d - 337 + 1, ⟨by omega, by omega, by omega, ?_⟩, ?_, ev_pos (by omega) (ev_pos hg (jj _ _ _))⟩
      · have h5 := ml_eq (y + 1) 2 (by omega) (by omega)
        rw [if_pos rfl] at h5
        rw [show (11 : Int) - 9 = 2 from rfl, h5]
        rcases lp_cases (y + 1) with ⟨_, e⟩ | ⟨h3, e⟩
        · omega
        · have : d ≠ 365 := fun h => h3 (by
            have := (isL_iff (Y + 1)).1 (hl h)
            rw [isL_iff, hy]
            omega)
          omega
      · unfold dn
        rw [show (11 : Int) - 9 = 2 from rfl, hc2]
        omega
  · have h3 := h2 (by omega)
    have c1 := bef_c y hi0 (by omega)
    have c2 := bef_c (i := i + 1) y (by omega) (by omega)
    rw [show i + 1 + 3 = i + 3 + 1 by omega] at c2
    refine ⟨y, i + 3, d - bef i + 1, ⟨by omega, by omega, by omega, by omega⟩, ?_, ev_pos (by omega) (ev_neg hg (jj _ _ _))⟩
    unfold dn
    omega
theorem split_loop {c Y d : Int} {n : Int} (hc : 4 ≤ c ∧ c ≤ 5) (hY : 0 ≤ Y ∧ Y ≤ 399) (hd : 0 ≤ d ∧ d ≤ 365) (hl : d = 365 → isL (Y + 1))
    (hn : n + 730425 = 146097 * c + (365 * Y + Y / 4 - Y / 100) + d) : ∀ j : Nat, (j : Int) ≤ 11 → ((j : Int) < 11 → d < bef ((j : Int) + 1)) →
    ∃ y m e, V y m e ∧ dn y m e = n ∧ Ev (fun k => date_Split.l0 k d c Y (j : Int)) (y, m, e, 0)
  | 0, hj, h2 => by
    obtain ⟨y, m, e, h3, h4, h5⟩ := split_end (i := 0) (by omega) (by omega) hc hY hd (by rw [bef_0]; omega) (fun h => h2 (by omega)) hl hn
    refine ⟨y, m, e, h3, h4, Ev.step (fun k => by simp only [date_Split.l0]; rfl) (ev_pos (by omega) (ev_pos (by omega) (ev_neg ?_ h5)))⟩
    show ¬ d < bef 0
    rw [bef_0]
    omega
  | j + 1, hj, h2 => by
    by_cases hb : d < bef ((j + 1 : Nat) : Int)
    · obtain ⟨y, m, e, h3, h4, h5⟩ := split_loop hc hY hd hl hn j (by omega) (fun h => by rw [show ((j : Int) + 1) = ((j + 1 : Nat) : Int) by omega]; exact hb)
      refine ⟨y, m, e, h3, h4, Ev.step (fun k => by simp only [date_Split.l0]; rfl) (ev_pos (by omega) (ev_pos (by omega) (ev_pos hb ?_)))⟩
      rw [show wrap64 (((j + 1 : Nat) : Int) - 1) = (j : Int) by unfold wrap64; omega]
      exact h5
    · obtain ⟨y, m, e, h3, h4, h5⟩ := split_end (i := ((j + 1 : Nat) : Int)) (by omega) hj hc hY hd (by omega) h2 hl hn
      exact ⟨y, m, e, h3, h4, Ev.step (fun k => by simp only [date_Split.l0]; rfl) (ev_pos (by omega) (ev_pos (by omega) (ev_neg hb h5)))⟩
theorem DRight_eq (n : Int) : date_Right.f n = some (decide (-50000 ≤ n ∧ n ≤ 50000)) := by
  unfold date_Right.f
  by_cases h : -50000 ≤ n
  · rw [if_pos h]; congr 1; rw [decide_eq_decide]; omega
  · rw [if_neg h]; congr 1; exact (decide_eq_false (fun q => h q.1)).symm
theorem Split_ev {n : Int} (h1 : -50000 ≤ n) (h2 : n ≤ 50000) : ∃ y m d, V y m d ∧ dn y m d = n ∧ Ev (fun k => date_Split.f k n) (y, m, d, 0) := by
  obtain ⟨c, hc⟩ : ∃ c, c = (n + 730425) / 146097 := ⟨_, rfl⟩
  obtain ⟨r, hr⟩ : ∃ r, r = (n + 730425) % 146097 := ⟨_, rfl⟩
  obtain ⟨Y, hY⟩ : ∃ Y, Y = (r - r / 1460 + r / 36524 - r / 146096) / 365 := ⟨_, rfl⟩
  obtain ⟨y1, y2, y3, y4, y5⟩ := civ (r := r) (by omega) (by omega) hY
  obtain ⟨d, hd⟩ : ∃ d, d = r - (365 * Y + Y / 4 - Y / 100) := ⟨_, rfl⟩
  rw [← hd] at y3 y4 y5
  obtain ⟨y, m, e, h3, h4, h5⟩ := split_loop (c := c) (Y := Y) (d := d) (n := n) (by omega) ⟨y1, y2⟩ ⟨y3, y4⟩ y5 (by omega) 11 (by decide) (fun h => by omega)
  refine ⟨y, m, e, h3, h4, ?_⟩
  unfold date_Split.f
  refine ev_pure (DRight_eq n) (ev_pos (decide_eq_true ⟨h1, h2⟩) ?_)
  have w1 : wrap64 (wrap64 n + 730425) = n + 730425 := by rw [wrap_id (x := n) (by omega) (by omega), wrap_id (by omega) (by omega)]
  have w2 : Int.tmod (n + 730425) 146097 = r := by rw [tmod_pos (by omega), hr]
  have w3 : wrap64 (Int.tdiv (n + 730425) 146097) = c := by rw [tdiv_pos (by omega), ← hc, wrap_id (by omega) (by omega)]
  have w4 : ∀ a : Int, 0 < a → a ≤ 1000000 → wrap64 (Int.tdiv r a) = r / a := fun a h0 h1 => by
    have e0 : 0 ≤ r / a := Int.ediv_nonneg (by omega) (by omega)
    have e1 : r / a ≤ r := Int.ediv_le_self _ (by omega)
    rw [tdiv_pos (by omega), wrap_id (by omega) (by omega)]
  rw [w1, w2, w3, w4 1460 (by decide) (by decide), w4 36524 (by decide) (by decide), w4 146096 (by decide) (by decide)]
  have w5 : wrap64 (Int.tdiv (wrap64 (wrap64 (wrap64 (r - r / 1460) + r / 36524) - r / 146096)) 365) = Y := by
    rw [wrap_id (x := r - r / 1460) (by omega) (by omega), wrap_id (x := r - r / 1460 + r / 36524) (by omega) (by omega), wrap_id (x := r - r / 1460 + r / 36524 - r / 146096) (by omega) (by omega), tdiv_pos (by omega), ← hY, wrap_id (by omega) (by omega)]
  rw [w5]
  have w6 : wrap64 (r - wrap64 (wrap64 (wrap64 (Y * 365) + wrap64 (Int.tdiv Y 4)) - wrap64 (Int.tdiv Y 100))) = d := by
    rw [tdiv_pos y1, tdiv_pos y1, wrap_id (x := Y * 365) (by omega) (by omega), wrap_id (x := Y / 4) (by omega) (by omega), wrap_id (x := Y / 100) (by omega) (by omega), wrap_id (x := Y * 365 + Y / 4) (by omega) (by omega), wrap_id (x := Y * 365 + Y / 4 - Y / 100) (by omega) (by omega), wrap_id (by omega) (by omega), hd]
    omega
  rw [w6]
  exact h5
end Go.Proofs.YtjhljcnjafbkfaaDoor.Pure
end
section
set_option linter.unusedVariables false
namespace Go.Proofs.YtjhljcnjafbkfaaDoor.Pure
open Go.RowKit Go.Proofs.YtjhljcnjafbkfaaDoor.X Go.Proofs.YtjhljcnjafbkfaaDoor.L
abbrev P3 := S56
theorem parts2 {x y : Int} (hy : 0 ≤ y) {z : P3} : ∀ (j : Nat) (m n : Int), 13 - m = (j : Int) → 1 ≤ m → 0 ≤ n → n + cm y m < 365 + lp y → ys y + cm y m + n = x →
    ∃ m' d, V y m' d ∧ dn y m' d = x ∧ Ev (fun k => cashbookref04_Parts.l2 k n y m z) (⟨y, m', d⟩ : P3)
  | 0, m, n, hj, hm, hn, hb, hx => by
    obtain rfl : m = 13 := by omega
    rw [cm_end] at hb
    omega
  | j + 1, m, n, hj, hm, hn, hb, hx => by
    have hl := lp_b y
    have hD := Days_ev (y := y) (m := m) hy hm (by omega)
    have hml := ml_eq y m hm (by omega)
    have hc0 := cm_mono (y := y) (m := 1) (n := m) (by omega) hm (by omega)
    rw [cm_one] at hc0
    by_cases hlt : cm y (m + 1) - cm y m ≤ n
    · obtain ⟨m', d, h1, h2, h3⟩ := parts2 (x := x) (y := y) (z := z) hy j (m + 1) (n - (cm y (m + 1) - cm y m)) (by omega) (by omega) (by omega) (by omega) (by omega)
      refine ⟨m', d, h1, h2, Ev.step (fun k => by simp only [cashbookref04_Parts.l2]; rfl) (ev_call hD (ev_pos hlt ?_))⟩
      have hs := cm_step y m hm (by omega)
      rw [wrap_id (x := n - (cm y (m + 1) - cm y m)) (by omega) (by omega), wrap_id (x := m + 1) (by omega) (by omega)]
      exact h3
    · refine ⟨m, n + 1, ⟨hm, by omega, by omega, by omega⟩, by unfold dn; omega, Ev.step (fun k => by simp only [cashbookref04_Parts.l2]; rfl) (ev_call hD (ev_neg hlt (ev_eq ?_)))⟩
      have hs := cm_mono (y := y) (m := m + 1) (n := 13) (by omega) (by omega) (by omega)
      rw [cm_end] at hs
      have h0 := cm_mono (y := y) (m := 1) (n := m) (by omega) hm (by omega)
      rw [cm_one] at h0
      rw [wrap_id (x := n + 1) (by omega) (by omega)]
theorem ys_2141 : ys 2141 = 51500 := by decide
theorem ys_1860 : ys 1860 = -51134 := by decide
theorem ys_2000 : ys 2000 = 0 := by decide
theorem parts1 {x : Int} (h1 : -50000 ≤ x) (h2 : x ≤ 50000) {z : P3} : ∀ (j : Nat) (n y : Int), n ≤ (j : Int) → 0 ≤ n → 1860 ≤ y → ys y + n = x →
    ∃ y' m d, V y' m d ∧ dn y' m d = x ∧ Ev (fun k => cashbookref04_Parts.l1 k n y z) (⟨y', m, d⟩ : P3) := by
  intro j
  induction j with
  | zero =>
    intro n y hj hn hy hx
    have hl := lp_b y
    obtain ⟨m, d, a1, a2, a3⟩ := parts2 (x := x) (y := y) (z := z) (by omega) 12 1 n (by omega) (by omega) hn (by rw [cm_one]; omega) (by rw [cm_one]; omega)
    exact ⟨y, m, d, a1, a2, Ev.step (fun k => by simp only [cashbookref04_Parts.l1]; rfl) (ev_pure (year_eq (by omega)) (ev_neg (show ¬ 365 + lp y ≤ n by omega) a3))⟩
  | succ j ih =>
    intro n y hj hn hy hx
    have hl := lp_b y
    by_cases h : 365 + lp y ≤ n
    · have hy2 : y ≤ 2140 := by
        refine Int.le_of_not_gt fun h' => ?_
        have := ys_mono (show 2141 ≤ y by omega)
        rw [ys_2141] at this
        omega
      obtain ⟨y', m, d, a1, a2, a3⟩ := ih (n - (365 + lp y)) (y + 1) (by omega) (by omega) (by omega) (by rw [ys_succ]; omega)
      refine ⟨y', m, d, a1, a2, Ev.step (fun k => by simp only [cashbookref04_Parts.l1]; rfl) (ev_pure (year_eq (by omega)) (ev_pos h ?_))⟩
      have hyl : ys 1860 ≤ ys y := ys_mono hy
      rw [ys_1860] at hyl
      rw [wrap_id (x := n - (365 + lp y)) (by omega) (by omega), wrap_id (x := y + 1) (by omega) (by omega)]
      exact a3
    · obtain ⟨m, d, a1, a2, a3⟩ := parts2 (x := x) (y := y) (z := z) (by omega) 12 1 n (by omega) (by omega) hn (by rw [cm_one]; omega) (by rw [cm_one]; omega)
      exact ⟨y, m, d, a1, a2, Ev.step (fun k => by simp only [cashbookref04_Parts.l1]; rfl) (ev_pure (year_eq (by omega)) (ev_neg h a3))⟩
theorem parts0 {x : Int} (h1 : -50000 ≤ x) (h2 : x ≤ 50000) {z : P3} : ∀ (j : Nat) (n y : Int), -n ≤ (j : Int) → 1860 ≤ y → y ≤ 2000 → ys y + n = x →
    ∃ y' m d, V y' m d ∧ dn y' m d = x ∧ Ev (fun k => cashbookref04_Parts.l0 k n y z) (⟨y', m, d⟩ : P3) := by
  intro j
  induction j with
  | zero =>
    intro n y hj hy hy2 hx
    obtain ⟨y', m, d, a1, a2, a3⟩ := parts1 h1 h2 (z := z) n.toNat n y (by omega) (by omega) hy hx
    exact ⟨y', m, d, a1, a2, Ev.step (fun k => by simp only [cashbookref04_Parts.l0]; rfl) (ev_neg (by omega) a3)⟩
  | succ j ih =>
    intro n y hj hy hy2 hx
    by_cases h : n < 0
    · have hy3 : 1861 ≤ y := by
        refine Int.le_of_not_gt fun h' => ?_
        obtain rfl : y = 1860 := by omega
        rw [ys_1860] at hx
        omega
      have hl := lp_b (y - 1)
      have hs := ys_succ (y - 1)
      rw [show y - 1 + 1 = y by omega] at hs
      obtain ⟨y', m, d, a1, a2, a3⟩ := ih (n + (365 + lp (y - 1))) (y - 1) (by omega) (by omega) (by omega) (by omega)
      have hyl : ys y ≤ ys 2000 := ys_mono hy2
      rw [ys_2000] at hyl
      refine ⟨y', m, d, a1, a2, Ev.step (fun k => by simp only [cashbookref04_Parts.l0]; rfl) (ev_pos h ?_)⟩
      rw [wrap_id (x := y - 1) (by omega) (by omega)]
      refine ev_pure (year_eq (by omega)) ?_
      have hyl2 : ys 1860 ≤ ys y := ys_mono hy
      rw [ys_1860] at hyl2
      rw [wrap_id (x := n + (365 + lp (y - 1))) (by omega) (by omega)]
      exact a3
    · obtain ⟨y', m, d, a1, a2, a3⟩ := parts1 h1 h2 (z := z) n.toNat n y (by omega) (by omega) hy hx
      exact ⟨y', m, d, a1, a2, Ev.step (fun k => by simp only [cashbookref04_Parts.l0]; rfl) (ev_neg h a3)⟩
structure Day (x y m d : Int) : Prop where
  v : V y m d
  e : dn y m d = x
  y1 : 1860 ≤ y
  y2 : y ≤ 2140
  s : Ev (fun k => date_Split.f k x) (y, m, d, 0)
  p : Ev (fun k => cashbookref04_Parts.f k x) (⟨y, m, d⟩ : P3)
theorem day_of {x : Int} (h1 : -50000 ≤ x) (h2 : x ≤ 50000) : ∃ y m d, Day x y m d := by
  obtain ⟨y, m, d, a1, a2, a3⟩ := Split_ev h1 h2
  obtain ⟨y', m', d', b1, b2, b3⟩ := parts0 h1 h2 (z := (⟨0, 0, 0⟩ : P3)) (-x).toNat x 2000 (by omega) (by omega) (by omega) (by rw [ys_2000]; omega)
  obtain ⟨rfl, rfl, rfl⟩ := a1.one b1 (a2.trans b2.symm)
  have hy := a1.year
  rw [a2] at hy
  obtain ⟨y1, y2⟩ := yr_b h1 h2 hy.1 hy.2
  refine ⟨y, m, d, a1, a2, y1, y2, a3, ?_⟩
  unfold cashbookref04_Parts.f
  rw [wrap_id (x := x) (by omega) (by omega)]
  exact b3
theorem Day.b {x y m d : Int} (h : Day x y m d) : 1 ≤ m ∧ m ≤ 12 ∧ 1 ≤ d ∧ d ≤ 31 := by
  have := h.v.m1
  have := h.v.m2
  have := h.v.d1
  have h2 := h.v.d2
  have h3 := ml_eq y m h.v.m1 h.v.m2
  have := lp_b y
  refine ⟨h.v.m1, h.v.m2, h.v.d1, ?_⟩
  split at h3
  · omega
  · split at h3 <;> omega
def plc (y m d : Int) : Int := 360 * y + 30 * m + min d 30
theorem place_ev {x y m d : Int} (h : Day x y m d) : Ev (fun k => daycount_place.f k x) (plc y m d) ∧ Ev (fun k => cashbookref05_place.f k x) (plc y m d) := by
  have hb := h.b
  have y1 := h.y1
  have y2 := h.y2
  have e : wrap64 (wrap64 (wrap64 (360 * y) + wrap64 (30 * m)) + min d 30) = plc y m d := by
    rw [wrap_id (x := 360 * y) (by omega) (by omega), wrap_id (x := 30 * m) (by omega) (by omega), wrap_id (x := 360 * y + 30 * m) (by omega) (by omega), wrap_id (by omega) (by omega)]
    rfl
  constructor
  · unfold daycount_place.f
    exact ev_call h.s (ev_eq e)
  · unfold cashbookref05_place.f
    exact ev_call h.p (ev_eq e)
def wrg (b f t : Int) : Int := if ¬ (0 ≤ b ∧ b < 4) then 1 else if ¬ ((-50000 ≤ f ∧ f ≤ 50000) ∧ (-50000 ≤ t ∧ t ≤ 50000)) then 11 else if t < f then 20 else 0
theorem BRight_eq (b : Int) : daycount_Right.f b = some (decide (0 ≤ b ∧ b < 4)) := by
  unfold daycount_Right.f
  by_cases h : 0 ≤ b
  · rw [if_pos h]; exact congrArg some (decide_eq_decide.2 ⟨fun q => ⟨h, q⟩, fun q => q.2⟩)
  · rw [if_neg h]; exact congrArg some (decide_eq_false (fun q => h q.1)).symm
theorem wrong_ev (b f t : Int) : Ev (fun k => daycount_wrong.f k b f t) (wrg b f t) := by
  have j1 : Ev (fun k => daycount_wrong.j0 k f t true) 11 := Ev.step (fun k => by simp only [daycount_wrong.j0]; rfl) (ev_pos (c := true = true) rfl ev_ret)
  unfold daycount_wrong.f wrg
  refine ev_pure (BRight_eq b) ?_
  by_cases hb : 0 ≤ b ∧ b < 4
  · rw [if_neg (fun q => q hb)]
    refine ev_pos (decide_eq_true hb) (ev_pure (DRight_eq f) ?_)
    by_cases hf : -50000 ≤ f ∧ f ≤ 50000
    · refine ev_pos (decide_eq_true hf) (ev_pure (DRight_eq t) ?_)
      by_cases ht : -50000 ≤ t ∧ t ≤ 50000
      · rw [if_neg (fun q => q ⟨hf, ht⟩), decide_eq_true ht]
        by_cases hl : t < f
        · rw [if_pos hl]
          exact Ev.step (fun k => by simp only [daycount_wrong.j0]; rfl) (ev_neg (by decide) (ev_pos hl ev_ret))
        · rw [if_neg hl]
          exact Ev.step (fun k => by simp only [daycount_wrong.j0]; rfl) (ev_neg (by decide) (ev_neg hl ev_ret))
      · rw [if_pos (fun q => ht q.2), decide_eq_false ht]
        exact j1
    · rw [if_pos (fun q => hf q.1)]
      exact ev_neg (by simpa using hf) j1
  · rw [if_pos hb]
    exact ev_neg (by simpa using hb) ev_ret
theorem RRight_eq (n : Int) : cashbookref04_Right.f n = some (decide (-50000 ≤ n ∧ n ≤ 50000)) := by
  unfold cashbookref04_Right.f
  by_cases h : -50000 ≤ n
  · rw [if_pos h]; exact congrArg some (decide_eq_decide.2 ⟨fun q => ⟨h, q⟩, fun q => q.2⟩)
  · rw [if_neg h]; exact congrArg some (decide_eq_false (fun q => h q.1)).symm
def nameOf (b : Int) : ByteArray := if b = 0 then ⟨#[97, 99, 116, 51, 54, 53]⟩ else if b = 1 then ⟨#[97, 99, 116, 51, 54, 48]⟩ else if b = 2 then ⟨#[116, 104, 105, 114, 116, 121]⟩ else if b = 3 then ⟨#[97, 99, 116, 97, 99, 116]⟩ else ByteArray.empty
theorem NameR_eq (b : Int) : cashbookref05_Name.f b = some (nameOf b) := by
  unfold cashbookref05_Name.f nameOf
  by_cases h0 : b = 0
  · rw [if_pos h0, if_pos h0]
  · rw [if_neg h0, if_neg h0]
    by_cases h1 : b = 1
    · rw [if_pos h1, if_pos h1]
    · rw [if_neg h1, if_neg h1]
      by_cases h2 : b = 2
      · rw [if_pos h2, if_pos h2]
      · rw [if_neg h2, if_neg h2]
        by_cases h3 : b = 3
        · rw [if_pos h3, if_pos h3]
        · rw [if_neg h3, if_neg h3]
theorem name_empty (b : Int) : ((nameOf b).toList == ByteArray.empty.toList) = true ↔ ¬ (0 ≤ b ∧ b < 4) := by
  by_cases h : 0 ≤ b ∧ b < 4
  · have : b = 0 ∨ b = 1 ∨ b = 2 ∨ b = 3 := by omega
    rcases this with rfl | rfl | rfl | rfl <;> decide +kernel
  · unfold nameOf
    rw [if_neg (by omega), if_neg (by omega), if_neg (by omega), if_neg (by omega)]
    exact ⟨fun _ => h, fun _ => by decide +kernel⟩
theorem wrongR_ev (b f t : Int) : Ev (fun k => cashbookref05_wrong.f k b f t) (wrg b f t) := by
  have j1 : Ev (fun k => cashbookref05_wrong.j0 k f t true) 11 := Ev.step (fun k => by simp only [cashbookref05_wrong.j0]; rfl) (ev_pos (c := true = true) rfl ev_ret)
  unfold cashbookref05_wrong.f wrg
  refine ev_pure (NameR_eq b) ?_
  by_cases hb : 0 ≤ b ∧ b < 4
  · rw [if_neg (fun q => q hb)]
    refine ev_neg (fun q => (name_empty b).1 q hb) (ev_pure (RRight_eq f) (ev_pure (RRight_eq t) ?_))
    by_cases hf : -50000 ≤ f ∧ f ≤ 50000
    · refine ev_pos (decide_eq_true hf) ?_
      by_cases ht : -50000 ≤ t ∧ t ≤ 50000
      · rw [if_neg (fun q => q ⟨hf, ht⟩), decide_eq_true ht]
        by_cases hl : t < f
        · rw [if_pos hl]
          exact Ev.step (fun k => by simp only [cashbookref05_wrong.j0]; rfl) (ev_neg (by decide) (ev_pos hl ev_ret))
        · rw [if_neg hl]
          exact Ev.step (fun k => by simp only [cashbookref05_wrong.j0]; rfl) (ev_neg (by decide) (ev_neg hl ev_ret))
      · rw [if_pos (fun q => ht q.2), decide_eq_false ht]
        exact j1
    · rw [if_pos (fun q => hf q.1)]
      exact ev_neg (by simpa using hf) j1
  · rw [if_pos hb]
    exact ev_pos ((name_empty b).2 hb) ev_ret
theorem Days_both {b f t : Int} (f1 : -2147483648 ≤ f) (f2 : f ≤ 2147483647) (t1 : -2147483648 ≤ t) (t2 : t ≤ 2147483647) : ∃ n, Ev (fun k => daycount_Days.f k b f t) (n, wrg b f t) ∧ Ev (fun k => cashbookref05_Days.f k b f t) (n, wrg b f t) ∧
    (wrg b f t ≠ 0 → n = 0) ∧ (wrg b f t = 0 → (b = 2 → ∀ y m d z p e, Day f y m d → Day t z p e → n = plc z p e - plc y m d) ∧ (b ≠ 2 → n = t - f)) := by
  have hw := wrong_ev b f t
  have hwr := wrongR_ev b f t
  by_cases h0 : wrg b f t = 0
  · by_cases hb : b = 2
    · have hr : (-50000 ≤ f ∧ f ≤ 50000) ∧ (-50000 ≤ t ∧ t ≤ 50000) := by
        unfold wrg at h0
        split at h0
        · cases h0
        · split at h0
          · cases h0
          · rename_i h; exact Classical.not_not.1 h
      obtain ⟨y, m, d, hf⟩ := day_of hr.1.1 hr.1.2
      obtain ⟨z, p, e, ht⟩ := day_of hr.2.1 hr.2.2
      obtain ⟨pf, qf⟩ := place_ev hf
      obtain ⟨pt, qt⟩ := place_ev ht
      have bf := hf.b
      have bt := ht.b
      have y1 := hf.y1
      have y2 := hf.y2
      have z1 := ht.y1
      have z2 := ht.y2
      have ew : wrap64 (plc z p e - plc y m d) = plc z p e - plc y m d := wrap_id (by unfold plc; omega) (by unfold plc; omega)
      refine ⟨plc z p e - plc y m d, ?_, ?_, fun q => absurd h0 q, fun _ => ⟨fun _ y' m' d' z' p' e' g1 g2 => ?_, fun q => absurd hb q⟩⟩
      · unfold daycount_Days.f
        refine ev_call hw (ev_pos h0 (ev_pos hb (ev_call pt (ev_call pf (ev_eq ?_)))))
        rw [ew, h0]
      · unfold cashbookref05_Days.f
        refine ev_call hwr (ev_pos h0 (ev_pos hb (ev_call qt (ev_call qf (ev_eq ?_)))))
        rw [ew, h0]
      · obtain ⟨rfl, rfl, rfl⟩ := hf.v.one g1.v (hf.e.trans g1.e.symm)
        obtain ⟨rfl, rfl, rfl⟩ := ht.v.one g2.v (ht.e.trans g2.e.symm)
        rfl
    · have ew : wrap64 (wrap64 t - wrap64 f) = t - f := by rw [wrap_id (x := t) (by omega) (by omega), wrap_id (x := f) (by omega) (by omega), wrap_id (by omega) (by omega)]
      refine ⟨t - f, ?_, ?_, fun q => absurd h0 q, fun _ => ⟨fun q => absurd q hb, fun _ => rfl⟩⟩
      · unfold daycount_Days.f
        refine ev_call hw (ev_pos h0 (ev_neg hb (ev_eq ?_)))
        rw [ew, h0]
      · unfold cashbookref05_Days.f
        refine ev_call hwr (ev_pos h0 (ev_neg hb (ev_eq ?_)))
        rw [ew, h0]
  · refine ⟨0, ?_, ?_, fun _ => rfl, fun q => absurd q h0⟩
    · unfold daycount_Days.f
      exact ev_call hw (ev_neg h0 ev_ret)
    · unfold cashbookref05_Days.f
      exact ev_call hwr (ev_neg h0 ev_ret)
end Go.Proofs.YtjhljcnjafbkfaaDoor.Pure
end
