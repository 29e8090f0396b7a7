import Derived.Test.YtcidmdjhmhkmgaaDoorS1
import Derived.Test.YtcidmdjhmhkmgaaDoorNum
import Derived.Lib.VarintBits
import Derived.Lib.Zigzag
set_option linter.unusedVariables false
namespace Go.Proofs.YtcidmdjhmhkmgaaDoor.Pure
open Go.RowKit Go.Proofs.YtcidmdjhmhkmgaaDoorW.PrintWords Go.Proofs.YtcidmdjhmhkmgaaDoorW.PrintMore Go.Proofs.YtcidmdjhmhkmgaaDoor.S Go.Proofs.YtcidmdjhmhkmgaaDoor.L

theorem bounds_u32 {n : Int} (h : (Lit.int .u32 n).wf = true) : 0 ≤ n ∧ n < 4294967296 := by
  simp [Lit.wf, IntKind.min, IntKind.max, IntKind.signed, IntKind.bits] at h
  omega
theorem u64_id {n : Int} (h0 : 0 ≤ n) (h1 : n < 18446744073709551616) : IntKind.u64.wrap n = n := by rw [IntKind.wrap_u64]; omega
theorem u64_mod (n : Int) : IntKind.u64.wrap n = n % 18446744073709551616 := IntKind.wrap_u64 n
theorem and32 {x : Int} (h0 : 0 ≤ x) (h1 : x < 18446744073709551616) : Go.bits .and .u64 x 4294967295 = x % 4294967296 := bits_mask .u64 64 (by decide) wraps_u64 32 (by decide) x h0 h1
abbrev D32 (l : List Int) : Prop := Dg 4294967296 l
abbrev C32 (l : List Int) : Prop := Cn 4294967296 l
abbrev v32 (l : List Int) : Int := dv 4294967296 l
theorem d32_of {l : List Int} (h : ∀ x ∈ l, (Lit.int .u32 x).wf = true) : D32 l := fun x hx => bounds_u32 (h x hx)
theorem K0 : (0 : Int) < 4294967296 := by decide
theorem K1 : (1 : Int) < 4294967296 := by decide
def rt (l : List Int) : Prop := l.length ≤ 256 ∧ (l ≠ [] → l.getD (l.length - 1) 0 ≠ 0)
instance (l : List Int) : Decidable (rt l) := by unfold rt; infer_instance
theorem rt_cn {l : List Int} (h : rt l) (hd : D32 l) : C32 l := ⟨hd, h.2⟩
theorem cn_rt {l : List Int} (h : C32 l) : rt l ↔ l.length ≤ 256 := ⟨fun x => x.1, fun x => ⟨x, h.top⟩⟩
theorem cn_rt' {l : List Int} (h : C32 l) : rt l ↔ v32 l < 4294967296 ^ 256 := (cn_rt h).trans (cn_len_le K1 h)
theorem last_wrap {l : List Int} (h0 : l ≠ []) (hl : l.length ≤ 1000000000) : wrap64 ((l.length : Int) - 1) = ((l.length - 1 : Nat) : Int) := by
  have : 0 < l.length := List.length_pos_iff.2 h0
  unfold wrap64; omega
theorem Right_eq {l : List Int} (hl : l.length ≤ 1000000000) : nat_Right.f l = some (decide (rt l)) := by
  unfold nat_Right.f
  by_cases h1 : (l.length : Int) ≤ 256
  · rw [if_pos h1]
    by_cases h2 : (l.length : Int) = 0
    · have : l = [] := List.eq_nil_of_length_eq_zero (by omega)
      subst this
      rfl
    · have h0 : l ≠ [] := fun e => h2 (by rw [e]; rfl)
      have hp : 0 < l.length := List.length_pos_iff.2 h0
      rw [if_neg h2, last_wrap h0 hl, if_pos (by omega), if_pos (by omega), rd_nat]
      congr 1
      rw [Bool.eq_iff_iff]
      simp only [bne_iff_ne, decide_eq_true_eq]
      exact ⟨fun h => ⟨by omega, fun _ => h⟩, fun h => h.2 h0⟩
  · rw [if_neg h1]
    exact congrArg some (decide_eq_false (fun h => h1 (by have := h.1; omega))).symm
theorem fit_eq {l : List Int} (hl : l.length ≤ 1000000000) : nat_fit.f l = some (if rt l then (l, 0) else ([], 4)) := by
  unfold nat_fit.f
  rw [Right_eq hl, Option.bind_some]
  by_cases h : rt l
  · rw [if_pos (by simpa using h), if_pos h]
  · rw [if_neg (by simpa using h), if_neg h]
theorem take_last {l : List Int} (h0 : l ≠ []) : l = l.take (l.length - 1) ++ [l.getD (l.length - 1) 0] := by
  have hp : 0 < l.length := List.length_pos_iff.2 h0
  rw [← take_snoc (by omega) 0, show l.length - 1 + 1 = l.length by omega, List.take_length]
theorem trim_loop : ∀ (n : Nat) (l : List Int), l.length = n → n ≤ 1000000000 → D32 l → ∃ r, Ev (fun k => nat_trim.l0 k l) r ∧ C32 r ∧ v32 r = v32 l ∧ r.length ≤ l.length
  | 0, l, hn, _, hd => by
    have : l = [] := List.eq_nil_of_length_eq_zero hn
    subst this
    exact ⟨[], Ev.step (fun k => by simp only [nat_trim.l0]; rfl) (ev_neg (by decide) ev_ret), cn_nil _, rfl, Nat.le_refl _⟩
  | n + 1, l, hn, hb, hd => by
    have h0 : l ≠ [] := fun e => by rw [e] at hn; simp at hn
    have hw := last_wrap h0 (by omega)
    by_cases hz : l.getD (l.length - 1) 0 = 0
    · have hl : (l.take (l.length - 1)).length = n := by rw [List.length_take]; omega
      obtain ⟨r, h1, h2, h3, h4⟩ := trim_loop n (l.take (l.length - 1)) hl (by omega) (hd.take _)
      refine ⟨r, Ev.step (fun k => by simp only [nat_trim.l0]; rfl) ?_, h2, ?_, by omega⟩
      · rw [hw]
        refine ev_pos (by omega) (ev_pos (by omega) (ev_pos (by omega) ?_))
        rw [rd_nat, Int.toNat_natCast]
        exact ev_pos hz (ev_pos (by omega) h1)
      · rw [h3]
        have e := dv_append 4294967296 (l.take (l.length - 1)) [l.getD (l.length - 1) 0]
        rw [← take_last h0, hz] at e
        show dv _ _ = dv _ _
        rw [e]
        simp [dv]
    · refine ⟨l, Ev.step (fun k => by simp only [nat_trim.l0]; rfl) ?_, ⟨hd, fun _ => hz⟩, rfl, Nat.le_refl _⟩
      rw [hw]
      refine ev_pos (by omega) (ev_pos (by omega) (ev_pos (by omega) ?_))
      rw [rd_nat]
      exact ev_neg hz ev_ret
theorem trim_ev {l : List Int} (hl : l.length ≤ 1000000000) (hd : D32 l) : ∃ r, Ev (fun k => nat_trim.f k l) r ∧ C32 r ∧ v32 r = v32 l ∧ r.length ≤ l.length := trim_loop _ l rfl hl hd

theorem atv_eq {l : List Int} (hd : D32 l) (i : Nat) : atv l i = l.getD i 0 := by
  unfold atv
  have h := hd.get K0 i
  by_cases hi : (l.length : Int) ≤ (i : Int)
  · rw [if_pos hi, List.getD_eq_getElem?_getD, List.getElem?_eq_none (by omega)]; rfl
  · rw [if_neg hi, rd_nat]; exact u64_id h.1 (by omega)
theorem addSum_eq {a b : List Int} (ha : D32 a) (hb : D32 b) {c : Int} (h0 : 0 ≤ c) (h1 : c ≤ 1) (i : Nat) : addSum a b c i = a.getD i 0 + b.getD i 0 + c := by
  have h2 := ha.get K0 i
  have h3 := hb.get K0 i
  unfold addSum
  rw [atv_eq ha, atv_eq hb, u64_id (n := a.getD i 0 + b.getD i 0) (by omega) (by omega), u64_id (by omega) (by omega)]
  omega
theorem addC_le {a b : List Int} (ha : D32 a) (hb : D32 b) : ∀ i, 0 ≤ addC a b i ∧ addC a b i ≤ 1
  | 0 => by simp [addC]
  | i + 1 => by
    have ih := addC_le ha hb i
    have h2 := ha.get K0 i
    have h3 := hb.get K0 i
    simp only [addC]
    rw [addSum_eq ha hb ih.1 ih.2]
    omega
theorem add_ev {a b : List Int} (ha : D32 a) (hb : D32 b) (hla : a.length ≤ 1000) (hlb : b.length ≤ 1000) : ∃ r, Ev (fun k => nat_add.f k a b) r ∧ C32 r ∧ v32 r = v32 a + v32 b ∧ r.length ≤ max a.length b.length + 1 := by
  have hs : ∀ j, addSum a b (addC a b j) j = a.getD j 0 + b.getD j 0 + addC a b j := fun j => addSum_eq ha hb (addC_le ha hb j).1 (addC_le ha hb j).2 j
  have hV : ∀ j, addV a b j % 4294967296 = addSum a b (addC a b j) j % 4294967296 := fun j => by
    have h2 := ha.get K0 j
    have h3 := hb.get K0 j
    have h4 := addC_le ha hb j
    unfold addV
    rw [and32 (by rw [hs]; omega) (by rw [hs]; omega)]
    omega
  obtain ⟨m, hm⟩ : ∃ m, m = max a.length b.length + 1 := ⟨_, rfl⟩
  have hd : D32 ((List.range m).map fun j => addV a b j % 4294967296) := dg_map_range (fun j _ => by omega)
  obtain ⟨r, h1, h2, h3, h4⟩ := trim_ev (l := (List.range m).map fun j => addV a b j % 4294967296) (by simp; omega) hd
  refine ⟨r, ?_, h2, ?_, by simpa [hm] using h4⟩
  · unfold nat_add.f
    rw [← hm]
    exact ev_pos (by omega) h1
  · rw [h3]
    have hc := carries 4294967296 (fun j => a.getD j 0 + b.getD j 0) (fun j => addV a b j % 4294967296) (addC a b) m (fun j _ => by
      show addV a b j % 4294967296 + 4294967296 * (addSum a b (addC a b j) j / 4294967296) = _
      rw [hV, hs]
      omega)
    rw [ps_add, ps_all _ _ (by omega), ps_all _ _ (by omega), ← dv_map_range] at hc
    simp only [addC] at hc
    have hlt : dv 4294967296 a + dv 4294967296 b < 4294967296 ^ m := by
      have e1 := dv_lt K0 ha
      have e2 := dv_lt K0 hb
      have e3 := pow_mono (B := 4294967296) (by decide) (show a.length ≤ m - 1 by omega)
      have e4 := pow_mono (B := 4294967296) (by decide) (show b.length ≤ m - 1 by omega)
      have e6 := pow_pos_ K0 (m - 1)
      have e5 : (4294967296 : Int) ^ m = 4294967296 * 4294967296 ^ (m - 1) := by
        rw [show m = (m - 1) + 1 by omega, Int.pow_succ, Int.mul_comm]; rfl
      omega
    have hn := dv_nonneg K0 hd
    have hcm := addC_le ha hb m
    have : addC a b m = 0 := by
      rcases Int.lt_or_le 0 (addC a b m) with h | h
      · have e : addC a b m = 1 := by omega
        rw [e] at hc
        omega
      · omega
    rw [this] at hc
    show dv _ _ = dv _ _ + dv _ _
    omega
theorem Add_ev {a b : List Int} (ha : D32 a) (hb : D32 b) (hla : a.length ≤ 1000) (hlb : b.length ≤ 1000) : ∃ r e, Ev (fun k => nat_Add.f k a b) (r, e) ∧
    ((¬ (rt a ∧ rt b) ∧ r = [] ∧ e = 1) ∨ (rt a ∧ rt b ∧ ((v32 a + v32 b < 4294967296 ^ 256 ∧ C32 r ∧ v32 r = v32 a + v32 b ∧ e = 0) ∨ (4294967296 ^ 256 ≤ v32 a + v32 b ∧ r = [] ∧ e = 4)))) := by
  by_cases h1 : rt a
  · by_cases h2 : rt b
    · obtain ⟨s, hs, hc, hv, hl⟩ := add_ev ha hb hla hlb
      have hf := fit_eq (l := s) (by omega)
      have hE : ∀ p, nat_fit.f s = some p → Ev (fun k => nat_Add.f k a b) p := fun p hp => by
        unfold nat_Add.f
        refine ev_pure (Right_eq (by omega)) (ev_pos (by simpa using h1) (ev_pure (Right_eq (by omega)) ?_))
        exact Ev.step (fun k => by simp only [nat_Add.j0]; rfl) (ev_neg (by simpa using h2) (ev_call hs (ev_pure hp ev_ret)))
      by_cases h3 : rt s
      · rw [if_pos h3] at hf
        have := (cn_rt' hc).1 h3
        exact ⟨_, _, hE _ hf, .inr ⟨h1, h2, .inl ⟨by omega, hc, hv, rfl⟩⟩⟩
      · rw [if_neg h3] at hf
        have : ¬ v32 s < 4294967296 ^ 256 := fun h => h3 ((cn_rt' hc).2 h)
        exact ⟨_, _, hE _ hf, .inr ⟨h1, h2, .inr ⟨by omega, rfl, rfl⟩⟩⟩
    · refine ⟨[], 1, ?_, .inl ⟨fun h => h2 h.2, rfl, rfl⟩⟩
      unfold nat_Add.f
      refine ev_pure (Right_eq (by omega)) (ev_pos (by simpa using h1) (ev_pure (Right_eq (by omega)) ?_))
      exact Ev.step (fun k => by simp only [nat_Add.j0]; rfl) (ev_pos (by simpa using h2) ev_ret)
  · refine ⟨[], 1, ?_, .inl ⟨fun h => h1 h.1, rfl, rfl⟩⟩
    unfold nat_Add.f
    refine ev_pure (Right_eq (by omega)) (ev_neg (by simpa using h1) ?_)
    exact Ev.step (fun k => by simp only [nat_Add.j0]; rfl) (ev_pos (c := true = true) rfl ev_ret)

/-! ### order, sub -/
theorem cmpi_eq (a b : Int) : cmp_Compare_int.f a b = some (if a < b then -1 else if a > b then 1 else 0) := by
  unfold cmp_Compare_int.f cmp_isNaN_int.f
  have h1 : (a != a) = false := by simp
  have h2 : (b != b) = false := by simp
  simp only [Option.bind_some, h1, h2]
  by_cases h : a < b
  · simp [h]
  · by_cases h' : a > b <;> simp [h, h']
theorem cmpu_eq (a b : Int) : cmp_Compare_uint32.f a b = some (if a < b then -1 else if a > b then 1 else 0) := by
  unfold cmp_Compare_uint32.f cmp_isNaN_uint32.f
  have h1 : (a != a) = false := by simp
  have h2 : (b != b) = false := by simp
  simp only [Option.bind_some, h1, h2]
  by_cases h : a < b
  · simp [h]
  · by_cases h' : a > b <;> simp [h, h']
def sgn (a b : Int) : Int := if a < b then -1 else if a > b then 1 else 0
theorem sgn_lt {a b : Int} (h : a < b) : sgn a b = -1 := by simp [sgn, h]
theorem sgn_gt {a b : Int} (h : b < a) : sgn a b = 1 := by unfold sgn; rw [if_neg (by omega), if_pos (by omega)]
theorem sgn_eq (a : Int) : sgn a a = 0 := by simp [sgn]
theorem dec64 {i : Nat} (h : i ≤ 1000000000) : wrap64 ((i : Int) - 1) = (i : Int) - 1 := by unfold wrap64; omega
theorem order_loop {a b : List Int} (ha : D32 a) (hb : D32 b) (hl : a.length = b.length) (hm : a.length ≤ 1000000000) : ∀ i, i ≤ a.length → a.drop i = b.drop i → Ev (fun k => nat_order.l0 k a b ((i : Int) - 1)) (sgn (v32 a) (v32 b))
  | 0, _, he => by
    have : a = b := he
    subst this
    rw [sgn_eq]
    exact Ev.step (fun k => by simp only [nat_order.l0]; rfl) (ev_neg (by omega) ev_ret)
  | i + 1, hi, he => by
    have e1 : ((i + 1 : Nat) : Int) - 1 = (i : Int) := by omega
    rw [e1]
    refine Ev.step (fun k => by simp only [nat_order.l0]; rfl) ?_
    refine ev_pos (by omega) (ev_pos (by omega) (ev_pos (by omega) (ev_pos (by omega) ?_)))
    rw [rd_nat, rd_nat]
    refine ev_pure (cmpu_eq _ _) ?_
    have hdv : dv 4294967296 (a.drop (i + 1)) = dv 4294967296 (b.drop (i + 1)) := by rw [he]
    by_cases h1 : a.getD i 0 < b.getD i 0
    · rw [if_pos h1]
      rw [sgn_lt (dv_lt_of K0 ha hb i (by omega) (by omega) hdv h1)]
      exact ev_neg (by decide) ev_ret
    · rw [if_neg h1]
      by_cases h2 : a.getD i 0 > b.getD i 0
      · rw [if_pos h2]
        rw [sgn_gt (dv_lt_of K0 hb ha i (by omega) (by omega) hdv.symm h2)]
        exact ev_neg (by decide) ev_ret
      · rw [if_neg h2]
        refine ev_pos rfl ?_
        rw [dec64 (by omega)]
        refine order_loop ha hb hl hm i (by omega) ?_
        rw [drop_cons (show i < a.length by omega) 0, drop_cons (show i < b.length by omega) 0, he, show a.getD i 0 = b.getD i 0 by omega]
theorem order_ev {a b : List Int} (ha : C32 a) (hb : C32 b) (hla : a.length ≤ 1000000) (hlb : b.length ≤ 1000000) : Ev (fun k => nat_order.f k a b) (sgn (v32 a) (v32 b)) := by
  unfold nat_order.f
  refine ev_pure (cmpi_eq _ _) ?_
  rcases Nat.lt_trichotomy a.length b.length with h | h | h
  · rw [if_pos (by omega), sgn_lt (cn_len_lt K0 ha.dg hb h)]
    exact ev_neg (by decide) ev_ret
  · rw [if_neg (by omega), if_neg (by omega)]
    refine ev_pos rfl ?_
    rw [dec64 (by omega)]
    exact order_loop ha.dg hb.dg h (by omega) a.length (Nat.le_refl _) (by rw [List.drop_length, h, List.drop_length])
  · rw [if_neg (by omega), if_pos (by omega), sgn_gt (cn_len_lt K0 hb.dg ha h)]
    exact ev_neg (by decide) ev_ret

def sb (n : Int) : Int := if n < 0 then 1 else 0
theorem subN_eq {a b : List Int} (ha : D32 a) (hb : D32 b) {c : Int} (h0 : 0 ≤ c) (h1 : c ≤ 1) (i : Nat) : subN a b c i = (a.getD i 0 - b.getD i 0 - c) % 18446744073709551616 := by
  have h2 := ha.get K0 i
  have h3 := hb.get K0 i
  unfold subN
  rw [atv_eq ha, atv_eq hb, u64_mod, u64_mod]
  omega
theorem subB_step {a b : List Int} (ha : D32 a) (hb : D32 b) {c : Int} (h0 : 0 ≤ c) (h1 : c ≤ 1) (i : Nat) : Go.bits .and .u64 (subN a b c i / 8589934592) 1 = sb (a.getD i 0 - b.getD i 0 - c) := by
  have h2 := ha.get K0 i
  have h3 := hb.get K0 i
  rw [subN_eq ha hb h0 h1, Go.Lib.u64_and1 _ (by omega) (by omega)]
  unfold sb
  split <;> omega
theorem subB_le {a b : List Int} (ha : D32 a) (hb : D32 b) : ∀ i, 0 ≤ subB a b i ∧ subB a b i ≤ 1
  | 0 => by simp [subB]
  | i + 1 => by
    have ih := subB_le ha hb i
    simp only [subB]
    rw [subB_step ha hb ih.1 ih.2]
    unfold sb
    split <;> omega
theorem sub_ev {a b : List Int} (ha : C32 a) (hb : C32 b) (hla : a.length ≤ 1000) (hle : v32 b ≤ v32 a) : ∃ r, Ev (fun k => nat_sub.f k a b) r ∧ C32 r ∧ v32 r = v32 a - v32 b ∧ r.length ≤ a.length := by
  have hlb : b.length ≤ a.length := Nat.le_of_not_lt fun h => by have := cn_len_lt K0 ha.dg hb h; show False; have h2 : dv 4294967296 b ≤ dv 4294967296 a := hle; omega
  have hN := fun j => subN_eq ha.dg hb.dg (subB_le ha.dg hb.dg j).1 (subB_le ha.dg hb.dg j).2 j
  have hV : ∀ j, subV a b j % 4294967296 = (a.getD j 0 - b.getD j 0 - subB a b j) % 4294967296 := fun j => by
    unfold subV
    rw [and32 (by rw [hN]; omega) (by rw [hN]; omega), hN]
    omega
  have hd : D32 ((List.range a.length).map fun j => subV a b j % 4294967296) := dg_map_range (fun j _ => by omega)
  obtain ⟨r, h1, h2, h3, h4⟩ := trim_ev (l := (List.range a.length).map fun j => subV a b j % 4294967296) (by simp; omega) hd
  refine ⟨r, ?_, h2, ?_, by simpa using h4⟩
  · unfold nat_sub.f
    exact ev_pos (by omega) h1
  · rw [h3]
    have hc := carries 4294967296 (fun j => a.getD j 0 - b.getD j 0) (fun j => subV a b j % 4294967296) (fun j => - subB a b j) a.length (fun j _ => by
      show subV a b j % 4294967296 + 4294967296 * (- Go.bits .and .u64 (subN a b (subB a b j) j / 8589934592) 1) = _
      have g1 := ha.dg.get K0 j
      have g2 := hb.dg.get K0 j
      have g3 := subB_le ha.dg hb.dg j
      rw [hV, subB_step ha.dg hb.dg g3.1 g3.2]
      unfold sb
      split <;> omega)
    rw [ps_sub, ps_all _ _ (Nat.le_refl _), ps_all _ _ hlb, ← dv_map_range] at hc
    simp only [subB] at hc
    have hlt := dv_lt K0 hd
    rw [List.length_map, List.length_range] at hlt
    have hcm := subB_le ha.dg hb.dg a.length
    have h2 : dv 4294967296 b ≤ dv 4294967296 a := hle
    have : subB a b a.length = 0 := by
      rcases Int.lt_or_le 0 (subB a b a.length) with h | h
      · have e : subB a b a.length = 1 := by omega
        rw [e] at hc
        omega
      · omega
    rw [this] at hc
    show dv _ _ = dv _ _ - dv _ _
    omega
theorem Sub_ev {a b : List Int} (ha : D32 a) (hb : D32 b) (hla : a.length ≤ 1000) (hlb : b.length ≤ 1000) : ∃ r e, Ev (fun k => nat_Sub.f k a b) (r, e) ∧
    ((¬ (rt a ∧ rt b) ∧ r = [] ∧ e = 1) ∨ (rt a ∧ rt b ∧ ((v32 a < v32 b ∧ r = [] ∧ e = 2) ∨ (v32 b ≤ v32 a ∧ C32 r ∧ rt r ∧ v32 r = v32 a - v32 b ∧ e = 0)))) := by
  by_cases h1 : rt a
  · by_cases h2 : rt b
    · have ca := rt_cn h1 ha
      have cb := rt_cn h2 hb
      have ho := order_ev ca cb (by omega) (by omega)
      have hE : ∀ p, Ev (fun k => (nat_order.f k a b).bind fun t128 => (if t128 < 0 then (some (([] : List Int), (2 : Int))) else ((nat_sub.f k a b).bind fun t129 => (some (t129, 0))))) p → Ev (fun k => nat_Sub.f k a b) p := fun p hp => by
        unfold nat_Sub.f
        refine ev_pure (Right_eq (by omega)) (ev_pos (by simpa using h1) (ev_pure (Right_eq (by omega)) ?_))
        exact Ev.step (fun k => by simp only [nat_Sub.j0]; rfl) (ev_neg (by simpa using h2) hp)
      by_cases h3 : v32 a < v32 b
      · rw [sgn_lt h3] at ho
        exact ⟨[], 2, hE _ (ev_call ho (ev_pos (by decide) ev_ret)), .inr ⟨h1, h2, .inl ⟨h3, rfl, rfl⟩⟩⟩
      · obtain ⟨r, hr, hc, hv, hl⟩ := sub_ev ca cb hla (by omega)
        refine ⟨r, 0, hE _ (ev_call ho (ev_neg ?_ (ev_call hr ev_ret))), .inr ⟨h1, h2, .inr ⟨by omega, hc, ⟨by have := h1.1; omega, hc.top⟩, hv, rfl⟩⟩⟩
        unfold sgn
        rw [if_neg h3]
        split <;> omega
    · refine ⟨[], 1, ?_, .inl ⟨fun h => h2 h.2, rfl, rfl⟩⟩
      unfold nat_Sub.f
      refine ev_pure (Right_eq (by omega)) (ev_pos (by simpa using h1) (ev_pure (Right_eq (by omega)) ?_))
      exact Ev.step (fun k => by simp only [nat_Sub.j0]; rfl) (ev_pos (by simpa using h2) ev_ret)
  · refine ⟨[], 1, ?_, .inl ⟨fun h => h1 h.1, rfl, rfl⟩⟩
    unfold nat_Sub.f
    refine ev_pure (Right_eq (by omega)) (ev_neg (by simpa using h1) ?_)
    exact Ev.step (fun k => by simp only [nat_Sub.j0]; rfl) (ev_pos (c := true = true) rfl ev_ret)
end Go.Proofs.YtcidmdjhmhkmgaaDoor.Pure
