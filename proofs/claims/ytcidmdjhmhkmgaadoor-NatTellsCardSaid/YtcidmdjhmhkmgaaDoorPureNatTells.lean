import Derived.Test.YtcidmdjhmhkmgaaDoorS21
import Derived.Test.YtcidmdjhmhkmgaaDoorS4
import Derived.Test.YtcidmdjhmhkmgaaDoorS3
import Derived.Test.YtcidmdjhmhkmgaaDoorS12
import Derived.Test.YtcidmdjhmhkmgaaDoorNatK
import Derived.Test.YtcidmdjhmhkmgaaDoorRefB
set_option linter.unusedVariables false
namespace Go.Proofs.YtcidmdjhmhkmgaaDoor.Pure
open Go.RowKit Go.Proofs.YtcidmdjhmhkmgaaDoorW.PrintWords Go.Proofs.YtcidmdjhmhkmgaaDoorW.PrintMore Go.Proofs.YtcidmdjhmhkmgaaDoor.S Go.Proofs.YtcidmdjhmhkmgaaDoor.L
theorem alive_ev : Ev (fun k => cashbooklaw01_alive.f k) true := ev_some cashbooklaw01_alive.mono ⟨_, cashbooklaw01_alive.now⟩
theorem short_eq (l : List Int) (n : Nat) : cashbooklaw01_short.f l (n : Int) = some (decide (l.length ≤ n)) := congrArg some (decide_eq_decide.2 (by omega))
theorem same32 {a b : List Int} (ha : C32 a) (hb : C32 b) (h : v32 a = v32 b) : a = b := cn_unique K0 ha hb h
/-! ### Fits -/
theorem fitS_eq {s x : Int} (s0 : 0 ≤ s) (s1 : s < 4294967296) (x0 : 0 ≤ x) (x1 : x < 4294967296) : fitS s x = s * 4294967296 + x := by
  unfold fitS
  rw [u64_id (n := s * 4294967296) (by omega) (by omega), u64_id (n := x) x0 (by omega), or32 (by omega) (by omega) (by omega) x0 x1]
theorem Fits_eq {a : List Int} (ha : D32 a) (hl : a.length ≤ 1000) : nat_Fits.f a = some (if rt a ∧ a.length ≤ 2 then (v32 a, true) else (0, false)) := by
  unfold nat_Fits.f
  rw [Right_eq (by omega), Option.bind_some]
  by_cases h : rt a
  · rw [if_pos (decide_eq_true h)]
    by_cases h2 : (a.length : Int) > 2
    · rw [if_pos h2, if_neg (fun h3 => by omega)]
    · rw [if_neg h2, if_pos ⟨h, by omega⟩]
      match a, ha, h2 with
      | [], _, _ => rfl
      | [x], ha, _ =>
        have g := ha x (by simp)
        show some (fitS 0 x, true) = some (v32 [x], true)
        rw [fitS_eq (by decide) (by decide) g.1 g.2]
        have e : v32 [x] = x := by show dv _ _ = x; simp [dv]
        rw [e]; simp
      | [x, y], ha, _ =>
        have g := ha x (by simp)
        have g2 := ha y (by simp)
        show some (fitS (fitS 0 y) x, true) = some (v32 [x, y], true)
        rw [fitS_eq (s := 0) (by decide) (by decide) g2.1 g2.2, fitS_eq (by omega) (by omega) g.1 g.2]
        have e : v32 [x, y] = x + 4294967296 * y := by show dv _ _ = _; simp [dv]
        rw [e]
        congr 2; omega
      | _ :: _ :: _ :: _, _, h2 => simp at h2; omega
  · rw [if_neg (by rw [decide_eq_false h]; decide), if_neg (fun h3 => h h3.1)]
theorem FitsR_loop {a : List Int} (ha : D32 a) (hl : a.length ≤ 2) : ∀ i, i ≤ a.length → ∀ u, u = v32 (a.drop i) → Ev (fun k => cashbookref01_Fits.l0 k a u ((i : Int) - 1)) (v32 a, true)
  | 0, _, u, hu => Ev.step (fun k => by simp only [cashbookref01_Fits.l0]; rfl) (ev_neg (by omega) (ev_eq (by rw [hu]; rfl)))
  | i + 1, hi, u, hu => by
    have e1 : ((i + 1 : Nat) : Int) - 1 = (i : Int) := by omega
    rw [e1]
    have g := ha.get K0 i
    have hd := ha.drop (i + 1)
    have hlt := dv_lt K0 hd
    rw [List.length_drop] at hlt
    have hp := pow_mono (B := 4294967296) (by decide) (show a.length - (i + 1) ≤ 1 by omega)
    rw [Int.pow_one] at hp
    have h0 := dv_nonneg K0 hd
    have hu' : u = dv 4294967296 (a.drop (i + 1)) := hu
    rw [← hu'] at hlt h0
    have ih := FitsR_loop ha hl i (by omega) (u * 4294967296 + a.getD i 0) (by
      show _ = dv _ _
      rw [dv_drop, hu']; omega)
    refine Ev.step (fun k => by simp only [cashbookref01_Fits.l0]; rfl) (ev_pos (by omega) (ev_pos (by omega) (ev_pos (by omega) ?_)))
    rw [rd_nat, u64_id (n := a.getD i 0) g.1 (by omega), u64_id (n := u * 4294967296) (by omega) (by omega), u64_id (by omega) (by omega), dec64 (by omega)]
    exact ih
theorem FitsR_ev {a : List Int} (ha : D32 a) (hl : a.length ≤ 1000) : Ev (fun k => cashbookref01_Fits.f k a) (if rt a ∧ a.length ≤ 2 then (v32 a, true) else (0, false)) := by
  have hT : Ev (fun k => cashbookref01_Fits.j0 k a true) (0, false) := Ev.step (fun k => by simp only [cashbookref01_Fits.j0]; rfl) (ev_pos (c := true = true) rfl ev_ret)
  unfold cashbookref01_Fits.f
  refine ev_pure (RightR_eq (by omega)) ?_
  by_cases h : rt a
  · refine ev_pos (decide_eq_true h) ?_
    by_cases h2 : (a.length : Int) > 2
    · rw [decide_eq_true h2, if_neg (fun h3 => by omega)]; exact hT
    · rw [decide_eq_false h2, if_pos ⟨h, by omega⟩]
      refine Ev.step (fun k => by simp only [cashbookref01_Fits.j0]; rfl) (ev_neg (by decide) ?_)
      rw [dec64 (by omega)]
      exact FitsR_loop ha (by omega) a.length (Nat.le_refl _) 0 (by rw [List.drop_length]; rfl)
  · rw [if_neg (fun h3 => h h3.1)]
    exact ev_neg (by rw [decide_eq_false h]; decide) hT
/-! ### Of -/
theorem OfR_ev {u : Int} (h0 : 0 ≤ u) (h1 : u < 18446744073709551616) : ∃ r, Ev (fun k => cashbookref01_Of.f k u) r ∧ C32 r ∧ v32 r = u := by
  have e1 : wrap64 (Int.tmod u 65536) = u % 65536 := by rw [tmod_pos h0, w64_id (by omega) (by omega)]
  have e2 : wrap64 (Int.tmod (IntKind.u64.wrap (Int.tdiv u 65536)) 65536) = u / 65536 % 65536 := by
    rw [tdiv_pos h0, u64_id (by omega) (by omega), tmod_pos (by omega), w64_id (by omega) (by omega)]
  have e3 : wrap64 (Int.tmod (IntKind.u64.wrap (Int.tdiv u 4294967296)) 65536) = u / 4294967296 % 65536 := by
    rw [tdiv_pos h0, u64_id (by omega) (by omega), tmod_pos (by omega), w64_id (by omega) (by omega)]
  have e4 : wrap64 (IntKind.u64.wrap (Int.tdiv u 281474976710656)) = u / 281474976710656 := by
    rw [tdiv_pos h0, u64_id (by omega) (by omega), w64_id (by omega) (by omega)]
  have hd : D16 [u % 65536, u / 65536 % 65536, u / 4294967296 % 65536, u / 281474976710656] :=
    Dg.cons (by omega) (Dg.cons (by omega) (Dg.cons (by omega) (Dg.cons (by omega) (Dg.nil _))))
  obtain ⟨t, t1, t2, t3, t4⟩ := trimR_ev hd (by simp)
  obtain ⟨r, r1, r2, r3, r4⟩ := nat_ev t2 (by simp at t4; omega)
  refine ⟨r, ?_, r2, ?_⟩
  · unfold cashbookref01_Of.f
    rw [e1, e2, e3, e4]
    exact ev_call t1 (ev_call r1 ev_ret)
  · rw [r3, t3]
    show dv _ _ = _
    simp only [dv]
    omega
/-! ### Bits -/
theorem two_unique {N : Int} {a b : Nat} (a0 : 2 ^ a ≤ N) (a1 : N < 2 ^ (a + 1)) (b0 : 2 ^ b ≤ N) (b1 : N < 2 ^ (b + 1)) : a = b := by
  rcases Nat.lt_trichotomy a b with h | h | h
  · have := pow_mono (B := 2) (by decide) (show a + 1 ≤ b by omega); omega
  · exact h
  · have := pow_mono (B := 2) (by decide) (show b + 1 ≤ a by omega); omega
theorem len32_eq {x : Int} (h0 : 0 ≤ x) (h1 : x < 4294967296) : bits_Len32.f x = some (Lib.bitLen x.toNat : Int) := by
  unfold bits_Len32.f
  rw [if_pos ⟨h0, by omega⟩]
/-- A number between its top figure's powers. -/
theorem top_between {B : Int} {e : Nat} (hB : B = 2 ^ e) (he : 0 < e) {l : List Int} (hd : Dg B l) (h0 : l ≠ []) {b : Nat} (t0 : 2 ^ b ≤ l.getD (l.length - 1) 0) (t1 : l.getD (l.length - 1) 0 < 2 ^ (b + 1)) :
    2 ^ (e * (l.length - 1) + b) ≤ dv B l ∧ dv B l < 2 ^ (e * (l.length - 1) + b + 1) := by
  have hB0 : 0 < B := by rw [hB]; exact pow_pos_ (by decide) _
  have hp : 0 < l.length := List.length_pos_iff.2 h0
  have hv := dv_parts B l (l.length - 1)
  rw [dv_drop, List.drop_eq_nil_of_le (by omega)] at hv
  have h5 : dv B [] = 0 := rfl
  rw [h5, Int.mul_zero, Int.add_zero] at hv
  have a0 := dv_nonneg hB0 (hd.take (l.length - 1))
  have a1 := dv_take_lt hB0 hd (l.length - 1)
  have hpow : (2 : Int) ^ (e * (l.length - 1)) = B ^ (l.length - 1) := by rw [hB, ← Int.pow_mul]
  have hW := pow_pos_ hB0 (l.length - 1)
  have g1 : B ^ (l.length - 1) * 2 ^ b ≤ B ^ (l.length - 1) * l.getD (l.length - 1) 0 := Int.mul_le_mul_of_nonneg_left t0 (by omega)
  have g2 : B ^ (l.length - 1) * (l.getD (l.length - 1) 0 + 1) ≤ B ^ (l.length - 1) * 2 ^ (b + 1) := Int.mul_le_mul_of_nonneg_left (by omega) (by omega)
  rw [Int.mul_add, Int.mul_one] at g2
  rw [Nat.add_assoc, Int.pow_add, Int.pow_add 2 (e * (l.length - 1)) (b + 1), hpow]
  omega
theorem Bits_eq {a : List Int} (ha : D32 a) (hl : a.length ≤ 1000) : ∃ b, nat_Bits.f a = some b ∧ ((¬ (rt a ∧ a ≠ []) ∧ b = 0) ∨ (rt a ∧ a ≠ [] ∧ ∃ n : Nat, b = (n : Int) + 1 ∧ 2 ^ n ≤ v32 a ∧ v32 a < 2 ^ (n + 1))) := by
  unfold nat_Bits.f
  rw [Right_eq (by omega), Option.bind_some]
  by_cases h : rt a
  · rw [if_pos (decide_eq_true h)]
    by_cases h0 : a = []
    · subst h0
      exact ⟨0, rfl, .inl ⟨fun h => h.2 rfl, rfl⟩⟩
    · have hp : 0 < a.length := List.length_pos_iff.2 h0
      have g := ha.get K0 (a.length - 1)
      have ht := h.2 h0
      obtain ⟨b1, b2, b3, b4⟩ := bitLen_b (x := (a.getD (a.length - 1) 0).toNat) (by omega) (by omega)
      obtain ⟨bl, hbl⟩ : ∃ bl, bl = Lib.bitLen (a.getD (a.length - 1) 0).toNat := ⟨_, rfl⟩
      rw [← hbl] at b1 b2 b3 b4
      have e3 : ((2 ^ (bl - 1) : Nat) : Int) = 2 ^ (bl - 1) := Int.natCast_pow _ _
      have e4 : ((2 ^ bl : Nat) : Int) = 2 ^ bl := Int.natCast_pow _ _
      have hb := top_between (e := 32) (b := bl - 1) (by rfl) (by decide) ha h0 (by omega) (by rw [show bl - 1 + 1 = bl by omega]; omega)
      rw [if_neg (by omega), last_wrap h0 (by omega), if_pos (by omega), if_pos (by omega), rd_nat, len32_eq g.1 g.2, Option.bind_some, ← hbl]
      refine ⟨_, rfl, .inr ⟨h, h0, 32 * (a.length - 1) + (bl - 1), ?_, hb⟩⟩
      rw [w64_id (x := 32 * ((a.length - 1 : Nat) : Int)) (by omega) (by omega), w64_id (by omega) (by omega)]
      omega
  · rw [if_neg (by rw [decide_eq_false h]; decide)]
    exact ⟨0, rfl, .inl ⟨fun h2 => h h2.1, rfl⟩⟩
theorem BitsR_loop : ∀ (n : Nat) (t m : Int), 0 ≤ t → t ≤ n → n ≤ 1000000 → 0 ≤ m → m + n ≤ 1000000000 → ∃ b, Ev (fun k => cashbookref01_Bits.l0 k m t) b ∧ ((t = 0 ∧ b = m) ∨ (0 < t ∧ ∃ j : Nat, b = m + j + 1 ∧ 2 ^ j ≤ t ∧ t < 2 ^ (j + 1))) := by
  intro n
  induction n with
  | zero =>
    intro t m h0 h1 _ _ _
    have : t = 0 := by omega
    subst this
    exact ⟨m, Ev.step (fun k => by simp only [cashbookref01_Bits.l0]; rfl) (ev_neg (by decide) ev_ret), .inl ⟨rfl, rfl⟩⟩
  | succ n ih =>
    intro t m h0 h1 hn hm hs
    by_cases ht : t = 0
    · subst ht
      exact ⟨m, Ev.step (fun k => by simp only [cashbookref01_Bits.l0]; rfl) (ev_neg (by decide) ev_ret), .inl ⟨rfl, rfl⟩⟩
    · obtain ⟨b, b1, b2⟩ := ih (t / 2) (m + 1) (by omega) (by omega) (by omega) (by omega) (by omega)
      refine ⟨b, Ev.step (fun k => by simp only [cashbookref01_Bits.l0]; rfl) (ev_pos (by omega) ?_), .inr ⟨by omega, ?_⟩⟩
      · rw [w64_id (x := m + 1) (by omega) (by omega), tdiv_pos h0, w64_id (x := t / 2) (by omega) (by omega)]
        exact b1
      · rcases b2 with ⟨h2, rfl⟩ | ⟨h2, j, rfl, h3, h4⟩
        · exact ⟨0, by omega, by rw [Int.pow_zero]; omega, by rw [Nat.zero_add, Int.pow_one]; omega⟩
        · exact ⟨j + 1, by omega, by rw [Int.pow_succ]; omega, by rw [Int.pow_succ]; omega⟩
theorem BitsR_ev {a : List Int} (ha : D32 a) (hl : a.length ≤ 1000) : ∃ b, Ev (fun k => cashbookref01_Bits.f k a) b ∧ ((¬ (rt a ∧ a ≠ []) ∧ b = 0) ∨ (rt a ∧ a ≠ [] ∧ ∃ n : Nat, b = (n : Int) + 1 ∧ 2 ^ n ≤ v32 a ∧ v32 a < 2 ^ (n + 1))) := by
  obtain ⟨x, x1, x2, x3, x4⟩ := figs_ev ha (by omega)
  have hT : Ev (fun k => cashbookref01_Bits.j0 k x true) 0 := Ev.step (fun k => by simp only [cashbookref01_Bits.j0]; rfl) (ev_pos (c := true = true) rfl ev_ret)
  unfold cashbookref01_Bits.f
  by_cases h : rt a
  · by_cases h0 : a = []
    · refine ⟨0, ev_pure (RightR_eq (by omega)) (ev_call x1 (ev_pos (decide_eq_true h) ?_)), .inl ⟨fun h => h.2 h0, rfl⟩⟩
      subst h0
      have hx : x = [] := List.eq_nil_of_length_eq_zero (by simpa using x4)
      subst hx
      exact hT
    · have ca := rt_cn h ha
      have hap := v_pos ca h0
      have hx0 : x ≠ [] := fun e => by
        subst e
        have e : v16 [] = 0 := rfl
        omega
      have hp : 0 < x.length := List.length_pos_iff.2 hx0
      have g := x2.dg.get G0 (x.length - 1)
      have ht := x2.top hx0
      have ew : wrap64 ((x.length : Int) - 1) = ((x.length - 1 : Nat) : Int) := last_wrap hx0 (by omega)
      obtain ⟨b, b1, b2⟩ := BitsR_loop 65536 (x.getD (x.length - 1) 0) (16 * ((x.length - 1 : Nat) : Int)) g.1 (by omega) (by decide) (by omega) (by omega)
      rcases b2 with ⟨h2, _⟩ | ⟨_, j, rfl, h3, h4⟩
      · exact absurd h2 ht
      · have hb := top_between (e := 16) (b := j) (by rfl) (by decide) x2.dg hx0 h3 h4
        refine ⟨16 * ((x.length - 1 : Nat) : Int) + j + 1, ev_pure (RightR_eq (by omega)) (ev_call x1 (ev_pos (decide_eq_true h) ?_)), .inr ⟨h, h0, 16 * (x.length - 1) + j, by omega, by rw [← x3]; exact hb⟩⟩
        rw [show ((x.length : Int) == 0) = false by rw [beq_eq_false_iff_ne]; omega]
        refine Ev.step (fun k => by simp only [cashbookref01_Bits.j0]; rfl) (ev_neg (by decide) ?_)
        rw [ew]
        refine ev_pos (by omega) (ev_pos (by omega) ?_)
        rw [rd_nat, w64_id (x := 16 * ((x.length - 1 : Nat) : Int)) (by omega) (by omega)]
        exact b1
  · refine ⟨0, ev_pure (RightR_eq (by omega)) (ev_call x1 (ev_neg (by rw [decide_eq_false h]; decide) hT)), .inl ⟨fun h2 => h h2.1, rfl⟩⟩
/-! ### Compare -/
theorem Compare_all {a b : List Int} (ha : D32 a) (hb : D32 b) (hla : a.length ≤ 1000) (hlb : b.length ≤ 1000) : Ev (fun k => nat_Compare.f k a b) (if rt a ∧ rt b then sgn (v32 a) (v32 b) else 0) := by
  unfold nat_Compare.f
  refine ev_pure (Right_eq (by omega)) ?_
  by_cases h1 : rt a
  · refine ev_pos (decide_eq_true h1) (ev_pure (Right_eq (by omega)) ?_)
    by_cases h2 : rt b
    · rw [if_pos ⟨h1, h2⟩]
      exact ev_pos (decide_eq_true h2) (ev_call (order_ev (rt_cn h1 ha) (rt_cn h2 hb) (by omega) (by omega)) ev_ret)
    · rw [if_neg (fun h => h2 h.2)]
      exact ev_neg (by rw [decide_eq_false h2]; decide) ev_ret
  · rw [if_neg (fun h => h1 h.1)]
    exact ev_neg (by rw [decide_eq_false h1]; decide) ev_ret
theorem CompareR_all {a b : List Int} (ha : D32 a) (hb : D32 b) (hla : a.length ≤ 1000) (hlb : b.length ≤ 1000) : Ev (fun k => cashbookref01_Compare.f k a b) (if rt a ∧ rt b then sgn (v32 a) (v32 b) else 0) := by
  have hT : Ev (fun k => cashbookref01_Compare.j0 k a b true) 0 := Ev.step (fun k => by simp only [cashbookref01_Compare.j0]; rfl) (ev_pos (c := true = true) rfl ev_ret)
  unfold cashbookref01_Compare.f
  refine ev_pure (RightR_eq (by omega)) (ev_pure (RightR_eq (by omega)) ?_)
  by_cases h1 : rt a
  · refine ev_pos (decide_eq_true h1) ?_
    by_cases h2 : rt b
    · rw [decide_eq_true h2, if_pos ⟨h1, h2⟩]
      obtain ⟨x, x1, x2, x3, x4⟩ := figs_ev ha (by omega)
      obtain ⟨y, y1, y2, y3, y4⟩ := figs_ev hb (by omega)
      have l1 := less_ev x2.dg y2.dg (by omega) (by omega)
      have l2 := less_ev y2.dg x2.dg (by omega) (by omega)
      rw [x3, y3] at l1 l2
      refine Ev.step (fun k => by simp only [cashbookref01_Compare.j0]; rfl) (ev_neg (by decide) (ev_call x1 (ev_call y1 (ev_call l1 ?_))))
      unfold sgn
      by_cases h3 : v32 a < v32 b
      · rw [if_pos h3]
        exact ev_pos (decide_eq_true h3) ev_ret
      · rw [if_neg h3]
        refine ev_neg (by rw [decide_eq_false h3]; decide) (ev_call l2 ?_)
        by_cases h4 : v32 a > v32 b
        · rw [if_pos h4]
          exact ev_pos (decide_eq_true h4) ev_ret
        · rw [if_neg h4]
          exact ev_neg (by rw [decide_eq_false h4]; decide) ev_ret
    · rw [decide_eq_false h2, if_neg (fun h => h2 h.2)]
      exact hT
  · rw [if_neg (fun h => h1 h.1)]
    exact ev_neg (by rw [decide_eq_false h1]; decide) hT
theorem NatTells : cashbooklaw01_NatTells.Pure := by
  intro a b u _ _ wa _ _ wb wu
  refine ev_rounds ?_
  have da := d32_of wa
  have db := d32_of wb
  have hu : 0 ≤ u ∧ u < 18446744073709551616 := by
    simp [Lit.wf, IntKind.min, IntKind.max, IntKind.signed, IntKind.bits] at wu
    omega
  have hA : Ev (fun k => cashbooklaw01_NatTells.j0 k a b u true) true :=
    Ev.step (fun k => by simp only [cashbooklaw01_NatTells.j0]; rfl) (ev_pos (c := true = true) rfl (ev_call alive_ev ev_ret))
  unfold cashbooklaw01_NatTells.f
  refine ev_pure (short_eq a 300) ?_
  by_cases h0 : a.length ≤ 300
  · refine ev_pos (decide_eq_true h0) (ev_pure (short_eq b 300) ?_)
    by_cases h1 : b.length ≤ 300
    · rw [decide_eq_true h1]
      obtain ⟨s, s1, s2, s3, s4⟩ := Of_ev hu.1 hu.2
      obtain ⟨t, t1, t2, t3⟩ := OfR_ev hu.1 hu.2
      have est : t = s := same32 t2 s2 (by rw [t3, s3])
      subst est
      obtain ⟨n, n1, n2⟩ := Bits_eq da (by omega)
      obtain ⟨m, m1, m2⟩ := BitsR_ev da (by omega)
      have enm : n = m := by
        rcases n2 with ⟨h, rfl⟩ | ⟨h, h', i, rfl, g1, g2⟩ <;> rcases m2 with ⟨k, rfl⟩ | ⟨k, k', j, rfl, g3, g4⟩
        · rfl
        · exact absurd ⟨k, k'⟩ h
        · exact absurd ⟨h, h'⟩ k
        · rw [two_unique g1 g2 g3 g4]
      subst enm
      have f1 := Fits_eq da (by omega)
      have f2 := FitsR_ev da (by omega)
      have c1 := Compare_all da db (by omega) (by omega)
      have c2 := CompareR_all da db (by omega) (by omega)
      refine Ev.step (fun k => by simp only [cashbooklaw01_NatTells.j0]; rfl) (ev_neg (by decide) ?_)
      refine ev_pure f1 (ev_call f2 (ev_call s1 (ev_call t1 (ev_call (Same_ev (a := t) (by omega)) (ev_call alive_ev ?_)))))
      refine ev_pos (c := true = true) rfl (ev_pos rfl (ev_pos (beq_self_eq_true _) (ev_pos (c := true = true) rfl ?_)))
      refine ev_pure (Right_eq (by omega)) (ev_pure (RightR_eq (by omega)) (ev_pos (beq_self_eq_true _) ?_))
      refine ev_pure n1 (ev_call m1 (ev_pos rfl (ev_call c1 (ev_call c2 (ev_eq (beq_self_eq_true _))))))
    · rw [decide_eq_false h1]
      exact hA
  · exact ev_neg (by rw [decide_eq_false h0]; decide) hA
end Go.Proofs.YtcidmdjhmhkmgaaDoor.Pure
